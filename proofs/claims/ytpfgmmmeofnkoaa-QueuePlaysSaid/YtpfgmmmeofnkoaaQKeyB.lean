/- The contracts of queue.Read and of the reference's Read; the walk of QueueKeys. -/
import Derived.Test.YtpfgmmmeofnkoaaQKeyA
namespace Go.Proofs.Ytpfgmmmeofnkoaa
open Go.RowKit

/-- The number of a key: its office stands at 1 to 4. -/
def keyOk (s : ByteArray) : Bool := decide (s.size = 6) && ((s.data.toList.getD 0 0).toNat == 81) && lettersS (s.extract 1 4).data.toList 3 3 && bD (s.data.toList.getD 4 0) && bD (s.data.toList.getD 5 0)
def keyN (s : ByteArray) : Int := (((s.data.toList.getD 4 0).toNat : Nat) - 48 : Int) * 10 + (((s.data.toList.getD 5 0).toNat : Nat) - 48 : Int)
def rS (s : ByteArray) : ByteArray := if keyOk s then s.extract 1 4 else ⟨#[]⟩
def rN (s : ByteArray) : Int := if keyOk s then keyN s else 0
theorem rS_no {s : ByteArray} (h : keyOk s = false) : rS s = ⟨#[]⟩ ∧ rN s = 0 := by unfold rS rN; rw [h]; exact ⟨rfl, rfl⟩
theorem rS_yes {s : ByteArray} (h : keyOk s = true) : rS s = s.extract 1 4 ∧ rN s = keyN s := by unfold rS rN; rw [h]; exact ⟨rfl, rfl⟩

theorem keyOk_len {s : ByteArray} (h : s.size ≠ 6) : keyOk s = false := by unfold keyOk; rw [decide_eq_false h]; rfl
theorem keyOk_q {s : ByteArray} (h : (s.data.toList.getD 0 0).toNat ≠ 81) : keyOk s = false := by unfold keyOk; rw [beq_eq_false_iff_ne.2 h]; simp
theorem keyOk_c {s : ByteArray} (h : lettersS (s.extract 1 4).data.toList 3 3 = false) : keyOk s = false := by unfold keyOk; rw [h]; simp
theorem keyOk_4 {s : ByteArray} (h : bD (s.data.toList.getD 4 0) = false) : keyOk s = false := by unfold keyOk; rw [h]; simp
theorem keyOk_5 {s : ByteArray} (h : bD (s.data.toList.getD 5 0) = false) : keyOk s = false := by unfold keyOk; rw [h]; simp
theorem keyOk_yes {s : ByteArray} (h1 : s.size = 6) (h2 : (s.data.toList.getD 0 0).toNat = 81) (h3 : lettersS (s.extract 1 4).data.toList 3 3 = true) (h4 : bD (s.data.toList.getD 4 0) = true) (h5 : bD (s.data.toList.getD 5 0) = true) : keyOk s = true := by
  unfold keyOk; rw [decide_eq_true h1, h2, h3, h4, h5]; rfl

set_option maxHeartbeats 2000000 in
theorem qread_any (s : ByteArray) (w : World) :
    Calls Try.prog 14 #[.string s] w fun e w' => e = .returned (.tuple #[.string (rS s), .int .i64 (rN s), .bool (keyOk s)]) ∧ Below w.heap.size w w' := by
  by_cases h6 : s.size = 6
  · have g6 : ((s.size : Int) != 6) = false := by rw [h6]; rfl
    have b0 : 0 < s.size := by omega
    have b4 : 4 < s.size := by omega
    have b5 : 5 < s.size := by omega
    have i0 := get_list s 0 b0
    have i4 := get_list s 4 b4
    have i5 := get_list s 5 b5
    have hcz : (s.extract 1 4).size ≤ maxLen := by simp [maxLen]; omega
    have hc := fun W => city_any (s.extract 1 4) W hcz
    have k0 := @keyOk_q s
    have kc := @keyOk_c s
    have k4 := @keyOk_4 s
    have k5 := @keyOk_5 s
    have ky := @keyOk_yes s h6
    have hkn : keyN s = (((s.data.toList.getD 4 0).toNat : Nat) - 48 : Int) * 10 + (((s.data.toList.getD 5 0).toNat : Nat) - 48 : Int) := rfl
    generalize s.data.toList.getD 0 0 = c0 at *
    generalize s.data.toList.getD 4 0 = c4 at *
    generalize s.data.toList.getD 5 0 = c5 at *
    have d0 := byte_hi c4
    have d1 := byte_hi c5
    have d2 : (0 : Int) ≤ (c4.toNat : Int) := by omega
    have d3 : (0 : Int) ≤ (c5.toNat : Int) := by omega
    have a4 : (4 : Int) ≤ (s.size : Int) := by omega
    have a5 : (5 : Int) < (s.size : Int) := by omega
    have a6 : (4 : Int) < (s.size : Int) := by omega
    have a7 : (0 : Int) < (s.size : Int) := by omega
    have a8 : 4 ≤ s.size := by omega
    have HC := Lib.hid hc
    have K0 := Lib.hid k0
    have KC := Lib.hid kc
    have K4 := Lib.hid k4
    have K5 := Lib.hid k5
    have KY := Lib.hid ky
    have HKN := Lib.hid hkn
    clear hc k0 kc k4 k5 ky hkn h6 hcz
    by_cases t0 : c0.toNat = 81
    · have g0 : ((c0.toNat : Int) != 81) = false := by rw [t0]; rfl
      cases tc : lettersS (s.extract 1 4).data.toList 3 3
      · obtain ⟨e1, e2⟩ := rS_no (KC.out tc)
        rw [KC.out tc, e1, e2]
        have HC2 := HC.out
        rw [tc] at HC2
        have HC3 := Lib.hid HC2
        clear HC2 e1 e2 tc t0
        go_enter Try.func14, Try.ntmps14
        go_wp2_with (go_at_call 22; refine (HC3.out _).mono ?_; rintro e w1 ⟨rfl, hb⟩)
        go_ret3
        exact ⟨rfl, hb⟩
      · have HC2 := HC.out
        rw [tc] at HC2
        have HC3 := Lib.hid HC2
        clear HC2
        by_cases t4 : 48 ≤ (c4.toNat : Int) ∧ (c4.toNat : Int) ≤ 57
        · obtain ⟨t4a, t4b⟩ := t4
          by_cases t5 : 48 ≤ (c5.toNat : Int) ∧ (c5.toNat : Int) ≤ 57
          · obtain ⟨t5a, t5b⟩ := t5
            have hy := KY.out t0 tc (by unfold bD isD; exact decide_eq_true ⟨t4a, t4b⟩) (by unfold bD isD; exact decide_eq_true ⟨t5a, t5b⟩)
            obtain ⟨e1, e2⟩ := rS_yes hy
            rw [hy, e1, e2, HKN.out]
            clear hy e1 e2 tc t0
            go_enter Try.func14, Try.ntmps14
            go_wp2_with (go_at_call 22; refine (HC3.out _).mono ?_; rintro e w1 ⟨rfl, hb⟩)
            have q1 : IntKind.i64.wrap (((c4.toNat : Int) - 48) * 10) = ((c4.toNat : Int) - 48) * 10 := IntWalk.i64_in _ (by omega)
            have q2 : IntKind.i64.wrap (((c4.toNat : Int) - 48) * 10 + ((c5.toNat : Int) - 48)) = ((c4.toNat : Int) - 48) * 10 + ((c5.toNat : Int) - 48) := IntWalk.i64_in _ (by omega)
            go_quiet (fail)
            clear q1 q2
            go_wp2
            go_ret3
            exact ⟨rfl, below_drewN hb _⟩
          · have hn := K5.out (by unfold bD isD; exact decide_eq_false t5)
            obtain ⟨e1, e2⟩ := rS_no hn
            rw [hn, e1, e2]
            have g5 : 9 < ((c5.toNat : Int) - 48) % 256 := by omega
            clear hn e1 e2 tc t0
            go_enter Try.func14, Try.ntmps14
            go_wp2_with (go_at_call 22; refine (HC3.out _).mono ?_; rintro e w1 ⟨rfl, hb⟩)
            go_ret3
            exact ⟨rfl, hb⟩
        · have hn := K4.out (by unfold bD isD; exact decide_eq_false t4)
          obtain ⟨e1, e2⟩ := rS_no hn
          rw [hn, e1, e2]
          have g4 : 9 < ((c4.toNat : Int) - 48) % 256 := by omega
          clear hn e1 e2 tc t0
          go_enter Try.func14, Try.ntmps14
          go_wp2_with (go_at_call 22; refine (HC3.out _).mono ?_; rintro e w1 ⟨rfl, hb⟩)
          go_ret3
          exact ⟨rfl, hb⟩
    · have hn := K0.out t0
      obtain ⟨e1, e2⟩ := rS_no hn
      rw [hn, e1, e2]
      have g0 : ((c0.toNat : Int) != 81) = true := by rw [bne_iff_ne]; omega
      clear hn e1 e2 t0
      go_enter Try.func14, Try.ntmps14
      go_wp2
      go_ret3
      exact ⟨rfl, Below.refl _ _⟩
  · have hn := keyOk_len h6
    obtain ⟨e1, e2⟩ := rS_no hn
    rw [hn, e1, e2]
    have g6 : ((s.size : Int) != 6) = true := by rw [bne_iff_ne]; omega
    clear hn e1 e2 h6
    go_enter Try.func14, Try.ntmps14
    go_wp2
    go_ret3
    exact ⟨rfl, Below.refl _ _⟩

theorem two_of {a b : UInt8} (ha : bD a = true) (hb : bD b = true) : ∃ n : Nat, n < 100 ∧ (n : Int) = ((a.toNat : Nat) - 48 : Int) * 10 + ((b.toNat : Nat) - 48 : Int) ∧ two n = [a, b] := by
  unfold bD isD at ha hb
  rw [decide_eq_true_eq] at ha hb
  refine ⟨(a.toNat - 48) * 10 + (b.toNat - 48), by omega, by omega, ?_⟩
  unfold two
  rw [show 48 + ((a.toNat - 48) * 10 + (b.toNat - 48)) / 10 = a.toNat by omega, show 48 + ((a.toNat - 48) * 10 + (b.toNat - 48)) % 10 = b.toNat by omega, UInt8.ofNat_toNat, UInt8.ofNat_toNat]
theorem two_digits (n : Nat) (h : n < 100) : bD ((two n).getD 0 0) = true ∧ bD ((two n).getD 1 0) = true ∧ ((((two n).getD 0 0).toNat : Nat) - 48 : Int) * 10 + ((((two n).getD 1 0).toNat : Nat) - 48 : Int) = n := by
  have e1 : (((two n).getD 0 0).toNat : Int) = ((48 + n / 10 : Nat) : Int) := ofNat_int _ (by omega)
  have e2 : (((two n).getD 1 0).toNat : Int) = ((48 + n % 10 : Nat) : Int) := ofNat_int _ (by omega)
  unfold bD isD
  rw [e1, e2]
  exact ⟨decide_eq_true (by omega), decide_eq_true (by omega), by omega⟩

/-- A key is that of its office and its number, and of no other. -/
theorem key_eq {s : ByteArray} {n : Nat} (hn : n < 100) (h6 : s.size = 6) (hl : lettersS (s.extract 1 4).data.toList 3 3 = true) : keyA (s.extract 1 4) n = s ↔ (keyOk s = true ∧ keyN s = n) := by
  have hex : (s.extract 1 4).data.toList = (s.data.toList.drop 1).take 3 := by simp
  have hlen : s.data.toList.length = 6 := by simpa using h6
  match hL : s.data.toList, hlen with
  | [a, b, c, d, e, f], _ =>
    rw [hL] at hex
    have hex2 : (s.extract 1 4).data.toList = [b, c, d] := hex
    constructor
    · intro h
      have h2 := congrArg (fun x => x.data.toList) h
      simp only [keyA_list, hex2, hL] at h2
      obtain ⟨t1, t2, t3⟩ := two_digits n hn
      have h3 : (two n) = [e, f] ∧ (81 : UInt8) = a := by
        simp at h2
        exact ⟨h2.2, h2.1⟩
      rw [h3.1] at t1 t2 t3
      refine ⟨keyOk_yes h6 ?_ hl ?_ ?_, ?_⟩
      · rw [hL, ← h3.2]; rfl
      · rw [hL]; exact t1
      · rw [hL]; exact t2
      · unfold keyN; rw [hL]; exact t3
    · intro ⟨h1, h2⟩
      unfold keyOk at h1
      simp only [Bool.and_eq_true, beq_iff_eq] at h1
      obtain ⟨⟨⟨⟨_, h81⟩, _⟩, h4⟩, h5⟩ := h1
      rw [hL] at h81 h4 h5
      obtain ⟨m, hm, hmv, hmt⟩ := two_of (a := e) (b := f) h4 h5
      unfold keyN at h2
      rw [hL] at h2
      have hmn : m = n := by
        have h2' : ((e.toNat : Nat) - 48 : Int) * 10 + ((f.toNat : Nat) - 48 : Int) = n := h2
        omega
      subst hmn
      apply bytes_inj
      rw [keyA_list, hex2, hmt, hL]
      have : a = 81 := UInt8.toNat_inj.1 h81
      rw [this]; rfl
end Go.Proofs.Ytpfgmmmeofnkoaa
