/- The contract of the reference's Read. -/
import Derived.Test.YtpfgmmmeofnkoaaQKeyB
namespace Go.Proofs.Ytpfgmmmeofnkoaa
open Go.RowKit

theorem keyOk_num {s : ByteArray} (h : keyOk s = true) : ∃ n : Nat, n < 100 ∧ keyN s = n := by
  unfold keyOk at h
  simp only [Bool.and_eq_true] at h
  obtain ⟨n, h1, h2, _⟩ := two_of h.1.2 h.2
  exact ⟨n, h1, h2.symm⟩

set_option maxHeartbeats 2000000 in
theorem rread_any (s : ByteArray) (w : World) :
    Calls Try.prog 15 #[.string s] w fun e w' => e = .returned (.tuple #[.string (rS s), .int .i64 (rN s), .bool (keyOk s)]) ∧ Below w.heap.size w w' := by
  by_cases h6 : s.size = 6
  · have g6 : ((s.size : Int) == 6) = true := by rw [h6]; rfl
    have a4 : (4 : Int) ≤ (s.size : Int) := by omega
    have a8 : 4 ≤ s.size := by omega
    have hkz : (s.extract 1 4).size ≤ maxLen := by simp [maxLen]; omega
    have H6 := Lib.hid h6
    clear h6
    cases hc : lettersS (s.extract 1 4).data.toList 3 3
    · have hn := keyOk_c hc
      obtain ⟨e1, e2⟩ := rS_no hn
      rw [hn, e1, e2]
      have hk : ∀ (W : World) (n : Int), Calls Try.prog 13 #[.string (s.extract 1 4), .int .i64 n] W fun e w' => e = .returned (.tuple #[.string ⟨#[]⟩, .int .i64 4]) ∧ Below W.heap.size W w' := fun W n => by
        have h := rkey_any (s.extract 1 4) n W hkz
        rw [(kS_form n hc).1, (kS_form n hc).2] at h
        exact h
      have HK := Lib.hid hk
      clear hk hn e1 e2 hc hkz
      go_enter Try.func15, Try.ntmps15
      go_wp2
      go_loopw [5] (fun i wr => ∃ n : Nat, n ≤ 100 ∧ Below w.heap.size w wr ∧ i = .int .i64 n) (fun i _ => 100 - (intOf i).toNat)
      case atStart => exact ⟨0, by omega, Below.refl _ _, rfl⟩
      case round =>
        obtain ⟨n, hn, hb, rfl⟩ := hrel
        by_cases hlt : n ≤ 99
        · go_wp2_with (go_at_call 13; refine (HK.out _ _).mono ?_; rintro e w2 ⟨rfl, hb2⟩)
          go_roundw
          case rel => exact ⟨n + 1, by omega, hb.trans (hb2.mono hb.size), by go_num⟩
          case measure => simp [intOf]; omega
        · go_wp2
          go_ret3
          exact ⟨rfl, hb⟩
    · have hk : ∀ (W : World) (n : Nat), n < 100 → Calls Try.prog 13 #[.string (s.extract 1 4), .int .i64 n] W fun e w' => e = .returned (.tuple #[.string (keyA (s.extract 1 4) n), .int .i64 0]) ∧ Below W.heap.size W w' := fun W n hn => by
        have h := rkey_any (s.extract 1 4) n W hkz
        obtain ⟨e1, e2⟩ := kS_yes (n := (n : Int)) hc ⟨by omega, by omega⟩
        rw [e1, e2, Int.toNat_natCast] at h
        exact h
      have he := fun n (hn : n < 100) => key_eq hn H6.out hc
      have HK := Lib.hid hk
      have HE := Lib.hid he
      clear hk he hc hkz
      go_enter Try.func15, Try.ntmps15
      go_wp2
      go_loopw [5] (fun i wr => ∃ n : Nat, n ≤ 100 ∧ Below w.heap.size w wr ∧ i = .int .i64 n ∧ ∀ m, m < n → keyA (s.extract 1 4) m ≠ s) (fun i _ => 100 - (intOf i).toNat)
      case atStart => exact ⟨0, by omega, Below.refl _ _, rfl, fun m hm => absurd hm (Nat.not_lt_zero m)⟩
      case round =>
        obtain ⟨n, hn, hb, rfl, hno⟩ := hrel
        have HNO := Lib.hid hno
        clear hno
        by_cases hlt : n ≤ 99
        · have hkn := fun W => HK.out W n (by omega)
          have hee := HE.out n (by omega)
          generalize keyA (s.extract 1 4) n = ks at hkn hee
          have HKN := Lib.hid hkn
          clear hkn
          by_cases heq : ks = s
          · have hks : (ks.toList == s.toList) = true := by rw [heq]; simp
            obtain ⟨k1, k2⟩ := hee.1 heq
            obtain ⟨e1, e2⟩ := rS_yes k1
            have hfin : RowKit.Hid (rS s = s.extract 1 4 ∧ rN s = (n : Int) ∧ keyOk s = true) := Lib.hid ⟨e1, by rw [e2]; exact k2, k1⟩
            clear e1 e2 k1 k2 hee heq
            go_wp2_with (go_at_call 13; refine (HKN.out _).mono ?_; rintro e w2 ⟨rfl, hb2⟩)
            go_ret3
            exact ⟨by rw [hfin.out.1, hfin.out.2.1, hfin.out.2.2]; rfl, hb.trans (hb2.mono hb.size)⟩
          · have hks : (ks.toList == s.toList) = false := by rw [beq_eq_false_iff_ne]; exact fun h => heq (toList_inj h)
            have hn2 : keyA (s.extract 1 4) n ≠ s := fun h => heq (hee.2 ((HE.out n (by omega)).1 h))
            have HN2 := Lib.hid hn2
            clear hee heq hn2
            go_wp2_with (go_at_call 13; refine (HKN.out _).mono ?_; rintro e w2 ⟨rfl, hb2⟩)
            go_roundw
            case rel => exact ⟨n + 1, by omega, hb.trans (hb2.mono hb.size), by go_num, fun m hm => by (rcases Nat.lt_or_ge m n with h | h); exact HNO.out m h; rw [show m = n by omega]; exact HN2.out⟩
            case measure => simp [intOf]; omega
        · have hno2 : keyOk s = false := by
            cases hk : keyOk s
            · rfl
            · obtain ⟨m, hm, hmv⟩ := keyOk_num hk
              exact absurd ((HE.out m hm).2 ⟨hk, hmv⟩) (HNO.out m (by omega))
          obtain ⟨e1, e2⟩ := rS_no hno2
          have hfin : RowKit.Hid (rS s = ⟨#[]⟩ ∧ rN s = 0 ∧ keyOk s = false) := Lib.hid ⟨e1, e2, hno2⟩
          clear e1 e2 hno2
          go_wp2
          go_ret3
          exact ⟨by rw [hfin.out.1, hfin.out.2.1, hfin.out.2.2]; rfl, hb⟩
  · have hn := keyOk_len h6
    obtain ⟨e1, e2⟩ := rS_no hn
    rw [hn, e1, e2]
    have g6 : ((s.size : Int) == 6) = false := by rw [beq_eq_false_iff_ne]; omega
    clear hn e1 e2 h6
    go_enter Try.func15, Try.ntmps15
    go_wp2
    refine wp_loop_rounds 1 ?_
    rw [rounds_succ]
    go_wp2
    go_ret3
    exact ⟨rfl, Below.refl _ _⟩
end Go.Proofs.Ytpfgmmmeofnkoaa
