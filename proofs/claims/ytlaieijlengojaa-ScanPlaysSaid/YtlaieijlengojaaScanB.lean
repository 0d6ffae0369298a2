/- The contracts of of and Run, and of the reference's. -/
import Derived.Test.YtlaieijlengojaaScanA
namespace Go.Proofs.Ytlaieijlengojaa
open Go.RowKit

/-- Is a byte of kind k? -/
def kOk (k : Int) (c : UInt8) : Bool := (decide (k = 1 ∨ k = 3) && bL c) || (decide (k = 2 ∨ k = 3) && bD c)
def runL (k : Int) (l : List UInt8) : List UInt8 := l.takeWhile (kOk k)

theorem takeWhile_at {p : UInt8 → Bool} {l : List UInt8} {n : Nat} (ha : (l.take n).all p = true) (he : n = l.length ∨ p (l.getD n 0) = false) : l.takeWhile p = l.take n := by
  have h1 : l = l.take n ++ l.drop n := (List.take_append_drop n l).symm
  have h2 : (l.drop n).takeWhile p = [] := by
    rcases he with he | he
    · rw [List.drop_of_length_le (by omega)]; rfl
    · rcases Nat.lt_or_ge n l.length with hlt | hge
      · rw [drop_cons _ _ hlt, List.takeWhile_cons, he]; rfl
      · rw [List.drop_of_length_le hge]; rfl
  rw [List.all_eq_true] at ha
  conv => lhs; rw [h1]
  rw [List.takeWhile_append_of_pos ha, h2, List.append_nil]

theorem of_any (k c : Int) (w : World) (hk0 : 1 ≤ k) (hk3 : k ≤ 3) (b : UInt8) (hc : (b.toNat : Int) = c) :
    Calls Try.prog 45 #[.int .i64 k, .int .u8 c] w fun e w' => e = .returned (.bool (kOk k b)) ∧ w = w' := by
  subst hc
  have h0 := byte_hi b
  have h1 : (0 : Int) ≤ (b.toNat : Int) := by omega
  have m22 : (bits BinOp.and IntKind.i64 2 2 != 0) = true := by decide
  have m31 : (bits BinOp.and IntKind.i64 3 1 != 0) = true := by decide
  have m32 : (bits BinOp.and IntKind.i64 3 2 != 0) = true := by decide
  rcases (by omega : k = 1 ∨ k = 2 ∨ k = 3) with rfl | rfl | rfl
  · have e : kOk 1 b = isL (b.toNat : Int) := by unfold kOk bL; simp
    rw [e]
    cases hB : isL (b.toNat : Int)
    all_goals
      go_enter Try.func45, Try.ntmps45
      go_wp2_with (go_at_call 41; refine (class_any _ _ h1 h0).mono ?_; rintro e w1 ⟨rfl, rfl⟩)
      go_ret
      exact ⟨rfl, rfl⟩
  · have e : kOk 2 b = isD (b.toNat : Int) := by unfold kOk bD; simp
    rw [e]
    cases hD : isD (b.toNat : Int)
    · have hd2 : ¬ ((b.toNat : Int) - 48) % 256 < 10 := by simp [isD] at hD; omega
      go_enter Try.func45, Try.ntmps45
      go_wp2_with (go_at_call 41; refine (class_any _ _ h1 h0).mono ?_; rintro e w1 ⟨rfl, rfl⟩)
      go_ret
      exact ⟨rfl, rfl⟩
    · have hd2 : ((b.toNat : Int) - 48) % 256 < 10 := by simp [isD] at hD; omega
      go_enter Try.func45, Try.ntmps45
      go_wp2_with (go_at_call 41; refine (class_any _ _ h1 h0).mono ?_; rintro e w1 ⟨rfl, rfl⟩)
      go_ret
      exact ⟨ret_bool (decide_eq_true (by omega)), rfl⟩
  · have e : kOk 3 b = (isL (b.toNat : Int) || isD (b.toNat : Int)) := by unfold kOk bL bD; simp
    rw [e]
    cases hB : isL (b.toNat : Int)
    · cases hD : isD (b.toNat : Int)
      · have hd2 : ¬ ((b.toNat : Int) - 48) % 256 < 10 := by simp [isD] at hD; omega
        go_enter Try.func45, Try.ntmps45
        go_wp2_with (go_at_call 41; refine (class_any _ _ h1 h0).mono ?_; rintro e w1 ⟨rfl, rfl⟩)
        go_ret
        exact ⟨ret_bool (decide_eq_false (by omega)), rfl⟩
      · have hd2 : ((b.toNat : Int) - 48) % 256 < 10 := by simp [isD] at hD; omega
        go_enter Try.func45, Try.ntmps45
        go_wp2_with (go_at_call 41; refine (class_any _ _ h1 h0).mono ?_; rintro e w1 ⟨rfl, rfl⟩)
        go_ret
        exact ⟨ret_bool (decide_eq_true (by omega)), rfl⟩
    · go_enter Try.func45, Try.ntmps45
      go_wp2_with (go_at_call 41; refine (class_any _ _ h1 h0).mono ?_; rintro e w1 ⟨rfl, rfl⟩)
      go_ret
      exact ⟨rfl, rfl⟩

def runA (s : ByteArray) (p : Nat) (k : Int) : ByteArray := ⟨(runL k (s.data.toList.drop p)).toArray⟩
theorem runA_list (s : ByteArray) (p : Nat) (k : Int) : (runA s p k).data.toList = runL k (s.data.toList.drop p) := by simp [runA]
theorem runA_size (s : ByteArray) (p : Nat) (k : Int) : (runA s p k).size = (runL k (s.data.toList.drop p)).length := rfl
theorem runL_le (k : Int) (l : List UInt8) : (runL k l).length ≤ l.length := (List.takeWhile_sublist _).length_le
theorem kOk_out {k : Int} (h : k < 1 ∨ 3 < k) (c : UInt8) : kOk k c = false := by
  unfold kOk
  rw [decide_eq_false (by omega), decide_eq_false (by omega)]; rfl
theorem rest_list (s : ByteArray) (p : Nat) : (s.extract p s.size).data.toList = s.data.toList.drop p := by
  simp
  exact List.take_of_length_le (by simp)

set_option maxHeartbeats 1000000 in
theorem run_any (b : Nat) (s : ByteArray) (p k : Int) (w : World) (hs : s.size ≤ maxLen) (hc : Cur w b s p) :
    Calls Try.prog 15 #[.pointer (some ⟨b, 0, none⟩), .int .i64 k] w fun e w' =>
      e = .returned (.string (runA s (place s.size p).toNat k)) ∧ Cur w' b s (place s.size p + (runA s (place s.size p).toNat k).size) ∧ w.grownBy w' (some b) := by
  have hp0 := place_ge s.size p
  have hp1 := place_le s.size p
  have hpp := ahead_any b s p w hs hc
  generalize place s.size p = q at hp0 hp1 hpp ⊢
  obtain ⟨j, rfl⟩ := Int.eq_ofNat_of_zero_le hp0
  rw [Int.toNat_natCast] at hpp ⊢
  have hj : j ≤ s.size := by omega
  have hrl := rest_list s j
  have hrs : (s.extract j s.size).size = s.size - j := by simp
  have hA := runA_list s j k
  have hAs := runA_size s j k
  rw [← hrl] at hA hAs
  unfold maxLen at hs
  have HP := Lib.hid hpp
  have HA := Lib.hid hA
  have HAS := Lib.hid hAs
  have HRS := Lib.hid hrs
  have hrsz : (s.extract j s.size).size ≤ s.size := by omega
  clear hpp hA hAs hrs hrl
  go_enter Try.func15, Try.ntmps15
  go_wp2_with (go_at_call 44; refine HP.out.mono ?_; rintro e w1 ⟨rfl, hc1, hg1⟩)
  generalize s.extract j s.size = r at HA HAS HRS hrsz ⊢
  go_loop [6] (fun n => ∃ m : Nat, m ≤ r.size ∧ n = .int .i64 m ∧ (r.data.toList.take m).all (kOk k) = true) (fun n => r.size - (intOf n).toNat)
  case atStart => exact ⟨0, Nat.zero_le _, rfl, rfl⟩
  case round =>
    obtain ⟨m, hm, rfl, hall⟩ := hrel
    have HALL := Lib.hid hall
    clear hall
    have fin : (m = r.data.toList.length ∨ kOk k (r.data.toList.getD m 0) = false) → r.extract 0 m = runA s j k ∧ (runA s j k).size = m := by
      intro he
      have h1 := takeWhile_at (p := kOk k) (l := r.data.toList) (n := m) HALL.out he
      constructor
      · apply bytes_inj
        rw [HA.out]
        unfold runL
        rw [h1]
        simp
      · rw [HAS.out]
        unfold runL
        rw [h1]
        simp; omega
    have FIN := Lib.hid fin
    clear fin
    have hjm : (j : Int) + (m : Int) ≤ (s.size : Int) := by have := HRS.out; omega
    by_cases hlt : m < r.size
    · by_cases hk1 : 1 ≤ k
      · by_cases hk2 : k ≤ 3
        · have hix := get_list r m hlt
          generalize hg : r.data.toList.getD m 0 = c at hix FIN
          have HG := Lib.hid hg
          clear hg
          cases hok : kOk k c
          · obtain ⟨f1, f2⟩ := FIN.out (.inr hok)
            have F1 := Lib.hid f1
            have F2 := Lib.hid f2
            have hcell := hc1.at_
            have hfr := hc1.frozen 1
            clear f1 f2
            go_wp2_with (go_at_call 45; refine (of_any k _ _ hk1 hk2 c rfl).mono ?_; rintro e w2 ⟨rfl, rfl⟩)
            go_ret
            exact ⟨by rw [← F1.out]; rfl, by rw [F2.out]; exact hc1.set_ _, gr_trans hg1 (gr_setCell (p := ⟨b, 1, none⟩) (World.grownBy.refl _ _) (.inl rfl) _)⟩
          · have hst := all_take_succ (kOk k) r.data.toList m (by simpa using hlt)
            rw [HALL.out, HG.out, hok] at hst
            have HST := Lib.hid hst
            clear hst
            go_wp2_with (go_at_call 45; refine (of_any k _ _ hk1 hk2 c rfl).mono ?_; rintro e w2 ⟨rfl, rfl⟩)
            go_round
            case rel => exact ⟨m + 1, by omega, by go_num, HST.out⟩
            case measure => simp [intOf]; omega
        · obtain ⟨f1, f2⟩ := FIN.out (.inr (kOk_out (by omega) _))
          have F1 := Lib.hid f1
          have F2 := Lib.hid f2
          have hcell := hc1.at_
          have hfr := hc1.frozen 1
          clear f1 f2
          go_wp2
          go_ret
          exact ⟨by rw [← F1.out]; rfl, by rw [F2.out]; exact hc1.set_ _, gr_trans hg1 (gr_setCell (p := ⟨b, 1, none⟩) (World.grownBy.refl _ _) (.inl rfl) _)⟩
      · obtain ⟨f1, f2⟩ := FIN.out (.inr (kOk_out (by omega) _))
        have F1 := Lib.hid f1
        have F2 := Lib.hid f2
        have hcell := hc1.at_
        have hfr := hc1.frozen 1
        clear f1 f2
        go_wp2
        go_ret
        exact ⟨by rw [← F1.out]; rfl, by rw [F2.out]; exact hc1.set_ _, gr_trans hg1 (gr_setCell (p := ⟨b, 1, none⟩) (World.grownBy.refl _ _) (.inl rfl) _)⟩
    · obtain ⟨f1, f2⟩ := FIN.out (.inl (by simp; omega))
      have F1 := Lib.hid f1
      have F2 := Lib.hid f2
      have hcell := hc1.at_
      have hfr := hc1.frozen 1
      clear f1 f2
      go_wp2
      go_ret
      exact ⟨by rw [← F1.out]; rfl, by rw [F2.out]; exact hc1.set_ _, gr_trans hg1 (gr_setCell (p := ⟨b, 1, none⟩) (World.grownBy.refl _ _) (.inl rfl) _)⟩
end Go.Proofs.Ytlaieijlengojaa
