/- The contracts of the reference's Place, Word, Bytes, of, Run, Number. -/
import Derived.Test.YtlaieijlengojaaScanD
namespace Go.Proofs.Ytlaieijlengojaa
open Go.RowKit

theorem rplace_any (s : ByteArray) (p : Int) (w : World) (_hs : s.size ≤ maxLen) :
    Calls Try.prog 47 #[.string s, .int .i64 p] w fun e w' => e = .returned (.int .i64 (place s.size p)) ∧ w = w' := by
  by_cases h1 : p < 0
  · go_enter Try.func47, Try.ntmps47
    go_wp2
    go_ret
    exact ⟨ret_int (by unfold place; rw [if_pos h1]), rfl⟩
  by_cases h2 : (s.size : Int) < p
  · go_enter Try.func47, Try.ntmps47
    go_wp2
    go_ret
    exact ⟨ret_int (by unfold place; rw [if_neg (by omega), if_pos (by omega)]), rfl⟩
  go_enter Try.func47, Try.ntmps47
  go_wp2
  go_ret
  exact ⟨ret_int (by unfold place; rw [if_neg (by omega), if_neg (by omega)]), rfl⟩

theorem rword_any (s : ByteArray) (p : Int) (q : ByteArray) (w : World) (hs : s.size ≤ maxLen) (hq : q.size ≤ maxLen) :
    Calls Try.prog 49 #[.string s, .int .i64 p, .string q] w fun e w' =>
      e = .returned (.tuple #[.int .i64 (wordP s (place s.size p).toNat q), .bool (isPre q.data.toList (s.data.toList.drop (place s.size p).toNat))]) ∧ w = w' := by
  have hpp := fun W => rplace_any s p W hs
  have hp0 := place_ge s.size p
  have hp1 := place_le s.size p
  generalize place s.size p = x at hp0 hp1 hpp ⊢
  obtain ⟨j, rfl⟩ := Int.eq_ofNat_of_zero_le hp0
  rw [Int.toNat_natCast]
  have hj : j ≤ s.size := by omega
  have hw : wordP s j q = if isPre q.data.toList (s.data.toList.drop j) then j + q.size else j := rfl
  have hlen : isPre q.data.toList (s.data.toList.drop j) = true → j + q.size ≤ s.size := by
    intro h
    have := isPre_len h
    simp at this
    omega
  unfold maxLen at hs hq
  have HP := Lib.hid hpp
  clear hpp
  by_cases hq2 : (s.size : Int) - (j : Int) < (q.size : Int)
  · have hv : isPre q.data.toList (s.data.toList.drop j) = false := by
      cases h : isPre q.data.toList (s.data.toList.drop j)
      · rfl
      · have := hlen h; omega
    rw [hw, hv]
    clear hw hlen hv
    go_enter Try.func49, Try.ntmps49
    go_wp2_with (go_at_call 47; refine (HP.out _).mono ?_; rintro e w1 ⟨rfl, rfl⟩)
    go_ret2
    exact ⟨rfl, rfl⟩
  · have he : ((s.extract j (j + q.size)).toList == q.toList) = isPre q.data.toList (s.data.toList.drop j) := by
      rw [ByteArray.toList_eq, ByteArray.toList_eq]
      unfold isPre
      have hql : q.data.toList.length = q.size := by simp
      rw [hql]
      simp
    have hjq : (j : Int) + (q.size : Int) ≤ (s.size : Int) := by omega
    rw [hw]
    cases hv : isPre q.data.toList (s.data.toList.drop j)
    all_goals
      rw [hv] at he
      clear hw hlen hv
      go_enter Try.func49, Try.ntmps49
      go_wp2_with (go_at_call 47; refine (HP.out _).mono ?_; rintro e w1 ⟨rfl, rfl⟩)
      go_ret2
      exact ⟨rfl, rfl⟩

theorem rbytes_yes (s : ByteArray) (p : Int) (n : Nat) (w : World) (hs : s.size ≤ maxLen) (hn : (place s.size p).toNat + n ≤ s.size) :
    Calls Try.prog 51 #[.string s, .int .i64 p, .int .i64 n] w fun e w' =>
      e = .returned (.tuple #[.string (s.extract (place s.size p).toNat ((place s.size p).toNat + n)), .int .i64 ((place s.size p).toNat + n : Nat), .bool true]) ∧ w = w' := by
  have hpp := fun W => rplace_any s p W hs
  have hp0 := place_ge s.size p
  generalize place s.size p = x at hp0 hpp hn ⊢
  obtain ⟨j, rfl⟩ := Int.eq_ofNat_of_zero_le hp0
  rw [Int.toNat_natCast] at hn ⊢
  unfold maxLen at hs
  have hn2 : (j : Int) + (n : Int) ≤ (s.size : Int) := by omega
  have HP := Lib.hid hpp
  clear hpp
  go_enter Try.func51, Try.ntmps51
  go_wp2_with (go_at_call 47; refine (HP.out _).mono ?_; rintro e w1 ⟨rfl, rfl⟩)
  go_ret3
  exact ⟨rfl, rfl⟩
theorem rbytes_no (s : ByteArray) (p n : Int) (w : World) (hs : s.size ≤ maxLen) (hn : n < 0 ∨ (s.size : Int) - place s.size p < n) :
    Calls Try.prog 51 #[.string s, .int .i64 p, .int .i64 n] w fun e w' =>
      e = .returned (.tuple #[.string ⟨#[]⟩, .int .i64 (place s.size p), .bool false]) ∧ w = w' := by
  have hpp := fun W => rplace_any s p W hs
  have hp0 := place_ge s.size p
  have hp1 := place_le s.size p
  generalize place s.size p = x at hp0 hp1 hpp hn ⊢
  unfold maxLen at hs
  have HP := Lib.hid hpp
  clear hpp
  rcases hn with h | h
  · go_enter Try.func51, Try.ntmps51
    go_wp2_with (go_at_call 47; refine (HP.out _).mono ?_; rintro e w1 ⟨rfl, rfl⟩)
    go_ret3
    exact ⟨rfl, rfl⟩
  · have h2 : ¬ n < 0 := by omega
    go_enter Try.func51, Try.ntmps51
    go_wp2_with (go_at_call 47; refine (HP.out _).mono ?_; rintro e w1 ⟨rfl, rfl⟩)
    go_ret3
    exact ⟨rfl, rfl⟩

theorem rof_any (c k : Int) (w : World) (b : UInt8) (hc : (b.toNat : Int) = c) :
    Calls Try.prog 63 #[.int .u8 c, .int .i64 k] w fun e w' => e = .returned (.bool (kOk k b)) ∧ w = w' := by
  subst hc
  have h0 := byte_hi b
  have h1 : (0 : Int) ≤ (b.toNat : Int) := by omega
  have arms : ∀ v1 v2 v3 : Bool, (k == 1) = v1 → (k == 2) = v2 → (k == 3) = v3 → kOk k b = ((v1 || v3) && isL (b.toNat : Int) || (v2 || v3) && isD (b.toNat : Int)) := by
    intro v1 v2 v3 e1 e2 e3
    subst e1 e2 e3
    unfold kOk bL bD
    congr 1 <;> congr 1 <;> (rw [Bool.eq_iff_iff]; simp)
  have HA := Lib.hid arms
  clear arms
  cases e1 : (k == 1) <;> cases e2 : (k == 2) <;> cases e3 : (k == 3)
  all_goals
    first
      | (exfalso; simp at e1 e2 e3; omega)
      | (have HK := Lib.hid (HA.out _ _ _ e1 e2 e3)
         cases hB : isL (b.toNat : Int) <;> cases hD : isD (b.toNat : Int)
         all_goals
           rw [hB, hD] at HK
           go_enter Try.func63, Try.ntmps63
           go_wp2_with (first
             | (go_at_call 60; refine (refLetter_any _ _ h1 h0).mono ?_; rintro e w1 ⟨rfl, rfl⟩)
             | (go_at_call 61; refine (refDigit_any _ _ h1 h0).mono ?_; rintro e w1 ⟨rfl, rfl⟩))
           go_ret
           exact ⟨ret_bool HK.out.symm, rfl⟩)

set_option maxHeartbeats 1000000 in
theorem rrun_any (s : ByteArray) (p k : Int) (w : World) (hs : s.size ≤ maxLen) :
    Calls Try.prog 53 #[.string s, .int .i64 p, .int .i64 k] w fun e w' =>
      e = .returned (.tuple #[.string (runA s (place s.size p).toNat k), .int .i64 (place s.size p + (runA s (place s.size p).toNat k).size)]) ∧ w = w' := by
  have hpp := fun W => rplace_any s p W hs
  have hp0 := place_ge s.size p
  have hp1 := place_le s.size p
  generalize place s.size p = q at hp0 hp1 hpp ⊢
  obtain ⟨j, rfl⟩ := Int.eq_ofNat_of_zero_le hp0
  rw [Int.toNat_natCast]
  have hj : j ≤ s.size := by omega
  have hA := runA_list s j k
  have hAs := runA_size s j k
  unfold maxLen at hs
  have HP := Lib.hid hpp
  have HA := Lib.hid hA
  have HAS := Lib.hid hAs
  clear hpp hA hAs
  go_enter Try.func53, Try.ntmps53
  go_wp2_with (go_at_call 47; refine (HP.out _).mono ?_; rintro e w1 ⟨rfl, rfl⟩)
  go_loop [9] (fun n => ∃ m : Nat, j + m ≤ s.size ∧ n = .int .i64 ((j + m : Nat) : Int) ∧ ((s.data.toList.drop j).take m).all (kOk k) = true) (fun n => s.size - (intOf n).toNat)
  case atStart => exact ⟨0, hj, rfl, rfl⟩
  case round =>
    obtain ⟨m, hm, rfl, hall⟩ := hrel
    have HALL := Lib.hid hall
    clear hall
    have fin : (m = (s.data.toList.drop j).length ∨ kOk k ((s.data.toList.drop j).getD m 0) = false) → s.extract j (j + m) = runA s j k ∧ (runA s j k).size = m := by
      intro he
      have h1 := takeWhile_at (p := kOk k) (l := s.data.toList.drop j) (n := m) HALL.out he
      constructor
      · apply bytes_inj
        rw [HA.out]
        unfold runL
        rw [h1]
        simp
      · rw [HAS.out]
        unfold runL
        rw [h1]
        simp; omega
    have FIN := Lib.hid fin
    clear fin
    by_cases hlt : j + m < s.size
    · have hix := get_list s (j + m) hlt
      have hgg : (s.data.toList.drop j).getD m 0 = s.data.toList.getD (j + m) 0 := by simp [List.getD]
      rw [← hgg] at hix
      clear hgg
      have hlt2 : (j : Int) + (m : Int) < (s.size : Int) := by omega
      generalize hg : (s.data.toList.drop j).getD m 0 = c at hix FIN
      have HG := Lib.hid hg
      clear hg
      cases hok : kOk k c
      · obtain ⟨f1, f2⟩ := FIN.out (.inr hok)
        have F1 := Lib.hid f1
        have F2 := Lib.hid f2
        clear f1 f2
        go_wp2_with (go_at_call 63; refine (rof_any _ k _ c rfl).mono ?_; rintro e w2 ⟨rfl, rfl⟩)
        go_ret2
        exact ⟨by rw [F2.out, ← F1.out]; rfl, rfl⟩
      · have hst := all_take_succ (kOk k) (s.data.toList.drop j) m (by simp; omega)
        rw [HALL.out, HG.out, hok] at hst
        have HST := Lib.hid hst
        clear hst
        go_wp2_with (go_at_call 63; refine (rof_any _ k _ c rfl).mono ?_; rintro e w2 ⟨rfl, rfl⟩)
        go_round
        case rel => exact ⟨m + 1, by omega, by go_num, HST.out⟩
        case measure => simp [intOf]; omega
    · obtain ⟨f1, f2⟩ := FIN.out (.inl (by simp; omega))
      have F1 := Lib.hid f1
      have F2 := Lib.hid f2
      have hlt2 : ¬ (j : Int) + (m : Int) < (s.size : Int) := by omega
      clear f1 f2
      go_wp2
      go_ret2
      exact ⟨by rw [F2.out, ← F1.out]; rfl, rfl⟩
end Go.Proofs.Ytlaieijlengojaa
