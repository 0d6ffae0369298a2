/- The walks of the laws of package locator. -/
import Derived.Test.YtlaieijlengojaaLocC
namespace Go.Proofs.Ytlaieijlengojaa
open Go.RowKit

/-- The locator of a number, as a string. -/
def locA (n : Nat) : ByteArray := ⟨(txt (turnN n)).toArray⟩
theorem locA_list (n : Nat) : (locA n).data.toList = txt (turnN n) := by simp [locA]
theorem locA_size (n : Nat) : (locA n).size = 6 := rfl
theorem num_turn (n : Nat) (h : n < 308915776) : numN (turnN n) = n := turn_back n h

theorem ltextA (n : Nat) (w : World) (h : n < 308915776) :
    Calls Try.prog 19 #[.int .i64 n] w fun e w' => e = .returned (.tuple #[.string (locA n), .int .i64 0]) ∧ Below w.heap.size w w' := ltext_yes n w h
theorem rtextA (n : Nat) (w : World) (h : n < 308915776) :
    Calls Try.prog 20 #[.int .i64 n] w fun e w' => e = .returned (.tuple #[.string (locA n), .int .i64 0]) ∧ Below w.heap.size w w' := rtext_yes n w h
theorem lnumA (n : Nat) (w : World) (h : n < 308915776) :
    Calls Try.prog 21 #[.string (locA n)] w fun e w' => e = .returned (.tuple #[.int .i64 n, .bool true]) ∧ Below w.heap.size w w' := by
  refine (lnum_any (locA n) w (by rw [locA_size]; decide)).mono ?_
  rintro e w' ⟨rfl, hb⟩
  refine ⟨?_, hb⟩
  rw [locA_list, txt_letters, val_txt _ (turn_lt n), num_turn n h, if_pos rfl]
theorem lnum_empty (w : World) :
    Calls Try.prog 21 #[.string ⟨#[]⟩] w fun e w' => e = .returned (.tuple #[.int .i64 0, .bool false]) ∧ Below w.heap.size w w' := by
  refine (lnum_any ⟨#[]⟩ w (by decide)).mono ?_
  rintro e w' ⟨rfl, hb⟩
  exact ⟨rfl, hb⟩
theorem locA_0 : locA 0 = ⟨#[73, 73, 68, 73, 83, 77]⟩ := by unfold locA; rw [show txt (turnN 0) = [73, 73, 68, 73, 83, 77] by decide +kernel]
theorem locA_1 : locA 1 = ⟨#[83, 83, 72, 78, 67, 78]⟩ := by unfold locA; rw [show txt (turnN 1) = [83, 83, 72, 78, 67, 78] by decide +kernel]
theorem ltext_1 (w : World) :
    Calls Try.prog 19 #[.int .i64 1] w fun e w' => e = .returned (.tuple #[.string ⟨#[83, 83, 72, 78, 67, 78]⟩, .int .i64 0]) ∧ Below w.heap.size w w' := by
  have h := ltextA 1 w (by decide)
  rw [locA_1] at h
  exact h
theorem lnum_0 (w : World) :
    Calls Try.prog 21 #[.string ⟨#[73, 73, 68, 73, 83, 77]⟩] w fun e w' => e = .returned (.tuple #[.int .i64 0, .bool true]) ∧ Below w.heap.size w w' := by
  have h := lnumA 0 w (by decide)
  rw [locA_0] at h
  exact h
theorem lnum_1 (w : World) :
    Calls Try.prog 21 #[.string ⟨#[83, 83, 72, 78, 67, 78]⟩] w fun e w' => e = .returned (.tuple #[.int .i64 1, .bool true]) ∧ Below w.heap.size w w' := by
  have h := lnumA 1 w (by decide)
  rw [locA_1] at h
  exact h

theorem awake_loc (w : World) : Calls Try.prog 18 #[] w fun e w' => e = .returned (.bool true) ∧ Below w.heap.size w w' := by
  have hb := Below.refl w.heap.size w
  go_enter Try.func18, Try.ntmps18
  go_wp2_with (first
    | (go_at_call 19; refine (ltext_1 _).mono ?_; rintro e w1 ⟨rfl, hb1⟩; replace hb := bel_trans hb hb1; clear hb1)
    | (go_at_call 21; (with_reducible refine (lnum_0 _).mono ?_); rintro e w1 ⟨rfl, hb1⟩; replace hb := bel_trans hb hb1; clear hb1)
    | (go_at_call 21; (with_reducible refine (lnum_1 _).mono ?_); rintro e w1 ⟨rfl, hb1⟩; replace hb := bel_trans hb hb1; clear hb1))
  go_ret
  exact ⟨rfl, hb⟩

theorem texts_walk (n : Int) (_hn : (Lit.int .i64 n).wf = true) (w : World) :
    Calls Try.prog 5 #[.int .i64 n] w fun e w' => e = .returned (.bool true) ∧ Below w.heap.size w w' := by
  have hb := Below.refl w.heap.size w
  by_cases h : 0 ≤ n ∧ n < 308915776
  · obtain ⟨k, rfl⟩ := Int.eq_ofNat_of_zero_le h.1
    have hk : k < 308915776 := by omega
    go_enter Try.func5, Try.ntmps5
    go_wp2_with (first
      | (go_at_call 18; refine (awake_loc _).mono ?_; rintro e w1 ⟨rfl, hb1⟩; replace hb := bel_trans hb hb1; clear hb1)
      | (go_at_call 19; refine (ltextA k _ hk).mono ?_; rintro e w1 ⟨rfl, hb1⟩; replace hb := bel_trans hb hb1; clear hb1)
      | (go_at_call 20; refine (rtextA k _ hk).mono ?_; rintro e w1 ⟨rfl, hb1⟩; replace hb := bel_trans hb hb1; clear hb1)
      | (go_at_call 21; refine (lnumA k _ hk).mono ?_; rintro e w1 ⟨rfl, hb1⟩; replace hb := bel_trans hb hb1; clear hb1))
    go_ret
    exact ⟨rfl, hb⟩
  · have hk : n < 0 ∨ 308915776 ≤ n := by omega
    clear h
    have HK := Lib.hid hk
    clear hk
    go_enter Try.func5, Try.ntmps5
    go_wp2_with (first
      | (go_at_call 18; refine (awake_loc _).mono ?_; rintro e w1 ⟨rfl, hb1⟩; replace hb := bel_trans hb hb1; clear hb1)
      | (go_at_call 19; refine (ltext_no n _ HK.out).mono ?_; rintro e w1 ⟨rfl, hb1⟩; replace hb := bel_trans hb hb1; clear hb1)
      | (go_at_call 20; refine (rtext_no n _ HK.out).mono ?_; rintro e w1 ⟨rfl, hb1⟩; replace hb := bel_trans hb hb1; clear hb1)
      | (go_at_call 21; refine (lnum_empty _).mono ?_; rintro e w1 ⟨rfl, hb1⟩; replace hb := bel_trans hb hb1; clear hb1))
    go_ret
    exact ⟨rfl, hb⟩

theorem is_any (s : ByteArray) (w : World) (hs : s.size ≤ maxLen) :
    Calls Try.prog 22 #[.string s] w fun e w' => e = .returned (.bool (lettersS s.data.toList 6 6)) ∧ w = w' := by
  go_enter Try.func22, Try.ntmps22
  go_wp2_with (go_at_call 36; refine (refLocator_any _ _ hs).mono ?_; rintro e w' ⟨rfl, rfl⟩)
  go_ret
  exact ⟨rfl, rfl⟩

theorem reads_walk (s : ByteArray) (hs : s.size ≤ maxLen) (w : World) :
    Calls Try.prog 6 #[.string s] w fun e w' => e = .returned (.bool true) ∧ Below w.heap.size w w' := by
  have hb := Below.refl w.heap.size w
  cases hl : lettersS s.data.toList 6 6
  · have c1 : ∀ W : World, Calls Try.prog 21 #[.string s] W fun e w' => e = .returned (.tuple #[.int .i64 0, .bool false]) ∧ Below W.heap.size W w' := fun W => by
      have h := lnum_any s W hs
      rw [hl] at h
      exact h
    have c2 : ∀ W : World, Calls Try.prog 22 #[.string s] W fun e w' => e = .returned (.bool false) ∧ W = w' := fun W => by
      have h := is_any s W hs
      rw [hl] at h
      exact h
    have C1 := Lib.hid c1
    have C2 := Lib.hid c2
    clear c1 c2 hl
    go_enter Try.func6, Try.ntmps6
    go_wp2_with (first
      | (go_at_call 18; refine (awake_loc _).mono ?_; rintro e w1 ⟨rfl, hb1⟩; replace hb := bel_trans hb hb1; clear hb1)
      | (go_at_call 21; refine (C1.out _).mono ?_; rintro e w1 ⟨rfl, hb1⟩; replace hb := bel_trans hb hb1; clear hb1)
      | (go_at_call 22; refine (C2.out _).mono ?_; rintro e w1 ⟨rfl, rfl⟩))
    go_ret
    exact ⟨rfl, hb⟩
  · obtain ⟨hv, hm⟩ := txt_val _ hl
    have hn : numN (valL s.data.toList) < 308915776 := Nat.mod_lt _ (by decide)
    have hs2 : locA (numN (valL s.data.toList)) = s := by
      unfold locA
      have : turnN (numN (valL s.data.toList)) = valL s.data.toList := back_turn _ hm
      rw [this, hv]
    have c1 : ∀ W : World, Calls Try.prog 21 #[.string s] W fun e w' => e = .returned (.tuple #[.int .i64 (numN (valL s.data.toList)), .bool true]) ∧ Below W.heap.size W w' := fun W => by
      have h := lnum_any s W hs
      rw [hl, if_pos rfl] at h
      exact h
    have c2 : ∀ W : World, Calls Try.prog 22 #[.string s] W fun e w' => e = .returned (.bool true) ∧ W = w' := fun W => by
      have h := is_any s W hs
      rw [hl] at h
      exact h
    have c3 := fun W => rtextA (numN (valL s.data.toList)) W hn
    rw [hs2] at c3
    clear hs2 hv hm
    generalize numN (valL s.data.toList) = n at c1 c3 hn
    have C1 := Lib.hid c1
    have C2 := Lib.hid c2
    have C3 := Lib.hid c3
    clear c1 c2 c3 hl
    go_enter Try.func6, Try.ntmps6
    go_wp2_with (first
      | (go_at_call 18; refine (awake_loc _).mono ?_; rintro e w1 ⟨rfl, hb1⟩; replace hb := bel_trans hb hb1; clear hb1)
      | (go_at_call 21; refine (C1.out _).mono ?_; rintro e w1 ⟨rfl, hb1⟩; replace hb := bel_trans hb hb1; clear hb1)
      | (go_at_call 22; refine (C2.out _).mono ?_; rintro e w1 ⟨rfl, rfl⟩)
      | (go_at_call 20; refine (C3.out _).mono ?_; rintro e w1 ⟨rfl, hb1⟩; replace hb := bel_trans hb hb1; clear hb1))
    go_ret
    exact ⟨rfl, hb⟩
end Go.Proofs.Ytlaieijlengojaa
