/- The contracts for every number; the laws' first tests. -/
import Derived.Test.YtpfgmmmeofnkoaaDoorDateI
namespace Go.Proofs.YtpfgmmmeofnkoaaDoor
open Go.RowKit

def dA (D : Nat) : ByteArray := twoA (dayOf D + 1) ++ monA (monOf D)
def cA (t : Nat) : ByteArray := twoA (t / 60) ++ twoA (t % 60)
theorem dA_list (D : Nat) : (dA D).data.toList = dtxt D := by
  unfold dA dtxt
  rw [ByteArray.data_append, Array.toList_append, twoA_list, monA_list]
theorem cA_list (t : Nat) : (cA t).data.toList = ctxt t := by
  unfold cA ctxt
  rw [ByteArray.data_append, Array.toList_append, twoA_list, twoA_list]
theorem dA_size (D : Nat) : (dA D).size = 5 := by
  have h := dtxt_len D
  rw [← dA_list] at h
  simpa using h
theorem cA_size (t : Nat) : (cA t).size = 4 := by
  have h := ctxt_len t
  rw [← cA_list] at h
  simpa using h
def dS (n : Int) : ByteArray := if 0 ≤ n ∧ n < 366 then dA n.toNat else ⟨#[]⟩
def dE (n : Int) : Int := if 0 ≤ n ∧ n < 366 then 0 else 1
def cS (n : Int) : ByteArray := if 0 ≤ n ∧ n < 1440 then cA n.toNat else ⟨#[]⟩
def cE (n : Int) : Int := if 0 ≤ n ∧ n < 1440 then 0 else 1

theorem text_all (n : Int) (w : World) (ht : LenTab w) :
    Calls Tryd.prog 9 #[.int .i64 n] w fun e w' => e = .returned (.tuple #[.string (dS n), .int .i64 (dE n)]) ∧ Below w.heap.size w w' := by
  unfold dS dE
  by_cases h : 0 ≤ n ∧ n < 366
  · rw [if_pos h, if_pos h]
    obtain ⟨k, rfl⟩ := Int.eq_ofNat_of_zero_le h.1
    exact text_any k w (by omega) ht
  · rw [if_neg h, if_neg h]
    exact text_no n w (by omega)
theorem rtext_all (n : Int) (w : World) :
    Calls Tryd.prog 10 #[.int .i64 n] w fun e w' => e = .returned (.tuple #[.string (dS n), .int .i64 (dE n)]) ∧ Below w.heap.size w w' := by
  unfold dS dE
  by_cases h : 0 ≤ n ∧ n < 366
  · rw [if_pos h, if_pos h]
    obtain ⟨k, rfl⟩ := Int.eq_ofNat_of_zero_le h.1
    exact rtext_any k w (by omega)
  · rw [if_neg h, if_neg h]
    exact rtext_no n w (by omega)
theorem clock_all (n : Int) (w : World) :
    Calls Tryd.prog 11 #[.int .i64 n] w fun e w' => e = .returned (.tuple #[.string (cS n), .int .i64 (cE n)]) ∧ Below w.heap.size w w' := by
  unfold cS cE
  by_cases h : 0 ≤ n ∧ n < 1440
  · rw [if_pos h, if_pos h]
    obtain ⟨k, rfl⟩ := Int.eq_ofNat_of_zero_le h.1
    exact clock_any k w (by omega)
  · rw [if_neg h, if_neg h]
    exact clock_no n w (by omega)
theorem rclock_all (n : Int) (w : World) :
    Calls Tryd.prog 12 #[.int .i64 n] w fun e w' => e = .returned (.tuple #[.string (cS n), .int .i64 (cE n)]) ∧ Below w.heap.size w w' := by
  unfold cS cE
  by_cases h : 0 ≤ n ∧ n < 1440
  · rw [if_pos h, if_pos h]
    obtain ⟨k, rfl⟩ := Int.eq_ofNat_of_zero_le h.1
    exact rclock_any k w (by omega)
  · rw [if_neg h, if_neg h]
    exact rclock_no n w (by omega)
theorem text_in (D : Nat) (w : World) (h : D < 366) (ht : LenTab w) :
    Calls Tryd.prog 9 #[.int .i64 D] w fun e w' => e = .returned (.tuple #[.string (dA D), .int .i64 0]) ∧ Below w.heap.size w w' := text_any D w h ht
theorem clock_in (t : Nat) (w : World) (h : t < 1440) :
    Calls Tryd.prog 11 #[.int .i64 t] w fun e w' => e = .returned (.tuple #[.string (cA t), .int .i64 0]) ∧ Below w.heap.size w w' := clock_any t w h
theorem read_in (D : Nat) (w : World) (h : D < 366) (ht : LenTab w) :
    Calls Tryd.prog 15 #[.string (dA D)] w fun e w' => e = .returned (.tuple #[.int .i64 D, .bool true]) ∧ Below w.heap.size w w' := by
  have h0 := read_any (dA D) w ht
  rw [dA_list, (day_facts D h).2.2.2] at h0
  exact h0
theorem readClock_in (t : Nat) (w : World) (h : t < 1440) :
    Calls Tryd.prog 17 #[.string (cA t)] w fun e w' => e = .returned (.tuple #[.int .i64 t, .bool true]) ∧ Below w.heap.size w w' := by
  have h0 := readClock_any (cA t) w
  rw [cA_list, clock_facts t h] at h0
  exact h0

theorem t59 (w : World) (ht : LenTab w) : Calls Tryd.prog 9 #[.int .i64 59] w fun e w' => e = .returned (.tuple #[.string ⟨#[50, 57, 70, 69, 66]⟩, .int .i64 0]) ∧ Below w.heap.size w w' := by
  have h := text_in 59 w (by decide) ht
  rw [show dA 59 = ⟨#[50, 57, 70, 69, 66]⟩ by decide +kernel] at h
  exact h
theorem r60 (w : World) (ht : LenTab w) : Calls Tryd.prog 15 #[.string ⟨#[48, 49, 77, 65, 82]⟩] w fun e w' => e = .returned (.tuple #[.int .i64 60, .bool true]) ∧ Below w.heap.size w w' := by
  have h := read_in 60 w (by decide) ht
  rw [show dA 60 = ⟨#[48, 49, 77, 65, 82]⟩ by decide +kernel] at h
  exact h
theorem c570 (w : World) : Calls Tryd.prog 11 #[.int .i64 570] w fun e w' => e = .returned (.tuple #[.string ⟨#[48, 57, 51, 48]⟩, .int .i64 0]) ∧ Below w.heap.size w w' := by
  have h := clock_in 570 w (by decide)
  rw [show cA 570 = ⟨#[48, 57, 51, 48]⟩ by decide +kernel] at h
  exact h
theorem rc1439 (w : World) : Calls Tryd.prog 17 #[.string ⟨#[50, 51, 53, 57]⟩] w fun e w' => e = .returned (.tuple #[.int .i64 1439, .bool true]) ∧ Below w.heap.size w w' := by
  have h := readClock_in 1439 w (by decide)
  rw [show cA 1439 = ⟨#[50, 51, 53, 57]⟩ by decide +kernel] at h
  exact h
theorem w6 (w : World) : Calls Tryd.prog 13 #[.int .i64 6] w fun e w' => e = .returned (.int .i64 7) ∧ w = w' := by
  have h := week_any 6 w
  rw [show wday 6 = 7 by decide] at h
  exact h

theorem awake_any (w : World) (ht : LenTab w) : Calls Tryd.prog 8 #[] w fun e w' => e = .returned (.bool true) ∧ Below w.heap.size w w' := by
  have hb := Below.refl w.heap.size w
  have HT := Lib.hid ht
  clear ht
  go_enter Tryd.func8, Tryd.ntmps8
  go_wp2_with (first
    | (go_at_call 9; refine (t59 _ (HT.out.keep hb)).mono ?_; rintro e w1 ⟨rfl, hb1⟩; replace hb := bel_trans hb hb1; clear hb1)
    | (go_at_call 15; refine (r60 _ (HT.out.keep hb)).mono ?_; rintro e w1 ⟨rfl, hb1⟩; replace hb := bel_trans hb hb1; clear hb1)
    | (go_at_call 11; refine (c570 _).mono ?_; rintro e w1 ⟨rfl, hb1⟩; replace hb := bel_trans hb hb1; clear hb1)
    | (go_at_call 17; refine (rc1439 _).mono ?_; rintro e w1 ⟨rfl, hb1⟩; replace hb := bel_trans hb hb1; clear hb1)
    | (go_at_call 13; refine (w6 _).mono ?_; rintro e w1 ⟨rfl, rfl⟩))
  go_ret
  exact ⟨rfl, hb⟩

theorem texts_walk (n : Int) (_hn : (Lit.int .i64 n).wf = true) (w : World) (ht : LenTab w) :
    Calls Tryd.prog 3 #[.int .i64 n] w fun e w' => e = .returned (.bool true) ∧ Below w.heap.size w w' := by
  have hb := Below.refl w.heap.size w
  have HT := Lib.hid ht
  clear ht
  go_enter Tryd.func3, Tryd.ntmps3
  go_wp2_with (first
    | (go_at_call 8; refine (awake_any _ (HT.out.keep hb)).mono ?_; rintro e w1 ⟨rfl, hb1⟩; replace hb := bel_trans hb hb1; clear hb1)
    | (go_at_call 9; refine (text_all _ _ (HT.out.keep hb)).mono ?_; rintro e w1 ⟨rfl, hb1⟩; replace hb := bel_trans hb hb1; clear hb1)
    | (go_at_call 10; refine (rtext_all _ _).mono ?_; rintro e w1 ⟨rfl, hb1⟩; replace hb := bel_trans hb hb1; clear hb1)
    | (go_at_call 11; refine (clock_all _ _).mono ?_; rintro e w1 ⟨rfl, hb1⟩; replace hb := bel_trans hb hb1; clear hb1)
    | (go_at_call 12; refine (rclock_all _ _).mono ?_; rintro e w1 ⟨rfl, hb1⟩; replace hb := bel_trans hb hb1; clear hb1)
    | (go_at_call 13; refine (week_any _ _).mono ?_; rintro e w1 ⟨rfl, rfl⟩)
    | (go_at_call 14; refine (rweek_any _ _).mono ?_; rintro e w1 ⟨rfl, rfl⟩))
  go_ret
  exact ⟨rfl, hb⟩

theorem reads_walk (s : ByteArray) (_hs : s.size ≤ maxLen) (w : World) (ht : LenTab w) :
    Calls Tryd.prog 4 #[.string s] w fun e w' => e = .returned (.bool true) ∧ Below w.heap.size w w' := by
  have hb := Below.refl w.heap.size w
  have HT := Lib.hid ht
  clear ht
  go_enter Tryd.func4, Tryd.ntmps4
  go_wp2_with (first
    | (go_at_call 8; refine (awake_any _ (HT.out.keep hb)).mono ?_; rintro e w1 ⟨rfl, hb1⟩; replace hb := bel_trans hb hb1; clear hb1)
    | (go_at_call 15; refine (read_any _ _ (HT.out.keep hb)).mono ?_; rintro e w1 ⟨rfl, hb1⟩; replace hb := bel_trans hb hb1; clear hb1)
    | (go_at_call 16; refine (rread_any _ _).mono ?_; rintro e w1 ⟨rfl, hb1⟩; replace hb := bel_trans hb hb1; clear hb1)
    | (go_at_call 17; refine (readClock_any _ _).mono ?_; rintro e w1 ⟨rfl, hb1⟩; replace hb := bel_trans hb hb1; clear hb1)
    | (go_at_call 18; refine (rreadClock_any _ _).mono ?_; rintro e w1 ⟨rfl, hb1⟩; replace hb := bel_trans hb hb1; clear hb1))
  go_ret
  exact ⟨rfl, hb⟩
end Go.Proofs.YtpfgmmmeofnkoaaDoor
