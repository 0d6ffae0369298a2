/- The walk of DateBack. -/
import Derived.Test.YtpfgmmmeofnkoaaDoorDateK
namespace Go.Proofs.YtpfgmmmeofnkoaaDoor
open Go.RowKit

theorem read_none_any (s : ByteArray) (w : World) (ht : LenTab w) (h : readS s.data.toList = none) :
    Calls Tryd.prog 15 #[.string s] w fun e w' => e = .returned (.tuple #[.int .i64 0, .bool false]) ∧ Below w.heap.size w w' := by
  have h0 := read_any s w ht
  rw [h] at h0
  exact h0
theorem read_some_any (s : ByteArray) (d : Nat) (w : World) (ht : LenTab w) (h : readS s.data.toList = some d) :
    Calls Tryd.prog 15 #[.string s] w fun e w' => e = .returned (.tuple #[.int .i64 d, .bool true]) ∧ Below w.heap.size w w' := by
  have h0 := read_any s w ht
  rw [h] at h0
  exact h0
theorem readC_none_any (s : ByteArray) (w : World) (h : readC s.data.toList = none) :
    Calls Tryd.prog 17 #[.string s] w fun e w' => e = .returned (.tuple #[.int .i64 0, .bool false]) ∧ Below w.heap.size w w' := by
  have h0 := readClock_any s w
  rw [h] at h0
  exact h0
theorem readC_some_any (s : ByteArray) (d : Nat) (w : World) (h : readC s.data.toList = some d) :
    Calls Tryd.prog 17 #[.string s] w fun e w' => e = .returned (.tuple #[.int .i64 d, .bool true]) ∧ Below w.heap.size w w' := by
  have h0 := readClock_any s w
  rw [h] at h0
  exact h0
theorem text_back (s : ByteArray) (d : Nat) (w : World) (ht : LenTab w) (h : readS s.data.toList = some d) :
    Calls Tryd.prog 9 #[.int .i64 d] w fun e w' => e = .returned (.tuple #[.string s, .int .i64 0]) ∧ Below w.heap.size w w' := by
  obtain ⟨h1, h2⟩ := read_only h
  have h0 := text_in d w h1 ht
  rw [bytes_eq ((dA_list d).trans h2)] at h0
  exact h0
theorem clock_back (s : ByteArray) (d : Nat) (w : World) (h : readC s.data.toList = some d) :
    Calls Tryd.prog 11 #[.int .i64 d] w fun e w' => e = .returned (.tuple #[.string s, .int .i64 0]) ∧ Below w.heap.size w w' := by
  obtain ⟨h1, h2⟩ := readC_only h
  have h0 := clock_in d w h1
  rw [bytes_eq ((cA_list d).trans h2)] at h0
  exact h0

set_option maxHeartbeats 4000000 in
theorem back_walk (n : Int) (_hn : (Lit.int .i64 n).wf = true) (s : ByteArray) (_hs : s.size ≤ maxLen) (w : World) (ht : LenTab w) :
    Calls Tryd.prog 5 #[.int .i64 n, .string s] w fun e w' => e = .returned (.bool true) ∧ Below w.heap.size w w' := by
  have hb := Below.refl w.heap.size w
  have HT := Lib.hid ht
  clear ht
  by_cases h1 : 0 ≤ n ∧ n < 366
  · obtain ⟨k, rfl⟩ := Int.eq_ofNat_of_zero_le h1.1
    have hk : k < 366 := by omega
    have hk2 : k < 1440 := by omega
    have z1 := dA_size k
    have z2 := cA_size k
    clear h1
    cases hr : readS s.data.toList with
    | none =>
      have HR := Lib.hid hr
      clear hr
      cases hc : readC s.data.toList with
      | none =>
        have HC := Lib.hid hc
        clear hc
        go_enter Tryd.func5, Tryd.ntmps5
        go_wp2_with (first
          | (go_at_call 8; refine (awake_any _ (HT.out.keep hb)).mono ?_; rintro e w1 ⟨rfl, hb1⟩; replace hb := bel_trans hb hb1; clear hb1)
          | (go_at_call 9; (with_reducible refine (text_in k _ hk (HT.out.keep hb)).mono ?_); rintro e w1 ⟨rfl, hb1⟩; replace hb := bel_trans hb hb1; clear hb1)
          | (go_at_call 15; (with_reducible refine (read_in k _ hk (HT.out.keep hb)).mono ?_); rintro e w1 ⟨rfl, hb1⟩; replace hb := bel_trans hb hb1; clear hb1)
          | (go_at_call 11; (with_reducible refine (clock_in k _ hk2).mono ?_); rintro e w1 ⟨rfl, hb1⟩; replace hb := bel_trans hb hb1; clear hb1)
          | (go_at_call 17; (with_reducible refine (readClock_in k _ hk2).mono ?_); rintro e w1 ⟨rfl, hb1⟩; replace hb := bel_trans hb hb1; clear hb1)
          | (go_at_call 15; (with_reducible refine (read_none_any s _ (HT.out.keep hb) HR.out).mono ?_); rintro e w1 ⟨rfl, hb1⟩; replace hb := bel_trans hb hb1; clear hb1)
          | (go_at_call 17; (with_reducible refine (readC_none_any s _ HC.out).mono ?_); rintro e w1 ⟨rfl, hb1⟩; replace hb := bel_trans hb hb1; clear hb1))
        go_ret
        exact ⟨rfl, hb⟩
      | some t =>
        have HC := Lib.hid hc
        clear hc
        go_enter Tryd.func5, Tryd.ntmps5
        go_wp2_with (first
          | (go_at_call 8; refine (awake_any _ (HT.out.keep hb)).mono ?_; rintro e w1 ⟨rfl, hb1⟩; replace hb := bel_trans hb hb1; clear hb1)
          | (go_at_call 9; (with_reducible refine (text_in k _ hk (HT.out.keep hb)).mono ?_); rintro e w1 ⟨rfl, hb1⟩; replace hb := bel_trans hb hb1; clear hb1)
          | (go_at_call 15; (with_reducible refine (read_in k _ hk (HT.out.keep hb)).mono ?_); rintro e w1 ⟨rfl, hb1⟩; replace hb := bel_trans hb hb1; clear hb1)
          | (go_at_call 11; (with_reducible refine (clock_in k _ hk2).mono ?_); rintro e w1 ⟨rfl, hb1⟩; replace hb := bel_trans hb hb1; clear hb1)
          | (go_at_call 17; (with_reducible refine (readClock_in k _ hk2).mono ?_); rintro e w1 ⟨rfl, hb1⟩; replace hb := bel_trans hb hb1; clear hb1)
          | (go_at_call 15; (with_reducible refine (read_none_any s _ (HT.out.keep hb) HR.out).mono ?_); rintro e w1 ⟨rfl, hb1⟩; replace hb := bel_trans hb hb1; clear hb1)
          | (go_at_call 17; (with_reducible refine (readC_some_any s t _ HC.out).mono ?_); rintro e w1 ⟨rfl, hb1⟩; replace hb := bel_trans hb hb1; clear hb1)
          | (go_at_call 11; (with_reducible refine (clock_back s t _ HC.out).mono ?_); rintro e w1 ⟨rfl, hb1⟩; replace hb := bel_trans hb hb1; clear hb1))
        go_ret
        exact ⟨rfl, hb⟩
    | some d =>
      have HR := Lib.hid hr
      clear hr
      cases hc : readC s.data.toList with
      | none =>
        have HC := Lib.hid hc
        clear hc
        go_enter Tryd.func5, Tryd.ntmps5
        go_wp2_with (first
          | (go_at_call 8; refine (awake_any _ (HT.out.keep hb)).mono ?_; rintro e w1 ⟨rfl, hb1⟩; replace hb := bel_trans hb hb1; clear hb1)
          | (go_at_call 9; (with_reducible refine (text_in k _ hk (HT.out.keep hb)).mono ?_); rintro e w1 ⟨rfl, hb1⟩; replace hb := bel_trans hb hb1; clear hb1)
          | (go_at_call 15; (with_reducible refine (read_in k _ hk (HT.out.keep hb)).mono ?_); rintro e w1 ⟨rfl, hb1⟩; replace hb := bel_trans hb hb1; clear hb1)
          | (go_at_call 11; (with_reducible refine (clock_in k _ hk2).mono ?_); rintro e w1 ⟨rfl, hb1⟩; replace hb := bel_trans hb hb1; clear hb1)
          | (go_at_call 17; (with_reducible refine (readClock_in k _ hk2).mono ?_); rintro e w1 ⟨rfl, hb1⟩; replace hb := bel_trans hb hb1; clear hb1)
          | (go_at_call 15; (with_reducible refine (read_some_any s d _ (HT.out.keep hb) HR.out).mono ?_); rintro e w1 ⟨rfl, hb1⟩; replace hb := bel_trans hb hb1; clear hb1)
          | (go_at_call 9; (with_reducible refine (text_back s d _ (HT.out.keep hb) HR.out).mono ?_); rintro e w1 ⟨rfl, hb1⟩; replace hb := bel_trans hb hb1; clear hb1)
          | (go_at_call 17; (with_reducible refine (readC_none_any s _ HC.out).mono ?_); rintro e w1 ⟨rfl, hb1⟩; replace hb := bel_trans hb hb1; clear hb1))
        go_ret
        exact ⟨rfl, hb⟩
      | some t =>
        have HC := Lib.hid hc
        clear hc
        go_enter Tryd.func5, Tryd.ntmps5
        go_wp2_with (first
          | (go_at_call 8; refine (awake_any _ (HT.out.keep hb)).mono ?_; rintro e w1 ⟨rfl, hb1⟩; replace hb := bel_trans hb hb1; clear hb1)
          | (go_at_call 9; (with_reducible refine (text_in k _ hk (HT.out.keep hb)).mono ?_); rintro e w1 ⟨rfl, hb1⟩; replace hb := bel_trans hb hb1; clear hb1)
          | (go_at_call 15; (with_reducible refine (read_in k _ hk (HT.out.keep hb)).mono ?_); rintro e w1 ⟨rfl, hb1⟩; replace hb := bel_trans hb hb1; clear hb1)
          | (go_at_call 11; (with_reducible refine (clock_in k _ hk2).mono ?_); rintro e w1 ⟨rfl, hb1⟩; replace hb := bel_trans hb hb1; clear hb1)
          | (go_at_call 17; (with_reducible refine (readClock_in k _ hk2).mono ?_); rintro e w1 ⟨rfl, hb1⟩; replace hb := bel_trans hb hb1; clear hb1)
          | (go_at_call 15; (with_reducible refine (read_some_any s d _ (HT.out.keep hb) HR.out).mono ?_); rintro e w1 ⟨rfl, hb1⟩; replace hb := bel_trans hb hb1; clear hb1)
          | (go_at_call 9; (with_reducible refine (text_back s d _ (HT.out.keep hb) HR.out).mono ?_); rintro e w1 ⟨rfl, hb1⟩; replace hb := bel_trans hb hb1; clear hb1)
          | (go_at_call 17; (with_reducible refine (readC_some_any s t _ HC.out).mono ?_); rintro e w1 ⟨rfl, hb1⟩; replace hb := bel_trans hb hb1; clear hb1)
          | (go_at_call 11; (with_reducible refine (clock_back s t _ HC.out).mono ?_); rintro e w1 ⟨rfl, hb1⟩; replace hb := bel_trans hb hb1; clear hb1))
        go_ret
        exact ⟨rfl, hb⟩
  · have hno : n < 0 ∨ 366 ≤ n := by omega
    have HN := Lib.hid hno
    clear hno h1
    by_cases h2 : 0 ≤ n ∧ n < 1440
    · obtain ⟨k, rfl⟩ := Int.eq_ofNat_of_zero_le h2.1
      have hk2 : k < 1440 := by omega
      have z2 := cA_size k
      clear h2
      cases hr : readS s.data.toList with
      | none =>
        have HR := Lib.hid hr
        clear hr
        cases hc : readC s.data.toList with
        | none =>
          have HC := Lib.hid hc
          clear hc
          go_enter Tryd.func5, Tryd.ntmps5
          go_wp2_with (first
            | (go_at_call 8; refine (awake_any _ (HT.out.keep hb)).mono ?_; rintro e w1 ⟨rfl, hb1⟩; replace hb := bel_trans hb hb1; clear hb1)
            | (go_at_call 9; (with_reducible refine (text_no (k : Int) _ HN.out).mono ?_); rintro e w1 ⟨rfl, hb1⟩; replace hb := bel_trans hb hb1; clear hb1)
            | (go_at_call 11; (with_reducible refine (clock_in k _ hk2).mono ?_); rintro e w1 ⟨rfl, hb1⟩; replace hb := bel_trans hb hb1; clear hb1)
            | (go_at_call 17; (with_reducible refine (readClock_in k _ hk2).mono ?_); rintro e w1 ⟨rfl, hb1⟩; replace hb := bel_trans hb hb1; clear hb1)
            | (go_at_call 15; (with_reducible refine (read_none_any s _ (HT.out.keep hb) HR.out).mono ?_); rintro e w1 ⟨rfl, hb1⟩; replace hb := bel_trans hb hb1; clear hb1)
            | (go_at_call 17; (with_reducible refine (readC_none_any s _ HC.out).mono ?_); rintro e w1 ⟨rfl, hb1⟩; replace hb := bel_trans hb hb1; clear hb1))
          go_ret
          exact ⟨rfl, hb⟩
        | some t =>
          have HC := Lib.hid hc
          clear hc
          go_enter Tryd.func5, Tryd.ntmps5
          go_wp2_with (first
            | (go_at_call 8; refine (awake_any _ (HT.out.keep hb)).mono ?_; rintro e w1 ⟨rfl, hb1⟩; replace hb := bel_trans hb hb1; clear hb1)
            | (go_at_call 9; (with_reducible refine (text_no (k : Int) _ HN.out).mono ?_); rintro e w1 ⟨rfl, hb1⟩; replace hb := bel_trans hb hb1; clear hb1)
            | (go_at_call 11; (with_reducible refine (clock_in k _ hk2).mono ?_); rintro e w1 ⟨rfl, hb1⟩; replace hb := bel_trans hb hb1; clear hb1)
            | (go_at_call 17; (with_reducible refine (readClock_in k _ hk2).mono ?_); rintro e w1 ⟨rfl, hb1⟩; replace hb := bel_trans hb hb1; clear hb1)
            | (go_at_call 15; (with_reducible refine (read_none_any s _ (HT.out.keep hb) HR.out).mono ?_); rintro e w1 ⟨rfl, hb1⟩; replace hb := bel_trans hb hb1; clear hb1)
            | (go_at_call 17; (with_reducible refine (readC_some_any s t _ HC.out).mono ?_); rintro e w1 ⟨rfl, hb1⟩; replace hb := bel_trans hb hb1; clear hb1)
            | (go_at_call 11; (with_reducible refine (clock_back s t _ HC.out).mono ?_); rintro e w1 ⟨rfl, hb1⟩; replace hb := bel_trans hb hb1; clear hb1))
          go_ret
          exact ⟨rfl, hb⟩
      | some d =>
        have HR := Lib.hid hr
        clear hr
        cases hc : readC s.data.toList with
        | none =>
          have HC := Lib.hid hc
          clear hc
          go_enter Tryd.func5, Tryd.ntmps5
          go_wp2_with (first
            | (go_at_call 8; refine (awake_any _ (HT.out.keep hb)).mono ?_; rintro e w1 ⟨rfl, hb1⟩; replace hb := bel_trans hb hb1; clear hb1)
            | (go_at_call 9; (with_reducible refine (text_no (k : Int) _ HN.out).mono ?_); rintro e w1 ⟨rfl, hb1⟩; replace hb := bel_trans hb hb1; clear hb1)
            | (go_at_call 11; (with_reducible refine (clock_in k _ hk2).mono ?_); rintro e w1 ⟨rfl, hb1⟩; replace hb := bel_trans hb hb1; clear hb1)
            | (go_at_call 17; (with_reducible refine (readClock_in k _ hk2).mono ?_); rintro e w1 ⟨rfl, hb1⟩; replace hb := bel_trans hb hb1; clear hb1)
            | (go_at_call 15; (with_reducible refine (read_some_any s d _ (HT.out.keep hb) HR.out).mono ?_); rintro e w1 ⟨rfl, hb1⟩; replace hb := bel_trans hb hb1; clear hb1)
            | (go_at_call 9; (with_reducible refine (text_back s d _ (HT.out.keep hb) HR.out).mono ?_); rintro e w1 ⟨rfl, hb1⟩; replace hb := bel_trans hb hb1; clear hb1)
            | (go_at_call 17; (with_reducible refine (readC_none_any s _ HC.out).mono ?_); rintro e w1 ⟨rfl, hb1⟩; replace hb := bel_trans hb hb1; clear hb1))
          go_ret
          exact ⟨rfl, hb⟩
        | some t =>
          have HC := Lib.hid hc
          clear hc
          go_enter Tryd.func5, Tryd.ntmps5
          go_wp2_with (first
            | (go_at_call 8; refine (awake_any _ (HT.out.keep hb)).mono ?_; rintro e w1 ⟨rfl, hb1⟩; replace hb := bel_trans hb hb1; clear hb1)
            | (go_at_call 9; (with_reducible refine (text_no (k : Int) _ HN.out).mono ?_); rintro e w1 ⟨rfl, hb1⟩; replace hb := bel_trans hb hb1; clear hb1)
            | (go_at_call 11; (with_reducible refine (clock_in k _ hk2).mono ?_); rintro e w1 ⟨rfl, hb1⟩; replace hb := bel_trans hb hb1; clear hb1)
            | (go_at_call 17; (with_reducible refine (readClock_in k _ hk2).mono ?_); rintro e w1 ⟨rfl, hb1⟩; replace hb := bel_trans hb hb1; clear hb1)
            | (go_at_call 15; (with_reducible refine (read_some_any s d _ (HT.out.keep hb) HR.out).mono ?_); rintro e w1 ⟨rfl, hb1⟩; replace hb := bel_trans hb hb1; clear hb1)
            | (go_at_call 9; (with_reducible refine (text_back s d _ (HT.out.keep hb) HR.out).mono ?_); rintro e w1 ⟨rfl, hb1⟩; replace hb := bel_trans hb hb1; clear hb1)
            | (go_at_call 17; (with_reducible refine (readC_some_any s t _ HC.out).mono ?_); rintro e w1 ⟨rfl, hb1⟩; replace hb := bel_trans hb hb1; clear hb1)
            | (go_at_call 11; (with_reducible refine (clock_back s t _ HC.out).mono ?_); rintro e w1 ⟨rfl, hb1⟩; replace hb := bel_trans hb hb1; clear hb1))
          go_ret
          exact ⟨rfl, hb⟩
    · have hno : n < 0 ∨ 1440 ≤ n := by omega
      have HM := Lib.hid hno
      clear hno h2
      cases hr : readS s.data.toList with
      | none =>
        have HR := Lib.hid hr
        clear hr
        cases hc : readC s.data.toList with
        | none =>
          have HC := Lib.hid hc
          clear hc
          go_enter Tryd.func5, Tryd.ntmps5
          go_wp2_with (first
            | (go_at_call 8; refine (awake_any _ (HT.out.keep hb)).mono ?_; rintro e w1 ⟨rfl, hb1⟩; replace hb := bel_trans hb hb1; clear hb1)
            | (go_at_call 9; (with_reducible refine (text_no n _ HN.out).mono ?_); rintro e w1 ⟨rfl, hb1⟩; replace hb := bel_trans hb hb1; clear hb1)
            | (go_at_call 11; (with_reducible refine (clock_no n _ HM.out).mono ?_); rintro e w1 ⟨rfl, hb1⟩; replace hb := bel_trans hb hb1; clear hb1)
            | (go_at_call 15; (with_reducible refine (read_none_any s _ (HT.out.keep hb) HR.out).mono ?_); rintro e w1 ⟨rfl, hb1⟩; replace hb := bel_trans hb hb1; clear hb1)
            | (go_at_call 17; (with_reducible refine (readC_none_any s _ HC.out).mono ?_); rintro e w1 ⟨rfl, hb1⟩; replace hb := bel_trans hb hb1; clear hb1))
          go_ret
          exact ⟨rfl, hb⟩
        | some t =>
          have HC := Lib.hid hc
          clear hc
          go_enter Tryd.func5, Tryd.ntmps5
          go_wp2_with (first
            | (go_at_call 8; refine (awake_any _ (HT.out.keep hb)).mono ?_; rintro e w1 ⟨rfl, hb1⟩; replace hb := bel_trans hb hb1; clear hb1)
            | (go_at_call 9; (with_reducible refine (text_no n _ HN.out).mono ?_); rintro e w1 ⟨rfl, hb1⟩; replace hb := bel_trans hb hb1; clear hb1)
            | (go_at_call 11; (with_reducible refine (clock_no n _ HM.out).mono ?_); rintro e w1 ⟨rfl, hb1⟩; replace hb := bel_trans hb hb1; clear hb1)
            | (go_at_call 15; (with_reducible refine (read_none_any s _ (HT.out.keep hb) HR.out).mono ?_); rintro e w1 ⟨rfl, hb1⟩; replace hb := bel_trans hb hb1; clear hb1)
            | (go_at_call 17; (with_reducible refine (readC_some_any s t _ HC.out).mono ?_); rintro e w1 ⟨rfl, hb1⟩; replace hb := bel_trans hb hb1; clear hb1)
            | (go_at_call 11; (with_reducible refine (clock_back s t _ HC.out).mono ?_); rintro e w1 ⟨rfl, hb1⟩; replace hb := bel_trans hb hb1; clear hb1))
          go_ret
          exact ⟨rfl, hb⟩
      | some d =>
        have HR := Lib.hid hr
        clear hr
        cases hc : readC s.data.toList with
        | none =>
          have HC := Lib.hid hc
          clear hc
          go_enter Tryd.func5, Tryd.ntmps5
          go_wp2_with (first
            | (go_at_call 8; refine (awake_any _ (HT.out.keep hb)).mono ?_; rintro e w1 ⟨rfl, hb1⟩; replace hb := bel_trans hb hb1; clear hb1)
            | (go_at_call 9; (with_reducible refine (text_no n _ HN.out).mono ?_); rintro e w1 ⟨rfl, hb1⟩; replace hb := bel_trans hb hb1; clear hb1)
            | (go_at_call 11; (with_reducible refine (clock_no n _ HM.out).mono ?_); rintro e w1 ⟨rfl, hb1⟩; replace hb := bel_trans hb hb1; clear hb1)
            | (go_at_call 15; (with_reducible refine (read_some_any s d _ (HT.out.keep hb) HR.out).mono ?_); rintro e w1 ⟨rfl, hb1⟩; replace hb := bel_trans hb hb1; clear hb1)
            | (go_at_call 9; (with_reducible refine (text_back s d _ (HT.out.keep hb) HR.out).mono ?_); rintro e w1 ⟨rfl, hb1⟩; replace hb := bel_trans hb hb1; clear hb1)
            | (go_at_call 17; (with_reducible refine (readC_none_any s _ HC.out).mono ?_); rintro e w1 ⟨rfl, hb1⟩; replace hb := bel_trans hb hb1; clear hb1))
          go_ret
          exact ⟨rfl, hb⟩
        | some t =>
          have HC := Lib.hid hc
          clear hc
          go_enter Tryd.func5, Tryd.ntmps5
          go_wp2_with (first
            | (go_at_call 8; refine (awake_any _ (HT.out.keep hb)).mono ?_; rintro e w1 ⟨rfl, hb1⟩; replace hb := bel_trans hb hb1; clear hb1)
            | (go_at_call 9; (with_reducible refine (text_no n _ HN.out).mono ?_); rintro e w1 ⟨rfl, hb1⟩; replace hb := bel_trans hb hb1; clear hb1)
            | (go_at_call 11; (with_reducible refine (clock_no n _ HM.out).mono ?_); rintro e w1 ⟨rfl, hb1⟩; replace hb := bel_trans hb hb1; clear hb1)
            | (go_at_call 15; (with_reducible refine (read_some_any s d _ (HT.out.keep hb) HR.out).mono ?_); rintro e w1 ⟨rfl, hb1⟩; replace hb := bel_trans hb hb1; clear hb1)
            | (go_at_call 9; (with_reducible refine (text_back s d _ (HT.out.keep hb) HR.out).mono ?_); rintro e w1 ⟨rfl, hb1⟩; replace hb := bel_trans hb hb1; clear hb1)
            | (go_at_call 17; (with_reducible refine (readC_some_any s t _ HC.out).mono ?_); rintro e w1 ⟨rfl, hb1⟩; replace hb := bel_trans hb hb1; clear hb1)
            | (go_at_call 11; (with_reducible refine (clock_back s t _ HC.out).mono ?_); rintro e w1 ⟨rfl, hb1⟩; replace hb := bel_trans hb hb1; clear hb1))
          go_ret
          exact ⟨rfl, hb⟩
end Go.Proofs.YtpfgmmmeofnkoaaDoor
