/- Flights' keys, either, the lines of errors and faults (program and reference). -/
import Derived.Test.YtahghakpmjfefaaDoorSD
import Derived.Test.YtahghakpmjfefaaDoorKB
import Derived.Test.YtahghakpmjfefaaDoorKA
namespace Go.Proofs.YtahghakpmjfefaaDoor.Sh
open Go.RowKit En
set_option linter.unusedSimpArgs false
set_option linter.unusedVariables false
set_option maxRecDepth 20000

theorem sum_ok {a b : Nat} (h : a + b ≤ 1152921504606846976) : ¬ 9223372036854775807 < a + b := by omega
theorem txt_le {s : ByteArray} {l : List UInt8} {n : Nat} (h : toL s = l) (hl : l.length ≤ n) : s.size ≤ n := by rw [txt_size h]; exact hl

/-- The number's text, wherever memory is as it was. -/
theorem itoaH {w : World} (ht : PowTab w) (n : Int) (hn : (Lit.int .i64 n).wf = true) : RowKit.Hid (∀ W, Below w.heap.size w W → Calls Tryd.prog 30 #[.int .i64 n] W fun e w' => (∃ s : ByteArray, e = .returned (.string s) ∧ toL s = itoaL n ∧ s.size ≤ 20) ∧ Below W.heap.size W w') := Lib.hid fun W hW => (itoa_t n hn W (powTab_keep ht hW)).mono fun e w' ⟨⟨s, h1, h2⟩, hb⟩ => ⟨⟨s, h1, h2, txt_le h2 (itoaL_len n hn)⟩, hb⟩
theorem digitsH {w : World} (n : Int) (h0 : 0 ≤ n) (hn : (Lit.int .i64 n).wf = true) : RowKit.Hid (∀ W, Calls Tryd.prog 41 #[.int .i64 n] W fun e w' => (∃ s : ByteArray, e = .returned (.string s) ∧ toL s = itoaL n ∧ s.size ≤ 20) ∧ Below W.heap.size W w') := Lib.hid fun W => by
  have hb63 : n ≤ 9223372036854775807 := by
    simp [Lit.wf, IntKind.min, IntKind.max, IntKind.signed, IntKind.bits] at hn
    omega
  have hl := itoaL_len n hn
  obtain ⟨N, rfl⟩ := Int.eq_ofNat_of_zero_le h0
  refine (digits_all N W hb63).mono fun e w' ⟨⟨s, h1, h2⟩, hb⟩ => ⟨⟨s, h1, ?_, ?_⟩, hb⟩
  · unfold itoaL; rw [if_neg (by omega)]; exact h2
  · refine txt_le (l := itoaL (N : Int)) ?_ hl
    unfold itoaL; rw [if_neg (by omega)]; exact h2

set_option maxHeartbeats 4000000 in
theorem flText_any (car : ByteArray) (num : Int) (w : World) (hc : car.size ≤ 1125899906842624) (hn : (Lit.int .i64 num).wf = true) (ht : PowTab w) :
    Calls Tryd.prog 31 #[.agg #[.string car, .int .i64 num]] w fun e w' => TxtE (flTx car num) e ∧ Below w.heap.size w w' := by
  have HF1 : RowKit.Hid (¬ num < 1 → flTx car num = toL car ++ itoaL num) := Lib.hid fun h => if_neg h
  by_cases h1 : num < 1
  · go_enter Tryd.func31, Tryd.ntmps31
    go_wp2
    go_ret
    exact ⟨⟨_, rfl, by unfold flTx; rw [if_pos h1]⟩, (Below.refl _ _).alloc (Nat.le_refl _) _⟩
  have HF2 := Lib.hid (HF1.out h1)
  have HI := itoaH ht num hn
  have hB := Blk.new w 38 [.string car, .int .i64 num]
  have hb1 : Below w.heap.size w (w.alloc (.cells #[.string car, .int .i64 num] 38)) := (Below.refl _ _).alloc (Nat.le_refl _) _
  have HCS : RowKit.Hid (car.size + 20 ≤ 1152921504606846976) := Lib.hid (by omega)
  simp only [List.toArray] at hB
  generalize hw1 : w.alloc (.cells #[.string car, .int .i64 num] 38) = w1 at hB hb1
  have HSX : RowKit.Hid (∀ W, Below w1.heap.size w1 W → W.cell? ⟨w.heap.size, 0, none⟩ = some (.string car) ∧ W.cell? ⟨w.heap.size, 1, none⟩ = some (.int .i64 num) ∧ Below w1.heap.size w1 W) := Lib.hid fun W h => ⟨((hB.mono h).cell 0).trans rfl, ((hB.mono h).cell 1).trans rfl, h⟩
  have HB := Lib.hid hb1
  have c1 : w1.cell? ⟨w.heap.size, 1, none⟩ = some (.int .i64 num) := (hB.cell 1).trans rfl
  clear hB hb1 hc ht hn
  go_enter Tryd.func31, Tryd.ntmps31
  go_upto_region 1 with fail
  try rw [hw1]
  clear hw1
  go_upto_region 3 with fail
  have hS0 := HSX.out w1.drew (Below.refl _ _).drew
  clear c1
  go_region_held3 (fun W => W.cell? ⟨w.heap.size, 0, none⟩ = some (.string car) ∧ W.cell? ⟨w.heap.size, 1, none⟩ = some (.int .i64 num) ∧ Below w1.heap.size w1 W)
    (first
      | exact hS0
      | assumption
      | exact HSX.out _ (bel_trans (show _ ∧ _ ∧ Below w1.heap.size w1 _ by assumption).2.2 hb5))
    (first
      | (go_at_call 30; (with_reducible refine (HI.out _ (below_w HB.out (show _ ∧ _ ∧ Below w1.heap.size w1 _ by assumption).2.2)).mono ?_); rintro e w5 ⟨⟨s, rfl, hs, hz⟩, hb5⟩; have hzz := sum_ok (a := car.size) (b := s.size) (by have := HCS.out; omega)))
  have hy : Below w1.heap.size w1 w5 := (show _ ∧ _ ∧ Below w1.heap.size w1 w5 by assumption).2.2
  go_wp2
  go_ret
  exact ⟨⟨_, rfl, by rw [HF2.out, toL_app, hs]⟩, below_w HB.out hy⟩

set_option maxHeartbeats 4000000 in
theorem rflText_any (car : ByteArray) (num : Int) (w : World) (hc : car.size ≤ 1125899906842624) (hn : (Lit.int .i64 num).wf = true) :
    Calls Tryd.prog 36 #[.agg #[.string car, .int .i64 num]] w fun e w' => TxtE (flTx car num) e ∧ Below w.heap.size w w' := by
  have HF1 : RowKit.Hid (¬ num < 1 → flTx car num = toL car ++ itoaL num) := Lib.hid fun h => if_neg h
  by_cases h1 : num < 1
  · go_enter Tryd.func36, Tryd.ntmps36
    go_wp2
    go_ret
    exact ⟨⟨_, rfl, by unfold flTx; rw [if_pos h1]⟩, (Below.refl _ _).alloc (Nat.le_refl _) _⟩
  have HF2 := Lib.hid (HF1.out h1)
  have HI := digitsH (w := w) num (by omega) hn
  have hB := Blk.new w 38 [.string car, .int .i64 num]
  have hb1 : Below w.heap.size w (w.alloc (.cells #[.string car, .int .i64 num] 38)) := (Below.refl _ _).alloc (Nat.le_refl _) _
  have HCS : RowKit.Hid (car.size + 20 ≤ 1152921504606846976) := Lib.hid (by omega)
  simp only [List.toArray] at hB
  generalize hw1 : w.alloc (.cells #[.string car, .int .i64 num] 38) = w1 at hB hb1
  have HSX : RowKit.Hid (∀ W, Below w1.heap.size w1 W → W.cell? ⟨w.heap.size, 0, none⟩ = some (.string car) ∧ W.cell? ⟨w.heap.size, 1, none⟩ = some (.int .i64 num) ∧ Below w1.heap.size w1 W) := Lib.hid fun W h => ⟨((hB.mono h).cell 0).trans rfl, ((hB.mono h).cell 1).trans rfl, h⟩
  have HB := Lib.hid hb1
  have c1 : w1.cell? ⟨w.heap.size, 1, none⟩ = some (.int .i64 num) := (hB.cell 1).trans rfl
  clear hB hb1 hc hn
  go_enter Tryd.func36, Tryd.ntmps36
  go_upto_region 1 with fail
  try rw [hw1]
  clear hw1
  go_upto_region 3 with fail
  have hS0 := HSX.out w1.drew (Below.refl _ _).drew
  clear c1
  go_region_held3 (fun W => W.cell? ⟨w.heap.size, 0, none⟩ = some (.string car) ∧ W.cell? ⟨w.heap.size, 1, none⟩ = some (.int .i64 num) ∧ Below w1.heap.size w1 W)
    (first
      | exact hS0
      | assumption
      | exact HSX.out _ (bel_trans (show _ ∧ _ ∧ Below w1.heap.size w1 _ by assumption).2.2 hb5))
    (first
      | (go_at_call 41; (with_reducible refine (HI.out _).mono ?_); rintro e w5 ⟨⟨s, rfl, hs, hz⟩, hb5⟩; have hzz := sum_ok (a := car.size) (b := s.size) (by have := HCS.out; omega)))
  have hy : Below w1.heap.size w1 w5 := (show _ ∧ _ ∧ Below w1.heap.size w1 w5 by assumption).2.2
  go_wp2
  go_ret
  exact ⟨⟨_, rfl, by rw [HF2.out, toL_app, hs]⟩, below_w HB.out hy⟩

theorem either_any (s o : ByteArray) (w : World) :
    Calls Tryd.prog 28 #[.string s, .string o] w fun e w' => TxtE (orL s (toL o)) e ∧ w = w' := by
  cases hs : s.toList.isEmpty with
  | true =>
    have he : toL s = [] := by rw [List.isEmpty_iff, ByteArray.toList_eq] at hs; exact hs
    have HE := Lib.hid he
    clear he
    go_enter Tryd.func28, Tryd.ntmps28
    go_wp2
    go_ret
    exact ⟨⟨_, rfl, by unfold orL; rw [if_pos HE.out]⟩, rfl⟩
  | false =>
    have he : toL s ≠ [] := fun h => by rw [show s.toList = [] by rw [ByteArray.toList_eq]; exact h] at hs; cases hs
    have HE := Lib.hid he
    clear he
    go_enter Tryd.func28, Tryd.ntmps28
    go_wp2
    go_ret
    exact ⟨⟨_, rfl, by unfold orL; rw [if_neg HE.out]⟩, rfl⟩
end Go.Proofs.YtahghakpmjfefaaDoor.Sh
