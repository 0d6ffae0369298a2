/- Flights' keys, either, the lines of errors and faults (program and reference). -/
import Derived.Test.YtmhhbnnjilbdnaaGreatDoorKA
import Derived.Test.YtmhhbnnjilbdnaaGreatDoorKB
import Derived.Test.YtmhhbnnjilbdnaaGreatDoorKF
import Derived.Test.YtmhhbnnjilbdnaaGreatDoorPlnP
import Derived.Test.YtmhhbnnjilbdnaaGreatDoorKG
import Derived.Test.YtmhhbnnjilbdnaaGreatDoorSA
import Derived.Test.YtmhhbnnjilbdnaaGreatDoorSB
import Derived.Test.YtmhhbnnjilbdnaaGreatDoorRows
import Derived.WalkKit
import Derived.WalkSpells
import Derived.WalkLawsBesides
import Derived.Lib.ConvBytes
import Derived.Lib.Hide
import Derived.Lib.SliceRun
import Derived.IntWalk
import Derived.BigQuiet
import Derived.Deep.QuietTactic
import Derived.Deep.RegionWith
import Derived.Deep.RegionHeld3
import Derived.Deep.LoopGhost
import Derived.Deep.CutRange
import Derived.Deep.CutBlock
import Derived.Deep.MidRow
import Derived.Laws.OwnMore
import Derived.OwnWalk
import Derived.Laws.AppendOwnNone
import Derived.Laws.Rows
import Derived.Laws.MakeOwn
import Derived.Laws.CopyOwn
import Derived.Laws.BitsAllLaws
import Derived.DeepKeys5
import Derived.Maps.OwnOps
import Derived.Handy
import Derived.Lib.AppendStr
import Derived.StillTailTactics
import Derived.Deep.AppendLies
import Derived.ProofKit
import Derived.OpenShut
import Derived.SliceStrings
import Derived.Lib.SmallJoins
import Derived.Deep.SlicePairs
import Derived.ChangeSlices
import Derived.WideKeyEntry
import Derived.Tactics2
import Derived.Defers
import Derived.Recover
import Derived.Shelf.Strconv.Itoa0
import Derived.Shelf.Strconv.Itoa1
import Derived.Shelf.LaysM
import Derived.Shelf.Strconv.Itoa2
import Derived.Shelf.Strconv.Itoa3
import Derived.Maps.AppendAt
import Derived.Lib.Bytealg
import Derived.Deep.RegionLaw
import Derived.Shelf.Strings.Builder1
import Derived.Shelf.Strings.Builder2
import Derived.Shelf.Strings.Count
import Derived.Shelf.Strings.Split
import Derived.Shelf.Strings.Replace
namespace Go.Proofs.YtmhhbnnjilbdnaaGreatDoor.Sh
open Go.RowKit En
set_option linter.unusedSimpArgs false
set_option linter.unusedVariables false
set_option maxRecDepth 20000

theorem sum_ok {a b : Nat} (h : a + b ≤ 1152921504606846976) : ¬ 9223372036854775807 < a + b := by omega
theorem txt_le {s : ByteArray} {l : List UInt8} {n : Nat} (h : toL s = l) (hl : l.length ≤ n) : s.size ≤ n := by rw [txt_size h]; exact hl

/-- The number's text, wherever memory is as it was. -/
theorem itoaH {w : World} (ht : PowTab w) (n : Int) (hn : (Lit.int .i64 n).wf = true) : RowKit.Hid (∀ W, Below w.heap.size w W → Calls Tryz.prog 28 #[.int .i64 n] W fun e w' => (∃ s : ByteArray, e = .returned (.string s) ∧ toL s = itoaL n ∧ s.size ≤ 20) ∧ Below W.heap.size W w') := Lib.hid fun W hW => (itoa_t n hn W (powTab_keep ht hW)).mono fun e w' ⟨⟨s, h1, h2⟩, hb⟩ => ⟨⟨s, h1, h2, txt_le h2 (itoaL_len n hn)⟩, hb⟩
set_option maxHeartbeats 4000000 in
theorem flText_any (car : ByteArray) (num : Int) (w : World) (hc : car.size ≤ 1125899906842624) (hn : (Lit.int .i64 num).wf = true) (ht : PowTab w) :
    Calls Tryz.prog 29 #[.agg #[.string car, .int .i64 num]] w fun e w' => TxtE (flTx car num) e ∧ Below w.heap.size w w' := by
  have HF1 : RowKit.Hid (¬ num < 1 → flTx car num = toL car ++ itoaL num) := Lib.hid fun h => if_neg h
  by_cases h1 : num < 1
  · go_enter Tryz.func29, Tryz.ntmps29
    go_wp2
    go_ret
    exact ⟨⟨_, rfl, by unfold flTx; rw [if_pos h1]⟩, (Below.refl _ _).alloc (Nat.le_refl _) _⟩
  have HF2 := Lib.hid (HF1.out h1)
  have HI := itoaH ht num hn
  have hB := Blk.new w 40 [.string car, .int .i64 num]
  have hb1 : Below w.heap.size w (w.alloc (.cells #[.string car, .int .i64 num] 40)) := (Below.refl _ _).alloc (Nat.le_refl _) _
  have HCS : RowKit.Hid (car.size + 20 ≤ 1152921504606846976) := Lib.hid (by omega)
  simp only [List.toArray] at hB
  generalize hw1 : w.alloc (.cells #[.string car, .int .i64 num] 40) = w1 at hB hb1
  have HSX : RowKit.Hid (∀ W, Below w1.heap.size w1 W → W.cell? ⟨w.heap.size, 0, none⟩ = some (.string car) ∧ W.cell? ⟨w.heap.size, 1, none⟩ = some (.int .i64 num) ∧ Below w1.heap.size w1 W) := Lib.hid fun W h => ⟨((hB.mono h).cell 0).trans rfl, ((hB.mono h).cell 1).trans rfl, h⟩
  have HB := Lib.hid hb1
  have c1 : w1.cell? ⟨w.heap.size, 1, none⟩ = some (.int .i64 num) := (hB.cell 1).trans rfl
  clear hB hb1 hc ht hn
  go_enter Tryz.func29, Tryz.ntmps29
  go_upto_region 1 with fail
  try rw [hw1]
  clear hw1
  go_upto_region 3 with fail
  have hS0 := HSX.out w1.drew (Below.refl _ _).drew
  clear c1
  go_region_held3 (fun W => W.cell? ⟨w.heap.size, 0, none⟩ = some (.string car) ∧ W.cell? ⟨w.heap.size, 1, none⟩ = some (.int .i64 num) ∧ Below w1.heap.size w1 W)
    (first
      | exact hS0
      | assumption
      | exact HSX.out _ (bel_trans (show _ ∧ _ ∧ Below w1.heap.size w1 _ by assumption).2.2 hb5))
    (first
      | (go_at_call 28; (with_reducible refine (HI.out _ (below_w HB.out (show _ ∧ _ ∧ Below w1.heap.size w1 _ by assumption).2.2)).mono ?_); rintro e w5 ⟨⟨s, rfl, hs, hz⟩, hb5⟩; have hzz := sum_ok (a := car.size) (b := s.size) (by have := HCS.out; omega)))
  have hy : Below w1.heap.size w1 w5 := (show _ ∧ _ ∧ Below w1.heap.size w1 w5 by assumption).2.2
  go_wp2
  go_ret
  exact ⟨⟨_, rfl, by rw [HF2.out, toL_app, hs]⟩, below_w HB.out hy⟩

theorem either_any (s o : ByteArray) (w : World) :
    Calls Tryz.prog 26 #[.string s, .string o] w fun e w' => TxtE (orL s (toL o)) e ∧ w = w' := by
  cases hs : s.toList.isEmpty with
  | true =>
    have he : toL s = [] := by rw [List.isEmpty_iff, ByteArray.toList_eq] at hs; exact hs
    have HE := Lib.hid he
    clear he
    go_enter Tryz.func26, Tryz.ntmps26
    go_wp2
    go_ret
    exact ⟨⟨_, rfl, by unfold orL; rw [if_pos HE.out]⟩, rfl⟩
  | false =>
    have he : toL s ≠ [] := fun h => by rw [show s.toList = [] by rw [ByteArray.toList_eq]; exact h] at hs; cases hs
    have HE := Lib.hid he
    clear he
    go_enter Tryz.func26, Tryz.ntmps26
    go_wp2
    go_ret
    exact ⟨⟨_, rfl, by unfold orL; rw [if_neg HE.out]⟩, rfl⟩
end Go.Proofs.YtmhhbnnjilbdnaaGreatDoor.Sh
