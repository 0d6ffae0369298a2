/- The line of a ticketing field; the closure that adds a line (the program's). The line of a ticketing field (the reference's). -/
import Derived.Test.YtmhhbnnjilbdnaaGreatDoorKA
import Derived.Test.YtmhhbnnjilbdnaaGreatDoorKB
import Derived.Test.YtmhhbnnjilbdnaaGreatDoorKF
import Derived.Test.YtmhhbnnjilbdnaaGreatDoorPlnP
import Derived.Test.YtmhhbnnjilbdnaaGreatDoorKG
import Derived.Test.YtmhhbnnjilbdnaaGreatDoorSA
import Derived.Test.YtmhhbnnjilbdnaaGreatDoorSB
import Derived.Test.YtmhhbnnjilbdnaaGreatDoorSD
import Derived.Test.YtmhhbnnjilbdnaaGreatDoorSC
import Derived.Test.YtmhhbnnjilbdnaaGreatDoorRows
import Derived.WalkKit
import Derived.WalkSpells
import Derived.WalkLawsBesides
import Derived.Lib.ConvBytes
import Derived.Lib.Hide
import Derived.Lib.SliceRun
import Derived.IntWalk
import Derived.BigQuiet
import Derived.Deep.QuietTactic
import Derived.Deep.RegionWith
import Derived.Deep.RegionHeld3
import Derived.Deep.LoopGhost
import Derived.Deep.CutRange
import Derived.Deep.CutBlock
import Derived.Deep.MidRow
import Derived.Laws.OwnMore
import Derived.OwnWalk
import Derived.Laws.AppendOwnNone
import Derived.Laws.Rows
import Derived.Laws.MakeOwn
import Derived.Laws.CopyOwn
import Derived.Laws.BitsAllLaws
import Derived.DeepKeys5
import Derived.Maps.OwnOps
import Derived.Handy
import Derived.Lib.AppendStr
import Derived.StillTailTactics
import Derived.Deep.AppendLies
import Derived.ProofKit
import Derived.OpenShut
import Derived.SliceStrings
import Derived.Lib.SmallJoins
import Derived.Deep.SlicePairs
import Derived.ChangeSlices
import Derived.WideKeyEntry
import Derived.Tactics2
import Derived.Defers
import Derived.Recover
import Derived.Shelf.Strconv.Itoa0
import Derived.Shelf.Strconv.Itoa1
import Derived.Shelf.LaysM
import Derived.Shelf.Strconv.Itoa2
import Derived.Shelf.Strconv.Itoa3
import Derived.Maps.AppendAt
import Derived.Lib.Bytealg
import Derived.Deep.RegionLaw
import Derived.Shelf.Strings.Builder1
import Derived.Shelf.Strings.Builder2
import Derived.Shelf.Strings.Count
import Derived.Shelf.Strings.Split
import Derived.Shelf.Strings.Replace
namespace Go.Proofs.YtmhhbnnjilbdnaaGreatDoor.Sh
open Go.RowKit En Go.ChangeMaps
set_option linter.unusedSimpArgs false
set_option linter.unusedVariables false
set_option maxRecDepth 20000

set_option maxHeartbeats 8000000 in
theorem ticket_any (p : PnrT) (vn vs vp vr vx : Value) (w : World) (ht : Da.LenTab w) :
    Calls Tryz.prog 31 #[.agg (pnrC p vn vs vp vr vx).toArray] w fun e w' => TxtE (tickLn p) e ∧ Below w.heap.size w w' := by
  have hbk := Blk.new w 29 (pnrC p vn vs vp vr vx)
  have hb1 : Below w.heap.size w (w.alloc (.cells (pnrC p vn vs vp vr vx).toArray 29)) := (Below.refl _ _).alloc (Nat.le_refl _) _
  obtain ⟨loc, off, names, segs, phones, tk, td, tm, recv, remarks, seats, queued⟩ := p
  unfold pnrC at hbk hb1 ⊢
  simp only [List.toArray] at hbk hb1 ⊢
  generalize hw1 : w.alloc (.cells #[.string loc, .string off, vn, vs, vp, .int .i64 tk, .int .i64 td, .int .i64 tm, .string recv, vr, vx, .bool queued] 29) = w1 at hbk hb1
  have HB := Lib.hid hb1
  have HK := Lib.hid hbk
  have c5 : w1.cell? ⟨w.heap.size, 5, none⟩ = some (.int .i64 tk) := (hbk.cell 5).trans rfl
  have HDY : RowKit.Hid (∀ W, Below w.heap.size w W → Calls Tryz.prog 30 #[.int .i64 td] W fun e w' => (∃ s : ByteArray, e = .returned (.string s) ∧ toL s = dTx td ∧ s.size ≤ 5) ∧ Below W.heap.size W w') := Lib.hid fun W hW => (day_any td W (ht.keep hW)).mono fun e w' ⟨⟨s, a, b⟩, hb⟩ => ⟨⟨s, a, b, txt_le b (dTx_len td)⟩, hb⟩
  have HCL : RowKit.Hid (∀ W, Calls Tryz.prog 45 #[.int .i64 tm] W fun e w' => (∃ s : ByteArray, e = .returned (.string s) ∧ toL s = cTx tm ∧ s.size ≤ 4) ∧ Below W.heap.size W w') := Lib.hid fun W => (clock_anyS tm W).mono fun e w' ⟨⟨s, a, b⟩, hb⟩ => ⟨⟨s, a, b, txt_le b (cTx_len tm)⟩, hb⟩
  clear hbk hb1 ht
  go_enter Tryz.func31, Tryz.ntmps31
  go_upto_region 1 with fail
  try rw [hw1]
  clear hw1
  by_cases k0 : tk = 0
  · subst k0
    go_wp2
    go_ret
    exact ⟨⟨_, rfl, rfl⟩, HB.out⟩
  have g0 : (tk == 0) = false := by rw [beq_eq_false_iff_ne]; exact k0
  have HK0 := Lib.hid k0
  clear k0
  by_cases k2 : tk = 2
  · subst k2
    go_wp2
    go_ret
    exact ⟨⟨_, rfl, rfl⟩, HB.out⟩
  have g2 : (tk == 2) = false := by rw [beq_eq_false_iff_ne]; exact k2
  have HK2 := Lib.hid k2
  clear k2
  by_cases k1 : tk = 1
  rotate_left
  · have g1 : (tk == 1) = false := by rw [beq_eq_false_iff_ne]; exact k1
    have HK1 := Lib.hid k1
    clear k1
    go_wp2
    go_ret
    exact ⟨⟨_, rfl, by unfold tickLn; rw [if_neg HK0.out, if_neg HK2.out, if_neg HK1.out]; rfl⟩, HB.out⟩
  subst k1
  have HSX : RowKit.Hid (∀ W, Below w1.heap.size w1 W → W.cell? ⟨w.heap.size, 6, none⟩ = some (.int .i64 td) ∧ W.cell? ⟨w.heap.size, 7, none⟩ = some (.int .i64 tm) ∧ Below w1.heap.size w1 W) := Lib.hid fun W h => ⟨((HK.out.mono h).cell 6).trans rfl, ((HK.out.mono h).cell 7).trans rfl, h⟩
  go_upto_region 7 with fail
  have hS0 := HSX.out w1.drew (Below.refl _ _).drew
  go_region_held3 (fun W => W.cell? ⟨w.heap.size, 6, none⟩ = some (.int .i64 td) ∧ W.cell? ⟨w.heap.size, 7, none⟩ = some (.int .i64 tm) ∧ Below w1.heap.size w1 W)
    (first
      | exact hS0
      | assumption
      | exact HSX.out _ (bel_trans (show _ ∧ _ ∧ Below w1.heap.size w1 _ by assumption).2.2 hbd)
      | exact HSX.out _ (bel_trans (show _ ∧ _ ∧ Below w1.heap.size w1 _ by assumption).2.2 hbc))
    (first
      | (go_at_call 30; (with_reducible refine (HDY.out _ (below_w HB.out (show _ ∧ _ ∧ Below w1.heap.size w1 _ by assumption).2.2)).mono ?_); rintro e wd ⟨⟨sd, rfl, hsd, hzd⟩, hbd⟩; have q1 := sum_ok (a := 8) (b := sd.size) (by omega); have q2 := sum_ok (a := 8 + sd.size) (b := 1) (by omega))
      | (go_at_call 45; (with_reducible refine (HCL.out _).mono ?_); rintro e wc ⟨⟨sc, rfl, hsc, hzc⟩, hbc⟩; have q3 := sum_ok (a := 8 + sd.size + 1) (b := sc.size) (by omega)))
  have hy : Below w1.heap.size w1 wc := (show _ ∧ _ ∧ Below w1.heap.size w1 wc by assumption).2.2
  have c11 : wc.cell? ⟨w.heap.size, 11, none⟩ = some (.bool queued) := ((HK.out.mono hy).cell 11).trans rfl
  have hX : toL ((⟨#[84, 32, 76, 73, 77, 73, 84, 32]⟩ : ByteArray) ++ sd ++ ⟨#[47]⟩ ++ sc) = [84, 32, 76, 73, 77, 73, 84, 32] ++ (dTx td ++ (47 :: cTx tm)) := by simp [toL_app, toL_lit, hsd, hsc]
  have hXz : ((⟨#[84, 32, 76, 73, 77, 73, 84, 32]⟩ : ByteArray) ++ sd ++ ⟨#[47]⟩ ++ sc).size ≤ 30 := by
    simp only [ByteArray.size_append]
    show 8 + sd.size + 1 + sc.size ≤ 30
    omega
  generalize (⟨#[84, 32, 76, 73, 77, 73, 84, 32]⟩ : ByteArray) ++ sd ++ ⟨#[47]⟩ ++ sc = SX at hX hXz ⊢
  have HX := Lib.hid hX
  clear hX q1 q2 q3 hsd hsc hzd hzc hS0 hbd hbc
  cases queued with
  | false =>
    go_wp2
    go_ret
    exact ⟨⟨_, rfl, by rw [HX.out]; unfold tickLn; simp⟩, below_w HB.out hy⟩
  | true =>
    go_wp2
    go_ret
    exact ⟨⟨_, rfl, by rw [toL_app, HX.out]; unfold tickLn; simp [toL_lit]⟩, below_w HB.out hy⟩
end Go.Proofs.YtmhhbnnjilbdnaaGreatDoor.Sh
namespace Go.Proofs.YtmhhbnnjilbdnaaGreatDoor.Sh
open Go.RowKit En Go.ChangeMaps
set_option linter.unusedSimpArgs false
set_option linter.unusedVariables false
set_option maxRecDepth 20000

end Go.Proofs.YtmhhbnnjilbdnaaGreatDoor.Sh
