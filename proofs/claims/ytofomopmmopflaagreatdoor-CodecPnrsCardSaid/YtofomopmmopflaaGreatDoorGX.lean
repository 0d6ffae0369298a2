/- The law CodecBack: the walk. -/
import Derived.Test.YtofomopmmopflaaGreatDoorMA
import Derived.Test.YtofomopmmopflaaGreatDoorMC
import Derived.Test.YtofomopmmopflaaGreatDoorMD
import Derived.Test.YtofomopmmopflaaGreatDoorME
import Derived.Test.YtofomopmmopflaaGreatDoorGB
import Derived.Test.YtofomopmmopflaaGreatDoorGW
import Derived.Test.YtofomopmmopflaaGreatDoorRows
import Derived.WalkKit
import Derived.WalkSpells
import Derived.WalkLawsBesides
import Derived.Lib.ConvBytes
import Derived.Lib.Hide
import Derived.Lib.SliceRun
import Derived.IntWalk
import Derived.BigQuiet
import Derived.Deep.QuietTactic
import Derived.Deep.RegionWith
import Derived.Deep.RegionHeld3
import Derived.Deep.LoopGhost
import Derived.Deep.CutRange
import Derived.Deep.CutBlock
import Derived.Deep.MidRow
import Derived.Laws.OwnMore
import Derived.OwnWalk
import Derived.Laws.AppendOwnNone
import Derived.Laws.Rows
import Derived.Laws.MakeOwn
import Derived.Laws.CopyOwn
import Derived.Laws.BitsAllLaws
import Derived.DeepKeys5
import Derived.Maps.OwnOps
import Derived.Handy
import Derived.Lib.AppendStr
import Derived.StillTailTactics
import Derived.Deep.AppendLies
import Derived.WideKeyEntry
import Derived.ProofKit
import Derived.OpenShut
import Derived.SliceStrings
import Derived.Lib.SmallJoins
import Derived.Deep.SlicePairs
import Derived.ChangeSlices
namespace Go.Proofs.YtofomopmmopflaaGreatDoor
open Go.RowKit Go.ChangeMaps
set_option linter.unusedSimpArgs false
set_option linter.unusedVariables false
set_option maxRecDepth 20000

def smallB (p : PnrT) : Bool := decide (p.names.length ≤ 60 ∧ p.segs.length ≤ 60 ∧ p.phones.length ≤ 60 ∧ p.remarks.length ≤ 60 ∧ p.seats.length ≤ 200)

set_option maxHeartbeats 8000000 in
theorem smallP_any (p : PnrT) (vn vs vp vr vx : Value) (w : World) (h : PIn0 w p vn vs vp vr vx) :
    Calls Tryz.prog 5 #[.agg (pnrC p vn vs vp vr vx).toArray] w fun e w' => e = .returned (.bool (smallB p)) ∧ Below w.heap.size w w' := by
  have hbk := Blk.new w 29 (pnrC p vn vs vp vr vx)
  have hb1 : Below w.heap.size w (w.alloc (.cells (pnrC p vn vs vp vr vx).toArray 29)) := (Below.refl _ _).alloc (Nat.le_refl _) _
  have HYES : RowKit.Hid (p.names.length ≤ 60 ∧ p.segs.length ≤ 60 ∧ p.phones.length ≤ 60 ∧ p.remarks.length ≤ 60 ∧ p.seats.length ≤ 200 → smallB p = true) := Lib.hid fun h => decide_eq_true h
  have HNO : RowKit.Hid (¬ (p.names.length ≤ 60 ∧ p.segs.length ≤ 60 ∧ p.phones.length ≤ 60 ∧ p.remarks.length ≤ 60 ∧ p.seats.length ≤ 200) → smallB p = false) := Lib.hid fun h => decide_eq_false h
  generalize smallB p = sb at *
  obtain ⟨pn, cn, rfl⟩ := h.n.len
  obtain ⟨ps, cs, rfl⟩ := h.s.len
  obtain ⟨pp, cp, rfl⟩ := own_len h.ph
  obtain ⟨pr, cr, rfl⟩ := own_len h.rm
  obtain ⟨px, cx, rfl⟩ := h.x.len
  unfold pnrC at hbk hb1 ⊢
  have HB := Lib.hid hb1
  have HBK := Lib.hid hbk
  clear h hbk hb1
  generalize p.names.length = a1 at *
  generalize p.segs.length = a2 at *
  generalize p.phones.length = a3 at *
  generalize p.remarks.length = a4 at *
  generalize p.seats.length = a5 at *
  go_enter Tryz.func5, Tryz.ntmps5
  go_upto_region 1 with fail
  generalize w.alloc (.cells #[.string p.loc, .string p.off, .slice pn a1 cn, .slice ps a2 cs, .slice pp a3 cp, .int .i64 p.tk, .int .i64 p.td, .int .i64 p.tm, .string p.recv, .slice pr a4 cr, .slice px a5 cx, .bool p.queued] 29) = w1 at *
  have c2 : w1.cell? ⟨w.heap.size, 2, none⟩ = some (.slice pn a1 cn) := (HBK.out.cell 2).trans rfl
  have c3 : w1.cell? ⟨w.heap.size, 3, none⟩ = some (.slice ps a2 cs) := (HBK.out.cell 3).trans rfl
  have c4 : w1.cell? ⟨w.heap.size, 4, none⟩ = some (.slice pp a3 cp) := (HBK.out.cell 4).trans rfl
  have c9 : w1.cell? ⟨w.heap.size, 9, none⟩ = some (.slice pr a4 cr) := (HBK.out.cell 9).trans rfl
  have c10 : w1.cell? ⟨w.heap.size, 10, none⟩ = some (.slice px a5 cx) := (HBK.out.cell 10).trans rfl
  by_cases h1 : a1 ≤ 60
  rotate_left
  · have hf := Lib.hid (HNO.out fun k => h1 k.1)
    have hi : ¬ (a1 : Int) ≤ 60 := by omega
    go_wp2
    go_ret
    exact ⟨ret_bool (by rw [hf.out]; try simp), HB.out⟩
  have i1 : (a1 : Int) ≤ 60 := by omega
  by_cases h2 : a2 ≤ 60
  rotate_left
  · have hf := Lib.hid (HNO.out fun k => h2 k.2.1)
    have hi : ¬ (a2 : Int) ≤ 60 := by omega
    go_wp2
    go_ret
    exact ⟨ret_bool (by rw [hf.out]; try simp), HB.out⟩
  have i2 : (a2 : Int) ≤ 60 := by omega
  by_cases h3 : a3 ≤ 60
  rotate_left
  · have hf := Lib.hid (HNO.out fun k => h3 k.2.2.1)
    have hi : ¬ (a3 : Int) ≤ 60 := by omega
    go_wp2
    go_ret
    exact ⟨ret_bool (by rw [hf.out]; try simp), HB.out⟩
  have i3 : (a3 : Int) ≤ 60 := by omega
  by_cases h4 : a4 ≤ 60
  rotate_left
  · have hf := Lib.hid (HNO.out fun k => h4 k.2.2.2.1)
    have hi : ¬ (a4 : Int) ≤ 60 := by omega
    go_wp2
    go_ret
    exact ⟨ret_bool (by rw [hf.out]; try simp), HB.out⟩
  have i4 : (a4 : Int) ≤ 60 := by omega
  by_cases h5 : a5 ≤ 200
  · have ht := Lib.hid (HYES.out ⟨h1, h2, h3, h4, h5⟩)
    have i5 : (a5 : Int) ≤ 200 := by omega
    go_wp2
    go_ret
    exact ⟨ret_bool (by rw [ht.out]; try simp [h5]), HB.out⟩
  · have hf := Lib.hid (HNO.out fun k => h5 k.2.2.2.2)
    have hi : ¬ (a5 : Int) ≤ 200 := by omega
    go_wp2
    go_ret
    exact ⟨ret_bool (by rw [hf.out]; try simp [h5]), HB.out⟩
end Go.Proofs.YtofomopmmopflaaGreatDoor
