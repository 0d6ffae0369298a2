/- The map's Has, Number, Marks. The map's Seats; the reference's Has, Seats. -/
import Derived.Test.YtmhhbnnjilbdnaaGreatDoorKA
import Derived.Test.YtmhhbnnjilbdnaaGreatDoorKB
import Derived.Test.YtmhhbnnjilbdnaaGreatDoorKF
import Derived.Test.YtmhhbnnjilbdnaaGreatDoorPlnP
import Derived.Test.YtmhhbnnjilbdnaaGreatDoorRows
import Derived.WalkKit
import Derived.WalkSpells
import Derived.WalkLawsBesides
import Derived.Lib.ConvBytes
import Derived.Lib.Hide
import Derived.Lib.SliceRun
import Derived.IntWalk
import Derived.BigQuiet
import Derived.Deep.QuietTactic
import Derived.Deep.RegionWith
import Derived.Deep.RegionHeld3
import Derived.Deep.LoopGhost
import Derived.Deep.CutRange
import Derived.Deep.CutBlock
import Derived.Deep.MidRow
import Derived.Laws.OwnMore
import Derived.OwnWalk
import Derived.Laws.AppendOwnNone
import Derived.Laws.Rows
import Derived.Laws.MakeOwn
import Derived.Laws.CopyOwn
import Derived.Laws.BitsAllLaws
import Derived.DeepKeys5
import Derived.Maps.OwnOps
import Derived.Handy
import Derived.Lib.AppendStr
import Derived.StillTailTactics
import Derived.Deep.AppendLies
import Derived.ProofKit
import Derived.OpenShut
import Derived.SliceStrings
import Derived.Lib.SmallJoins
import Derived.Deep.SlicePairs
import Derived.ChangeSlices
import Derived.WideKeyEntry
import Derived.Tactics2
import Derived.Defers
import Derived.Recover
import Derived.Shelf.Strconv.Itoa0
import Derived.Shelf.Strconv.Itoa1
import Derived.Shelf.LaysM
import Derived.Shelf.Strconv.Itoa2
import Derived.Shelf.Strconv.Itoa3
import Derived.Maps.AppendAt
import Derived.Lib.Bytealg
import Derived.Deep.RegionLaw
namespace Go.Proofs.YtmhhbnnjilbdnaaGreatDoor
open Go.RowKit Go.ChangeMaps
set_option linter.unusedSimpArgs false

theorem zero_mark (w : World) : (zeroValue 133).run Tryz.prog w = .ok (markV mark0) w := by kernel_rfl

/-- What a look-up yields. -/
def lkF (pl : List St) (f : St → Mk) (s : St) : Mk := if s ∈ pl then f s else mark0

theorem MapF.look2 {w : World} {b : Nat} {pl : List St} {f : St → Mk} (h : MapF w b pl f) (s : St) (hs : okRow s.1) :
    (Instr.lookup 128 (.map (some b)) (.agg #[.int .i64 s.1, .int .u8 s.2.toNat]) true).run Tryz.prog w = .ok (.tuple #[.agg #[.int .i64 (lkF pl f s).num, .bool (lkF pl f s).blk, .string (lkF pl f s).txt], .bool (decide (s ∈ pl))]) w := by
  unfold lkF
  rcases h.look true s hs (zero_mark w) with ⟨h1, h2⟩ | ⟨h1, h2⟩
  · rw [if_pos h1, decide_eq_true h1]; exact h2
  · rw [if_neg h1, decide_eq_false h1]; exact h2

/-- Is it a seat? -/
def hasB (p : Pl) (l : List UInt8) (s : St) : Bool := decide (s ∈ placesL p.first p.last l) && !decide (s ∈ p.bks)

theorem lk_has (p : Pl) (l : List UInt8) (s : St) : (decide (s ∈ placesL p.first p.last l) && !(lkF (placesL p.first p.last l) (markF p l) s).blk) = hasB p l s := by
  unfold hasB lkF markF
  by_cases h1 : s ∈ placesL p.first p.last l
  · rw [if_pos h1]
    by_cases h2 : s ∈ p.bks
    · rw [if_pos h2, decide_eq_true h2]
    · rw [if_neg h2, decide_eq_false h2]
  · rw [decide_eq_false h1]; rfl

/-- What is read of a map in a world that grew. -/
structure Ob (w : World) (g b : Nat) (P : List St) (f : St → Mk) : Prop where
  cell : w.cell? ⟨g, 0, none⟩ = some (.map (some b))
  map : MapF w b P f

theorem Ob.mono {w w' : World} {g b : Nat} {P : List St} {f : St → Mk} (h : Ob w g b P f) (hb : Below w.heap.size w w') : Ob w' g b P f := ⟨cell_bel hb h.cell, h.map.mono hb⟩

theorem Stage.ob {w : World} {B g b : Nat} {vl : Value} {pl ml : List St} {f : St → Mk} (h : Stage w B g b vl pl ml f) : Ob w g b ml f := ⟨(h.blk.cell 0).trans rfl, h.map⟩

set_option maxRecDepth 20000 in
set_option maxHeartbeats 8000000 in
theorem has_ob (g b : Nat) (P : List St) (f : St → Mk) (s : St) (w : World) (h : Ob w g b P f) (hs : okRow s.1) :
    Calls Tryz.prog 44 #[.pointer (some ⟨g, 0, none⟩), seatK_c s] w fun e w' => e = .returned (.bool (decide (s ∈ P) && !(lkF P f s).blk)) ∧ Below w.heap.size w w' := by
  obtain ⟨r, c⟩ := s
  obtain ⟨w1, e1, k1, k2, kb, ks⟩ := seat_boxed w r c
  have ho := h.mono kb
  have HW := Lib.hid kb
  have c0 := ho.cell
  have hl1 := (ho.mono (Below.refl _ _).drew).map.look2 (r, c) hs
  have hl2 := (ho.mono ((Below.refl _ _).alloc (Nat.le_refl _) (.cells #[.int .i64 0, .bool false, .string ⟨#[]⟩] 133)).drew).map.look2 (r, c) hs
  simp only at hl1 hl2
  have HC : RowKit.Hid (∀ W, Below w1.heap.size w1 W → W.cell? ⟨g, 0, none⟩ = some (.map (some b)) ∧ W.cell? ⟨w.heap.size, 0, none⟩ = some (.int .i64 r) ∧ W.cell? ⟨w.heap.size, 1, none⟩ = some (.int .u8 c.toNat)) := Lib.hid fun W h => ⟨cell_bel h c0, cell_bel h k1, cell_bel h k2⟩
  have hS0 := HC.out w1.drew (Below.refl _ _).drew
  have HS1 : RowKit.Hid (∀ o, (w1.alloc o).drew.cell? ⟨g, 0, none⟩ = some (.map (some b)) ∧ (w1.alloc o).drew.cell? ⟨w.heap.size, 0, none⟩ = some (.int .i64 r) ∧ (w1.alloc o).drew.cell? ⟨w.heap.size, 1, none⟩ = some (.int .u8 c.toNat)) := Lib.hid fun o => HC.out _ ((Below.refl _ _).alloc (Nat.le_refl _) _).drew
  generalize lkF P f (r, c) = mk at *
  generalize decide ((r, c) ∈ P) = hd at *
  obtain ⟨num, blk, txt⟩ := mk
  simp only at hl1 hl2 ⊢
  unfold seatK_c seatV
  clear h ho kb ks hs
  go_enter Tryz.func44, Tryz.ntmps44
  go_upto_region 1 with fail
  clear e1
  go_region_held3 (fun W => W.cell? ⟨g, 0, none⟩ = some (.map (some b)) ∧ W.cell? ⟨w.heap.size, 0, none⟩ = some (.int .i64 r) ∧ W.cell? ⟨w.heap.size, 1, none⟩ = some (.int .u8 c.toNat))
    (first
      | exact hS0
      | assumption
      | exact HS1.out _)
    (first
      | (go_at_call 72; skip))
  all_goals
    cases hd
    · go_wp2
      go_ret
      exact ⟨ret_bool rfl, bel_trans HW.out ((Below.refl _ _).alloc (Nat.le_refl _) _).drew⟩
    · go_wp2
      go_ret
      exact ⟨ret_bool rfl, bel_trans HW.out ((Below.refl _ _).alloc (Nat.le_refl _) _).drew⟩
end Go.Proofs.YtmhhbnnjilbdnaaGreatDoor
namespace Go.Proofs.YtmhhbnnjilbdnaaGreatDoor
open Go.RowKit Go.ChangeMaps
set_option linter.unusedSimpArgs false

end Go.Proofs.YtmhhbnnjilbdnaaGreatDoor
