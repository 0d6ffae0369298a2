/- The law's made. The law's awake. Numbers, words, seats, a seat and a plan that came in. -/
import Derived.Test.YtmhhbnnjilbdnaaGreatDoorKA
import Derived.Test.YtmhhbnnjilbdnaaGreatDoorKF
import Derived.Test.YtmhhbnnjilbdnaaGreatDoorPlnP
import Derived.Test.YtmhhbnnjilbdnaaGreatDoorKH
import Derived.Test.YtmhhbnnjilbdnaaGreatDoorKJ
import Derived.Test.YtmhhbnnjilbdnaaGreatDoorRows
import Derived.WalkKit
import Derived.WalkSpells
import Derived.WalkLawsBesides
import Derived.Lib.ConvBytes
import Derived.Lib.Hide
import Derived.Lib.SliceRun
import Derived.IntWalk
import Derived.BigQuiet
import Derived.Deep.QuietTactic
import Derived.Deep.RegionWith
import Derived.Deep.RegionHeld3
import Derived.Deep.LoopGhost
import Derived.Deep.CutRange
import Derived.Deep.CutBlock
import Derived.Deep.MidRow
import Derived.Laws.OwnMore
import Derived.OwnWalk
import Derived.Laws.AppendOwnNone
import Derived.Laws.Rows
import Derived.Laws.MakeOwn
import Derived.Laws.CopyOwn
import Derived.Laws.BitsAllLaws
import Derived.DeepKeys5
import Derived.Maps.OwnOps
import Derived.Handy
import Derived.Lib.AppendStr
import Derived.StillTailTactics
import Derived.Deep.AppendLies
import Derived.ProofKit
import Derived.OpenShut
import Derived.SliceStrings
import Derived.Lib.SmallJoins
import Derived.Deep.SlicePairs
import Derived.ChangeSlices
import Derived.WideKeyEntry
import Derived.Tactics2
import Derived.Defers
import Derived.Recover
import Derived.Shelf.Strconv.Itoa0
import Derived.Shelf.Strconv.Itoa1
import Derived.Shelf.LaysM
import Derived.Shelf.Strconv.Itoa2
import Derived.Shelf.Strconv.Itoa3
import Derived.Maps.AppendAt
import Derived.Lib.Bytealg
import Derived.Deep.RegionLaw
namespace Go.Proofs.YtmhhbnnjilbdnaaGreatDoor
open Go.RowKit Go.ChangeMaps
set_option linter.unusedSimpArgs false

theorem Stage.low {w w' : World} {B g b : Nat} {vl : Value} {pl ml : List St} {f : St → Mk} {row : Option Nat} (h : Stage w B g b vl pl ml f) (hg : w.grownBy w' row) (hr : ∀ k, row = some k → k < B) : Stage w' B g b vl pl ml f := by
  have hne : ∀ k, B ≤ k → some k ≠ row := fun k hk e => by have := hr k e.symm; omega
  refine ⟨h.hg, h.hb, h.blk.far hg (hne _ h.hg), h.map.kept hg (hne _ h.hb), World.ownsRow.kept h.own hg ?_⟩
  cases hv : vl.ownBlock with
  | none => exact .inl rfl
  | some k => exact .inr (hne k (h.vlt hv).1)

theorem MapObj.low {w w' : World} {B : Nat} {v : Value} {p : Pl} {l : List UInt8} {row : Option Nat} (h : MapObj w B v p l) (hg : w.grownBy w' row) (hr : ∀ k, row = some k → k < B) : MapObj w' B v p l := by
  obtain ⟨g, b, vl, e, h⟩ := h
  exact ⟨g, b, vl, e, h.low hg hr⟩

end Go.Proofs.YtmhhbnnjilbdnaaGreatDoor
namespace Go.Proofs.YtmhhbnnjilbdnaaGreatDoor
open Go.RowKit Go.ChangeMaps
set_option linter.unusedSimpArgs false

def p0 : Pl := ⟨1, 3, ⟨#[65, 66, 46, 67]⟩, [2], [(1, 66)]⟩
def l0 : List UInt8 := [65, 66, 67]


end Go.Proofs.YtmhhbnnjilbdnaaGreatDoor
namespace Go.Proofs.YtmhhbnnjilbdnaaGreatDoor
open Go.RowKit Go.ChangeShapes Go.WideShapes Go.Joins Go.Deep
set_option linter.unusedSimpArgs false

end Go.Proofs.YtmhhbnnjilbdnaaGreatDoor
