/- screen.row: an array of bytes in memory; a slice of bytes; the row of bytes. The reference's filled. -/
import Derived.Test.YtahghakpmjfefaaDoorRows
import Derived.WalkKit
import Derived.WalkSpells
import Derived.WalkLawsBesides
import Derived.Lib.ConvBytes
import Derived.Lib.Hide
import Derived.Lib.SliceRun
import Derived.IntWalk
import Derived.BigQuiet
import Derived.Deep.QuietTactic
import Derived.Deep.RegionWith
import Derived.Deep.RegionHeld3
import Derived.Deep.LoopGhost
import Derived.Deep.CutRange
import Derived.Deep.CutBlock
import Derived.Deep.MidRow
import Derived.Laws.OwnMore
import Derived.OwnWalk
import Derived.Laws.AppendOwnNone
import Derived.Test.YtahghakpmjfefaaDoorKA
namespace Go.Proofs.YtahghakpmjfefaaDoor
open Go.RowKit


/-- The bytes as a string. -/
def strOf (l : List UInt8) : ByteArray := ⟨l.toArray⟩

end Go.Proofs.YtahghakpmjfefaaDoor
namespace Go.Proofs.YtahghakpmjfefaaDoor
open Go.RowKit

theorem ext_one_c (s : ByteArray) (k : Nat) (h : k < s.size) : (s.extract k (k + 1)).data.toList = [s.data.toList.getD k 0] := by
  have hl : k < s.data.toList.length := by simpa using h
  have : (s.extract k (k + 1)).data.toList = (s.data.toList.drop k).take 1 := by simp
  rw [this, List.drop_eq_getElem_cons hl]
  simp only [List.getD, List.getElem?_eq_getElem hl, Option.getD_some, List.take_succ_cons, List.take_zero]

end Go.Proofs.YtahghakpmjfefaaDoor
