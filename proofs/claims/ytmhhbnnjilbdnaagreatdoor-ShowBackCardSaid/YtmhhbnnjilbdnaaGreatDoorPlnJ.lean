/- The reference's Places. -/
import Derived.Test.YtmhhbnnjilbdnaaGreatDoorKA
import Derived.Test.YtmhhbnnjilbdnaaGreatDoorKB
import Derived.Test.YtmhhbnnjilbdnaaGreatDoorKD
import Derived.Test.YtmhhbnnjilbdnaaGreatDoorKF
import Derived.Test.YtmhhbnnjilbdnaaGreatDoorRows
import Derived.WalkKit
import Derived.WalkSpells
import Derived.WalkLawsBesides
import Derived.Lib.ConvBytes
import Derived.Lib.Hide
import Derived.Lib.SliceRun
import Derived.IntWalk
import Derived.BigQuiet
import Derived.Deep.QuietTactic
import Derived.Deep.RegionWith
import Derived.Deep.RegionHeld3
import Derived.Deep.LoopGhost
import Derived.Deep.CutRange
import Derived.Deep.CutBlock
import Derived.Deep.MidRow
import Derived.Laws.OwnMore
import Derived.OwnWalk
import Derived.Laws.AppendOwnNone
import Derived.Laws.Rows
import Derived.Laws.MakeOwn
import Derived.Laws.CopyOwn
import Derived.Laws.BitsAllLaws
import Derived.DeepKeys5
import Derived.Maps.OwnOps
import Derived.Handy
import Derived.Lib.AppendStr
import Derived.StillTailTactics
import Derived.Deep.AppendLies
import Derived.ProofKit
import Derived.OpenShut
import Derived.SliceStrings
import Derived.Lib.SmallJoins
import Derived.Deep.SlicePairs
import Derived.ChangeSlices
import Derived.WideKeyEntry
import Derived.Tactics2
import Derived.Defers
import Derived.Recover
import Derived.Shelf.Strconv.Itoa0
import Derived.Shelf.Strconv.Itoa1
import Derived.Shelf.LaysM
import Derived.Shelf.Strconv.Itoa2
import Derived.Shelf.Strconv.Itoa3
import Derived.Maps.AppendAt
import Derived.Lib.Bytealg
namespace Go.Proofs.YtmhhbnnjilbdnaaGreatDoor
open Go.RowKit
set_option linter.unusedSimpArgs false

theorem seat_news (wr : World) (s : St) : ∀ (j : Nat) (u : Value), (seatC s.1 s.2)[j]? = some u → (wr.alloc (.cells #[.int .i64 s.1, .int .u8 s.2.toNat] 46)).cell? (Addr.add ⟨wr.heap.size, 0, none⟩ j) = some u := by
  intro j y hj
  match j, hj with
  | 0, hj =>
    injection hj with hj
    subst hj
    simp only [Addr.add_lit]
    exact World.cell?_alloc_new _ _ _ _
  | 1, hj =>
    injection hj with hj
    subst hj
    simp only [Addr.add_lit]
    exact World.cell?_alloc_new _ _ _ _
  | j + 2, hj => simp [seatC] at hj

theorem take_get {α : Type} {l : List α} {k : Nat} {a : α} (h : l[k]? = some a) : l.take (k + 1) = l.take k ++ [a] := by
  rw [List.take_add_one, h]; rfl

end Go.Proofs.YtmhhbnnjilbdnaaGreatDoor
