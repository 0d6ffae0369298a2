/- Errors' names (program and reference). Printed by gen_err.py. -/
import Derived.Test.YtmhhbnnjilbdnaaGreatDoorKA
import Derived.Test.YtmhhbnnjilbdnaaGreatDoorKB
import Derived.Test.YtmhhbnnjilbdnaaGreatDoorKF
import Derived.Test.YtmhhbnnjilbdnaaGreatDoorPlnP
import Derived.Test.YtmhhbnnjilbdnaaGreatDoorKG
import Derived.Test.YtmhhbnnjilbdnaaGreatDoorSB
import Derived.Test.YtmhhbnnjilbdnaaGreatDoorSL
import Derived.Test.YtmhhbnnjilbdnaaGreatDoorRows
import Derived.WalkKit
import Derived.WalkSpells
import Derived.WalkLawsBesides
import Derived.Lib.ConvBytes
import Derived.Lib.Hide
import Derived.Lib.SliceRun
import Derived.IntWalk
import Derived.BigQuiet
import Derived.Deep.QuietTactic
import Derived.Deep.RegionWith
import Derived.Deep.RegionHeld3
import Derived.Deep.LoopGhost
import Derived.Deep.CutRange
import Derived.Deep.CutBlock
import Derived.Deep.MidRow
import Derived.Laws.OwnMore
import Derived.OwnWalk
import Derived.Laws.AppendOwnNone
import Derived.Laws.Rows
import Derived.Laws.MakeOwn
import Derived.Laws.CopyOwn
import Derived.Laws.BitsAllLaws
import Derived.DeepKeys5
import Derived.Maps.OwnOps
import Derived.Handy
import Derived.Lib.AppendStr
import Derived.StillTailTactics
import Derived.Deep.AppendLies
import Derived.ProofKit
import Derived.OpenShut
import Derived.SliceStrings
import Derived.Lib.SmallJoins
import Derived.Deep.SlicePairs
import Derived.ChangeSlices
import Derived.WideKeyEntry
import Derived.Tactics2
import Derived.Defers
import Derived.Recover
import Derived.Shelf.Strconv.Itoa0
import Derived.Shelf.Strconv.Itoa1
import Derived.Shelf.LaysM
import Derived.Shelf.Strconv.Itoa2
import Derived.Shelf.Strconv.Itoa3
import Derived.Maps.AppendAt
import Derived.Lib.Bytealg
import Derived.Deep.RegionLaw
import Derived.Shelf.Strings.Builder1
import Derived.Shelf.Strings.Builder2
import Derived.Shelf.Strings.Count
import Derived.Shelf.Strings.Split
import Derived.Shelf.Strings.Replace
namespace Go.Proofs.YtmhhbnnjilbdnaaGreatDoor.Sh
open Go.RowKit En
set_option linter.unusedSimpArgs false
set_option linter.unusedVariables false
set_option maxRecDepth 100000

/-- A variable of the library's holds some number. -/
def MaxCell (w : World) : Prop := ∃ m : Int, w.cell? ⟨2, 0, none⟩ = some (.int .i64 m)
theorem MaxCell.keep {w w' : World} (h : MaxCell w) (hb : Below w.heap.size w w') : MaxCell w' := by
  obtain ⟨m, h⟩ := h
  exact ⟨m, cell_bel hb h⟩

/-- The names of the errors. -/
def nmT : List (Int × List UInt8) := [(1, [67, 72, 69, 67, 75, 32, 82, 65, 78, 71, 69]), (2, [67, 72, 69, 67, 75, 32, 83, 73, 90, 69]), (3, [83, 89, 83, 84, 69, 77, 32, 68, 79, 87, 78]), (4, [67, 72, 69, 67, 75, 32, 70, 79, 82, 77]), (5, [84, 79, 79, 32, 83, 72, 79, 82, 84]), (6, [78, 79, 32, 82, 79, 79, 77]), (7, [78, 79, 84, 32, 78, 79, 87]), (8, [65, 76, 82, 69, 65, 68, 89, 32, 84, 72, 69, 82, 69]), (9, [78, 79, 84, 32, 84, 72, 69, 82, 69]), (10, [83, 73, 77, 85, 76, 84, 65, 78, 69, 79, 85, 83, 32, 67, 72, 65, 78, 71, 69]), (11, [69, 88, 72, 65, 85, 83, 84, 69, 68]), (12, [78, 79, 32, 83, 85, 67, 72, 32, 67, 76, 65, 83, 83]), (13, [83, 79, 76, 68, 32, 79, 85, 84]), (14, [83, 69, 65, 84, 32, 84, 65, 75, 69, 78]), (15, [78, 79, 32, 83, 85, 67, 72, 32, 83, 69, 65, 84]), (16, [78, 79, 32, 83, 85, 67, 72, 32, 83, 69, 71, 77, 69, 78, 84]), (17, [78, 79, 32, 83, 85, 67, 72, 32, 80, 65, 83, 83, 69, 78, 71, 69, 82]), (18, [84, 79, 79, 32, 77, 65, 78, 89]), (20, [78, 69, 69, 68, 32, 78, 65, 77, 69]), (21, [78, 69, 69, 68, 32, 73, 84, 73, 78, 69, 82, 65, 82, 89]), (22, [78, 69, 69, 68, 32, 80, 72, 79, 78, 69]), (23, [78, 69, 69, 68, 32, 84, 73, 67, 75, 69, 84, 73, 78, 71]), (24, [78, 69, 69, 68, 32, 82, 69, 67, 69, 73, 86, 69, 68, 32, 70, 82, 79, 77]), (40, [69, 78, 84, 82, 89, 32, 84, 79, 79, 32, 76, 79, 78, 71]), (41, [85, 78, 75, 78, 79, 87, 78, 32, 69, 78, 84, 82, 89]), (42, [67, 72, 69, 67, 75, 32, 83, 73, 71, 78]), (43, [67, 72, 69, 67, 75, 32, 78, 85, 77, 66, 69, 82]), (44, [67, 72, 69, 67, 75, 32, 68, 65, 84, 69]), (45, [67, 72, 69, 67, 75, 32, 84, 73, 77, 69]), (46, [67, 72, 69, 67, 75, 32, 84, 69, 88, 84]), (47, [67, 72, 69, 67, 75, 32, 69, 78, 68]), (50, [83, 73, 71, 78, 32, 73, 78]), (51, [83, 73, 71, 78, 69, 68, 32, 73, 78, 32, 65, 76, 82, 69, 65, 68, 89]), (52, [78, 79, 32, 80, 78, 82]), (53, [70, 73, 78, 73, 83, 72, 32, 79, 82, 32, 73, 71, 78, 79, 82, 69]), (54, [78, 79, 32, 83, 85, 67, 72, 32, 76, 73, 78, 69]), (55, [78, 79, 32, 81, 85, 69, 85, 69]), (60, [67, 72, 69, 67, 75, 32, 67, 79, 77, 77, 65, 78, 68])]
def nmL (e : Int) : List UInt8 := ((nmT.find? fun x => x.1 == e).map (·.2)).getD [69, 82, 82, 79, 82]

theorem nm_other {e : Int} (g1 : (e == 1) = false) (g2 : (e == 2) = false) (g3 : (e == 3) = false) (g4 : (e == 4) = false) (g5 : (e == 5) = false) (g6 : (e == 6) = false) (g7 : (e == 7) = false) (g8 : (e == 8) = false) (g9 : (e == 9) = false) (g10 : (e == 10) = false) (g11 : (e == 11) = false) (g12 : (e == 12) = false) (g13 : (e == 13) = false) (g14 : (e == 14) = false) (g15 : (e == 15) = false) (g16 : (e == 16) = false) (g17 : (e == 17) = false) (g18 : (e == 18) = false) (g20 : (e == 20) = false) (g21 : (e == 21) = false) (g22 : (e == 22) = false) (g23 : (e == 23) = false) (g24 : (e == 24) = false) (g40 : (e == 40) = false) (g41 : (e == 41) = false) (g42 : (e == 42) = false) (g43 : (e == 43) = false) (g44 : (e == 44) = false) (g45 : (e == 45) = false) (g46 : (e == 46) = false) (g47 : (e == 47) = false) (g50 : (e == 50) = false) (g51 : (e == 51) = false) (g52 : (e == 52) = false) (g53 : (e == 53) = false) (g54 : (e == 54) = false) (g55 : (e == 55) = false) (g60 : (e == 60) = false) : nmL e = [69, 82, 82, 79, 82] := by
  have c : ∀ {a : Int}, (e == a) = false → (a == e) = false := fun {a} h => by rw [beq_eq_false_iff_ne] at h ⊢; exact fun x => h x.symm
  unfold nmL nmT
  simp [List.find?, c g1, c g2, c g3, c g4, c g5, c g6, c g7, c g8, c g9, c g10, c g11, c g12, c g13, c g14, c g15, c g16, c g17, c g18, c g20, c g21, c g22, c g23, c g24, c g40, c g41, c g42, c g43, c g44, c g45, c g46, c g47, c g50, c g51, c g52, c g53, c g54, c g55, c g60]

theorem split1 (s : ByteArray) (w : World) (hs : s.data.toList = [67, 72, 69, 67, 75, 32, 82, 65, 78, 71, 69, 44, 67, 72, 69, 67, 75, 32, 83, 73, 90, 69, 44, 83, 89, 83, 84, 69, 77, 32, 68, 79, 87, 78, 44, 67, 72, 69, 67, 75, 32, 70, 79, 82, 77, 44, 84, 79, 79, 32, 83, 72, 79, 82, 84, 44, 78, 79, 32, 82, 79, 79, 77, 44, 78, 79, 84, 32, 78, 79, 87, 44, 65, 76, 82, 69, 65, 68, 89, 32, 84, 72, 69, 82, 69, 44, 78, 79, 84, 32, 84, 72, 69, 82, 69, 44, 83, 73, 77, 85, 76, 84, 65, 78, 69, 79, 85, 83, 32, 67, 72, 65, 78, 71, 69, 44, 69, 88, 72, 65, 85, 83, 84, 69, 68, 44, 78, 79, 32, 83, 85, 67, 72, 32, 67, 76, 65, 83, 83, 44, 83, 79, 76, 68, 32, 79, 85, 84, 44, 83, 69, 65, 84, 32, 84, 65, 75, 69, 78, 44, 78, 79, 32, 83, 85, 67, 72, 32, 83, 69, 65, 84, 44, 78, 79, 32, 83, 85, 67, 72, 32, 83, 69, 71, 77, 69, 78, 84, 44, 78, 79, 32, 83, 85, 67, 72, 32, 80, 65, 83, 83, 69, 78, 71, 69, 82, 44, 84, 79, 79, 32, 77, 65, 78, 89]) (hm : MaxCell w) :
    Calls Tryz.prog 69 #[.string s, .string ⟨#[44]⟩] w fun e w' => e = .returned (.slice (some ⟨w.heap.size, 0, none⟩) 18 18) ∧ w' = w.alloc (.cells #[.string ⟨#[67, 72, 69, 67, 75, 32, 82, 65, 78, 71, 69]⟩, .string ⟨#[67, 72, 69, 67, 75, 32, 83, 73, 90, 69]⟩, .string ⟨#[83, 89, 83, 84, 69, 77, 32, 68, 79, 87, 78]⟩, .string ⟨#[67, 72, 69, 67, 75, 32, 70, 79, 82, 77]⟩, .string ⟨#[84, 79, 79, 32, 83, 72, 79, 82, 84]⟩, .string ⟨#[78, 79, 32, 82, 79, 79, 77]⟩, .string ⟨#[78, 79, 84, 32, 78, 79, 87]⟩, .string ⟨#[65, 76, 82, 69, 65, 68, 89, 32, 84, 72, 69, 82, 69]⟩, .string ⟨#[78, 79, 84, 32, 84, 72, 69, 82, 69]⟩, .string ⟨#[83, 73, 77, 85, 76, 84, 65, 78, 69, 79, 85, 83, 32, 67, 72, 65, 78, 71, 69]⟩, .string ⟨#[69, 88, 72, 65, 85, 83, 84, 69, 68]⟩, .string ⟨#[78, 79, 32, 83, 85, 67, 72, 32, 67, 76, 65, 83, 83]⟩, .string ⟨#[83, 79, 76, 68, 32, 79, 85, 84]⟩, .string ⟨#[83, 69, 65, 84, 32, 84, 65, 75, 69, 78]⟩, .string ⟨#[78, 79, 32, 83, 85, 67, 72, 32, 83, 69, 65, 84]⟩, .string ⟨#[78, 79, 32, 83, 85, 67, 72, 32, 83, 69, 71, 77, 69, 78, 84]⟩, .string ⟨#[78, 79, 32, 83, 85, 67, 72, 32, 80, 65, 83, 83, 69, 78, 71, 69, 82]⟩, .string ⟨#[84, 79, 79, 32, 77, 65, 78, 89]⟩] 9) := by
  obtain ⟨m, hm⟩ := hm
  obtain rfl : s = ⟨#[67, 72, 69, 67, 75, 32, 82, 65, 78, 71, 69, 44, 67, 72, 69, 67, 75, 32, 83, 73, 90, 69, 44, 83, 89, 83, 84, 69, 77, 32, 68, 79, 87, 78, 44, 67, 72, 69, 67, 75, 32, 70, 79, 82, 77, 44, 84, 79, 79, 32, 83, 72, 79, 82, 84, 44, 78, 79, 32, 82, 79, 79, 77, 44, 78, 79, 84, 32, 78, 79, 87, 44, 65, 76, 82, 69, 65, 68, 89, 32, 84, 72, 69, 82, 69, 44, 78, 79, 84, 32, 84, 72, 69, 82, 69, 44, 83, 73, 77, 85, 76, 84, 65, 78, 69, 79, 85, 83, 32, 67, 72, 65, 78, 71, 69, 44, 69, 88, 72, 65, 85, 83, 84, 69, 68, 44, 78, 79, 32, 83, 85, 67, 72, 32, 67, 76, 65, 83, 83, 44, 83, 79, 76, 68, 32, 79, 85, 84, 44, 83, 69, 65, 84, 32, 84, 65, 75, 69, 78, 44, 78, 79, 32, 83, 85, 67, 72, 32, 83, 69, 65, 84, 44, 78, 79, 32, 83, 85, 67, 72, 32, 83, 69, 71, 77, 69, 78, 84, 44, 78, 79, 32, 83, 85, 67, 72, 32, 80, 65, 83, 83, 69, 78, 71, 69, 82, 44, 84, 79, 79, 32, 77, 65, 78, 89]⟩ := toL_inj hs
  have h := sh_strings_Split ⟨#[67, 72, 69, 67, 75, 32, 82, 65, 78, 71, 69, 44, 67, 72, 69, 67, 75, 32, 83, 73, 90, 69, 44, 83, 89, 83, 84, 69, 77, 32, 68, 79, 87, 78, 44, 67, 72, 69, 67, 75, 32, 70, 79, 82, 77, 44, 84, 79, 79, 32, 83, 72, 79, 82, 84, 44, 78, 79, 32, 82, 79, 79, 77, 44, 78, 79, 84, 32, 78, 79, 87, 44, 65, 76, 82, 69, 65, 68, 89, 32, 84, 72, 69, 82, 69, 44, 78, 79, 84, 32, 84, 72, 69, 82, 69, 44, 83, 73, 77, 85, 76, 84, 65, 78, 69, 79, 85, 83, 32, 67, 72, 65, 78, 71, 69, 44, 69, 88, 72, 65, 85, 83, 84, 69, 68, 44, 78, 79, 32, 83, 85, 67, 72, 32, 67, 76, 65, 83, 83, 44, 83, 79, 76, 68, 32, 79, 85, 84, 44, 83, 69, 65, 84, 32, 84, 65, 75, 69, 78, 44, 78, 79, 32, 83, 85, 67, 72, 32, 83, 69, 65, 84, 44, 78, 79, 32, 83, 85, 67, 72, 32, 83, 69, 71, 77, 69, 78, 84, 44, 78, 79, 32, 83, 85, 67, 72, 32, 80, 65, 83, 83, 69, 78, 71, 69, 82, 44, 84, 79, 79, 32, 77, 65, 78, 89]⟩ ⟨#[44]⟩ m w (by decide) hm (by decide)
  have e1 : Lib.countB ⟨#[67, 72, 69, 67, 75, 32, 82, 65, 78, 71, 69, 44, 67, 72, 69, 67, 75, 32, 83, 73, 90, 69, 44, 83, 89, 83, 84, 69, 77, 32, 68, 79, 87, 78, 44, 67, 72, 69, 67, 75, 32, 70, 79, 82, 77, 44, 84, 79, 79, 32, 83, 72, 79, 82, 84, 44, 78, 79, 32, 82, 79, 79, 77, 44, 78, 79, 84, 32, 78, 79, 87, 44, 65, 76, 82, 69, 65, 68, 89, 32, 84, 72, 69, 82, 69, 44, 78, 79, 84, 32, 84, 72, 69, 82, 69, 44, 83, 73, 77, 85, 76, 84, 65, 78, 69, 79, 85, 83, 32, 67, 72, 65, 78, 71, 69, 44, 69, 88, 72, 65, 85, 83, 84, 69, 68, 44, 78, 79, 32, 83, 85, 67, 72, 32, 67, 76, 65, 83, 83, 44, 83, 79, 76, 68, 32, 79, 85, 84, 44, 83, 69, 65, 84, 32, 84, 65, 75, 69, 78, 44, 78, 79, 32, 83, 85, 67, 72, 32, 83, 69, 65, 84, 44, 78, 79, 32, 83, 85, 67, 72, 32, 83, 69, 71, 77, 69, 78, 84, 44, 78, 79, 32, 83, 85, 67, 72, 32, 80, 65, 83, 83, 69, 78, 71, 69, 82, 44, 84, 79, 79, 32, 77, 65, 78, 89]⟩ ⟨#[44]⟩ = 17 := by kernel_rfl
  have e2 : Lib.splitB ⟨#[44]⟩ 0 17 ⟨#[67, 72, 69, 67, 75, 32, 82, 65, 78, 71, 69, 44, 67, 72, 69, 67, 75, 32, 83, 73, 90, 69, 44, 83, 89, 83, 84, 69, 77, 32, 68, 79, 87, 78, 44, 67, 72, 69, 67, 75, 32, 70, 79, 82, 77, 44, 84, 79, 79, 32, 83, 72, 79, 82, 84, 44, 78, 79, 32, 82, 79, 79, 77, 44, 78, 79, 84, 32, 78, 79, 87, 44, 65, 76, 82, 69, 65, 68, 89, 32, 84, 72, 69, 82, 69, 44, 78, 79, 84, 32, 84, 72, 69, 82, 69, 44, 83, 73, 77, 85, 76, 84, 65, 78, 69, 79, 85, 83, 32, 67, 72, 65, 78, 71, 69, 44, 69, 88, 72, 65, 85, 83, 84, 69, 68, 44, 78, 79, 32, 83, 85, 67, 72, 32, 67, 76, 65, 83, 83, 44, 83, 79, 76, 68, 32, 79, 85, 84, 44, 83, 69, 65, 84, 32, 84, 65, 75, 69, 78, 44, 78, 79, 32, 83, 85, 67, 72, 32, 83, 69, 65, 84, 44, 78, 79, 32, 83, 85, 67, 72, 32, 83, 69, 71, 77, 69, 78, 84, 44, 78, 79, 32, 83, 85, 67, 72, 32, 80, 65, 83, 83, 69, 78, 71, 69, 82, 44, 84, 79, 79, 32, 77, 65, 78, 89]⟩ = [⟨#[67, 72, 69, 67, 75, 32, 82, 65, 78, 71, 69]⟩, ⟨#[67, 72, 69, 67, 75, 32, 83, 73, 90, 69]⟩, ⟨#[83, 89, 83, 84, 69, 77, 32, 68, 79, 87, 78]⟩, ⟨#[67, 72, 69, 67, 75, 32, 70, 79, 82, 77]⟩, ⟨#[84, 79, 79, 32, 83, 72, 79, 82, 84]⟩, ⟨#[78, 79, 32, 82, 79, 79, 77]⟩, ⟨#[78, 79, 84, 32, 78, 79, 87]⟩, ⟨#[65, 76, 82, 69, 65, 68, 89, 32, 84, 72, 69, 82, 69]⟩, ⟨#[78, 79, 84, 32, 84, 72, 69, 82, 69]⟩, ⟨#[83, 73, 77, 85, 76, 84, 65, 78, 69, 79, 85, 83, 32, 67, 72, 65, 78, 71, 69]⟩, ⟨#[69, 88, 72, 65, 85, 83, 84, 69, 68]⟩, ⟨#[78, 79, 32, 83, 85, 67, 72, 32, 67, 76, 65, 83, 83]⟩, ⟨#[83, 79, 76, 68, 32, 79, 85, 84]⟩, ⟨#[83, 69, 65, 84, 32, 84, 65, 75, 69, 78]⟩, ⟨#[78, 79, 32, 83, 85, 67, 72, 32, 83, 69, 65, 84]⟩, ⟨#[78, 79, 32, 83, 85, 67, 72, 32, 83, 69, 71, 77, 69, 78, 84]⟩, ⟨#[78, 79, 32, 83, 85, 67, 72, 32, 80, 65, 83, 83, 69, 78, 71, 69, 82]⟩, ⟨#[84, 79, 79, 32, 77, 65, 78, 89]⟩] := by kernel_rfl
  rw [e1, e2] at h
  exact h

theorem split20 (s : ByteArray) (w : World) (hs : s.data.toList = [78, 69, 69, 68, 32, 78, 65, 77, 69, 44, 78, 69, 69, 68, 32, 73, 84, 73, 78, 69, 82, 65, 82, 89, 44, 78, 69, 69, 68, 32, 80, 72, 79, 78, 69, 44, 78, 69, 69, 68, 32, 84, 73, 67, 75, 69, 84, 73, 78, 71, 44, 78, 69, 69, 68, 32, 82, 69, 67, 69, 73, 86, 69, 68, 32, 70, 82, 79, 77]) (hm : MaxCell w) :
    Calls Tryz.prog 69 #[.string s, .string ⟨#[44]⟩] w fun e w' => e = .returned (.slice (some ⟨w.heap.size, 0, none⟩) 5 5) ∧ w' = w.alloc (.cells #[.string ⟨#[78, 69, 69, 68, 32, 78, 65, 77, 69]⟩, .string ⟨#[78, 69, 69, 68, 32, 73, 84, 73, 78, 69, 82, 65, 82, 89]⟩, .string ⟨#[78, 69, 69, 68, 32, 80, 72, 79, 78, 69]⟩, .string ⟨#[78, 69, 69, 68, 32, 84, 73, 67, 75, 69, 84, 73, 78, 71]⟩, .string ⟨#[78, 69, 69, 68, 32, 82, 69, 67, 69, 73, 86, 69, 68, 32, 70, 82, 79, 77]⟩] 9) := by
  obtain ⟨m, hm⟩ := hm
  obtain rfl : s = ⟨#[78, 69, 69, 68, 32, 78, 65, 77, 69, 44, 78, 69, 69, 68, 32, 73, 84, 73, 78, 69, 82, 65, 82, 89, 44, 78, 69, 69, 68, 32, 80, 72, 79, 78, 69, 44, 78, 69, 69, 68, 32, 84, 73, 67, 75, 69, 84, 73, 78, 71, 44, 78, 69, 69, 68, 32, 82, 69, 67, 69, 73, 86, 69, 68, 32, 70, 82, 79, 77]⟩ := toL_inj hs
  have h := sh_strings_Split ⟨#[78, 69, 69, 68, 32, 78, 65, 77, 69, 44, 78, 69, 69, 68, 32, 73, 84, 73, 78, 69, 82, 65, 82, 89, 44, 78, 69, 69, 68, 32, 80, 72, 79, 78, 69, 44, 78, 69, 69, 68, 32, 84, 73, 67, 75, 69, 84, 73, 78, 71, 44, 78, 69, 69, 68, 32, 82, 69, 67, 69, 73, 86, 69, 68, 32, 70, 82, 79, 77]⟩ ⟨#[44]⟩ m w (by decide) hm (by decide)
  have e1 : Lib.countB ⟨#[78, 69, 69, 68, 32, 78, 65, 77, 69, 44, 78, 69, 69, 68, 32, 73, 84, 73, 78, 69, 82, 65, 82, 89, 44, 78, 69, 69, 68, 32, 80, 72, 79, 78, 69, 44, 78, 69, 69, 68, 32, 84, 73, 67, 75, 69, 84, 73, 78, 71, 44, 78, 69, 69, 68, 32, 82, 69, 67, 69, 73, 86, 69, 68, 32, 70, 82, 79, 77]⟩ ⟨#[44]⟩ = 4 := by kernel_rfl
  have e2 : Lib.splitB ⟨#[44]⟩ 0 4 ⟨#[78, 69, 69, 68, 32, 78, 65, 77, 69, 44, 78, 69, 69, 68, 32, 73, 84, 73, 78, 69, 82, 65, 82, 89, 44, 78, 69, 69, 68, 32, 80, 72, 79, 78, 69, 44, 78, 69, 69, 68, 32, 84, 73, 67, 75, 69, 84, 73, 78, 71, 44, 78, 69, 69, 68, 32, 82, 69, 67, 69, 73, 86, 69, 68, 32, 70, 82, 79, 77]⟩ = [⟨#[78, 69, 69, 68, 32, 78, 65, 77, 69]⟩, ⟨#[78, 69, 69, 68, 32, 73, 84, 73, 78, 69, 82, 65, 82, 89]⟩, ⟨#[78, 69, 69, 68, 32, 80, 72, 79, 78, 69]⟩, ⟨#[78, 69, 69, 68, 32, 84, 73, 67, 75, 69, 84, 73, 78, 71]⟩, ⟨#[78, 69, 69, 68, 32, 82, 69, 67, 69, 73, 86, 69, 68, 32, 70, 82, 79, 77]⟩] := by kernel_rfl
  rw [e1, e2] at h
  exact h

theorem split40 (s : ByteArray) (w : World) (hs : s.data.toList = [69, 78, 84, 82, 89, 32, 84, 79, 79, 32, 76, 79, 78, 71, 44, 85, 78, 75, 78, 79, 87, 78, 32, 69, 78, 84, 82, 89, 44, 67, 72, 69, 67, 75, 32, 83, 73, 71, 78, 44, 67, 72, 69, 67, 75, 32, 78, 85, 77, 66, 69, 82, 44, 67, 72, 69, 67, 75, 32, 68, 65, 84, 69, 44, 67, 72, 69, 67, 75, 32, 84, 73, 77, 69, 44, 67, 72, 69, 67, 75, 32, 84, 69, 88, 84, 44, 67, 72, 69, 67, 75, 32, 69, 78, 68]) (hm : MaxCell w) :
    Calls Tryz.prog 69 #[.string s, .string ⟨#[44]⟩] w fun e w' => e = .returned (.slice (some ⟨w.heap.size, 0, none⟩) 8 8) ∧ w' = w.alloc (.cells #[.string ⟨#[69, 78, 84, 82, 89, 32, 84, 79, 79, 32, 76, 79, 78, 71]⟩, .string ⟨#[85, 78, 75, 78, 79, 87, 78, 32, 69, 78, 84, 82, 89]⟩, .string ⟨#[67, 72, 69, 67, 75, 32, 83, 73, 71, 78]⟩, .string ⟨#[67, 72, 69, 67, 75, 32, 78, 85, 77, 66, 69, 82]⟩, .string ⟨#[67, 72, 69, 67, 75, 32, 68, 65, 84, 69]⟩, .string ⟨#[67, 72, 69, 67, 75, 32, 84, 73, 77, 69]⟩, .string ⟨#[67, 72, 69, 67, 75, 32, 84, 69, 88, 84]⟩, .string ⟨#[67, 72, 69, 67, 75, 32, 69, 78, 68]⟩] 9) := by
  obtain ⟨m, hm⟩ := hm
  obtain rfl : s = ⟨#[69, 78, 84, 82, 89, 32, 84, 79, 79, 32, 76, 79, 78, 71, 44, 85, 78, 75, 78, 79, 87, 78, 32, 69, 78, 84, 82, 89, 44, 67, 72, 69, 67, 75, 32, 83, 73, 71, 78, 44, 67, 72, 69, 67, 75, 32, 78, 85, 77, 66, 69, 82, 44, 67, 72, 69, 67, 75, 32, 68, 65, 84, 69, 44, 67, 72, 69, 67, 75, 32, 84, 73, 77, 69, 44, 67, 72, 69, 67, 75, 32, 84, 69, 88, 84, 44, 67, 72, 69, 67, 75, 32, 69, 78, 68]⟩ := toL_inj hs
  have h := sh_strings_Split ⟨#[69, 78, 84, 82, 89, 32, 84, 79, 79, 32, 76, 79, 78, 71, 44, 85, 78, 75, 78, 79, 87, 78, 32, 69, 78, 84, 82, 89, 44, 67, 72, 69, 67, 75, 32, 83, 73, 71, 78, 44, 67, 72, 69, 67, 75, 32, 78, 85, 77, 66, 69, 82, 44, 67, 72, 69, 67, 75, 32, 68, 65, 84, 69, 44, 67, 72, 69, 67, 75, 32, 84, 73, 77, 69, 44, 67, 72, 69, 67, 75, 32, 84, 69, 88, 84, 44, 67, 72, 69, 67, 75, 32, 69, 78, 68]⟩ ⟨#[44]⟩ m w (by decide) hm (by decide)
  have e1 : Lib.countB ⟨#[69, 78, 84, 82, 89, 32, 84, 79, 79, 32, 76, 79, 78, 71, 44, 85, 78, 75, 78, 79, 87, 78, 32, 69, 78, 84, 82, 89, 44, 67, 72, 69, 67, 75, 32, 83, 73, 71, 78, 44, 67, 72, 69, 67, 75, 32, 78, 85, 77, 66, 69, 82, 44, 67, 72, 69, 67, 75, 32, 68, 65, 84, 69, 44, 67, 72, 69, 67, 75, 32, 84, 73, 77, 69, 44, 67, 72, 69, 67, 75, 32, 84, 69, 88, 84, 44, 67, 72, 69, 67, 75, 32, 69, 78, 68]⟩ ⟨#[44]⟩ = 7 := by kernel_rfl
  have e2 : Lib.splitB ⟨#[44]⟩ 0 7 ⟨#[69, 78, 84, 82, 89, 32, 84, 79, 79, 32, 76, 79, 78, 71, 44, 85, 78, 75, 78, 79, 87, 78, 32, 69, 78, 84, 82, 89, 44, 67, 72, 69, 67, 75, 32, 83, 73, 71, 78, 44, 67, 72, 69, 67, 75, 32, 78, 85, 77, 66, 69, 82, 44, 67, 72, 69, 67, 75, 32, 68, 65, 84, 69, 44, 67, 72, 69, 67, 75, 32, 84, 73, 77, 69, 44, 67, 72, 69, 67, 75, 32, 84, 69, 88, 84, 44, 67, 72, 69, 67, 75, 32, 69, 78, 68]⟩ = [⟨#[69, 78, 84, 82, 89, 32, 84, 79, 79, 32, 76, 79, 78, 71]⟩, ⟨#[85, 78, 75, 78, 79, 87, 78, 32, 69, 78, 84, 82, 89]⟩, ⟨#[67, 72, 69, 67, 75, 32, 83, 73, 71, 78]⟩, ⟨#[67, 72, 69, 67, 75, 32, 78, 85, 77, 66, 69, 82]⟩, ⟨#[67, 72, 69, 67, 75, 32, 68, 65, 84, 69]⟩, ⟨#[67, 72, 69, 67, 75, 32, 84, 73, 77, 69]⟩, ⟨#[67, 72, 69, 67, 75, 32, 84, 69, 88, 84]⟩, ⟨#[67, 72, 69, 67, 75, 32, 69, 78, 68]⟩] := by kernel_rfl
  rw [e1, e2] at h
  exact h

theorem split50 (s : ByteArray) (w : World) (hs : s.data.toList = [83, 73, 71, 78, 32, 73, 78, 44, 83, 73, 71, 78, 69, 68, 32, 73, 78, 32, 65, 76, 82, 69, 65, 68, 89, 44, 78, 79, 32, 80, 78, 82, 44, 70, 73, 78, 73, 83, 72, 32, 79, 82, 32, 73, 71, 78, 79, 82, 69, 44, 78, 79, 32, 83, 85, 67, 72, 32, 76, 73, 78, 69, 44, 78, 79, 32, 81, 85, 69, 85, 69]) (hm : MaxCell w) :
    Calls Tryz.prog 69 #[.string s, .string ⟨#[44]⟩] w fun e w' => e = .returned (.slice (some ⟨w.heap.size, 0, none⟩) 6 6) ∧ w' = w.alloc (.cells #[.string ⟨#[83, 73, 71, 78, 32, 73, 78]⟩, .string ⟨#[83, 73, 71, 78, 69, 68, 32, 73, 78, 32, 65, 76, 82, 69, 65, 68, 89]⟩, .string ⟨#[78, 79, 32, 80, 78, 82]⟩, .string ⟨#[70, 73, 78, 73, 83, 72, 32, 79, 82, 32, 73, 71, 78, 79, 82, 69]⟩, .string ⟨#[78, 79, 32, 83, 85, 67, 72, 32, 76, 73, 78, 69]⟩, .string ⟨#[78, 79, 32, 81, 85, 69, 85, 69]⟩] 9) := by
  obtain ⟨m, hm⟩ := hm
  obtain rfl : s = ⟨#[83, 73, 71, 78, 32, 73, 78, 44, 83, 73, 71, 78, 69, 68, 32, 73, 78, 32, 65, 76, 82, 69, 65, 68, 89, 44, 78, 79, 32, 80, 78, 82, 44, 70, 73, 78, 73, 83, 72, 32, 79, 82, 32, 73, 71, 78, 79, 82, 69, 44, 78, 79, 32, 83, 85, 67, 72, 32, 76, 73, 78, 69, 44, 78, 79, 32, 81, 85, 69, 85, 69]⟩ := toL_inj hs
  have h := sh_strings_Split ⟨#[83, 73, 71, 78, 32, 73, 78, 44, 83, 73, 71, 78, 69, 68, 32, 73, 78, 32, 65, 76, 82, 69, 65, 68, 89, 44, 78, 79, 32, 80, 78, 82, 44, 70, 73, 78, 73, 83, 72, 32, 79, 82, 32, 73, 71, 78, 79, 82, 69, 44, 78, 79, 32, 83, 85, 67, 72, 32, 76, 73, 78, 69, 44, 78, 79, 32, 81, 85, 69, 85, 69]⟩ ⟨#[44]⟩ m w (by decide) hm (by decide)
  have e1 : Lib.countB ⟨#[83, 73, 71, 78, 32, 73, 78, 44, 83, 73, 71, 78, 69, 68, 32, 73, 78, 32, 65, 76, 82, 69, 65, 68, 89, 44, 78, 79, 32, 80, 78, 82, 44, 70, 73, 78, 73, 83, 72, 32, 79, 82, 32, 73, 71, 78, 79, 82, 69, 44, 78, 79, 32, 83, 85, 67, 72, 32, 76, 73, 78, 69, 44, 78, 79, 32, 81, 85, 69, 85, 69]⟩ ⟨#[44]⟩ = 5 := by kernel_rfl
  have e2 : Lib.splitB ⟨#[44]⟩ 0 5 ⟨#[83, 73, 71, 78, 32, 73, 78, 44, 83, 73, 71, 78, 69, 68, 32, 73, 78, 32, 65, 76, 82, 69, 65, 68, 89, 44, 78, 79, 32, 80, 78, 82, 44, 70, 73, 78, 73, 83, 72, 32, 79, 82, 32, 73, 71, 78, 79, 82, 69, 44, 78, 79, 32, 83, 85, 67, 72, 32, 76, 73, 78, 69, 44, 78, 79, 32, 81, 85, 69, 85, 69]⟩ = [⟨#[83, 73, 71, 78, 32, 73, 78]⟩, ⟨#[83, 73, 71, 78, 69, 68, 32, 73, 78, 32, 65, 76, 82, 69, 65, 68, 89]⟩, ⟨#[78, 79, 32, 80, 78, 82]⟩, ⟨#[70, 73, 78, 73, 83, 72, 32, 79, 82, 32, 73, 71, 78, 79, 82, 69]⟩, ⟨#[78, 79, 32, 83, 85, 67, 72, 32, 76, 73, 78, 69]⟩, ⟨#[78, 79, 32, 81, 85, 69, 85, 69]⟩] := by kernel_rfl
  rw [e1, e2] at h
  exact h

set_option maxHeartbeats 8000000 in
theorem name_g1 (k : Int) (w : World) (hm : MaxCell w) (h1 : 1 ≤ k) (h2 : k ≤ 18) :
    Calls Tryz.prog 41 #[.int .i64 k] w fun e w' => TxtE (nmL k) e ∧ Below w.heap.size w w' := by
  have HS : RowKit.Hid (∀ s, s.data.toList = [67, 72, 69, 67, 75, 32, 82, 65, 78, 71, 69, 44, 67, 72, 69, 67, 75, 32, 83, 73, 90, 69, 44, 83, 89, 83, 84, 69, 77, 32, 68, 79, 87, 78, 44, 67, 72, 69, 67, 75, 32, 70, 79, 82, 77, 44, 84, 79, 79, 32, 83, 72, 79, 82, 84, 44, 78, 79, 32, 82, 79, 79, 77, 44, 78, 79, 84, 32, 78, 79, 87, 44, 65, 76, 82, 69, 65, 68, 89, 32, 84, 72, 69, 82, 69, 44, 78, 79, 84, 32, 84, 72, 69, 82, 69, 44, 83, 73, 77, 85, 76, 84, 65, 78, 69, 79, 85, 83, 32, 67, 72, 65, 78, 71, 69, 44, 69, 88, 72, 65, 85, 83, 84, 69, 68, 44, 78, 79, 32, 83, 85, 67, 72, 32, 67, 76, 65, 83, 83, 44, 83, 79, 76, 68, 32, 79, 85, 84, 44, 83, 69, 65, 84, 32, 84, 65, 75, 69, 78, 44, 78, 79, 32, 83, 85, 67, 72, 32, 83, 69, 65, 84, 44, 78, 79, 32, 83, 85, 67, 72, 32, 83, 69, 71, 77, 69, 78, 84, 44, 78, 79, 32, 83, 85, 67, 72, 32, 80, 65, 83, 83, 69, 78, 71, 69, 82, 44, 84, 79, 79, 32, 77, 65, 78, 89] → Calls Tryz.prog 69 #[.string s, .string ⟨#[44]⟩] w fun e w' => e = .returned (.slice (some ⟨w.heap.size, 0, none⟩) 18 18) ∧ w' = w.alloc (.cells #[.string ⟨#[67, 72, 69, 67, 75, 32, 82, 65, 78, 71, 69]⟩, .string ⟨#[67, 72, 69, 67, 75, 32, 83, 73, 90, 69]⟩, .string ⟨#[83, 89, 83, 84, 69, 77, 32, 68, 79, 87, 78]⟩, .string ⟨#[67, 72, 69, 67, 75, 32, 70, 79, 82, 77]⟩, .string ⟨#[84, 79, 79, 32, 83, 72, 79, 82, 84]⟩, .string ⟨#[78, 79, 32, 82, 79, 79, 77]⟩, .string ⟨#[78, 79, 84, 32, 78, 79, 87]⟩, .string ⟨#[65, 76, 82, 69, 65, 68, 89, 32, 84, 72, 69, 82, 69]⟩, .string ⟨#[78, 79, 84, 32, 84, 72, 69, 82, 69]⟩, .string ⟨#[83, 73, 77, 85, 76, 84, 65, 78, 69, 79, 85, 83, 32, 67, 72, 65, 78, 71, 69]⟩, .string ⟨#[69, 88, 72, 65, 85, 83, 84, 69, 68]⟩, .string ⟨#[78, 79, 32, 83, 85, 67, 72, 32, 67, 76, 65, 83, 83]⟩, .string ⟨#[83, 79, 76, 68, 32, 79, 85, 84]⟩, .string ⟨#[83, 69, 65, 84, 32, 84, 65, 75, 69, 78]⟩, .string ⟨#[78, 79, 32, 83, 85, 67, 72, 32, 83, 69, 65, 84]⟩, .string ⟨#[78, 79, 32, 83, 85, 67, 72, 32, 83, 69, 71, 77, 69, 78, 84]⟩, .string ⟨#[78, 79, 32, 83, 85, 67, 72, 32, 80, 65, 83, 83, 69, 78, 71, 69, 82]⟩, .string ⟨#[84, 79, 79, 32, 77, 65, 78, 89]⟩] 9)) := Lib.hid fun s h1 => split1 s w h1 hm
  clear hm
  by_cases h1 : k = 1
  · subst h1
    clear h1 h2
    go_enter Tryz.func41, Tryz.ntmps41
    go_wp2_with (go_at_call 69; refine (HS.out _ (by kernel_rfl)).mono ?_; rintro e w1 ⟨rfl, rfl⟩)
    go_ret
    exact ⟨⟨_, rfl, by kernel_rfl⟩, (Below.refl _ _).alloc (Nat.le_refl _) _⟩
  by_cases h2 : k = 2
  · subst h2
    clear h1 h2
    go_enter Tryz.func41, Tryz.ntmps41
    go_wp2_with (go_at_call 69; refine (HS.out _ (by kernel_rfl)).mono ?_; rintro e w1 ⟨rfl, rfl⟩)
    go_ret
    exact ⟨⟨_, rfl, by kernel_rfl⟩, (Below.refl _ _).alloc (Nat.le_refl _) _⟩
  by_cases h3 : k = 3
  · subst h3
    clear h1 h2
    go_enter Tryz.func41, Tryz.ntmps41
    go_wp2_with (go_at_call 69; refine (HS.out _ (by kernel_rfl)).mono ?_; rintro e w1 ⟨rfl, rfl⟩)
    go_ret
    exact ⟨⟨_, rfl, by kernel_rfl⟩, (Below.refl _ _).alloc (Nat.le_refl _) _⟩
  by_cases h4 : k = 4
  · subst h4
    clear h1 h2
    go_enter Tryz.func41, Tryz.ntmps41
    go_wp2_with (go_at_call 69; refine (HS.out _ (by kernel_rfl)).mono ?_; rintro e w1 ⟨rfl, rfl⟩)
    go_ret
    exact ⟨⟨_, rfl, by kernel_rfl⟩, (Below.refl _ _).alloc (Nat.le_refl _) _⟩
  by_cases h5 : k = 5
  · subst h5
    clear h1 h2
    go_enter Tryz.func41, Tryz.ntmps41
    go_wp2_with (go_at_call 69; refine (HS.out _ (by kernel_rfl)).mono ?_; rintro e w1 ⟨rfl, rfl⟩)
    go_ret
    exact ⟨⟨_, rfl, by kernel_rfl⟩, (Below.refl _ _).alloc (Nat.le_refl _) _⟩
  by_cases h6 : k = 6
  · subst h6
    clear h1 h2
    go_enter Tryz.func41, Tryz.ntmps41
    go_wp2_with (go_at_call 69; refine (HS.out _ (by kernel_rfl)).mono ?_; rintro e w1 ⟨rfl, rfl⟩)
    go_ret
    exact ⟨⟨_, rfl, by kernel_rfl⟩, (Below.refl _ _).alloc (Nat.le_refl _) _⟩
  by_cases h7 : k = 7
  · subst h7
    clear h1 h2
    go_enter Tryz.func41, Tryz.ntmps41
    go_wp2_with (go_at_call 69; refine (HS.out _ (by kernel_rfl)).mono ?_; rintro e w1 ⟨rfl, rfl⟩)
    go_ret
    exact ⟨⟨_, rfl, by kernel_rfl⟩, (Below.refl _ _).alloc (Nat.le_refl _) _⟩
  by_cases h8 : k = 8
  · subst h8
    clear h1 h2
    go_enter Tryz.func41, Tryz.ntmps41
    go_wp2_with (go_at_call 69; refine (HS.out _ (by kernel_rfl)).mono ?_; rintro e w1 ⟨rfl, rfl⟩)
    go_ret
    exact ⟨⟨_, rfl, by kernel_rfl⟩, (Below.refl _ _).alloc (Nat.le_refl _) _⟩
  by_cases h9 : k = 9
  · subst h9
    clear h1 h2
    go_enter Tryz.func41, Tryz.ntmps41
    go_wp2_with (go_at_call 69; refine (HS.out _ (by kernel_rfl)).mono ?_; rintro e w1 ⟨rfl, rfl⟩)
    go_ret
    exact ⟨⟨_, rfl, by kernel_rfl⟩, (Below.refl _ _).alloc (Nat.le_refl _) _⟩
  by_cases h10 : k = 10
  · subst h10
    clear h1 h2
    go_enter Tryz.func41, Tryz.ntmps41
    go_wp2_with (go_at_call 69; refine (HS.out _ (by kernel_rfl)).mono ?_; rintro e w1 ⟨rfl, rfl⟩)
    go_ret
    exact ⟨⟨_, rfl, by kernel_rfl⟩, (Below.refl _ _).alloc (Nat.le_refl _) _⟩
  by_cases h11 : k = 11
  · subst h11
    clear h1 h2
    go_enter Tryz.func41, Tryz.ntmps41
    go_wp2_with (go_at_call 69; refine (HS.out _ (by kernel_rfl)).mono ?_; rintro e w1 ⟨rfl, rfl⟩)
    go_ret
    exact ⟨⟨_, rfl, by kernel_rfl⟩, (Below.refl _ _).alloc (Nat.le_refl _) _⟩
  by_cases h12 : k = 12
  · subst h12
    clear h1 h2
    go_enter Tryz.func41, Tryz.ntmps41
    go_wp2_with (go_at_call 69; refine (HS.out _ (by kernel_rfl)).mono ?_; rintro e w1 ⟨rfl, rfl⟩)
    go_ret
    exact ⟨⟨_, rfl, by kernel_rfl⟩, (Below.refl _ _).alloc (Nat.le_refl _) _⟩
  by_cases h13 : k = 13
  · subst h13
    clear h1 h2
    go_enter Tryz.func41, Tryz.ntmps41
    go_wp2_with (go_at_call 69; refine (HS.out _ (by kernel_rfl)).mono ?_; rintro e w1 ⟨rfl, rfl⟩)
    go_ret
    exact ⟨⟨_, rfl, by kernel_rfl⟩, (Below.refl _ _).alloc (Nat.le_refl _) _⟩
  by_cases h14 : k = 14
  · subst h14
    clear h1 h2
    go_enter Tryz.func41, Tryz.ntmps41
    go_wp2_with (go_at_call 69; refine (HS.out _ (by kernel_rfl)).mono ?_; rintro e w1 ⟨rfl, rfl⟩)
    go_ret
    exact ⟨⟨_, rfl, by kernel_rfl⟩, (Below.refl _ _).alloc (Nat.le_refl _) _⟩
  by_cases h15 : k = 15
  · subst h15
    clear h1 h2
    go_enter Tryz.func41, Tryz.ntmps41
    go_wp2_with (go_at_call 69; refine (HS.out _ (by kernel_rfl)).mono ?_; rintro e w1 ⟨rfl, rfl⟩)
    go_ret
    exact ⟨⟨_, rfl, by kernel_rfl⟩, (Below.refl _ _).alloc (Nat.le_refl _) _⟩
  by_cases h16 : k = 16
  · subst h16
    clear h1 h2
    go_enter Tryz.func41, Tryz.ntmps41
    go_wp2_with (go_at_call 69; refine (HS.out _ (by kernel_rfl)).mono ?_; rintro e w1 ⟨rfl, rfl⟩)
    go_ret
    exact ⟨⟨_, rfl, by kernel_rfl⟩, (Below.refl _ _).alloc (Nat.le_refl _) _⟩
  by_cases h17 : k = 17
  · subst h17
    clear h1 h2
    go_enter Tryz.func41, Tryz.ntmps41
    go_wp2_with (go_at_call 69; refine (HS.out _ (by kernel_rfl)).mono ?_; rintro e w1 ⟨rfl, rfl⟩)
    go_ret
    exact ⟨⟨_, rfl, by kernel_rfl⟩, (Below.refl _ _).alloc (Nat.le_refl _) _⟩
  by_cases h18 : k = 18
  · subst h18
    clear h1 h2
    go_enter Tryz.func41, Tryz.ntmps41
    go_wp2_with (go_at_call 69; refine (HS.out _ (by kernel_rfl)).mono ?_; rintro e w1 ⟨rfl, rfl⟩)
    go_ret
    exact ⟨⟨_, rfl, by kernel_rfl⟩, (Below.refl _ _).alloc (Nat.le_refl _) _⟩
  omega

set_option maxHeartbeats 8000000 in
theorem name_g20 (k : Int) (w : World) (hm : MaxCell w) (h1 : 20 ≤ k) (h2 : k ≤ 24) :
    Calls Tryz.prog 41 #[.int .i64 k] w fun e w' => TxtE (nmL k) e ∧ Below w.heap.size w w' := by
  have HS : RowKit.Hid (∀ s, s.data.toList = [78, 69, 69, 68, 32, 78, 65, 77, 69, 44, 78, 69, 69, 68, 32, 73, 84, 73, 78, 69, 82, 65, 82, 89, 44, 78, 69, 69, 68, 32, 80, 72, 79, 78, 69, 44, 78, 69, 69, 68, 32, 84, 73, 67, 75, 69, 84, 73, 78, 71, 44, 78, 69, 69, 68, 32, 82, 69, 67, 69, 73, 86, 69, 68, 32, 70, 82, 79, 77] → Calls Tryz.prog 69 #[.string s, .string ⟨#[44]⟩] w fun e w' => e = .returned (.slice (some ⟨w.heap.size, 0, none⟩) 5 5) ∧ w' = w.alloc (.cells #[.string ⟨#[78, 69, 69, 68, 32, 78, 65, 77, 69]⟩, .string ⟨#[78, 69, 69, 68, 32, 73, 84, 73, 78, 69, 82, 65, 82, 89]⟩, .string ⟨#[78, 69, 69, 68, 32, 80, 72, 79, 78, 69]⟩, .string ⟨#[78, 69, 69, 68, 32, 84, 73, 67, 75, 69, 84, 73, 78, 71]⟩, .string ⟨#[78, 69, 69, 68, 32, 82, 69, 67, 69, 73, 86, 69, 68, 32, 70, 82, 79, 77]⟩] 9)) := Lib.hid fun s h1 => split20 s w h1 hm
  clear hm
  by_cases h20 : k = 20
  · subst h20
    clear h1 h2
    go_enter Tryz.func41, Tryz.ntmps41
    go_wp2_with (go_at_call 69; refine (HS.out _ (by kernel_rfl)).mono ?_; rintro e w1 ⟨rfl, rfl⟩)
    go_ret
    exact ⟨⟨_, rfl, by kernel_rfl⟩, (Below.refl _ _).alloc (Nat.le_refl _) _⟩
  by_cases h21 : k = 21
  · subst h21
    clear h1 h2
    go_enter Tryz.func41, Tryz.ntmps41
    go_wp2_with (go_at_call 69; refine (HS.out _ (by kernel_rfl)).mono ?_; rintro e w1 ⟨rfl, rfl⟩)
    go_ret
    exact ⟨⟨_, rfl, by kernel_rfl⟩, (Below.refl _ _).alloc (Nat.le_refl _) _⟩
  by_cases h22 : k = 22
  · subst h22
    clear h1 h2
    go_enter Tryz.func41, Tryz.ntmps41
    go_wp2_with (go_at_call 69; refine (HS.out _ (by kernel_rfl)).mono ?_; rintro e w1 ⟨rfl, rfl⟩)
    go_ret
    exact ⟨⟨_, rfl, by kernel_rfl⟩, (Below.refl _ _).alloc (Nat.le_refl _) _⟩
  by_cases h23 : k = 23
  · subst h23
    clear h1 h2
    go_enter Tryz.func41, Tryz.ntmps41
    go_wp2_with (go_at_call 69; refine (HS.out _ (by kernel_rfl)).mono ?_; rintro e w1 ⟨rfl, rfl⟩)
    go_ret
    exact ⟨⟨_, rfl, by kernel_rfl⟩, (Below.refl _ _).alloc (Nat.le_refl _) _⟩
  by_cases h24 : k = 24
  · subst h24
    clear h1 h2
    go_enter Tryz.func41, Tryz.ntmps41
    go_wp2_with (go_at_call 69; refine (HS.out _ (by kernel_rfl)).mono ?_; rintro e w1 ⟨rfl, rfl⟩)
    go_ret
    exact ⟨⟨_, rfl, by kernel_rfl⟩, (Below.refl _ _).alloc (Nat.le_refl _) _⟩
  omega

set_option maxHeartbeats 8000000 in
theorem name_g40 (k : Int) (w : World) (hm : MaxCell w) (h1 : 40 ≤ k) (h2 : k ≤ 47) :
    Calls Tryz.prog 41 #[.int .i64 k] w fun e w' => TxtE (nmL k) e ∧ Below w.heap.size w w' := by
  have HS : RowKit.Hid (∀ s, s.data.toList = [69, 78, 84, 82, 89, 32, 84, 79, 79, 32, 76, 79, 78, 71, 44, 85, 78, 75, 78, 79, 87, 78, 32, 69, 78, 84, 82, 89, 44, 67, 72, 69, 67, 75, 32, 83, 73, 71, 78, 44, 67, 72, 69, 67, 75, 32, 78, 85, 77, 66, 69, 82, 44, 67, 72, 69, 67, 75, 32, 68, 65, 84, 69, 44, 67, 72, 69, 67, 75, 32, 84, 73, 77, 69, 44, 67, 72, 69, 67, 75, 32, 84, 69, 88, 84, 44, 67, 72, 69, 67, 75, 32, 69, 78, 68] → Calls Tryz.prog 69 #[.string s, .string ⟨#[44]⟩] w fun e w' => e = .returned (.slice (some ⟨w.heap.size, 0, none⟩) 8 8) ∧ w' = w.alloc (.cells #[.string ⟨#[69, 78, 84, 82, 89, 32, 84, 79, 79, 32, 76, 79, 78, 71]⟩, .string ⟨#[85, 78, 75, 78, 79, 87, 78, 32, 69, 78, 84, 82, 89]⟩, .string ⟨#[67, 72, 69, 67, 75, 32, 83, 73, 71, 78]⟩, .string ⟨#[67, 72, 69, 67, 75, 32, 78, 85, 77, 66, 69, 82]⟩, .string ⟨#[67, 72, 69, 67, 75, 32, 68, 65, 84, 69]⟩, .string ⟨#[67, 72, 69, 67, 75, 32, 84, 73, 77, 69]⟩, .string ⟨#[67, 72, 69, 67, 75, 32, 84, 69, 88, 84]⟩, .string ⟨#[67, 72, 69, 67, 75, 32, 69, 78, 68]⟩] 9)) := Lib.hid fun s h1 => split40 s w h1 hm
  clear hm
  by_cases h40 : k = 40
  · subst h40
    clear h1 h2
    go_enter Tryz.func41, Tryz.ntmps41
    go_wp2_with (go_at_call 69; refine (HS.out _ (by kernel_rfl)).mono ?_; rintro e w1 ⟨rfl, rfl⟩)
    go_ret
    exact ⟨⟨_, rfl, by kernel_rfl⟩, (Below.refl _ _).alloc (Nat.le_refl _) _⟩
  by_cases h41 : k = 41
  · subst h41
    clear h1 h2
    go_enter Tryz.func41, Tryz.ntmps41
    go_wp2_with (go_at_call 69; refine (HS.out _ (by kernel_rfl)).mono ?_; rintro e w1 ⟨rfl, rfl⟩)
    go_ret
    exact ⟨⟨_, rfl, by kernel_rfl⟩, (Below.refl _ _).alloc (Nat.le_refl _) _⟩
  by_cases h42 : k = 42
  · subst h42
    clear h1 h2
    go_enter Tryz.func41, Tryz.ntmps41
    go_wp2_with (go_at_call 69; refine (HS.out _ (by kernel_rfl)).mono ?_; rintro e w1 ⟨rfl, rfl⟩)
    go_ret
    exact ⟨⟨_, rfl, by kernel_rfl⟩, (Below.refl _ _).alloc (Nat.le_refl _) _⟩
  by_cases h43 : k = 43
  · subst h43
    clear h1 h2
    go_enter Tryz.func41, Tryz.ntmps41
    go_wp2_with (go_at_call 69; refine (HS.out _ (by kernel_rfl)).mono ?_; rintro e w1 ⟨rfl, rfl⟩)
    go_ret
    exact ⟨⟨_, rfl, by kernel_rfl⟩, (Below.refl _ _).alloc (Nat.le_refl _) _⟩
  by_cases h44 : k = 44
  · subst h44
    clear h1 h2
    go_enter Tryz.func41, Tryz.ntmps41
    go_wp2_with (go_at_call 69; refine (HS.out _ (by kernel_rfl)).mono ?_; rintro e w1 ⟨rfl, rfl⟩)
    go_ret
    exact ⟨⟨_, rfl, by kernel_rfl⟩, (Below.refl _ _).alloc (Nat.le_refl _) _⟩
  by_cases h45 : k = 45
  · subst h45
    clear h1 h2
    go_enter Tryz.func41, Tryz.ntmps41
    go_wp2_with (go_at_call 69; refine (HS.out _ (by kernel_rfl)).mono ?_; rintro e w1 ⟨rfl, rfl⟩)
    go_ret
    exact ⟨⟨_, rfl, by kernel_rfl⟩, (Below.refl _ _).alloc (Nat.le_refl _) _⟩
  by_cases h46 : k = 46
  · subst h46
    clear h1 h2
    go_enter Tryz.func41, Tryz.ntmps41
    go_wp2_with (go_at_call 69; refine (HS.out _ (by kernel_rfl)).mono ?_; rintro e w1 ⟨rfl, rfl⟩)
    go_ret
    exact ⟨⟨_, rfl, by kernel_rfl⟩, (Below.refl _ _).alloc (Nat.le_refl _) _⟩
  by_cases h47 : k = 47
  · subst h47
    clear h1 h2
    go_enter Tryz.func41, Tryz.ntmps41
    go_wp2_with (go_at_call 69; refine (HS.out _ (by kernel_rfl)).mono ?_; rintro e w1 ⟨rfl, rfl⟩)
    go_ret
    exact ⟨⟨_, rfl, by kernel_rfl⟩, (Below.refl _ _).alloc (Nat.le_refl _) _⟩
  omega

set_option maxHeartbeats 8000000 in
theorem name_g50 (k : Int) (w : World) (hm : MaxCell w) (h1 : 50 ≤ k) (h2 : k ≤ 55) :
    Calls Tryz.prog 41 #[.int .i64 k] w fun e w' => TxtE (nmL k) e ∧ Below w.heap.size w w' := by
  have HS : RowKit.Hid (∀ s, s.data.toList = [83, 73, 71, 78, 32, 73, 78, 44, 83, 73, 71, 78, 69, 68, 32, 73, 78, 32, 65, 76, 82, 69, 65, 68, 89, 44, 78, 79, 32, 80, 78, 82, 44, 70, 73, 78, 73, 83, 72, 32, 79, 82, 32, 73, 71, 78, 79, 82, 69, 44, 78, 79, 32, 83, 85, 67, 72, 32, 76, 73, 78, 69, 44, 78, 79, 32, 81, 85, 69, 85, 69] → Calls Tryz.prog 69 #[.string s, .string ⟨#[44]⟩] w fun e w' => e = .returned (.slice (some ⟨w.heap.size, 0, none⟩) 6 6) ∧ w' = w.alloc (.cells #[.string ⟨#[83, 73, 71, 78, 32, 73, 78]⟩, .string ⟨#[83, 73, 71, 78, 69, 68, 32, 73, 78, 32, 65, 76, 82, 69, 65, 68, 89]⟩, .string ⟨#[78, 79, 32, 80, 78, 82]⟩, .string ⟨#[70, 73, 78, 73, 83, 72, 32, 79, 82, 32, 73, 71, 78, 79, 82, 69]⟩, .string ⟨#[78, 79, 32, 83, 85, 67, 72, 32, 76, 73, 78, 69]⟩, .string ⟨#[78, 79, 32, 81, 85, 69, 85, 69]⟩] 9)) := Lib.hid fun s h1 => split50 s w h1 hm
  clear hm
  by_cases h50 : k = 50
  · subst h50
    clear h1 h2
    go_enter Tryz.func41, Tryz.ntmps41
    go_wp2_with (go_at_call 69; refine (HS.out _ (by kernel_rfl)).mono ?_; rintro e w1 ⟨rfl, rfl⟩)
    go_ret
    exact ⟨⟨_, rfl, by kernel_rfl⟩, (Below.refl _ _).alloc (Nat.le_refl _) _⟩
  by_cases h51 : k = 51
  · subst h51
    clear h1 h2
    go_enter Tryz.func41, Tryz.ntmps41
    go_wp2_with (go_at_call 69; refine (HS.out _ (by kernel_rfl)).mono ?_; rintro e w1 ⟨rfl, rfl⟩)
    go_ret
    exact ⟨⟨_, rfl, by kernel_rfl⟩, (Below.refl _ _).alloc (Nat.le_refl _) _⟩
  by_cases h52 : k = 52
  · subst h52
    clear h1 h2
    go_enter Tryz.func41, Tryz.ntmps41
    go_wp2_with (go_at_call 69; refine (HS.out _ (by kernel_rfl)).mono ?_; rintro e w1 ⟨rfl, rfl⟩)
    go_ret
    exact ⟨⟨_, rfl, by kernel_rfl⟩, (Below.refl _ _).alloc (Nat.le_refl _) _⟩
  by_cases h53 : k = 53
  · subst h53
    clear h1 h2
    go_enter Tryz.func41, Tryz.ntmps41
    go_wp2_with (go_at_call 69; refine (HS.out _ (by kernel_rfl)).mono ?_; rintro e w1 ⟨rfl, rfl⟩)
    go_ret
    exact ⟨⟨_, rfl, by kernel_rfl⟩, (Below.refl _ _).alloc (Nat.le_refl _) _⟩
  by_cases h54 : k = 54
  · subst h54
    clear h1 h2
    go_enter Tryz.func41, Tryz.ntmps41
    go_wp2_with (go_at_call 69; refine (HS.out _ (by kernel_rfl)).mono ?_; rintro e w1 ⟨rfl, rfl⟩)
    go_ret
    exact ⟨⟨_, rfl, by kernel_rfl⟩, (Below.refl _ _).alloc (Nat.le_refl _) _⟩
  by_cases h55 : k = 55
  · subst h55
    clear h1 h2
    go_enter Tryz.func41, Tryz.ntmps41
    go_wp2_with (go_at_call 69; refine (HS.out _ (by kernel_rfl)).mono ?_; rintro e w1 ⟨rfl, rfl⟩)
    go_ret
    exact ⟨⟨_, rfl, by kernel_rfl⟩, (Below.refl _ _).alloc (Nat.le_refl _) _⟩
  omega

set_option maxHeartbeats 8000000 in
theorem name_any (k : Int) (w : World) (hm : MaxCell w) :
    Calls Tryz.prog 41 #[.int .i64 k] w fun e w' => TxtE (nmL k) e ∧ Below w.heap.size w w' := by
  by_cases z1 : 1 ≤ k ∧ k ≤ 18
  · exact name_g1 k w hm z1.1 z1.2
  have g1 : (k == 1) = false := by rw [beq_eq_false_iff_ne]; omega
  have g2 : (k == 2) = false := by rw [beq_eq_false_iff_ne]; omega
  have g3 : (k == 3) = false := by rw [beq_eq_false_iff_ne]; omega
  have g4 : (k == 4) = false := by rw [beq_eq_false_iff_ne]; omega
  have g5 : (k == 5) = false := by rw [beq_eq_false_iff_ne]; omega
  have g6 : (k == 6) = false := by rw [beq_eq_false_iff_ne]; omega
  have g7 : (k == 7) = false := by rw [beq_eq_false_iff_ne]; omega
  have g8 : (k == 8) = false := by rw [beq_eq_false_iff_ne]; omega
  have g9 : (k == 9) = false := by rw [beq_eq_false_iff_ne]; omega
  have g10 : (k == 10) = false := by rw [beq_eq_false_iff_ne]; omega
  have g11 : (k == 11) = false := by rw [beq_eq_false_iff_ne]; omega
  have g12 : (k == 12) = false := by rw [beq_eq_false_iff_ne]; omega
  have g13 : (k == 13) = false := by rw [beq_eq_false_iff_ne]; omega
  have g14 : (k == 14) = false := by rw [beq_eq_false_iff_ne]; omega
  have g15 : (k == 15) = false := by rw [beq_eq_false_iff_ne]; omega
  have g16 : (k == 16) = false := by rw [beq_eq_false_iff_ne]; omega
  have g17 : (k == 17) = false := by rw [beq_eq_false_iff_ne]; omega
  have g18 : (k == 18) = false := by rw [beq_eq_false_iff_ne]; omega
  by_cases z20 : 20 ≤ k ∧ k ≤ 24
  · exact name_g20 k w hm z20.1 z20.2
  have g20 : (k == 20) = false := by rw [beq_eq_false_iff_ne]; omega
  have g21 : (k == 21) = false := by rw [beq_eq_false_iff_ne]; omega
  have g22 : (k == 22) = false := by rw [beq_eq_false_iff_ne]; omega
  have g23 : (k == 23) = false := by rw [beq_eq_false_iff_ne]; omega
  have g24 : (k == 24) = false := by rw [beq_eq_false_iff_ne]; omega
  by_cases z40 : 40 ≤ k ∧ k ≤ 47
  · exact name_g40 k w hm z40.1 z40.2
  have g40 : (k == 40) = false := by rw [beq_eq_false_iff_ne]; omega
  have g41 : (k == 41) = false := by rw [beq_eq_false_iff_ne]; omega
  have g42 : (k == 42) = false := by rw [beq_eq_false_iff_ne]; omega
  have g43 : (k == 43) = false := by rw [beq_eq_false_iff_ne]; omega
  have g44 : (k == 44) = false := by rw [beq_eq_false_iff_ne]; omega
  have g45 : (k == 45) = false := by rw [beq_eq_false_iff_ne]; omega
  have g46 : (k == 46) = false := by rw [beq_eq_false_iff_ne]; omega
  have g47 : (k == 47) = false := by rw [beq_eq_false_iff_ne]; omega
  by_cases z50 : 50 ≤ k ∧ k ≤ 55
  · exact name_g50 k w hm z50.1 z50.2
  have g50 : (k == 50) = false := by rw [beq_eq_false_iff_ne]; omega
  have g51 : (k == 51) = false := by rw [beq_eq_false_iff_ne]; omega
  have g52 : (k == 52) = false := by rw [beq_eq_false_iff_ne]; omega
  have g53 : (k == 53) = false := by rw [beq_eq_false_iff_ne]; omega
  have g54 : (k == 54) = false := by rw [beq_eq_false_iff_ne]; omega
  have g55 : (k == 55) = false := by rw [beq_eq_false_iff_ne]; omega
  clear hm
  by_cases h60 : k = 60
  · subst h60
    go_enter Tryz.func41, Tryz.ntmps41
    go_wp2
    go_ret
    exact ⟨⟨_, rfl, by decide +kernel⟩, Below.refl _ _⟩
  have g60 : (k == 60) = false := by rw [beq_eq_false_iff_ne]; exact h60
  have HN := Lib.hid (nm_other g1 g2 g3 g4 g5 g6 g7 g8 g9 g10 g11 g12 g13 g14 g15 g16 g17 g18 g20 g21 g22 g23 g24 g40 g41 g42 g43 g44 g45 g46 g47 g50 g51 g52 g53 g54 g55 g60)
  have r1 : k < 1 ∨ 18 < k := by omega
  have r20 : k < 20 ∨ 24 < k := by omega
  have r40 : k < 40 ∨ 47 < k := by omega
  have r50 : k < 50 ∨ 55 < k := by omega
  clear h60 z1 z20 z40 z50 g1 g2 g3 g4 g5 g6 g7 g8 g9 g10 g11 g12 g13 g14 g15 g16 g17 g18 g20 g21 g22 g23 g24 g40 g41 g42 g43 g44 g45 g46 g47 g50 g51 g52 g53 g54 g55
  have d1 : (decide (1 ≤ k) && decide (k ≤ 18)) = false := by rw [Bool.and_eq_false_iff, decide_eq_false_iff_not, decide_eq_false_iff_not]; omega
  have d20 : (decide (20 ≤ k) && decide (k ≤ 24)) = false := by rw [Bool.and_eq_false_iff, decide_eq_false_iff_not, decide_eq_false_iff_not]; omega
  have d40 : (decide (40 ≤ k) && decide (k ≤ 47)) = false := by rw [Bool.and_eq_false_iff, decide_eq_false_iff_not, decide_eq_false_iff_not]; omega
  have d50 : (decide (50 ≤ k) && decide (k ≤ 55)) = false := by rw [Bool.and_eq_false_iff, decide_eq_false_iff_not, decide_eq_false_iff_not]; omega
  by_cases c1 : k < 1
  · have q1 : ¬ 1 ≤ k := by omega
    have q20 : ¬ 20 ≤ k := by omega
    have q40 : ¬ 40 ≤ k := by omega
    have q50 : ¬ 50 ≤ k := by omega
    clear r1 r20 r40 r50 d1 d20 d40 d50 c1
    go_enter Tryz.func41, Tryz.ntmps41
    go_wp2
    go_ret
    exact ⟨⟨_, rfl, by rw [HN.out]; rfl⟩, Below.refl _ _⟩
  by_cases c20 : k < 20
  · have p1 : 1 ≤ k := by omega
    have q1 : ¬ k ≤ 18 := by omega
    have q20 : ¬ 20 ≤ k := by omega
    have q40 : ¬ 40 ≤ k := by omega
    have q50 : ¬ 50 ≤ k := by omega
    clear r1 r20 r40 r50 d1 d20 d40 d50
    go_enter Tryz.func41, Tryz.ntmps41
    go_wp2
    go_ret
    exact ⟨⟨_, rfl, by rw [HN.out]; rfl⟩, Below.refl _ _⟩
  by_cases c40 : k < 40
  · have p1 : 1 ≤ k := by omega
    have q1 : ¬ k ≤ 18 := by omega
    have p20 : 20 ≤ k := by omega
    have q20 : ¬ k ≤ 24 := by omega
    have q40 : ¬ 40 ≤ k := by omega
    have q50 : ¬ 50 ≤ k := by omega
    clear r1 r20 r40 r50 d1 d20 d40 d50
    go_enter Tryz.func41, Tryz.ntmps41
    go_wp2
    go_ret
    exact ⟨⟨_, rfl, by rw [HN.out]; rfl⟩, Below.refl _ _⟩
  by_cases c50 : k < 50
  · have p1 : 1 ≤ k := by omega
    have q1 : ¬ k ≤ 18 := by omega
    have p20 : 20 ≤ k := by omega
    have q20 : ¬ k ≤ 24 := by omega
    have p40 : 40 ≤ k := by omega
    have q40 : ¬ k ≤ 47 := by omega
    have q50 : ¬ 50 ≤ k := by omega
    clear r1 r20 r40 r50 d1 d20 d40 d50
    go_enter Tryz.func41, Tryz.ntmps41
    go_wp2
    go_ret
    exact ⟨⟨_, rfl, by rw [HN.out]; rfl⟩, Below.refl _ _⟩
  have p1 : 1 ≤ k := by omega
  have q1 : ¬ k ≤ 18 := by omega
  have p20 : 20 ≤ k := by omega
  have q20 : ¬ k ≤ 24 := by omega
  have p40 : 40 ≤ k := by omega
  have q40 : ¬ k ≤ 47 := by omega
  have p50 : 50 ≤ k := by omega
  have q50 : ¬ k ≤ 55 := by omega
  clear r1 r20 r40 r50 d1 d20 d40 d50
  go_enter Tryz.func41, Tryz.ntmps41
  go_wp2
  go_ret
  exact ⟨⟨_, rfl, by rw [HN.out]; rfl⟩, Below.refl _ _⟩
end Go.Proofs.YtmhhbnnjilbdnaaGreatDoor.Sh
