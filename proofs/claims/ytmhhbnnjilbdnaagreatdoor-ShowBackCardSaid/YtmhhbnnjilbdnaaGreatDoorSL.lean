/- strings.Split, strings.ReplaceAll (the shelf's contracts, laid by the kit's tools, their numbers as marks: tools/shelf_marks.py). -/
import Derived.Test.YtmhhbnnjilbdnaaGreatDoorKA
import Derived.Test.YtmhhbnnjilbdnaaGreatDoorKF
import Derived.Test.YtmhhbnnjilbdnaaGreatDoorPlnP
import Derived.Test.YtmhhbnnjilbdnaaGreatDoorRows
import Derived.WalkKit
import Derived.WalkSpells
import Derived.WalkLawsBesides
import Derived.Lib.ConvBytes
import Derived.Lib.Hide
import Derived.Lib.SliceRun
import Derived.IntWalk
import Derived.BigQuiet
import Derived.Deep.QuietTactic
import Derived.Deep.RegionWith
import Derived.Deep.RegionHeld3
import Derived.Deep.LoopGhost
import Derived.Deep.CutRange
import Derived.Deep.CutBlock
import Derived.Deep.MidRow
import Derived.Laws.OwnMore
import Derived.OwnWalk
import Derived.Laws.AppendOwnNone
import Derived.Laws.Rows
import Derived.Laws.MakeOwn
import Derived.Laws.CopyOwn
import Derived.Laws.BitsAllLaws
import Derived.DeepKeys5
import Derived.Maps.OwnOps
import Derived.Handy
import Derived.Lib.AppendStr
import Derived.StillTailTactics
import Derived.Deep.AppendLies
import Derived.ProofKit
import Derived.OpenShut
import Derived.SliceStrings
import Derived.Lib.SmallJoins
import Derived.Deep.SlicePairs
import Derived.ChangeSlices
import Derived.WideKeyEntry
import Derived.Shelf.Strings.Builder1
import Derived.Shelf.Strings.Builder2
import Derived.Shelf.Strings.Count
import Derived.Shelf.Strings.Split
import Derived.Shelf.Strings.Replace
namespace Go.Proofs.YtmhhbnnjilbdnaaGreatDoor.Sh
open Go.Shelf
def sh_lays146_ren : Go.Shelf.Ren := ⟨fun | 146 => 69 | 221 => 81 | 268 => 94 | 138 => 84 | 143 => 86 | 195 => 96 | 197 => 88 | 218 => 97 | 219 => 100 | 260 => 101 | 217 => 95 | 225 => 110 | 224 => 111 | 267 => 112 | 266 => 107 | 314 => 115 | n => n, fun | 9 => 9 | 31 => 24 | 3 => 3 | 4 => 4 | 0 => 0 | 105 => 153 | 21 => 21 | 5 => 5 | 46 => 106 | 119 => 173 | 139 => 176 | 138 => 175 | 146 => 178 | 51 => 166 | n => n, fun | 1 => 2 | 3 => 3 | 4 => 4 | n => n⟩
theorem sh_lays146 : Go.Proofs.Lays.n146 Tryz.prog sh_lays146_ren := {
  mixed := by kernel_rfl
  f138 := Tryz.func84.trans (congrArg some (by kernel_rfl))
  f143 := Tryz.func86.trans (congrArg some (by kernel_rfl))
  f146 := Tryz.func69.trans (congrArg some (by kernel_rfl))
  f195 := Tryz.func96.trans (congrArg some (by kernel_rfl))
  f197 := Tryz.func88.trans (congrArg some (by kernel_rfl))
  f217 := Tryz.func95.trans (congrArg some (by kernel_rfl))
  f218 := Tryz.func97.trans (congrArg some (by kernel_rfl))
  f219 := Tryz.func100.trans (congrArg some (by kernel_rfl))
  f221 := Tryz.func81.trans (congrArg some (by kernel_rfl))
  f224 := Tryz.func111.trans (congrArg some (by kernel_rfl))
  f225 := Tryz.func110.trans (congrArg some (by kernel_rfl))
  f260 := Tryz.func101.trans (congrArg some (by kernel_rfl))
  f266 := Tryz.func107.trans (congrArg some (by kernel_rfl))
  f267 := Tryz.func112.trans (congrArg some (by kernel_rfl))
  f268 := Tryz.func94.trans (congrArg some (by kernel_rfl))
  f314 := Tryz.func115.trans (congrArg some (by kernel_rfl))
  t0 := Tryz.underlying0
  a0 := Tryz.isAgg0
  z0 := Tryz.sizeOf0
  v0 := Tryz.zeroValue0
  t3 := Tryz.underlying3
  a3 := Tryz.isAgg3
  z3 := Tryz.sizeOf3
  v3 := Tryz.zeroValue3
  t4 := Tryz.underlying4
  a4 := Tryz.isAgg4
  z4 := Tryz.sizeOf4
  v4 := Tryz.zeroValue4
  t5 := Tryz.underlying5
  a5 := Tryz.isAgg5
  z5 := Tryz.sizeOf5
  v5 := Tryz.zeroValue5
  t9 := Tryz.underlying9
  a9 := Tryz.isAgg9
  z9 := Tryz.sizeOf9
  v9 := Tryz.zeroValue9
  t21 := Tryz.underlying21
  a21 := Tryz.isAgg21
  z21 := Tryz.sizeOf21
  v21 := Tryz.zeroValue21
  t31 := Tryz.underlying24
  a31 := Tryz.isAgg24
  z31 := Tryz.sizeOf24
  v31 := Tryz.zeroValue24
  t46 := Tryz.underlying106
  a46 := Tryz.isAgg106
  z46 := Tryz.sizeOf106
  v46 := Tryz.zeroValue106
  t51 := Tryz.underlying166
  a51 := Tryz.isAgg166
  z51 := Tryz.sizeOf166
  v51 := Tryz.zeroValue166
  t105 := Tryz.underlying153
  a105 := Tryz.isAgg153
  z105 := Tryz.sizeOf153
  v105 := Tryz.zeroValue153
  t119 := Tryz.underlying173
  a119 := Tryz.isAgg173
  z119 := Tryz.sizeOf173
  t138 := Tryz.underlying175
  a138 := Tryz.isAgg175
  z138 := Tryz.sizeOf175
  v138 := Tryz.zeroValue175
  t139 := Tryz.underlying176
  a139 := Tryz.isAgg176
  z139 := Tryz.sizeOf176
  v139 := Tryz.zeroValue176
  t146 := Tryz.underlying178
  a146 := Tryz.isAgg178
  z146 := Tryz.sizeOf178
  v146 := Tryz.zeroValue178
  g1 := by kernel_rfl
  g3 := by kernel_rfl
  g4 := by kernel_rfl }
open Go.RowKit Go.Lib in
theorem sh_strings_Split (s sep : ByteArray) (m : Int) (w : World) (hs : s.size < 4294967281) (hm : w.cell? ⟨2, 0, none⟩ = some (.int .i64 m)) (h1 : 1 ≤ sep.size) :
    Calls Tryz.prog 69 #[.string s, .string sep] w fun e w' =>
      e = .returned (.slice (some ⟨w.heap.size, 0, none⟩) (Lib.countB s sep + 1) (Lib.countB s sep + 1)) ∧ w' = w.alloc (.cells ((Lib.splitB sep 0 (Lib.countB s sep) s).map Value.string).toArray 9) := Any.strings_Split sh_lays146 (by kernel_rfl) s sep m w hs hm h1
def sh_lays155_ren : Go.Shelf.Ren := ⟨fun | 155 => 43 | 154 => 73 | 138 => 84 | 165 => 85 | 143 => 86 | 166 => 87 | 197 => 88 | 169 => 89 | 195 => 96 | 218 => 97 | 240 => 98 | 241 => 99 | 219 => 100 | 260 => 101 | 276 => 108 | 277 => 109 | 217 => 95 | 225 => 110 | 224 => 111 | 267 => 112 | 266 => 107 | 314 => 115 | n => n, fun | 9 => 9 | 3 => 3 | 4 => 4 | 72 => 147 | 0 => 0 | 76 => 151 | 105 => 153 | 21 => 21 | 5 => 5 | 70 => 145 | 20 => 20 | 37 => 69 | 75 => 150 | 127 => 162 | 164 => 170 | 46 => 106 | 119 => 173 | 139 => 176 | 138 => 175 | 146 => 178 | 51 => 166 | 80 => 83 | n => n, fun | 1 => 2 | 3 => 3 | 4 => 4 | n => n⟩
theorem sh_lays155 : Go.Proofs.Lays.n155 Tryz.prog sh_lays155_ren := {
  mixed := by kernel_rfl
  f138 := Tryz.func84.trans (congrArg some (by kernel_rfl))
  f143 := Tryz.func86.trans (congrArg some (by kernel_rfl))
  f154 := Tryz.func73.trans (congrArg some (by kernel_rfl))
  f155 := Tryz.func43.trans (congrArg some (by kernel_rfl))
  f165 := Tryz.func85.trans (congrArg some (by kernel_rfl))
  f166 := Tryz.func87.trans (congrArg some (by kernel_rfl))
  f169 := Tryz.func89.trans (congrArg some (by kernel_rfl))
  f195 := Tryz.func96.trans (congrArg some (by kernel_rfl))
  f197 := Tryz.func88.trans (congrArg some (by kernel_rfl))
  f217 := Tryz.func95.trans (congrArg some (by kernel_rfl))
  f218 := Tryz.func97.trans (congrArg some (by kernel_rfl))
  f219 := Tryz.func100.trans (congrArg some (by kernel_rfl))
  f224 := Tryz.func111.trans (congrArg some (by kernel_rfl))
  f225 := Tryz.func110.trans (congrArg some (by kernel_rfl))
  f240 := Tryz.func98.trans (congrArg some (by kernel_rfl))
  f241 := Tryz.func99.trans (congrArg some (by kernel_rfl))
  f260 := Tryz.func101.trans (congrArg some (by kernel_rfl))
  f266 := Tryz.func107.trans (congrArg some (by kernel_rfl))
  f267 := Tryz.func112.trans (congrArg some (by kernel_rfl))
  f276 := Tryz.func108.trans (congrArg some (by kernel_rfl))
  f277 := Tryz.func109.trans (congrArg some (by kernel_rfl))
  f314 := Tryz.func115.trans (congrArg some (by kernel_rfl))
  t0 := Tryz.underlying0
  a0 := Tryz.isAgg0
  z0 := Tryz.sizeOf0
  v0 := Tryz.zeroValue0
  t3 := Tryz.underlying3
  a3 := Tryz.isAgg3
  z3 := Tryz.sizeOf3
  v3 := Tryz.zeroValue3
  t4 := Tryz.underlying4
  a4 := Tryz.isAgg4
  z4 := Tryz.sizeOf4
  v4 := Tryz.zeroValue4
  t5 := Tryz.underlying5
  a5 := Tryz.isAgg5
  z5 := Tryz.sizeOf5
  v5 := Tryz.zeroValue5
  t9 := Tryz.underlying9
  a9 := Tryz.isAgg9
  z9 := Tryz.sizeOf9
  v9 := Tryz.zeroValue9
  t20 := Tryz.underlying20
  a20 := Tryz.isAgg20
  z20 := Tryz.sizeOf20
  v20 := Tryz.zeroValue20
  t21 := Tryz.underlying21
  a21 := Tryz.isAgg21
  z21 := Tryz.sizeOf21
  v21 := Tryz.zeroValue21
  t37 := Tryz.underlying69
  a37 := Tryz.isAgg69
  z37 := Tryz.sizeOf69
  v37 := Tryz.zeroValue69
  t46 := Tryz.underlying106
  a46 := Tryz.isAgg106
  z46 := Tryz.sizeOf106
  v46 := Tryz.zeroValue106
  t51 := Tryz.underlying166
  a51 := Tryz.isAgg166
  z51 := Tryz.sizeOf166
  v51 := Tryz.zeroValue166
  t70 := Tryz.underlying145
  a70 := Tryz.isAgg145
  z70 := Tryz.sizeOf145
  v70 := Tryz.zeroValue145
  t72 := Tryz.underlying147
  a72 := Tryz.isAgg147
  z72 := Tryz.sizeOf147
  v72 := Tryz.zeroValue147
  t75 := Tryz.underlying150
  a75 := Tryz.isAgg150
  z75 := Tryz.sizeOf150
  v75 := Tryz.zeroValue150
  t76 := Tryz.underlying151
  a76 := Tryz.isAgg151
  z76 := Tryz.sizeOf151
  v76 := Tryz.zeroValue151
  t105 := Tryz.underlying153
  a105 := Tryz.isAgg153
  z105 := Tryz.sizeOf153
  v105 := Tryz.zeroValue153
  t119 := Tryz.underlying173
  a119 := Tryz.isAgg173
  z119 := Tryz.sizeOf173
  t127 := Tryz.underlying162
  a127 := Tryz.isAgg162
  z127 := Tryz.sizeOf162
  v127 := Tryz.zeroValue162
  t138 := Tryz.underlying175
  a138 := Tryz.isAgg175
  z138 := Tryz.sizeOf175
  v138 := Tryz.zeroValue175
  t139 := Tryz.underlying176
  a139 := Tryz.isAgg176
  z139 := Tryz.sizeOf176
  v139 := Tryz.zeroValue176
  t146 := Tryz.underlying178
  a146 := Tryz.isAgg178
  z146 := Tryz.sizeOf178
  v146 := Tryz.zeroValue178
  t164 := Tryz.underlying170
  a164 := Tryz.isAgg170
  z164 := Tryz.sizeOf170
  v164 := Tryz.zeroValue170
  g1 := by kernel_rfl
  g3 := by kernel_rfl
  g4 := by kernel_rfl }
theorem sh_Builder_Extra_155 : Builder.Extra Tryz.prog sh_lays155_ren := {
  sizeBuilder := by kernel_rfl
  liesBuilder := by kernel_rfl
  t5 := Tryz.underlying5
  a5 := Tryz.isAgg5
  z5 := Tryz.sizeOf5
  v5 := Tryz.zeroValue5
  infoByte := by kernel_rfl
  cellsByte := by kernel_rfl
  sizeByte := by kernel_rfl
  neB5 := by decide }
open Go.RowKit Go.Lib in
theorem sh_strings_ReplaceAll (s old new : ByteArray) (m : Int) (w : World) (hs : s.size < 4294967281) (hm : w.cell? ⟨2, 0, none⟩ = some (.int .i64 m)) (h1 : 1 ≤ old.size) (hlen : s.size + Lib.countB s old * new.size ≤ 140737488355328) :
    Calls Tryz.prog 43 #[.string s, .string old, .string new] w fun e w' =>
      e = .returned (.string ⟨(Lib.replaceAll s.data.toList old.data.toList new.data.toList).toArray⟩) ∧ Below w.heap.size w w' := Any.strings_ReplaceAll sh_lays155 sh_Builder_Extra_155 s old new m w hs hm h1 hlen

end Go.Proofs.YtmhhbnnjilbdnaaGreatDoor.Sh
