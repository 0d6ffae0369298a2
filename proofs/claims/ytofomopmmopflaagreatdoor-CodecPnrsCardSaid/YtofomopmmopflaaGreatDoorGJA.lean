/- A PNR that lies in memory; when it is sound, as a Bool. -/
import Derived.Test.YtofomopmmopflaaGreatDoorMA
import Derived.Test.YtofomopmmopflaaGreatDoorMB
import Derived.Test.YtofomopmmopflaaGreatDoorMC
import Derived.Test.YtofomopmmopflaaGreatDoorME
import Derived.Test.YtofomopmmopflaaGreatDoorFN
import Derived.Test.YtofomopmmopflaaGreatDoorGA
import Derived.Test.YtofomopmmopflaaGreatDoorGB
import Derived.Test.YtofomopmmopflaaGreatDoorGD
import Derived.Test.YtofomopmmopflaaGreatDoorGF
import Derived.Test.YtofomopmmopflaaGreatDoorGG
import Derived.Test.YtofomopmmopflaaGreatDoorGI
import Derived.Test.YtofomopmmopflaaGreatDoorGK
import Derived.Test.YtofomopmmopflaaGreatDoorGL
import Derived.Test.YtofomopmmopflaaGreatDoorRows
import Derived.WalkKit
import Derived.WalkSpells
import Derived.WalkLawsBesides
import Derived.Lib.ConvBytes
import Derived.Lib.Hide
import Derived.Lib.SliceRun
import Derived.IntWalk
import Derived.BigQuiet
import Derived.Deep.QuietTactic
import Derived.Deep.RegionWith
import Derived.Deep.RegionHeld3
import Derived.Deep.LoopGhost
import Derived.Deep.CutRange
import Derived.Deep.CutBlock
import Derived.Deep.MidRow
import Derived.Laws.OwnMore
import Derived.OwnWalk
import Derived.Laws.AppendOwnNone
import Derived.Laws.Rows
import Derived.Laws.MakeOwn
import Derived.Laws.CopyOwn
import Derived.Laws.BitsAllLaws
import Derived.DeepKeys5
import Derived.Maps.OwnOps
import Derived.Handy
import Derived.Lib.AppendStr
import Derived.StillTailTactics
import Derived.Deep.AppendLies
import Derived.WideKeyEntry
namespace Go.Proofs.YtofomopmmopflaaGreatDoor
open Go.RowKit Go.ChangeMaps
set_option linter.unusedSimpArgs false
set_option linter.unusedVariables false
set_option maxRecDepth 20000

/-- A PNR that lies in memory. -/
structure PIn (w : World) (p : PnrT) (vn vs vp vr vx : Value) : Prop where
  n : HasE nameC w vn p.names
  s : HasE segC w vs p.segs
  ph : HasL w vp p.phones
  rm : HasL w vr p.remarks
  x : HasE placeC w vx p.seats
  fit : fitP p
  wf : ∀ x ∈ p.seats, (Lit.int .i64 x.seg).wf = true
  few : p.names.length ≤ 1000 ∧ p.segs.length ≤ 1000 ∧ p.phones.length ≤ 1000 ∧ p.remarks.length ≤ 1000 ∧ p.seats.length ≤ 1000

theorem PIn.mono {w w' : World} {p : PnrT} {vn vs vp vr vx : Value} (h : PIn w p vn vs vp vr vx) (hb : Below w.heap.size w w') : PIn w' p vn vs vp vr vx :=
  ⟨h.n.mono hb, h.s.mono hb, h.ph.mono hb, h.rm.mono hb, h.x.mono hb, h.fit, h.wf, h.few⟩

open Classical in
noncomputable def soundPS (p : PnrT) : Bool := decide (SoundP p)
theorem soundPS_yes {p : PnrT} (h : SoundP p) : soundPS p = true := by unfold soundPS; simp [h]
theorem soundPS_no {p : PnrT} (h : ¬ SoundP p) : soundPS p = false := by unfold soundPS; simp [h]

/-- Empty, or so many letters. -/
def orL (s : ByteArray) (n : Int) : Bool := (s.toList == []) || lettersS (toL s) n n
theorem toList_nil {s : ByteArray} : (s.toList == []) = true ↔ toL s = [] := by
  rw [beq_iff_eq, ByteArray.toList_eq]
  exact Iff.rfl
theorem orL_iff {s : ByteArray} {n : Int} : orL s n = true ↔ (toL s = [] ∨ lettersS (toL s) n n = true) := by
  unfold orL
  rw [Bool.or_eq_true, toList_nil]

theorem tickS_bool {tk td tm : Int} {q : Bool} : tickS tk td tm q = ((((tk == 0) && ((td == 0) && (tm == 0))) || tfS tk td tm) && (!q || (tk == 1))) := by
  rw [Bool.eq_iff_iff, Bool.and_eq_true, Bool.or_eq_true, Bool.or_eq_true, Bool.and_eq_true, Bool.and_eq_true, beq_iff_eq, beq_iff_eq, beq_iff_eq, beq_iff_eq]
  have h1 : tickS tk td tm q = true ↔ tickOk tk td tm q := by
    constructor
    · intro h
      by_cases k : tickOk tk td tm q
      · exact k
      · rw [tickS_no k] at h; cases h
    · exact tickS_yes
  rw [h1, tick_tf]
  cases q <;> simp

/-- No two live segments are of one leg. -/
def LiveOnce (l : List SegT) : Prop := ∀ (i k : Nat) (x y : SegT), k < i → l[i]? = some x → l[k]? = some y → x.live = true → y.live = true → legK y ≠ legK x
theorem liveOnce_iff {l : List SegT} : LiveOnce l ↔ ((l.filter (·.live)).map legK).Nodup := by
  rw [List.nodup_iff_pairwise_ne, List.pairwise_map, List.pairwise_filter, List.pairwise_iff_getElem]
  constructor
  · intro h k i hk hi hki h1 h2
    exact h i k l[i] l[k] hki (List.getElem?_eq_getElem hi) (List.getElem?_eq_getElem hk) h2 h1
  · intro h i k x y hki hx hy h1 h2
    obtain ⟨hi, e1⟩ := List.getElem?_eq_some_iff.1 hx
    obtain ⟨hk, e2⟩ := List.getElem?_eq_some_iff.1 hy
    subst e1 e2
    exact h k i hk hi hki h2 h1

/-- Empty, or free. -/
def orF (s : ByteArray) : Bool := (s.toList == []) || freeS (toL s)
theorem orF_iff {s : ByteArray} : orF s = true ↔ (toL s = [] ∨ freeP s) := by
  unfold orF freeP
  rw [Bool.or_eq_true, toList_nil]

/-- What is left behind the locator, the office and the names. -/
theorem sound_rest {p : PnrT} (h1 : orL p.loc 6 = true) (h2 : orL p.off 3 = true) (h3 : p.names.length ≤ 9) (h4 : ∀ x ∈ p.names, nameOk x) :
    soundPS p = (segsS p.segs && (textsS p.phones 4 && (textsS p.remarks 10 && (orF p.recv && (tickS p.tk p.td p.tm p.queued && placesS p.segs p.names.length p.seats))))) := by
  have e1 : segsS p.segs = true ↔ segsOk p.segs := by
    constructor
    · intro h
      by_cases k : segsOk p.segs
      · exact k
      · rw [segsS_no k] at h; cases h
    · exact segsS_yes
  have e2 : ∀ (l : List ByteArray) (n : Nat), textsS l n = true ↔ textsOk l n := fun l n => by
    constructor
    · intro h
      by_cases k : textsOk l n
      · exact k
      · rw [textsS_no k] at h; cases h
    · exact textsS_yes
  have e3 : tickS p.tk p.td p.tm p.queued = true ↔ tickOk p.tk p.td p.tm p.queued := by
    constructor
    · intro h
      by_cases k : tickOk p.tk p.td p.tm p.queued
      · exact k
      · rw [tickS_no k] at h; cases h
    · exact tickS_yes
  have e4 : placesS p.segs p.names.length p.seats = true ↔ (Rise (placeOk p.segs p.names.length) lowP p.seats ∧ (p.seats.map seatK).Nodup) := by
    constructor
    · intro h
      by_cases k : Rise (placeOk p.segs p.names.length) lowP p.seats ∧ (p.seats.map seatK).Nodup
      · exact k
      · rw [placesS_no k] at h; cases h
    · exact placesS_yes
  have e5 : soundPS p = true ↔ SoundP p := by
    constructor
    · intro h
      by_cases k : SoundP p
      · exact k
      · rw [soundPS_no k] at h; cases h
    · exact soundPS_yes
  rw [Bool.eq_iff_iff, e5, Bool.and_eq_true, Bool.and_eq_true, Bool.and_eq_true, Bool.and_eq_true, Bool.and_eq_true, e1, e2, e2, e3, e4, orF_iff]
  constructor
  · intro h
    exact ⟨h.segs, h.phones, h.remarks, h.recv, h.tick, h.seats⟩
  · rintro ⟨k1, k2, k3, k4, k5, k6⟩
    exact ⟨orL_iff.1 h1, orL_iff.1 h2, ⟨h3, h4⟩, k1, k2, k3, k4, k5, k6⟩
end Go.Proofs.YtofomopmmopflaaGreatDoor
