/- A map of a plan while it is made, and made. -/
import Derived.Test.YtmhhbnnjilbdnaaGreatDoorKA
import Derived.Test.YtmhhbnnjilbdnaaGreatDoorKB
import Derived.Test.YtmhhbnnjilbdnaaGreatDoorKE
import Derived.Test.YtmhhbnnjilbdnaaGreatDoorKD
import Derived.Test.YtmhhbnnjilbdnaaGreatDoorKF
import Derived.Test.YtmhhbnnjilbdnaaGreatDoorPlnJ
import Derived.Test.YtmhhbnnjilbdnaaGreatDoorRows
import Derived.WalkKit
import Derived.WalkSpells
import Derived.WalkLawsBesides
import Derived.Lib.ConvBytes
import Derived.Lib.Hide
import Derived.Lib.SliceRun
import Derived.IntWalk
import Derived.BigQuiet
import Derived.Deep.QuietTactic
import Derived.Deep.RegionWith
import Derived.Deep.RegionHeld3
import Derived.Deep.LoopGhost
import Derived.Deep.CutRange
import Derived.Deep.CutBlock
import Derived.Deep.MidRow
import Derived.Laws.OwnMore
import Derived.OwnWalk
import Derived.Laws.AppendOwnNone
import Derived.Laws.Rows
import Derived.Laws.MakeOwn
import Derived.Laws.CopyOwn
import Derived.Laws.BitsAllLaws
import Derived.DeepKeys5
import Derived.Maps.OwnOps
import Derived.Handy
import Derived.Lib.AppendStr
import Derived.StillTailTactics
import Derived.Deep.AppendLies
import Derived.ProofKit
import Derived.OpenShut
import Derived.SliceStrings
import Derived.Lib.SmallJoins
import Derived.Deep.SlicePairs
import Derived.ChangeSlices
import Derived.WideKeyEntry
import Derived.Tactics2
import Derived.Defers
import Derived.Recover
import Derived.Shelf.Strconv.Itoa0
import Derived.Shelf.Strconv.Itoa1
import Derived.Shelf.LaysM
import Derived.Shelf.Strconv.Itoa2
import Derived.Shelf.Strconv.Itoa3
import Derived.Maps.AppendAt
import Derived.Lib.Bytealg
namespace Go.Proofs.YtmhhbnnjilbdnaaGreatDoor
open Go.RowKit
set_option linter.unusedSimpArgs false

/-- Block bc holds the bytes l. -/
def Byt (w : World) (bc : Nat) (l : List UInt8) : Prop := ∃ cur fr, w.heap[bc]? = some (.cells cur 5 fr) ∧ ∀ j, j < l.length → cur[j]? = some (.int .u8 (l.getD j 0).toNat)

theorem Byt.lt {w : World} {bc : Nat} {l : List UInt8} (h : Byt w bc l) : bc < w.heap.size := by
  obtain ⟨cur, fr, h1, _⟩ := h
  exact (Array.getElem?_eq_some_iff.1 h1).1

theorem Byt.cell {w : World} {bc : Nat} {l : List UInt8} (h : Byt w bc l) {j : Nat} (hj : j < l.length) : w.cell? ⟨bc, j, none⟩ = some (.int .u8 (l.getD j 0).toNat) := by
  obtain ⟨cur, fr, h1, h2⟩ := h
  rw [cell_of_row w bc j cur _ fr h1]
  exact h2 j hj

theorem Byt.mono {w w' : World} {bc : Nat} {l : List UInt8} (h : Byt w bc l) (hb : Below w.heap.size w w') : Byt w' bc l := by
  have hlt := h.lt
  obtain ⟨cur, fr, h1, h2⟩ := h
  exact ⟨cur, fr, (hb.block bc hlt).trans h1, h2⟩

theorem Byt.kept {w w' : World} {bc : Nat} {l : List UInt8} {row : Option Nat} (h : Byt w bc l) (hg : w.grownBy w' row) (hne : some bc ≠ row) : Byt w' bc l := by
  have hlt := h.lt
  obtain ⟨cur, fr, h1, h2⟩ := h
  exact ⟨cur, fr, (hg.block bc hlt hne).trans h1, h2⟩

theorem bytes_conv2 (s : ByteArray) (w : World) : ∃ w1 : World, ∃ cap : Nat, (convert 9 69 (.string s)).run Tryz.prog w = .ok (.slice (some ⟨w.heap.size, 0, none⟩) s.size cap) w1 ∧
    Below w.heap.size w w1 ∧ w1.heap.size = w.heap.size + 1 ∧ Byt w1 w.heap.size s.data.toList := by
  refine ⟨_, _, Lib.run_convert_string_bytes (P := Tryz.prog) w 9 69 5 s Tryz.underlying9 Tryz.underlying69 Tryz.underlying5, ?_, Lib.bytesWorld_size _ _ _, ?_⟩
  · exact ⟨rfl, rfl, rfl, by rw [Lib.bytesWorld_size]; omega, fun i hi => Lib.bytesWorld_at_old _ _ _ _ hi⟩
  · refine ⟨_, _, Lib.bytesWorld_at_new _ _ _, fun j hj => ?_⟩
    have h1 := Lib.bytesWorld_cell w 5 s j (by simpa using hj)
    rwa [cell_of_row _ _ j _ _ _ (Lib.bytesWorld_at_new _ _ _)] at h1

/-- The map's struct at g, its map at b (with the places ml and f of them), its list vl. -/
structure Stage (w : World) (B g b : Nat) (vl : Value) (pl ml : List St) (f : St → Mk) : Prop where
  hg : B ≤ g
  hb : B ≤ b
  blk : Blk w g 130 [.map (some b), vl]
  map : MapF w b ml f
  own : OwnS w B vl pl

section
variable {w w' : World} {B g b : Nat} {vl : Value} {pl ml : List St} {f : St → Mk}

theorem Stage.ne (h : Stage w B g b vl pl ml f) : g ≠ b := by
  intro e
  have h1 := h.blk
  obtain ⟨⟨es, clock, h2, _⟩, _⟩ := h.map
  unfold Blk at h1
  rw [e, h2] at h1
  cases h1

theorem Stage.vl_ne (h : Stage w B g b vl pl ml f) (k : Nat) (hk : ∀ cur, w.heap[k]? ≠ some (.cells cur 46 (0, 0))) : vl.ownBlock ≠ some k := by
  intro e
  rcases h.own.2 with ⟨e1, _⟩ | ⟨gg, cap, cur, e1, _, h2, _⟩
  · rw [e1] at e; cases e
  · rw [e1] at e
    injection e with e
    exact hk cur (e ▸ h2)

theorem Stage.vlg (h : Stage w B g b vl pl ml f) : vl.ownBlock ≠ some g := h.vl_ne g fun cur e => by
  have h1 := h.blk
  unfold Blk at h1
  rw [h1] at e
  injection e with e
  injection e with _ e _
  exact absurd e (by decide)

theorem Stage.vlb (h : Stage w B g b vl pl ml f) : vl.ownBlock ≠ some b := h.vl_ne b fun cur e => by
  obtain ⟨⟨es, clock, h2, _⟩, _⟩ := h.map
  rw [h2] at e
  cases e

theorem Stage.vlbc (h : Stage w B g b vl pl ml f) {bc : Nat} {l : List UInt8} (hbc : Byt w bc l) : vl.ownBlock ≠ some bc := h.vl_ne bc fun cur e => by
  obtain ⟨cur', fr, h1, _⟩ := hbc
  rw [h1] at e
  injection e with e
  injection e with _ e _
  exact absurd e (by decide)

theorem Stage.bcg (h : Stage w B g b vl pl ml f) {bc : Nat} {l : List UInt8} (hbc : Byt w bc l) : bc ≠ g := by
  intro e
  obtain ⟨cur', fr, h1, _⟩ := hbc
  have h2 := h.blk
  unfold Blk at h2
  rw [e, h2] at h1
  injection h1 with h1
  injection h1 with _ h1 _
  exact absurd h1 (by decide)

theorem Stage.bcb (h : Stage w B g b vl pl ml f) {bc : Nat} {l : List UInt8} (hbc : Byt w bc l) : bc ≠ b := by
  intro e
  obtain ⟨cur', fr, h1, _⟩ := hbc
  obtain ⟨⟨es, clock, h2, _⟩, _⟩ := h.map
  rw [e, h2] at h1
  cases h1

theorem Stage.vlt (h : Stage w B g b vl pl ml f) {k : Nat} (hk : vl.ownBlock = some k) : B ≤ k ∧ k < w.heap.size := World.ownsRow.lt h.own k hk

theorem Stage.glt (h : Stage w B g b vl pl ml f) : g < w.heap.size := h.blk.lt

theorem Stage.mono (h : Stage w B g b vl pl ml f) (hb : Below w.heap.size w w') : Stage w' B g b vl pl ml f :=
  ⟨h.hg, h.hb, h.blk.mono hb, h.map.mono hb, h.own.mono hb⟩

theorem Stage.congr {f' : St → Mk} (h : Stage w B g b vl pl ml f) (he : ∀ s ∈ ml, f s = f' s) : Stage w B g b vl pl ml f' :=
  ⟨h.hg, h.hb, h.blk, h.map.congr he, h.own⟩

theorem Stage.after (h : Stage w B g b vl pl ml f) {ml' : List St} {f' : St → Mk} (hm : MapF w' b ml' f') (hg : w.grownBy w' (some b)) : Stage w' B g b vl pl ml' f' :=
  ⟨h.hg, h.hb, h.blk.far hg (fun e => h.ne (by injection e)), hm, World.ownsRow.kept h.own hg (.inr h.vlb)⟩

theorem Stage.putAdd (h : Stage w B g b vl pl ml f) (s : St) (m : Mk) (hs : okRow s.1) (hn : s ∉ ml) :
    ∃ w', (Instr.mapUpdate 128 (.map (some b)) (seatK_c s) (markV m)).run Tryz.prog w = .ok () w' ∧ Stage w' B g b vl pl (ml ++ [s]) (setF f s m) ∧ w.grownBy w' (some b) := by
  obtain ⟨w', h1, h2, h3⟩ := h.map.add s m hs hn
  exact ⟨w', h1, h.after h2 h3, h3⟩

theorem Stage.putSet (h : Stage w B g b vl pl ml f) (s : St) (m : Mk) (hs : s ∈ ml) :
    ∃ w', (Instr.mapUpdate 128 (.map (some b)) (seatK_c s) (markV m)).run Tryz.prog w = .ok () w' ∧ Stage w' B g b vl pl ml (setF f s m) ∧ w.grownBy w' (some b) := by
  obtain ⟨w', h1, h2, h3⟩ := h.map.set s m hs
  exact ⟨w', h1, h.after h2 h3, h3⟩

/-- The list grows, and is stored. -/
theorem Stage.append (h : Stage w B g b vl pl ml f) {v' : Value} {pl' : List St} (ho : OwnS w' B v' pl') (hg : w.grownBy w' vl.ownBlock) (hv : v'.ownBlock = vl.ownBlock ∨ ∀ k, v'.ownBlock = some k → w.heap.size ≤ k) :
    Stage (w'.setCell ⟨g, 1, none⟩ v') B g b v' pl' ml f := by
  have hblk := h.blk.far hg (fun e => h.vlg e.symm)
  have hmap := h.map.kept hg (fun e => h.vlb e.symm)
  have hgs : w'.grownBy (w'.setCell ⟨g, 1, none⟩ v') (some g) := gr_setCell1 (gr_of_below (Below.refl _ _) _) 1 v'
  have hvg : v'.ownBlock ≠ some g := by
    intro e
    rcases hv with h1 | h1
    · exact h.vlg (h1 ▸ e)
    · exact absurd (h1 g e) (by have := h.glt; omega)
  exact ⟨h.hg, h.hb, hblk.set 1 v', hmap.kept hgs (fun e => h.ne (by injection e with e; exact e.symm)), World.ownsRow.kept ho hgs (.inr hvg)⟩
end

/-- The mark of each place of a plan that is right. -/
def markF (p : Pl) (l : List UInt8) (s : St) : Mk :=
  if s ∈ p.bks then ⟨atL (placesL p.first p.last l) s, true, ⟨#[]⟩⟩ else ⟨atL (placesL p.first p.last l) s, false, strOf (marksL p.lets.data.toList p.exits s)⟩

/-- .. as long as none is blocked. -/
def markG (p : Pl) (l : List UInt8) (s : St) : Mk := ⟨atL (placesL p.first p.last l) s, false, strOf (marksL p.lets.data.toList p.exits s)⟩

/-- .. with the first n of the blocked ones blocked. -/
def markN (p : Pl) (l : List UInt8) (n : Nat) (s : St) : Mk :=
  if s ∈ p.bks.take n then ⟨atL (placesL p.first p.last l) s, true, ⟨#[]⟩⟩ else markG p l s

theorem markN_zero (p : Pl) (l : List UInt8) (s : St) : markN p l 0 s = markG p l s := by simp [markN]

theorem markN_all (p : Pl) (l : List UInt8) (s : St) : markN p l p.bks.length s = markF p l s := by
  unfold markN markF markG
  rw [List.take_length]

theorem markN_set {p : Pl} {l : List UInt8} {n : Nat} (hn : n < p.bks.length) (s : St) :
    setF (markN p l n) (p.bks.getD n st0) ⟨(markN p l n (p.bks.getD n st0)).num, true, ⟨#[]⟩⟩ s = markN p l (n + 1) s := by
  have e : p.bks.take (n + 1) = p.bks.take n ++ [p.bks.getD n st0] := take_get (getD_get hn)
  have hnum : ∀ x, (markN p l n x).num = atL (placesL p.first p.last l) x := fun x => by unfold markN markG; split <;> rfl
  unfold setF
  by_cases h : s = p.bks.getD n st0
  · rw [if_pos h, hnum, ← h]
    unfold markN
    rw [if_pos (by rw [e, h]; simp)]
  · rw [if_neg h]
    unfold markN
    have : s ∈ p.bks.take (n + 1) ↔ s ∈ p.bks.take n := by
      rw [e, List.mem_append]
      exact ⟨fun h1 => h1.elim id (fun h1 => absurd (List.mem_singleton.1 h1) h), .inl⟩
    by_cases h2 : s ∈ p.bks.take n
    · rw [if_pos h2, if_pos (this.2 h2)]
    · rw [if_neg h2, if_neg (fun h3 => h2 (this.1 h3))]

/-- 'v' points to the map of the plan p, in memory from B on. -/
def MapObj (w : World) (B : Nat) (v : Value) (p : Pl) (l : List UInt8) : Prop :=
  ∃ g b vl, v = .pointer (some ⟨g, 0, none⟩) ∧ Stage w B g b vl (placesL p.first p.last l) (placesL p.first p.last l) (markF p l)

theorem MapObj.mono {w w' : World} {B : Nat} {v : Value} {p : Pl} {l : List UInt8} (h : MapObj w B v p l) (hb : Below w.heap.size w w') : MapObj w' B v p l := by
  obtain ⟨g, b, vl, e, h⟩ := h
  exact ⟨g, b, vl, e, h.mono hb⟩

/-- What holds while one place is entered. -/
structure Rd (w3 : World) (B : Nat) (vl : Value) (pl ml : List St) (f : St → Mk) (bc : Nat) (l : List UInt8) (sB : Nat) (s : St) (W : World) : Prop where
  low : Below B w3 W
  stg : Stage W B (B + 1) B vl pl ml f
  byt : Byt W bc l
  blk : Blk W sB 46 (seatC s.1 s.2)

def Ph (w3 : World) (B : Nat) (vl : Value) (pl : List St) (f : St → Mk) (bc : Nat) (l : List UInt8) (sB : Nat) (s : St) (W : World) : Prop :=
  Rd w3 B vl pl pl f bc l sB s W ∨ Rd w3 B vl pl (pl ++ [s]) f bc l sB s W

section
variable {w3 W W' : World} {B : Nat} {vl : Value} {pl ml : List St} {f : St → Mk} {bc : Nat} {l : List UInt8} {sB : Nat} {s : St}

theorem below_low_c {B : Nat} {a w w' : World} (h : Below B a w) (hB : B ≤ w.heap.size) (k : Below w.heap.size w w') : Below B a w' := h.trans (k.mono hB)

theorem Rd.mono (h : Rd w3 B vl pl ml f bc l sB s W) (hb : Below W.heap.size W W') : Rd w3 B vl pl ml f bc l sB s W' :=
  ⟨below_low_c h.low (Nat.le_of_lt (Nat.lt_of_le_of_lt h.stg.hg h.stg.glt |> fun h => Nat.lt_of_le_of_lt (Nat.le_refl _) h)) hb, h.stg.mono hb, h.byt.mono hb, h.blk.mono hb⟩

theorem Ph.mono (h : Ph w3 B vl pl f bc l sB s W) (hb : Below W.heap.size W W') : Ph w3 B vl pl f bc l sB s W' := h.elim (fun h => .inl (h.mono hb)) (fun h => .inr (h.mono hb))

theorem Rd.sne (h : Rd w3 B vl pl ml f bc l sB s W) : sB ≠ B := by
  intro e
  have h1 := h.blk
  obtain ⟨⟨es, clock, h2, _⟩, _⟩ := h.stg.map
  unfold Blk at h1
  rw [e, h2] at h1
  cases h1

theorem Rd.after (h : Rd w3 B vl pl ml f bc l sB s W) {ml' : List St} {f' : St → Mk} (hs : Stage W' B (B + 1) B vl pl ml' f') (hg : W.grownBy W' (some B)) (hB : B ≤ W.heap.size) : Rd w3 B vl pl ml' f' bc l sB s W' :=
  ⟨h.low.grown hg hB fun k hk => by injection hk with hk; omega, hs, h.byt.kept hg (fun e => h.stg.bcb h.byt (by injection e)), h.blk.far hg (fun e => h.sne (by injection e))⟩

theorem Ph.put (h : Ph w3 B vl pl f bc l sB s W) (hs : okRow s.1) (hn : s ∉ pl) :
    ∃ w', (Instr.mapUpdate 128 (.map (some B)) (seatK_c s) (markV (f s))).run Tryz.prog W = .ok () w' ∧ Rd w3 B vl pl (pl ++ [s]) f bc l sB s w' ∧ W.grownBy w' (some B) := by
  have he : ∀ x ∈ pl ++ [s], setF f s (f s) x = f x := fun x _ => by
    unfold setF
    by_cases h : x = s
    · rw [if_pos h, h]
    · rw [if_neg h]
  rcases h with h | h
  · obtain ⟨w', h1, h2, h3⟩ := h.stg.putAdd s (f s) hs hn
    exact ⟨w', h1, h.after (h2.congr he) h3 (Nat.le_of_lt h.stg.map.lt), h3⟩
  · obtain ⟨w', h1, h2, h3⟩ := h.stg.putSet s (f s) (by simp)
    exact ⟨w', h1, h.after (h2.congr he) h3 (Nat.le_of_lt h.stg.map.lt), h3⟩

theorem Rd.append (h : Rd w3 B vl pl ml f bc l sB s W) {v' : Value} {pl' : List St} (ho : OwnS W' B v' pl') (hg : W.grownBy W' vl.ownBlock) (hv : v'.ownBlock = vl.ownBlock ∨ ∀ k, v'.ownBlock = some k → W.heap.size ≤ k) :
    Stage (W'.setCell ⟨B + 1, 1, none⟩ v') B (B + 1) B v' pl' ml f ∧ Below B w3 (W'.setCell ⟨B + 1, 1, none⟩ v') ∧ Byt (W'.setCell ⟨B + 1, 1, none⟩ v') bc l := by
  have hgs : W'.grownBy (W'.setCell ⟨B + 1, 1, none⟩ v') (some (B + 1)) := gr_setCell1 (gr_of_below (Below.refl _ _) _) 1 v'
  refine ⟨h.stg.append ho hg hv, ?_, ?_⟩
  · have h1 : Below B w3 W' := h.low.grown hg (Nat.le_of_lt h.stg.map.lt) fun k hk => (h.stg.vlt hk).1
    exact h1.setCell (p := ⟨B + 1, 1, none⟩) (Nat.le_succ B) v'
  · have h1 : Byt W' bc l := h.byt.kept hg (fun e => h.stg.vlbc h.byt e.symm)
    exact h1.kept hgs (fun e => h.stg.bcg h.byt (by injection e))

theorem Rd.field (h : Rd w3 B vl pl ml f bc l sB s W) (hg : W.grownBy W' vl.ownBlock) : Blk W' (B + 1) 130 [.map (some B), vl] :=
  h.stg.blk.far hg (fun e => h.stg.vlg e.symm)

theorem Ph.low (h : Ph w3 B vl pl f bc l sB s W) : Below B w3 W := h.elim (·.low) (·.low)

theorem Ph.cells (h : Ph w3 B vl pl f bc l sB s W) : W.cell? ⟨sB, 0, none⟩ = some (.int .i64 s.1) ∧ W.cell? ⟨sB, 1, none⟩ = some (.int .u8 s.2.toNat) ∧ W.cell? ⟨B + 1, 0, none⟩ = some (.map (some B)) ∧ W.cell? ⟨B + 1, 1, none⟩ = some vl := by
  rcases h with h | h
  · exact ⟨(h.blk.cell 0).trans rfl, (h.blk.cell 1).trans rfl, (h.stg.blk.cell 0).trans rfl, (h.stg.blk.cell 1).trans rfl⟩
  · exact ⟨(h.blk.cell 0).trans rfl, (h.blk.cell 1).trans rfl, (h.stg.blk.cell 0).trans rfl, (h.stg.blk.cell 1).trans rfl⟩
end

theorem MapF.look_in {w : World} {b : Nat} {pl : List St} {f : St → Mk} (h : MapF w b pl f) (c : Bool) (s : St) (hs : s ∈ pl) :
    (Instr.lookup 128 (.map (some b)) (seatK_c s) c).run Tryz.prog w = .ok (if c then .tuple #[markV (f s), .bool true] else markV (f s)) w := by
  have hr := h.2.2 s hs
  obtain ⟨l, hl⟩ := seat_key s hr
  obtain ⟨es, clock, hb, hm, h1⟩ := h.find s hr
  rcases h1 with ⟨h1, h2⟩ | ⟨j, e, h1, h2, h3, h4⟩
  · exact absurd hs h1
  · simp [Instr.lookup, run_underlying Tryz.underlying128, MapKept.run_getObj_map hb, seat_keyed.check w _ hl, h4, Result.andThen]

/-- What holds while one place is blocked. -/
structure Rq (w3 : World) (B : Nat) (vl : Value) (P : List St) (f : St → Mk) (sB : Nat) (s : St) (W : World) : Prop where
  low : Below B w3 W
  stg : Stage W B (B + 1) B vl P P f
  blk : Blk W sB 46 (seatC s.1 s.2)

section
variable {w3 W W' : World} {B : Nat} {vl : Value} {P : List St} {f : St → Mk} {sB : Nat} {s : St}

theorem Rq.mono (h : Rq w3 B vl P f sB s W) (hb : Below W.heap.size W W') : Rq w3 B vl P f sB s W' :=
  ⟨below_low_c h.low (Nat.le_of_lt h.stg.map.lt) hb, h.stg.mono hb, h.blk.mono hb⟩

theorem Rq.cells (h : Rq w3 B vl P f sB s W) : W.cell? ⟨sB, 0, none⟩ = some (.int .i64 s.1) ∧ W.cell? ⟨sB, 1, none⟩ = some (.int .u8 s.2.toNat) ∧ W.cell? ⟨B + 1, 0, none⟩ = some (.map (some B)) :=
  ⟨(h.blk.cell 0).trans rfl, (h.blk.cell 1).trans rfl, (h.stg.blk.cell 0).trans rfl⟩

theorem Rq.sne (h : Rq w3 B vl P f sB s W) : sB ≠ B := by
  intro e
  have h1 := h.blk
  obtain ⟨⟨es, clock, h2, _⟩, _⟩ := h.stg.map
  unfold Blk at h1
  rw [e, h2] at h1
  cases h1

theorem far_cell {W W' : World} {B k j : Nat} {u : Value} (hg : W.grownBy W' (some B)) (h : W.cell? ⟨k, j, none⟩ = some u) (hne : k ≠ B) : W'.cell? ⟨k, j, none⟩ = some u :=
  hg.cell h (fun e => hne (by injection e))

theorem Rq.look (h : Rq w3 B vl P f sB s W) (hs : s ∈ P) : (Instr.lookup 128 (.map (some B)) (.agg #[.int .i64 s.1, .int .u8 s.2.toNat]) false).run Tryz.prog W = .ok (.agg #[.int .i64 (f s).num, .bool (f s).blk, .string (f s).txt]) W :=
  h.stg.map.look_in false s hs

theorem Rq.put (h : Rq w3 B vl P f sB s W) (m : Mk) (hs : s ∈ P) : ∃ w', (Instr.mapUpdate 128 (.map (some B)) (.agg #[.int .i64 s.1, .int .u8 s.2.toNat]) (.agg #[.int .i64 m.num, .bool m.blk, .string m.txt])).run Tryz.prog W = .ok () w' ∧ Stage w' B (B + 1) B vl P P (setF f s m) ∧ Below B w3 w' ∧ W.grownBy w' (some B) := by
  obtain ⟨w', h1, h2, h3⟩ := h.stg.putSet s m hs
  exact ⟨w', h1, h2, h.low.grown h3 (Nat.le_of_lt h.stg.map.lt) (fun k hk => by injection hk with hk; omega), h3⟩
end

end Go.Proofs.YtmhhbnnjilbdnaaGreatDoor
