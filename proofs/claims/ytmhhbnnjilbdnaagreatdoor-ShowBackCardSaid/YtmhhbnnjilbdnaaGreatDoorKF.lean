/- A map from seats to marks, as a list of places and a function on them. Plans, their places and marks: the plain laws. Lists of numbers and of seats in memory; strings.IndexByte, plan.less, the reference's At. -/
import Derived.Test.YtmhhbnnjilbdnaaGreatDoorKA
import Derived.Test.YtmhhbnnjilbdnaaGreatDoorKB
import Derived.Test.YtmhhbnnjilbdnaaGreatDoorKD
import Derived.Test.YtmhhbnnjilbdnaaGreatDoorRows
import Derived.WalkKit
import Derived.WalkSpells
import Derived.WalkLawsBesides
import Derived.Lib.ConvBytes
import Derived.Lib.Hide
import Derived.Lib.SliceRun
import Derived.IntWalk
import Derived.BigQuiet
import Derived.Deep.QuietTactic
import Derived.Deep.RegionWith
import Derived.Deep.RegionHeld3
import Derived.Deep.LoopGhost
import Derived.Deep.CutRange
import Derived.Deep.CutBlock
import Derived.Deep.MidRow
import Derived.Laws.OwnMore
import Derived.OwnWalk
import Derived.Laws.AppendOwnNone
import Derived.Laws.Rows
import Derived.Laws.MakeOwn
import Derived.Laws.CopyOwn
import Derived.Laws.BitsAllLaws
import Derived.DeepKeys5
import Derived.Maps.OwnOps
import Derived.Handy
import Derived.Lib.AppendStr
import Derived.StillTailTactics
import Derived.Deep.AppendLies
import Derived.ProofKit
import Derived.OpenShut
import Derived.SliceStrings
import Derived.Lib.SmallJoins
import Derived.Deep.SlicePairs
import Derived.ChangeSlices
import Derived.WideKeyEntry
import Derived.Tactics2
import Derived.Defers
import Derived.Recover
import Derived.Shelf.Strconv.Itoa0
import Derived.Shelf.Strconv.Itoa1
import Derived.Shelf.LaysM
import Derived.Shelf.Strconv.Itoa2
import Derived.Shelf.Strconv.Itoa3
import Derived.Maps.AppendAt
import Derived.Lib.Bytealg
namespace Go.Proofs.YtmhhbnnjilbdnaaGreatDoor
open Go.RowKit Go.ChangeMaps
set_option linter.unusedSimpArgs false

structure Mk where
  num : Int
  blk : Bool
  txt : ByteArray

def markV (m : Mk) : Value := .agg #[.int .i64 m.num, .bool m.blk, .string m.txt]

def mark0 : Mk := ⟨0, false, ⟨#[]⟩⟩

def seatK_c (s : Int × UInt8) : Value := seatV s.1 s.2

theorem u8_nat_inj {a b : UInt8} (h : a.toNat = b.toNat) : a = b := UInt8.toNat_inj.1 h

theorem seatK_inj {a b : Int × UInt8} (h : seatK_c a = seatK_c b) : a = b := by
  obtain ⟨r, c⟩ := a
  obtain ⟨r', c'⟩ := b
  unfold seatK_c seatV at h
  simp at h
  obtain ⟨h1, h2⟩ := h
  have := u8_nat_inj (a := c) (b := c') (by omega)
  rw [h1, this]

def okRow (r : Int) : Prop := (Lit.int .i64 r).wf = true

theorem u8_wf (c : UInt8) : (Lit.int .u8 c.toNat).wf = true := by
  have := byte_hi c
  simp [Lit.wf, IntKind.min, IntKind.max, show IntKind.u8.signed = false from rfl, show IntKind.u8.bits = 8 from rfl]
  omega

theorem seat_keyed : Maps.Keyed Tryz.prog 46 := .of_law (deep_law_gate (by kernel_rfl) (Nat.le_of_ble_eq_true (by kernel_rfl)) (Nat.le_of_ble_eq_true (by kernel_rfl)) (by kernel_rfl) (by kernel_rfl))

theorem seat_key (s : Int × UInt8) (h : okRow s.1) : ∃ l, keyOf Tryz.prog 46 (seatK_c s) = some l := by
  have hk : Tryz.prog.keyType 46 = true := by kernel_rfl
  have hfm : (seatK_c s).formed Tryz.prog 46 = true := by
    have he : ∃ f : Array Field, Tryz.prog.underlying 46 = some (.struct f) := ⟨_, Tryz.underlying46⟩
    obtain ⟨f, he⟩ := he
    have hc : Tryz.prog.cellsOf 46 = 2 := by kernel_rfl
    simp [seatK_c, seatV, Value.formed, he, hc]
  have he : ∃ f0 f1 : Field, Tryz.prog.underlying 46 = some (.struct #[f0, f1]) ∧ f0.offset = 0 ∧ f1.offset = 1 ∧ f0.type = 3 ∧ f1.type = 5 ∧ (f0.name != "_") = true ∧ (f1.name != "_") = true := ⟨_, _, Tryz.underlying46, rfl, rfl, rfl, rfl, rfl, rfl⟩
  obtain ⟨f0, f1, he, o0, o1, t0, t1, n0, n1⟩ := he
  have hc : Tryz.prog.cellsOf 46 = 2 := by kernel_rfl
  have c0 : Tryz.prog.cellsOf 3 = 1 := by kernel_rfl
  have c1 : Tryz.prog.cellsOf 5 = 1 := by kernel_rfl
  have hsz : ∃ n, Tryz.prog.types.size = n ∧ ∃ m, n = m + 1 := ⟨_, rfl, Tryz.prog.types.size - 1, by kernel_rfl⟩
  obtain ⟨n, hn, m, hm⟩ := hsz
  have hl : ∃ ls, Tryz.prog.keyLits (n + 1) 46 (seatK_c s).cells.toList = some ls := by
    have h0 : Tryz.prog.keyLits n 3 [.int .i64 s.1] = some [.int .i64 s.1] := by
      rw [hm]
      unfold Program.keyLits
      simp only [Tryz.underlying3]
      rw [if_pos ⟨trivial, h⟩]
    have h1 : Tryz.prog.keyLits n 5 [.int .u8 s.2.toNat] = some [.int .u8 s.2.toNat] := by
      rw [hm]
      unfold Program.keyLits
      simp only [Tryz.underlying5]
      rw [if_pos ⟨trivial, u8_wf s.2⟩]
    unfold Program.keyLits
    simp [he, hc, seatK_c, seatV, Value.cells, o0, o1, t0, t1, c0, c1, n0, n1, h0, h1]
  obtain ⟨ls, hl⟩ := hl
  unfold keyOf
  rw [he, hn]
  simp only [hk, hfm, hl]
  exact ⟨_, rfl⟩

/-- Block b is a map with just the places pl, and f of them. -/
def MapF (w : World) (b : Nat) (pl : List (Int × UInt8)) (f : Int × UInt8 → Mk) : Prop :=
  (∃ es clock, w.heap[b]? = some (.map es clock) ∧ es.toList.map (fun e => (e.key, e.val)) = pl.map fun s => (seatK_c s, markV (f s))) ∧ pl.Nodup ∧ ∀ s ∈ pl, okRow s.1

theorem MapF.lt {w : World} {b : Nat} {pl : List (Int × UInt8)} {f : Int × UInt8 → Mk} (h : MapF w b pl f) : b < w.heap.size := by
  obtain ⟨⟨es, clock, hb, _⟩, _⟩ := h
  exact (Array.getElem?_eq_some_iff.1 hb).1

theorem MapF.kept {w w' : World} {b : Nat} {pl : List (Int × UInt8)} {f : Int × UInt8 → Mk} {row : Option Nat} (h : MapF w b pl f) (hg : w.grownBy w' row) (hne : some b ≠ row) : MapF w' b pl f := by
  have hlt := h.lt
  obtain ⟨⟨es, clock, hb, hm⟩, h2⟩ := h
  exact ⟨⟨es, clock, (hg.block b hlt hne).trans hb, hm⟩, h2⟩

theorem MapF.keep {w w' : World} {b B : Nat} {pl : List (Int × UInt8)} {f : Int × UInt8 → Mk} (h : MapF w b pl f) (hb : Below B w w') (hB : b < B) : MapF w' b pl f := by
  obtain ⟨⟨es, clock, hb1, hm⟩, h2⟩ := h
  exact ⟨⟨es, clock, (hb.block b hB).trans hb1, hm⟩, h2⟩

theorem MapF.mono {w w' : World} {b : Nat} {pl : List (Int × UInt8)} {f : Int × UInt8 → Mk} (h : MapF w b pl f) (hb : Below w.heap.size w w') : MapF w' b pl f := h.keep hb h.lt

theorem MapF.alloc {w : World} {b : Nat} {pl : List (Int × UInt8)} {f : Int × UInt8 → Mk} (h : MapF w b pl f) (o : Obj) : MapF (w.alloc o) b pl f := h.kept (World.grownBy_alloc w o none) (by simp)

theorem MapF.congr {w : World} {b : Nat} {pl : List (Int × UInt8)} {f g : Int × UInt8 → Mk} (h : MapF w b pl f) (he : ∀ s ∈ pl, f s = g s) : MapF w b pl g := by
  obtain ⟨⟨es, clock, hb1, hm⟩, h2⟩ := h
  refine ⟨⟨es, clock, hb1, hm.trans (List.map_congr_left fun s hs => by rw [he s hs])⟩, h2⟩

theorem MapF.made (w : World) (f : Int × UInt8 → Mk) : MapF (w.alloc (.map #[] 0)) w.heap.size [] f :=
  ⟨⟨#[], 0, (MapKept.heap_alloc w _).1, rfl⟩, List.nodup_nil, fun _ h => nomatch h⟩

theorem ent_get {es : Array MapEntry} {pl : List (Int × UInt8)} {f : Int × UInt8 → Mk} (hm : es.toList.map (fun e => (e.key, e.val)) = pl.map fun s => (seatK_c s, markV (f s))) {j : Nat} {e : MapEntry} (h : es.toList[j]? = some e) :
    ∃ s, pl[j]? = some s ∧ e.key = seatK_c s ∧ e.val = markV (f s) := by
  have h1 : (es.toList.map (fun e => (e.key, e.val)))[j]? = some (e.key, e.val) := by rw [List.getElem?_map, h]; rfl
  rw [hm, List.getElem?_map] at h1
  cases h2 : pl[j]? with
  | none => rw [h2] at h1; cases h1
  | some s =>
    rw [h2] at h1
    simp at h1
    exact ⟨s, rfl, h1.1.symm, h1.2.symm⟩

theorem MapF.find {w : World} {b : Nat} {pl : List (Int × UInt8)} {f : Int × UInt8 → Mk} (h : MapF w b pl f) (s : Int × UInt8) (hs : okRow s.1) :
    ∃ es clock, w.heap[b]? = some (.map es clock) ∧ es.toList.map (fun e => (e.key, e.val)) = (pl.map fun s => (seatK_c s, markV (f s))) ∧
      ((s ∉ pl ∧ (Instr.findKey 46 (seatK_c s) es.toList).run Tryz.prog w = .ok none w) ∨ ∃ j e, pl[j]? = some s ∧ es[j]? = some e ∧ e.key = seatK_c s ∧ (Instr.findKey 46 (seatK_c s) es.toList).run Tryz.prog w = .ok (some (j, markV (f s))) w) := by
  obtain ⟨⟨es, clock, hb, hm⟩, hn, hok⟩ := h
  refine ⟨es, clock, hb, hm, ?_⟩
  obtain ⟨l, hl⟩ := seat_key s hs
  have hes : ∀ e ∈ es.toList, ∃ l, keyOf Tryz.prog 46 e.key = some l := by
    intro e he
    obtain ⟨j, hj⟩ := List.mem_iff_getElem?.1 he
    obtain ⟨s', h1, h2, _⟩ := ent_get hm hj
    rw [h2]
    exact seat_key s' (hok s' (List.mem_of_getElem? h1))
  rcases seat_keyed.find w hl es.toList hes with ⟨h1, h2⟩ | ⟨j, e, h1, h2, h3⟩
  · refine .inl ⟨fun hmem => ?_, h1⟩
    obtain ⟨j, hj⟩ := List.mem_iff_getElem?.1 hmem
    have h3 : (es.toList.map (fun e => (e.key, e.val)))[j]? = some (seatK_c s, markV (f s)) := by rw [hm, List.getElem?_map, hj]; rfl
    rw [List.getElem?_map] at h3
    cases h4 : es.toList[j]? with
    | none => rw [h4] at h3; cases h3
    | some e =>
      rw [h4] at h3
      simp at h3
      exact h2 e (List.mem_of_getElem? h4) h3.1
  · obtain ⟨s', k1, k2, k3⟩ := ent_get hm h2
    have : s' = s := seatK_inj (k2.symm.trans h3)
    subst this
    refine .inr ⟨j, e, k1, by simpa using h2, h3, ?_⟩
    rw [h1, k3]

theorem MapF.look {w : World} {b : Nat} {pl : List (Int × UInt8)} {f : Int × UInt8 → Mk} (h : MapF w b pl f) (c : Bool) (s : Int × UInt8) (hs : okRow s.1) (hz : (zeroValue 133).run Tryz.prog w = .ok (markV mark0) w) :
    (s ∈ pl ∧ (Instr.lookup 128 (.map (some b)) (seatK_c s) c).run Tryz.prog w = .ok (if c then .tuple #[markV (f s), .bool true] else markV (f s)) w) ∨
    (s ∉ pl ∧ (Instr.lookup 128 (.map (some b)) (seatK_c s) c).run Tryz.prog w = .ok (if c then .tuple #[markV mark0, .bool false] else markV mark0) w) := by
  obtain ⟨l, hl⟩ := seat_key s hs
  obtain ⟨es, clock, hb, hm, h1⟩ := h.find s hs
  rcases h1 with ⟨h1, h2⟩ | ⟨j, e, h1, h2, h3, h4⟩
  · exact .inr ⟨h1, by simp [Instr.lookup, run_underlying Tryz.underlying128, MapKept.run_getObj_map hb, seat_keyed.check w _ hl, h2, hz, Result.andThen]⟩
  · exact .inl ⟨List.mem_of_getElem? h1, by simp [Instr.lookup, run_underlying Tryz.underlying128, MapKept.run_getObj_map hb, seat_keyed.check w _ hl, h4, Result.andThen]⟩

def setF (f : Int × UInt8 → Mk) (s : Int × UInt8) (m : Mk) : Int × UInt8 → Mk := fun x => if x = s then m else f x

theorem run_put_new {P : Program} {k t e : TypeId} {w : World} {b : Nat} {es : Array MapEntry} {clock : Nat} (K : Maps.Keyed P k) (ht : P.underlying t = some (.map k e)) (hb : w.heap[b]? = some (.map es clock)) {key val : Value} {l : Lit} (hl : keyOf P k key = some l)
    (h2 : (Instr.findKey k key es.toList).run P w = .ok none w) : (Instr.mapUpdate t (.map (some b)) key val).run P w = .ok () (setBlock w b (.map (es.push ⟨key, val, clock⟩) (clock + 1))) := by
  have hs := MapKept.run_setObj_map (P := P) (.map (es.push ⟨key, val, clock⟩) (clock + 1)) hb
  simp only [Instr.mapUpdate, Sem.run_bind, run_underlying ht, Result.andThen_ok, MapKept.run_getObj_map hb, K.check w false hl, h2]
  exact hs

theorem MapF.add {w : World} {b : Nat} {pl : List (Int × UInt8)} {f : Int × UInt8 → Mk} (h : MapF w b pl f) (s : Int × UInt8) (m : Mk) (hs : okRow s.1) (hn : s ∉ pl) :
    ∃ w', (Instr.mapUpdate 128 (.map (some b)) (seatK_c s) (markV m)).run Tryz.prog w = .ok () w' ∧ MapF w' b (pl ++ [s]) (setF f s m) ∧ w.grownBy w' (some b) := by
  obtain ⟨l, hl⟩ := seat_key s hs
  obtain ⟨es, clock, hb, hm, h1⟩ := h.find s hs
  obtain ⟨_, hnd, hok⟩ := h
  rcases h1 with ⟨h1, h2⟩ | ⟨j, e, h1, h2, h3, h4⟩
  · refine ⟨setBlock w b (.map (es.push ⟨seatK_c s, markV m, clock⟩) (clock + 1)), ?_, ⟨⟨_, _, heap_setBlock_same hb _, ?_⟩, ?_, ?_⟩, ⟨rfl, rfl, rfl, by simp [setBlock], fun i _ hi => heap_setBlock_other hb _ (fun e => hi (by rw [e]))⟩⟩
    · exact run_put_new seat_keyed Tryz.underlying128 hb hl h2
    · have e1 : pl.map (fun x => (seatK_c x, markV (setF f s m x))) = pl.map fun x => (seatK_c x, markV (f x)) := by
        refine List.map_congr_left fun x hx => ?_
        unfold setF
        rw [if_neg (fun e : x = s => hn (e ▸ hx))]
      have e2 : setF f s m s = m := if_pos rfl
      rw [Array.toList_push, List.map_append, hm, List.map_append, e1, List.map_singleton, List.map_singleton, e2]
    · exact List.nodup_append.2 ⟨hnd, by simp, fun a ha b' hb' e => by simp at hb'; subst hb'; exact hn (e ▸ ha)⟩
    · intro x hx
      rcases List.mem_append.1 hx with hx | hx
      · exact hok x hx
      · simp at hx; rw [hx]; exact hs
  · exact absurd (List.mem_of_getElem? h1) hn

theorem set_map {pl : List (Int × UInt8)} (hn : pl.Nodup) {f : Int × UInt8 → Mk} {s : Int × UInt8} {m : Mk} : ∀ {j : Nat}, pl[j]? = some s → (pl.map fun s => (seatK_c s, markV (f s))).set j (seatK_c s, markV m) = pl.map fun x => (seatK_c x, markV (setF f s m x)) := by
  induction pl with
  | nil => intro j h; simp at h
  | cons a t ih =>
    intro j h
    obtain ⟨h1, h2⟩ := List.nodup_cons.1 hn
    cases j with
    | zero =>
      simp at h
      subst h
      simp only [List.map_cons, List.set_cons_zero]
      congr 1
      · simp [setF]
      · refine List.map_congr_left fun x hx => ?_
        unfold setF
        rw [if_neg (fun e : x = a => h1 (e ▸ hx))]
    | succ j =>
      simp at h
      simp only [List.map_cons, List.set_cons_succ, ih h2 h]
      congr 1
      unfold setF
      rw [if_neg (fun e : a = s => h1 (by rw [e]; exact List.mem_of_getElem? h))]

theorem MapF.set {w : World} {b : Nat} {pl : List (Int × UInt8)} {f : Int × UInt8 → Mk} (h : MapF w b pl f) (s : Int × UInt8) (m : Mk) (hs : s ∈ pl) :
    ∃ w', (Instr.mapUpdate 128 (.map (some b)) (seatK_c s) (markV m)).run Tryz.prog w = .ok () w' ∧ MapF w' b pl (setF f s m) ∧ w.grownBy w' (some b) := by
  have hr := h.2.2 s hs
  obtain ⟨l, hl⟩ := seat_key s hr
  obtain ⟨es, clock, hb, hm, h1⟩ := h.find s hr
  obtain ⟨_, hnd, hok⟩ := h
  rcases h1 with ⟨h1, h2⟩ | ⟨j, e, h1, h2, h3, h4⟩
  · exact absurd hs h1
  · have h2' : es.toList[j]? = some e := by simpa using h2
    refine ⟨setBlock w b (.map (es.modify j (fun e' => { e' with key := seatK_c s, val := markV m })) clock), ?_, ⟨⟨_, _, heap_setBlock_same hb _, ?_⟩, hnd, hok⟩, ⟨rfl, rfl, rfl, by simp [setBlock], fun i _ hi => heap_setBlock_other hb _ (fun e => hi (by rw [e]))⟩⟩
    · simp [Instr.mapUpdate, run_underlying Tryz.underlying128, MapKept.run_getObj_map hb, seat_keyed.check w false hl, h4, h2, h3, seat_keyed.stays w hl, MapKept.run_setObj_map _ hb, Result.andThen, setBlock]
    · rw [Array.toList_modify, ChangeMaps.modify_eq_set _ _ _ _ h2', List.map_set, hm]
      exact set_map hnd h1

end Go.Proofs.YtmhhbnnjilbdnaaGreatDoor
namespace Go.Proofs.YtmhhbnnjilbdnaaGreatDoor
open Go.RowKit
set_option linter.unusedSimpArgs false

abbrev St := Int × UInt8

def rowsL (a b : Int) : List Int := (List.range (b + 1 - a).toNat).map fun (k : Nat) => a + (k : Int)

/-- All places of a plan. -/
def placesL (a b : Int) (l : List UInt8) : List St := (rowsL a b).flatMap fun r => l.map fun c => (r, c)

theorem rowsL_len (a b : Int) : (rowsL a b).length = (b + 1 - a).toNat := by simp [rowsL]

theorem rowsL_get {a b : Int} {i : Nat} (h : i < (b + 1 - a).toNat) : (rowsL a b)[i]? = some (a + (i : Int)) := by
  simp [rowsL, h]

theorem flat_len (rs : List Int) (l : List UInt8) : (rs.flatMap fun r => l.map fun c => ((r, c) : St)).length = rs.length * l.length := by
  induction rs with
  | nil => simp
  | cons r rs ih => simp only [List.flatMap_cons, List.length_append, List.length_map, ih, List.length_cons, Nat.succ_mul]; omega

theorem placesL_len (a b : Int) (l : List UInt8) : (placesL a b l).length = (b + 1 - a).toNat * l.length := by
  unfold placesL
  rw [flat_len, rowsL_len]

theorem flat_get (rs : List Int) (l : List UInt8) (i j : Nat) (r : Int) (c : UInt8) (hi : rs[i]? = some r) (hj : l[j]? = some c) : (rs.flatMap fun r => l.map fun c => ((r, c) : St))[i * l.length + j]? = some (r, c) := by
  have hjl : j < l.length := (List.getElem?_eq_some_iff.1 hj).1
  induction rs generalizing i with
  | nil => simp at hi
  | cons x rs ih =>
    cases i with
    | zero =>
      simp at hi
      subst hi
      rw [List.flatMap_cons, List.getElem?_append_left (by simp; omega)]
      simp [hj]
    | succ i =>
      simp at hi
      rw [List.flatMap_cons, List.getElem?_append_right (by simp [Nat.succ_mul]; omega)]
      have := ih i hi
      rw [← this]
      congr 1
      simp [Nat.succ_mul]
      omega

theorem placesL_get {a b : Int} {l : List UInt8} {i j : Nat} {c : UInt8} (hi : i < (b + 1 - a).toNat) (hj : l[j]? = some c) : (placesL a b l)[i * l.length + j]? = some (a + (i : Int), c) :=
  flat_get _ _ i j _ c (rowsL_get hi) hj

theorem mem_rowsL {a b r : Int} : r ∈ rowsL a b ↔ a ≤ r ∧ r ≤ b := by
  unfold rowsL
  simp only [List.mem_map, List.mem_range]
  constructor
  · rintro ⟨k, hk, rfl⟩; omega
  · rintro ⟨h1, h2⟩; exact ⟨(r - a).toNat, by omega, by omega⟩

theorem mem_placesL {a b : Int} {l : List UInt8} {s : St} : s ∈ placesL a b l ↔ a ≤ s.1 ∧ s.1 ≤ b ∧ s.2 ∈ l := by
  obtain ⟨r, c⟩ := s
  unfold placesL
  simp only [List.mem_flatMap, List.mem_map, mem_rowsL]
  constructor
  · rintro ⟨r', ⟨h1, h2⟩, c', hc, e⟩
    injection e with e1 e2
    subst e1; subst e2
    exact ⟨h1, h2, hc⟩
  · rintro ⟨h1, h2, hc⟩
    exact ⟨r, ⟨h1, h2⟩, c, hc, rfl⟩

/-- Letters that rise. -/
def Rises (l : List UInt8) : Prop := l.Pairwise fun a b => a.toNat < b.toNat

def stLt (s t : St) : Prop := s.1 < t.1 ∨ s.1 = t.1 ∧ s.2.toNat < t.2.toNat

instance (s t : St) : Decidable (stLt s t) := by unfold stLt; infer_instance

theorem stLt_irr (s : St) : ¬ stLt s s := by unfold stLt; omega

theorem flat_rise (rs : List Int) (l : List UInt8) (hr : rs.Pairwise (· < ·)) (hl : Rises l) : (rs.flatMap fun r => l.map fun c => ((r, c) : St)).Pairwise stLt := by
  induction rs with
  | nil => simp
  | cons r rs ih =>
    obtain ⟨h1, h2⟩ := List.pairwise_cons.1 hr
    rw [List.flatMap_cons, List.pairwise_append]
    refine ⟨?_, ih h2, ?_⟩
    · rw [List.pairwise_map]
      exact List.Pairwise.imp (fun {a b} h => .inr ⟨rfl, h⟩) hl
    · intro x hx y hy
      simp only [List.mem_map, List.mem_flatMap] at hx hy
      obtain ⟨c, _, rfl⟩ := hx
      obtain ⟨r', hr', c', _, rfl⟩ := hy
      exact .inl (h1 r' hr')

theorem placesL_rise (a b : Int) {l : List UInt8} (hl : Rises l) : (placesL a b l).Pairwise stLt := by
  refine flat_rise _ _ ?_ hl
  unfold rowsL
  rw [List.pairwise_map]
  have : (List.range (b + 1 - a).toNat).Pairwise (· < ·) := List.pairwise_lt_range
  exact this.imp (fun h => by omega)

theorem placesL_nodup (a b : Int) {l : List UInt8} (hl : Rises l) : (placesL a b l).Nodup := by
  rw [List.nodup_iff_pairwise_ne]
  refine (placesL_rise a b hl).imp ?_
  intro s t h e
  rw [e] at h
  exact stLt_irr t h

/-- The place of a seat in a list, -1: it isn't there. -/
def atL (l : List St) (s : St) : Int := if s ∈ l then (l.idxOf s : Int) else -1

theorem idxOf_get {l : List St} (hn : l.Nodup) {k : Nat} {s : St} (h : l[k]? = some s) : l.idxOf s = k := by
  induction l generalizing k with
  | nil => simp at h
  | cons a t ih =>
    obtain ⟨h1, h2⟩ := List.nodup_cons.1 hn
    rw [List.idxOf_cons]
    cases k with
    | zero => simp at h; subst h; simp
    | succ k =>
      simp at h
      have : (a == s) = false := by rw [beq_eq_false_iff_ne]; exact fun e => h1 (e ▸ List.mem_of_getElem? h)
      rw [this, ih h2 h]
      rfl

theorem atL_get {l : List St} (hn : l.Nodup) {k : Nat} {s : St} (h : l[k]? = some s) : atL l s = k := by
  unfold atL
  rw [if_pos (List.mem_of_getElem? h), idxOf_get hn h]

/-- The exits of a plan are right, up to k. -/
def exOk (a b : Int) (x : List Int) (i : Nat) : Prop := a ≤ x.getD i 0 ∧ x.getD i 0 ≤ b ∧ (i = 0 ∨ x.getD (i - 1) 0 < x.getD i 0)

instance (a b : Int) (x : List Int) (i : Nat) : Decidable (exOk a b x i) := by unfold exOk; infer_instance

def st0 : St := (0, 0)

/-- The blocked places are right: as plan.Check asks it. -/
def bkOk (a b : Int) (l : List UInt8) (bk : List St) (i : Nat) : Prop := a ≤ (bk.getD i st0).1 ∧ (bk.getD i st0).1 ≤ b ∧ (bk.getD i st0).2 ∈ l ∧ (i = 0 ∨ stLt (bk.getD (i - 1) st0) (bk.getD i st0))

instance (a b : Int) (l : List UInt8) (bk : List St) (i : Nat) : Decidable (bkOk a b l bk i) := by unfold bkOk; infer_instance

/-- .. as the reference asks it. -/
def lastAt (all bk : List St) : Nat → Int
  | 0 => -1
  | i + 1 => atL all (bk.getD i st0)

def bkAt (all bk : List St) (i : Nat) : Prop := lastAt all bk i < atL all (bk.getD i st0)

instance (all bk : List St) (i : Nat) : Decidable (bkAt all bk i) := by unfold bkAt; infer_instance

/-- A plan. -/
structure Pl where
  first : Int
  last : Int
  lets : ByteArray
  exits : List Int
  bks : List St
theorem letF_rises {l a : List UInt8} (h : letF l = some a) : Rises a := (letF_some h).2.2.1

/-- Where the letters of a text stand. -/
theorem letK_at {l a : List UInt8} {k : Nat} (h : letK l k = some a) :
    (∀ i, i < k → (l.getD i 0).toNat ≠ 46 → l.getD i 0 ∈ a) ∧ (∀ c ∈ a, ∃ i, i < k ∧ l.getD i 0 = c) ∧
    ∀ i j, i < j → j < k → (l.getD i 0).toNat ≠ 46 → (l.getD j 0).toNat ≠ 46 → (l.getD i 0).toNat < (l.getD j 0).toNat := by
  induction k generalizing a with
  | zero =>
    injection h with h
    subst h
    exact ⟨fun i hi => absurd hi (Nat.not_lt_zero _), fun c hc => (by cases hc), fun i j _ hj => absurd hj (Nat.not_lt_zero _)⟩
  | succ k ih =>
    have hr := (letK_rise h).1
    rw [letK] at h
    cases hn : letK l k with
    | none => rw [hn] at h; cases h
    | some c =>
      rw [hn] at h
      have h' : letS l k c = some a := h
      obtain ⟨p1, p2, p3⟩ := ih hn
      unfold letS at h'
      split at h'
      · rename_i h46
        split at h'
        · cases h'
        · injection h' with h'
          subst h'
          refine ⟨fun i hi hne => ?_, fun x hx => ?_, fun i j hij hj h1 h2 => ?_⟩
          · rcases Nat.lt_or_ge i k with hk | hk
            · exact p1 i hk hne
            · rw [show i = k by omega] at hne; exact absurd h46 hne
          · obtain ⟨i, hi, e⟩ := p2 x hx
            exact ⟨i, by omega, e⟩
          · rcases Nat.lt_or_ge j k with hk | hk
            · exact p3 i j hij hk h1 h2
            · rw [show j = k by omega] at h2; exact absurd h46 h2
      · split at h'
        · injection h' with h'
          subst h'
          have hlt : ∀ y ∈ c, y.toNat < (l.getD k 0).toNat := fun y hy => (List.pairwise_append.1 hr).2.2 y hy _ (by simp)
          refine ⟨fun i hi hne => ?_, fun x hx => ?_, fun i j hij hj h1 h2 => ?_⟩
          · rcases Nat.lt_or_ge i k with hk | hk
            · exact List.mem_append_left _ (p1 i hk hne)
            · rw [show i = k by omega]; simp
          · rcases List.mem_append.1 hx with h1 | h1
            · obtain ⟨i, hi, e⟩ := p2 x h1
              exact ⟨i, by omega, e⟩
            · exact ⟨k, by omega, (List.mem_singleton.1 h1).symm⟩
          · rcases Nat.lt_or_ge j k with hk | hk
            · exact p3 i j hij hk h1 h2
            · rw [show j = k by omega]
              exact hlt _ (p1 i (by omega) h1)
        · cases h'

/-- A letter of a text stands in it once. -/
theorem letF_at {l a : List UInt8} (h : letF l = some a) : (∀ i, i < l.length → (l.getD i 0).toNat ≠ 46 → l.getD i 0 ∈ a) ∧ (∀ c ∈ a, ∃ i, i < l.length ∧ l.getD i 0 = c) ∧
    ∀ i j, i < l.length → j < l.length → (l.getD i 0).toNat ≠ 46 → l.getD i 0 = l.getD j 0 → i = j := by
  cases hn : letK l l.length with
  | none => rw [letF_none hn (Nat.le_refl _)] at h; cases h
  | some b =>
    rw [letF_end hn] at h
    split at h
    · injection h with h
      subst h
      obtain ⟨p1, p2, p3⟩ := letK_at hn
      refine ⟨p1, p2, fun i j hi hj hne he => ?_⟩
      rcases Nat.lt_trichotomy i j with hc | hc | hc
      · have := p3 i j hc hj hne (by rw [← he]; exact hne)
        rw [he] at this; omega
      · exact hc
      · have := p3 j i hc hi (by rw [← he]; exact hne) hne
        rw [he] at this; omega
    · cases h

theorem let_not46 {l a : List UInt8} (h : letF l = some a) {c : UInt8} (hc : c ∈ a) : c.toNat ≠ 46 := by
  have := (letF_some h).2.2.2 c hc
  unfold isL_c at this
  have := of_decide_eq_true this
  omega

/-- The place of a byte in a text. -/
theorem idx_letter {l a : List UInt8} (h : letF l = some a) {c : UInt8} (hc : c ∈ a) : l.idxOf c < l.length ∧ l.getD (l.idxOf c) 0 = c ∧ ∀ i, i < l.length → (l.getD i 0 = c ↔ i = l.idxOf c) := by
  obtain ⟨p1, p2, p3⟩ := letF_at h
  obtain ⟨i, hi, e⟩ := p2 c hc
  have hm : c ∈ l := by
    rw [← e, List.getD_eq_getElem?_getD, List.getElem?_eq_getElem hi]
    exact List.getElem_mem hi
  have h1 := List.idxOf_lt_length_of_mem hm
  have h2 : l.getD (l.idxOf c) 0 = c := by
    rw [List.getD_eq_getElem?_getD, List.getElem?_eq_getElem h1]
    exact List.getElem_idxOf h1
  refine ⟨h1, h2, fun j hj => ⟨fun e => ?_, fun e => by rw [e]; exact h2⟩⟩
  exact p3 j _ hj h1 (by rw [e]; exact let_not46 h hc) (e.trans h2.symm)

def wOf (bs : List UInt8) (k : Nat) : Bool := decide (k = 0 ∨ k + 1 = bs.length)
def aOf (bs : List UInt8) (k : Nat) : Bool := decide (0 < k ∧ (bs.getD (k - 1) 0).toNat = 46 ∨ k + 1 < bs.length ∧ (bs.getD (k + 1) 0).toNat = 46)

/-- As many E as there are exits of this row. -/
def exE (x : List Int) (r : Int) : List UInt8 := (x.filter fun y => decide (y = r)).map fun _ => 69

/-- The marks of a place. -/
def marksL (bs : List UInt8) (x : List Int) (s : St) : List UInt8 :=
  (if wOf bs (bs.idxOf s.2) = true then [87] else []) ++ (if aOf bs (bs.idxOf s.2) = true then [65] else []) ++ exE x s.1

theorem exE_len (x : List Int) (r : Int) : (exE x r).length ≤ x.length := by
  unfold exE
  rw [List.length_map]
  exact List.length_filter_le _ _

theorem exE_take {x : List Int} {k : Nat} (hk : k < x.length) (r : Int) : exE (x.take (k + 1)) r = if x.getD k 0 = r then exE (x.take k) r ++ [69] else exE (x.take k) r := by
  unfold exE
  have e : x.take (k + 1) = x.take k ++ [x.getD k 0] := by
    rw [List.take_add_one, List.getD_eq_getElem?_getD, List.getElem?_eq_getElem hk]
    rfl
  rw [e, List.filter_append, List.map_append]
  by_cases h : x.getD k 0 = r
  · rw [if_pos h]; simp only [h, List.filter_cons, List.filter_nil, decide_true, if_true, List.map_cons, List.map_nil]
  · rw [if_neg h]; simp only [h, List.filter_cons, List.filter_nil, decide_false, Bool.false_eq_true, if_false, List.map_nil, List.append_nil]

theorem exE_all (x : List Int) (r : Int) : exE (x.take x.length) r = exE x r := by rw [List.take_length]

def rightP (p : Pl) (l : List UInt8) : Prop := 1 ≤ p.first ∧ p.first ≤ p.last ∧ p.last ≤ 60 ∧ p.bks.length ≤ 40 ∧ (∀ i, i < p.exits.length → exOk p.first p.last p.exits i) ∧ ∀ i, i < p.bks.length → bkOk p.first p.last l p.bks i

instance (p : Pl) (l : List UInt8) : Decidable (rightP p l) := by unfold rightP; infer_instance

/-- Is a plan right? -/
def rightB (p : Pl) : Bool := match letF p.lets.data.toList with | none => false | some l => decide (rightP p l)

theorem rightB_some {p : Pl} (h : rightB p = true) : ∃ l, letF p.lets.data.toList = some l ∧ rightP p l := by
  unfold rightB at h
  split at h
  · cases h
  · rename_i l hl
    exact ⟨l, hl, of_decide_eq_true h⟩

theorem rightB_of {p : Pl} {l : List UInt8} (hl : letF p.lets.data.toList = some l) : rightB p = decide (rightP p l) := by
  unfold rightB
  rw [hl]

theorem rightB_none {p : Pl} (hl : letF p.lets.data.toList = none) : rightB p = false := by
  unfold rightB
  rw [hl]

theorem right_places {p : Pl} {l : List UInt8} (h : rightP p l) (hl : letF p.lets.data.toList = some l) : 0 < (placesL p.first p.last l).length ∧ (placesL p.first p.last l).length ≤ 600 := by
  obtain ⟨h1, h2, h3, _⟩ := h
  obtain ⟨l1, l2, _⟩ := letF_some hl
  rw [placesL_len]
  have : 0 < (p.last + 1 - p.first).toNat := by omega
  constructor
  · exact Nat.mul_pos this l1
  · calc (p.last + 1 - p.first).toNat * l.length ≤ 60 * 10 := Nat.mul_le_mul (by omega) l2
      _ = 600 := rfl
end Go.Proofs.YtmhhbnnjilbdnaaGreatDoor
namespace Go.Proofs.YtmhhbnnjilbdnaaGreatDoor
open Go.RowKit
set_option linter.unusedSimpArgs false

def intC (x : Int) : List Value := [.int .i64 x]
def stC (s : St) : List Value := seatC s.1 s.2

theorem intC_len (x : Int) : (intC x).length = 1 := rfl
theorem stC_len (s : St) : (stC s).length = 2 := rfl

theorem int_at {w : World} {p : Option Addr} {n c : Nat} {l : List Int} (h : HasE intC w (.slice p n c) l) {i : Nat} (hi : i < l.length) : ∃ b off, p = some ⟨b, off, none⟩ ∧ w.cell? ⟨b, off + i, none⟩ = some (.int .i64 (l.getD i 0)) := by
  have e : l[i]? = some (l.getD i 0) := by rw [List.getD_eq_getElem?_getD, List.getElem?_eq_getElem hi]; rfl
  obtain ⟨b, off, h1, h2⟩ := h.at intC_len e
  refine ⟨b, off, h1, ?_⟩
  have := h2 0 _ (by decide) rfl
  rwa [Nat.mul_one, Nat.add_zero] at this

theorem st_at {w : World} {p : Option Addr} {n c : Nat} {l : List St} (h : HasE stC w (.slice p n c) l) {i : Nat} (hi : i < l.length) : ∃ b off, p = some ⟨b, off, none⟩ ∧ w.rangeAt b (off + i * 2) (seatC (l.getD i st0).1 (l.getD i st0).2) ∧ w.cell? ⟨b, off + i * 2, none⟩ = some (.int .i64 (l.getD i st0).1) ∧ w.cell? ⟨b, off + i * 2 + 1, none⟩ = some (.int .u8 (l.getD i st0).2.toNat) := by
  have e : l[i]? = some (l.getD i st0) := by rw [List.getD_eq_getElem?_getD, List.getElem?_eq_getElem hi]; rfl
  obtain ⟨b, off, h1, h2⟩ := h.at stC_len e
  have c0 := h2 0 _ (by decide) rfl
  have c1 := h2 1 _ (by decide) rfl
  rw [← Nat.add_assoc] at c0 c1
  refine ⟨b, off, h1, fun j u hj => ?_, c0, c1⟩
  match j, hj with
  | 0, hj => injection hj with hj; rw [← hj]; exact c0
  | 1, hj => injection hj with hj; rw [← hj]; exact c1
  | j + 2, hj => simp [seatC] at hj

/-- What the dump says of a seat as an element. -/
theorem seat_info : ∃ i0 : TypeInfo, Tryz.prog.info? 46 = some i0 ∧ i0.zero = some (.agg #[.int .i64 0, .int .u8 0]) ∧ i0.size = 2 ∧ i0.bytes = 16 := by
  have hbyte : (Tryz.prog.info? 46).map (fun i => (i.zero, i.size, i.bytes)) = some (some (.agg #[.int .i64 0, .int .u8 0]), 2, 16) := by kernel_rfl
  rw [Option.map_eq_some_iff] at hbyte
  obtain ⟨i0, h1, h2⟩ := hbyte
  simp only [Prod.mk.injEq] at h2
  exact ⟨i0, h1, h2.1, h2.2.1, h2.2.2⟩

/-- A list of seats in memory from B on, or nil. -/
def OwnS (w : World) (B : Nat) (v : Value) (l : List St) : Prop := w.ownsRow B 46 2 v l.length (l.flatMap stC)

theorem OwnS.has {w : World} {B : Nat} {v : Value} {l : List St} (h : OwnS w B v l) : HasE stC w v l := HasE.own h
theorem OwnS.nil (w : World) (B : Nat) : OwnS w B (.slice none 0 0) [] := World.ownsRow_nil _ _ _ _

theorem OwnS.mono {w w' : World} {B : Nat} {v : Value} {l : List St} (h : OwnS w B v l) (hb : Below w.heap.size w w') : OwnS w' B v l :=
  World.ownsRow.kept h (gr_of_below hb none) (by cases hv : v.ownBlock <;> simp)

/-- The place of a byte in a text, -1: none. -/
def byteAt (l : List UInt8) (c : UInt8) : Int := if c ∈ l then (l.idxOf c : Int) else -1

theorem indexByte_at (l : List UInt8) (c : UInt8) : Lib.indexByte l c = byteAt l c := by
  induction l with
  | nil => rfl
  | cons b l ih =>
    unfold Lib.indexByte
    rw [ih]
    unfold byteAt
    by_cases hb : b = c
    · subst hb
      simp
    · have hbb : (b == c) = false := by rw [beq_eq_false_iff_ne]; exact hb
      rw [hbb, List.idxOf_cons, hbb]
      by_cases hm : c ∈ l
      · have hne : (((l.idxOf c : Nat) : Int) == -1) = false := by rw [beq_eq_false_iff_ne]; omega
        rw [if_pos hm, if_pos (List.mem_cons_of_mem _ hm), hne]
        simp
      · have hm2 : c ∉ b :: l := fun h => by
          rcases List.mem_cons.1 h with h | h
          · exact hb h.symm
          · exact hm h
        rw [if_neg hm, if_neg hm2]
        rfl

set_option maxRecDepth 100000 in
theorem stringslite_index (s : ByteArray) (c : UInt8) (w : World) :
    Calls Tryz.prog 95 #[.string s, .int .u8 c.toNat] w fun e w' => e = .returned (.int .i64 (byteAt s.data.toList c)) ∧ w = w' := by
  go_enter Tryz.func95, Tryz.ntmps95
  go_wp2
  rw [run_callFunc_extern Tryz.func107 (by kernel_rfl) (by kernel_rfl) (by kernel_rfl) (e := Extern.BytealgIndexByte.indexByte) (by kernel_rfl), Lib.run_indexByteString]
  simp only [Result.andThen]
  rw [Oper.upon_value]
  go_wp2
  go_ret
  exact ⟨ret_int (by simp [indexByte_at]), rfl⟩

theorem index_any (s : ByteArray) (c : UInt8) (w : World) :
    Calls Tryz.prog 82 #[.string s, .int .u8 c.toNat] w fun e w' => e = .returned (.int .i64 (byteAt s.data.toList c)) ∧ w = w' := by
  have HC := Lib.hid (stringslite_index s c w)
  go_enter Tryz.func82, Tryz.ntmps82
  go_wp2_with (first
    | (go_at_call 95; (with_reducible refine HC.out.mono ?_); rintro e w1 ⟨rfl, rfl⟩))
  go_ret
  exact ⟨rfl, rfl⟩

set_option maxRecDepth 20000 in
theorem less_any (s t : St) (w : World) :
    Calls Tryz.prog 83 #[seatK_c s, seatK_c t] w fun e w' => e = .returned (.bool (decide (stLt s t))) ∧ Below w.heap.size w w' := by
  obtain ⟨r, c⟩ := s
  obtain ⟨r', c'⟩ := t
  have hd : RowKit.Hid (decide (stLt (r, c) (r', c')) = (decide (r < r') || decide (r = r') && decide ((c.toNat : Int) < c'.toNat))) := Lib.hid (by
    have : ((c.toNat : Int) < c'.toNat) ↔ c.toNat < c'.toNat := by omega
    rw [Bool.eq_iff_iff]
    simp only [this, decide_eq_true_eq, Bool.or_eq_true, Bool.and_eq_true]
    rfl)
  unfold seatK_c seatV
  by_cases h1 : r < r'
  · go_enter Tryz.func83, Tryz.ntmps83
    go_wp2
    go_ret
    exact ⟨ret_bool (by rw [hd.out]; simp [h1]), ((Below.refl _ _).alloc (Nat.le_refl _) _).alloc (by simp) _⟩
  · by_cases h2 : r = r'
    · subst h2
      have hq : (r == r) = true := by simp
      go_enter Tryz.func83, Tryz.ntmps83
      go_wp2
      go_ret
      exact ⟨ret_bool (by rw [hd.out]; simp), ((Below.refl _ _).alloc (Nat.le_refl _) _).alloc (by simp) _⟩
    · have hq : (r == r') = false := by rw [beq_eq_false_iff_ne]; exact h2
      go_enter Tryz.func83, Tryz.ntmps83
      go_wp2
      go_ret
      exact ⟨ret_bool (by rw [hd.out]; simp [h1, h2]), ((Below.refl _ _).alloc (Nat.le_refl _) _).alloc (by simp) _⟩

theorem getD_get {l : List St} {k : Nat} (h : k < l.length) : l[k]? = some (l.getD k st0) := by
  rw [List.getD_eq_getElem?_getD, List.getElem?_eq_getElem h]; rfl

end Go.Proofs.YtmhhbnnjilbdnaaGreatDoor
