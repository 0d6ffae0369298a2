/- A map from seats to marks, as a list of places and a function on them. -/
import Derived.Test.YtpmmjccdogjncaaDoorPlnC
import Derived.Maps.OwnOps
import Derived.DeepKeys5
namespace Go.Proofs.YtpmmjccdogjncaaDoor
open Go.RowKit Go.ChangeMaps
set_option linter.unusedSimpArgs false

structure Mk where
  num : Int
  blk : Bool
  txt : ByteArray

def markV (m : Mk) : Value := .agg #[.int .i64 m.num, .bool m.blk, .string m.txt]

def markC (m : Mk) : List Value := [.int .i64 m.num, .bool m.blk, .string m.txt]

def mark0 : Mk := ⟨0, false, ⟨#[]⟩⟩

def seatK (s : Int × UInt8) : Value := seatV s.1 s.2

theorem u8_nat_inj {a b : UInt8} (h : a.toNat = b.toNat) : a = b := UInt8.toNat_inj.1 h

theorem seatK_inj {a b : Int × UInt8} (h : seatK a = seatK b) : a = b := by
  obtain ⟨r, c⟩ := a
  obtain ⟨r', c'⟩ := b
  unfold seatK seatV at h
  simp at h
  obtain ⟨h1, h2⟩ := h
  have := u8_nat_inj (a := c) (b := c') (by omega)
  rw [h1, this]

def okRow (r : Int) : Prop := (Lit.int .i64 r).wf = true

theorem u8_wf (c : UInt8) : (Lit.int .u8 c.toNat).wf = true := by
  have := byte_hi c
  simp [Lit.wf, IntKind.min, IntKind.max, show IntKind.u8.signed = false from rfl, show IntKind.u8.bits = 8 from rfl]
  omega

theorem seat_keyed : Maps.Keyed Tryd.prog 23 := .of_law (deep_law_gate (by kernel_rfl) (Nat.le_of_ble_eq_true (by kernel_rfl)) (Nat.le_of_ble_eq_true (by kernel_rfl)) (by kernel_rfl) (by kernel_rfl))

theorem seat_key (s : Int × UInt8) (h : okRow s.1) : ∃ l, keyOf Tryd.prog 23 (seatK s) = some l := by
  have hk : Tryd.prog.keyType 23 = true := by kernel_rfl
  have hfm : (seatK s).formed Tryd.prog 23 = true := by
    have he : ∃ f : Array Field, Tryd.prog.underlying 23 = some (.struct f) := ⟨_, Tryd.underlying23⟩
    obtain ⟨f, he⟩ := he
    have hc : Tryd.prog.cellsOf 23 = 2 := by kernel_rfl
    simp [seatK, seatV, Value.formed, he, hc]
  have he : ∃ f0 f1 : Field, Tryd.prog.underlying 23 = some (.struct #[f0, f1]) ∧ f0.offset = 0 ∧ f1.offset = 1 ∧ f0.type = 3 ∧ f1.type = 5 ∧ (f0.name != "_") = true ∧ (f1.name != "_") = true := ⟨_, _, Tryd.underlying23, rfl, rfl, rfl, rfl, rfl, rfl⟩
  obtain ⟨f0, f1, he, o0, o1, t0, t1, n0, n1⟩ := he
  have hc : Tryd.prog.cellsOf 23 = 2 := by kernel_rfl
  have c0 : Tryd.prog.cellsOf 3 = 1 := by kernel_rfl
  have c1 : Tryd.prog.cellsOf 5 = 1 := by kernel_rfl
  have hsz : ∃ n, Tryd.prog.types.size = n ∧ ∃ m, n = m + 1 := ⟨_, rfl, Tryd.prog.types.size - 1, by kernel_rfl⟩
  obtain ⟨n, hn, m, hm⟩ := hsz
  have hl : ∃ ls, Tryd.prog.keyLits (n + 1) 23 (seatK s).cells.toList = some ls := by
    have h0 : Tryd.prog.keyLits n 3 [.int .i64 s.1] = some [.int .i64 s.1] := by
      rw [hm]
      unfold Program.keyLits
      simp only [Tryd.underlying3]
      rw [if_pos ⟨trivial, h⟩]
    have h1 : Tryd.prog.keyLits n 5 [.int .u8 s.2.toNat] = some [.int .u8 s.2.toNat] := by
      rw [hm]
      unfold Program.keyLits
      simp only [Tryd.underlying5]
      rw [if_pos ⟨trivial, u8_wf s.2⟩]
    unfold Program.keyLits
    simp [he, hc, seatK, seatV, Value.cells, o0, o1, t0, t1, c0, c1, n0, n1, h0, h1]
  obtain ⟨ls, hl⟩ := hl
  unfold keyOf
  rw [he, hn]
  simp only [hk, hfm, hl]
  exact ⟨_, rfl⟩

/-- Block b is a map with just the places pl, and f of them. -/
def MapF (w : World) (b : Nat) (pl : List (Int × UInt8)) (f : Int × UInt8 → Mk) : Prop :=
  (∃ es clock, w.heap[b]? = some (.map es clock) ∧ es.toList.map (fun e => (e.key, e.val)) = pl.map fun s => (seatK s, markV (f s))) ∧ pl.Nodup ∧ ∀ s ∈ pl, okRow s.1

theorem MapF.lt {w : World} {b : Nat} {pl : List (Int × UInt8)} {f : Int × UInt8 → Mk} (h : MapF w b pl f) : b < w.heap.size := by
  obtain ⟨⟨es, clock, hb, _⟩, _⟩ := h
  exact (Array.getElem?_eq_some_iff.1 hb).1

theorem MapF.kept {w w' : World} {b : Nat} {pl : List (Int × UInt8)} {f : Int × UInt8 → Mk} {row : Option Nat} (h : MapF w b pl f) (hg : w.grownBy w' row) (hne : some b ≠ row) : MapF w' b pl f := by
  have hlt := h.lt
  obtain ⟨⟨es, clock, hb, hm⟩, h2⟩ := h
  exact ⟨⟨es, clock, (hg.block b hlt hne).trans hb, hm⟩, h2⟩

theorem MapF.keep {w w' : World} {b B : Nat} {pl : List (Int × UInt8)} {f : Int × UInt8 → Mk} (h : MapF w b pl f) (hb : Below B w w') (hB : b < B) : MapF w' b pl f := by
  obtain ⟨⟨es, clock, hb1, hm⟩, h2⟩ := h
  exact ⟨⟨es, clock, (hb.block b hB).trans hb1, hm⟩, h2⟩

theorem MapF.mono {w w' : World} {b : Nat} {pl : List (Int × UInt8)} {f : Int × UInt8 → Mk} (h : MapF w b pl f) (hb : Below w.heap.size w w') : MapF w' b pl f := h.keep hb h.lt

theorem MapF.alloc {w : World} {b : Nat} {pl : List (Int × UInt8)} {f : Int × UInt8 → Mk} (h : MapF w b pl f) (o : Obj) : MapF (w.alloc o) b pl f := h.kept (World.grownBy_alloc w o none) (by simp)

theorem MapF.congr {w : World} {b : Nat} {pl : List (Int × UInt8)} {f g : Int × UInt8 → Mk} (h : MapF w b pl f) (he : ∀ s ∈ pl, f s = g s) : MapF w b pl g := by
  obtain ⟨⟨es, clock, hb1, hm⟩, h2⟩ := h
  refine ⟨⟨es, clock, hb1, hm.trans (List.map_congr_left fun s hs => by rw [he s hs])⟩, h2⟩

theorem MapF.made (w : World) (f : Int × UInt8 → Mk) : MapF (w.alloc (.map #[] 0)) w.heap.size [] f :=
  ⟨⟨#[], 0, (MapKept.heap_alloc w _).1, rfl⟩, List.nodup_nil, fun _ h => nomatch h⟩

theorem ent_get {es : Array MapEntry} {pl : List (Int × UInt8)} {f : Int × UInt8 → Mk} (hm : es.toList.map (fun e => (e.key, e.val)) = pl.map fun s => (seatK s, markV (f s))) {j : Nat} {e : MapEntry} (h : es.toList[j]? = some e) :
    ∃ s, pl[j]? = some s ∧ e.key = seatK s ∧ e.val = markV (f s) := by
  have h1 : (es.toList.map (fun e => (e.key, e.val)))[j]? = some (e.key, e.val) := by rw [List.getElem?_map, h]; rfl
  rw [hm, List.getElem?_map] at h1
  cases h2 : pl[j]? with
  | none => rw [h2] at h1; cases h1
  | some s =>
    rw [h2] at h1
    simp at h1
    exact ⟨s, rfl, h1.1.symm, h1.2.symm⟩

theorem MapF.find {w : World} {b : Nat} {pl : List (Int × UInt8)} {f : Int × UInt8 → Mk} (h : MapF w b pl f) (s : Int × UInt8) (hs : okRow s.1) :
    ∃ es clock, w.heap[b]? = some (.map es clock) ∧ es.toList.map (fun e => (e.key, e.val)) = (pl.map fun s => (seatK s, markV (f s))) ∧
      ((s ∉ pl ∧ (Instr.findKey 23 (seatK s) es.toList).run Tryd.prog w = .ok none w) ∨ ∃ j e, pl[j]? = some s ∧ es[j]? = some e ∧ e.key = seatK s ∧ (Instr.findKey 23 (seatK s) es.toList).run Tryd.prog w = .ok (some (j, markV (f s))) w) := by
  obtain ⟨⟨es, clock, hb, hm⟩, hn, hok⟩ := h
  refine ⟨es, clock, hb, hm, ?_⟩
  obtain ⟨l, hl⟩ := seat_key s hs
  have hes : ∀ e ∈ es.toList, ∃ l, keyOf Tryd.prog 23 e.key = some l := by
    intro e he
    obtain ⟨j, hj⟩ := List.mem_iff_getElem?.1 he
    obtain ⟨s', h1, h2, _⟩ := ent_get hm hj
    rw [h2]
    exact seat_key s' (hok s' (List.mem_of_getElem? h1))
  rcases seat_keyed.find w hl es.toList hes with ⟨h1, h2⟩ | ⟨j, e, h1, h2, h3⟩
  · refine .inl ⟨fun hmem => ?_, h1⟩
    obtain ⟨j, hj⟩ := List.mem_iff_getElem?.1 hmem
    have h3 : (es.toList.map (fun e => (e.key, e.val)))[j]? = some (seatK s, markV (f s)) := by rw [hm, List.getElem?_map, hj]; rfl
    rw [List.getElem?_map] at h3
    cases h4 : es.toList[j]? with
    | none => rw [h4] at h3; cases h3
    | some e =>
      rw [h4] at h3
      simp at h3
      exact h2 e (List.mem_of_getElem? h4) h3.1
  · obtain ⟨s', k1, k2, k3⟩ := ent_get hm h2
    have : s' = s := seatK_inj (k2.symm.trans h3)
    subst this
    refine .inr ⟨j, e, k1, by simpa using h2, h3, ?_⟩
    rw [h1, k3]

theorem MapF.look {w : World} {b : Nat} {pl : List (Int × UInt8)} {f : Int × UInt8 → Mk} (h : MapF w b pl f) (c : Bool) (s : Int × UInt8) (hs : okRow s.1) (hz : (zeroValue 90).run Tryd.prog w = .ok (markV mark0) w) :
    (s ∈ pl ∧ (Instr.lookup 86 (.map (some b)) (seatK s) c).run Tryd.prog w = .ok (if c then .tuple #[markV (f s), .bool true] else markV (f s)) w) ∨
    (s ∉ pl ∧ (Instr.lookup 86 (.map (some b)) (seatK s) c).run Tryd.prog w = .ok (if c then .tuple #[markV mark0, .bool false] else markV mark0) w) := by
  obtain ⟨l, hl⟩ := seat_key s hs
  obtain ⟨es, clock, hb, hm, h1⟩ := h.find s hs
  rcases h1 with ⟨h1, h2⟩ | ⟨j, e, h1, h2, h3, h4⟩
  · exact .inr ⟨h1, by simp [Instr.lookup, run_underlying Tryd.underlying86, MapKept.run_getObj_map hb, seat_keyed.check w _ hl, h2, hz, Result.andThen]⟩
  · exact .inl ⟨List.mem_of_getElem? h1, by simp [Instr.lookup, run_underlying Tryd.underlying86, MapKept.run_getObj_map hb, seat_keyed.check w _ hl, h4, Result.andThen]⟩

def setF (f : Int × UInt8 → Mk) (s : Int × UInt8) (m : Mk) : Int × UInt8 → Mk := fun x => if x = s then m else f x

theorem run_put_new {P : Program} {k t e : TypeId} {w : World} {b : Nat} {es : Array MapEntry} {clock : Nat} (K : Maps.Keyed P k) (ht : P.underlying t = some (.map k e)) (hb : w.heap[b]? = some (.map es clock)) {key val : Value} {l : Lit} (hl : keyOf P k key = some l)
    (h2 : (Instr.findKey k key es.toList).run P w = .ok none w) : (Instr.mapUpdate t (.map (some b)) key val).run P w = .ok () (setBlock w b (.map (es.push ⟨key, val, clock⟩) (clock + 1))) := by
  have hs := MapKept.run_setObj_map (P := P) (.map (es.push ⟨key, val, clock⟩) (clock + 1)) hb
  simp only [Instr.mapUpdate, Sem.run_bind, run_underlying ht, Result.andThen_ok, MapKept.run_getObj_map hb, K.check w false hl, h2]
  exact hs

theorem MapF.add {w : World} {b : Nat} {pl : List (Int × UInt8)} {f : Int × UInt8 → Mk} (h : MapF w b pl f) (s : Int × UInt8) (m : Mk) (hs : okRow s.1) (hn : s ∉ pl) :
    ∃ w', (Instr.mapUpdate 86 (.map (some b)) (seatK s) (markV m)).run Tryd.prog w = .ok () w' ∧ MapF w' b (pl ++ [s]) (setF f s m) ∧ w.grownBy w' (some b) := by
  obtain ⟨l, hl⟩ := seat_key s hs
  obtain ⟨es, clock, hb, hm, h1⟩ := h.find s hs
  obtain ⟨_, hnd, hok⟩ := h
  rcases h1 with ⟨h1, h2⟩ | ⟨j, e, h1, h2, h3, h4⟩
  · refine ⟨setBlock w b (.map (es.push ⟨seatK s, markV m, clock⟩) (clock + 1)), ?_, ⟨⟨_, _, heap_setBlock_same hb _, ?_⟩, ?_, ?_⟩, ⟨rfl, rfl, rfl, by simp [setBlock], fun i _ hi => heap_setBlock_other hb _ (fun e => hi (by rw [e]))⟩⟩
    · exact run_put_new seat_keyed Tryd.underlying86 hb hl h2
    · have e1 : pl.map (fun x => (seatK x, markV (setF f s m x))) = pl.map fun x => (seatK x, markV (f x)) := by
        refine List.map_congr_left fun x hx => ?_
        unfold setF
        rw [if_neg (fun e : x = s => hn (e ▸ hx))]
      have e2 : setF f s m s = m := if_pos rfl
      rw [Array.toList_push, List.map_append, hm, List.map_append, e1, List.map_singleton, List.map_singleton, e2]
    · exact List.nodup_append.2 ⟨hnd, by simp, fun a ha b' hb' e => by simp at hb'; subst hb'; exact hn (e ▸ ha)⟩
    · intro x hx
      rcases List.mem_append.1 hx with hx | hx
      · exact hok x hx
      · simp at hx; rw [hx]; exact hs
  · exact absurd (List.mem_of_getElem? h1) hn

theorem set_map {pl : List (Int × UInt8)} (hn : pl.Nodup) {f : Int × UInt8 → Mk} {s : Int × UInt8} {m : Mk} : ∀ {j : Nat}, pl[j]? = some s → (pl.map fun s => (seatK s, markV (f s))).set j (seatK s, markV m) = pl.map fun x => (seatK x, markV (setF f s m x)) := by
  induction pl with
  | nil => intro j h; simp at h
  | cons a t ih =>
    intro j h
    obtain ⟨h1, h2⟩ := List.nodup_cons.1 hn
    cases j with
    | zero =>
      simp at h
      subst h
      simp only [List.map_cons, List.set_cons_zero]
      congr 1
      · simp [setF]
      · refine List.map_congr_left fun x hx => ?_
        unfold setF
        rw [if_neg (fun e : x = a => h1 (e ▸ hx))]
    | succ j =>
      simp at h
      simp only [List.map_cons, List.set_cons_succ, ih h2 h]
      congr 1
      unfold setF
      rw [if_neg (fun e : a = s => h1 (by rw [e]; exact List.mem_of_getElem? h))]

theorem MapF.set {w : World} {b : Nat} {pl : List (Int × UInt8)} {f : Int × UInt8 → Mk} (h : MapF w b pl f) (s : Int × UInt8) (m : Mk) (hs : s ∈ pl) :
    ∃ w', (Instr.mapUpdate 86 (.map (some b)) (seatK s) (markV m)).run Tryd.prog w = .ok () w' ∧ MapF w' b pl (setF f s m) ∧ w.grownBy w' (some b) := by
  have hr := h.2.2 s hs
  obtain ⟨l, hl⟩ := seat_key s hr
  obtain ⟨es, clock, hb, hm, h1⟩ := h.find s hr
  obtain ⟨_, hnd, hok⟩ := h
  rcases h1 with ⟨h1, h2⟩ | ⟨j, e, h1, h2, h3, h4⟩
  · exact absurd hs h1
  · have h2' : es.toList[j]? = some e := by simpa using h2
    refine ⟨setBlock w b (.map (es.modify j (fun e' => { e' with key := seatK s, val := markV m })) clock), ?_, ⟨⟨_, _, heap_setBlock_same hb _, ?_⟩, hnd, hok⟩, ⟨rfl, rfl, rfl, by simp [setBlock], fun i _ hi => heap_setBlock_other hb _ (fun e => hi (by rw [e]))⟩⟩
    · simp [Instr.mapUpdate, run_underlying Tryd.underlying86, MapKept.run_getObj_map hb, seat_keyed.check w false hl, h4, h2, h3, seat_keyed.stays w hl, MapKept.run_setObj_map _ hb, Result.andThen, setBlock]
    · rw [Array.toList_modify, ChangeMaps.modify_eq_set _ _ _ _ h2', List.map_set, hm]
      exact set_map hnd h1

theorem wpList_lookF {w : World} {ops : Array Oper} {rest : List Oper} {o : Oper} {a : Act} {Q : Exit → Act → World → Prop}
    (hg : o.guard = none) (m x : Operand) (c : Bool) (hop : o.op = Op.lookup 86 m x c) {b : Nat} {pl : List (Int × UInt8)} {f : Int × UInt8 → Mk} (h : MapF w b pl f)
    (hm : a.eval m = .map (some b)) (s : Int × UInt8) (hs : okRow s.1) (hx : a.eval x = seatK s) (hz : (zeroValue 90).run Tryd.prog w = .ok (markV mark0) w)
    (hK : ∀ mk has, (s ∈ pl ∧ has = true ∧ mk = f s ∨ s ∉ pl ∧ has = false ∧ mk = mark0) → wpList Tryd.prog ops Q rest (a.put o.dst (if c then .tuple #[markV mk, .bool has] else markV mk)) w) :
    wpList Tryd.prog ops Q (o :: rest) a w := by
  refine wpList_plain hg fun K' hK' => ?_
  unfold Oper.wp
  rcases h.look c s hs hz with ⟨h1, h2⟩ | ⟨h1, h2⟩
  · simp only [execOp, hop, hm, hx, h2, Sem.run_bind, Sem.run_pure, Result.andThen_ok, Sem.run_map]
    exact hK' _ _ (hK _ true (.inl ⟨h1, rfl, rfl⟩))
  · simp only [execOp, hop, hm, hx, h2, Sem.run_bind, Sem.run_pure, Result.andThen_ok, Sem.run_map]
    exact hK' _ _ (hK _ false (.inr ⟨h1, rfl, rfl⟩))

theorem wpList_putF {w : World} {ops : Array Oper} {rest : List Oper} {o : Oper} {a : Act} {Q : Exit → Act → World → Prop}
    (hg : o.guard = none) (m x v : Operand) (hop : o.op = Op.mapUpdate 86 m x v) {b : Nat} (s : Int × UInt8) (mk : Mk)
    (hm : a.eval m = .map (some b)) (hx : a.eval x = seatK s) (hv : a.eval v = markV mk) {R : World → Prop}
    (hrun : ∃ w', (Instr.mapUpdate 86 (.map (some b)) (seatK s) (markV mk)).run Tryd.prog w = .ok () w' ∧ R w' ∧ w.grownBy w' (some b))
    (hK : ∀ w', R w' → w.grownBy w' (some b) → wpList Tryd.prog ops Q rest (a.put o.dst undef) w') :
    wpList Tryd.prog ops Q (o :: rest) a w := by
  refine wpList_plain hg fun K' hK' => ?_
  obtain ⟨w', hrun, r1, r2⟩ := hrun
  unfold Oper.wp
  simp [execOp, hop, hm, hx, hv, hrun, Result.andThen]
  exact hK' _ _ (hK w' r1 r2)
end Go.Proofs.YtpmmjccdogjncaaDoor
