/- Maps with any keys and any values: looked up, put into. -/
import Derived.Test.YtjahkaidinahpaaDoorEF
import Derived.DeepKeys5
import Derived.Maps.OwnOps
namespace Go.Proofs.YtjahkaidinahpaaDoor
open Go.RowKit Go.ChangeMaps
set_option linter.unusedSimpArgs false
set_option linter.unusedVariables false
set_option maxRecDepth 20000

/-- What is asked of keys. -/
structure KeyK {α : Type} (K : α → Value) (kt : TypeId) (ok : α → Prop) : Prop where
  keyed : Maps.Keyed Tryd.prog kt
  key : ∀ s, ok s → ∃ l, keyOf Tryd.prog kt (K s) = some l
  inj : ∀ a b, K a = K b → a = b

section
variable {α β : Type} {K : α → Value} {V : β → Value} {kt vt mt : TypeId} {ok : α → Prop}

/-- Block b is a map with just the keys pl, and f of them. -/
def MapG (K : α → Value) (V : β → Value) (ok : α → Prop) (w : World) (b : Nat) (pl : List α) (f : α → β) : Prop :=
  (∃ es clock, w.heap[b]? = some (.map es clock) ∧ es.toList.map (fun e => (e.key, e.val)) = pl.map fun s => (K s, V (f s))) ∧ pl.Nodup ∧ ∀ s ∈ pl, ok s

variable {w w' : World} {b : Nat} {pl : List α} {f : α → β}

theorem MapG.lt (h : MapG K V ok w b pl f) : b < w.heap.size := by
  obtain ⟨⟨es, clock, hb, _⟩, _⟩ := h
  exact (Array.getElem?_eq_some_iff.1 hb).1

theorem MapG.kept {row : Option Nat} (h : MapG K V ok w b pl f) (hg : w.grownBy w' row) (hne : some b ≠ row) : MapG K V ok w' b pl f := by
  have hlt := h.lt
  obtain ⟨⟨es, clock, hb, hm⟩, h2⟩ := h
  exact ⟨⟨es, clock, (hg.block b hlt hne).trans hb, hm⟩, h2⟩

theorem MapG.keep {B : Nat} (h : MapG K V ok w b pl f) (hb : Below B w w') (hB : b < B) : MapG K V ok w' b pl f := by
  obtain ⟨⟨es, clock, hb1, hm⟩, h2⟩ := h
  exact ⟨⟨es, clock, (hb.block b hB).trans hb1, hm⟩, h2⟩

theorem MapG.mono (h : MapG K V ok w b pl f) (hb : Below w.heap.size w w') : MapG K V ok w' b pl f := h.keep hb h.lt

theorem MapG.made (w : World) (f : α → β) : MapG K V ok (w.alloc (.map #[] 0)) w.heap.size [] f :=
  ⟨⟨#[], 0, (MapKept.heap_alloc w _).1, rfl⟩, List.nodup_nil, fun _ h => nomatch h⟩

theorem entG_get {es : Array MapEntry} (hm : es.toList.map (fun e => (e.key, e.val)) = pl.map fun s => (K s, V (f s))) {j : Nat} {e : MapEntry} (h : es.toList[j]? = some e) :
    ∃ s, pl[j]? = some s ∧ e.key = K s ∧ e.val = V (f s) := by
  have h1 : (es.toList.map (fun e => (e.key, e.val)))[j]? = some (e.key, e.val) := by rw [List.getElem?_map, h]; rfl
  rw [hm, List.getElem?_map] at h1
  cases h2 : pl[j]? with
  | none => rw [h2] at h1; cases h1
  | some s =>
    rw [h2] at h1
    simp at h1
    exact ⟨s, rfl, h1.1.symm, h1.2.symm⟩

theorem MapG.find (hk : KeyK K kt ok) (h : MapG K V ok w b pl f) (s : α) (hs : ok s) :
    ∃ es clock, w.heap[b]? = some (.map es clock) ∧ es.toList.map (fun e => (e.key, e.val)) = (pl.map fun s => (K s, V (f s))) ∧
      ((s ∉ pl ∧ (Instr.findKey kt (K s) es.toList).run Tryd.prog w = .ok none w) ∨ ∃ j e, pl[j]? = some s ∧ es[j]? = some e ∧ e.key = K s ∧ (Instr.findKey kt (K s) es.toList).run Tryd.prog w = .ok (some (j, V (f s))) w) := by
  obtain ⟨⟨es, clock, hb, hm⟩, hn, hok⟩ := h
  refine ⟨es, clock, hb, hm, ?_⟩
  obtain ⟨l, hl⟩ := hk.key s hs
  have hes : ∀ e ∈ es.toList, ∃ l, keyOf Tryd.prog kt e.key = some l := by
    intro e he
    obtain ⟨j, hj⟩ := List.mem_iff_getElem?.1 he
    obtain ⟨s', h1, h2, _⟩ := entG_get hm hj
    rw [h2]
    exact hk.key s' (hok s' (List.mem_of_getElem? h1))
  rcases hk.keyed.find w hl es.toList hes with ⟨h1, h2⟩ | ⟨j, e, h1, h2, h3⟩
  · refine .inl ⟨fun hmem => ?_, h1⟩
    obtain ⟨j, hj⟩ := List.mem_iff_getElem?.1 hmem
    have h3 : (es.toList.map (fun e => (e.key, e.val)))[j]? = some (K s, V (f s)) := by rw [hm, List.getElem?_map, hj]; rfl
    rw [List.getElem?_map] at h3
    cases h4 : es.toList[j]? with
    | none => rw [h4] at h3; cases h3
    | some e =>
      rw [h4] at h3
      simp at h3
      exact h2 e (List.mem_of_getElem? h4) h3.1
  · obtain ⟨s', k1, k2, k3⟩ := entG_get hm h2
    have : s' = s := hk.inj _ _ (k2.symm.trans h3)
    subst this
    refine .inr ⟨j, e, k1, by simpa using h2, h3, ?_⟩
    rw [h1, k3]

theorem MapG.look (hk : KeyK K kt ok) (ht : Tryd.prog.underlying mt = some (.map kt vt)) {z : Value} (hz : (zeroValue vt).run Tryd.prog w = .ok z w) (h : MapG K V ok w b pl f) (c : Bool) (s : α) (hs : ok s) :
    (s ∈ pl ∧ (Instr.lookup mt (.map (some b)) (K s) c).run Tryd.prog w = .ok (if c then .tuple #[V (f s), .bool true] else V (f s)) w) ∨
    (s ∉ pl ∧ (Instr.lookup mt (.map (some b)) (K s) c).run Tryd.prog w = .ok (if c then .tuple #[z, .bool false] else z) w) := by
  obtain ⟨l, hl⟩ := hk.key s hs
  obtain ⟨es, clock, hb, hm, h1⟩ := h.find hk s hs
  rcases h1 with ⟨h1, h2⟩ | ⟨j, e, h1, h2, h3, h4⟩
  · exact .inr ⟨h1, by simp [Instr.lookup, run_underlying ht, MapKept.run_getObj_map hb, hk.keyed.check w _ hl, h2, hz, Result.andThen]⟩
  · exact .inl ⟨List.mem_of_getElem? h1, by simp [Instr.lookup, run_underlying ht, MapKept.run_getObj_map hb, hk.keyed.check w _ hl, h4, Result.andThen]⟩

def setG [DecidableEq α] (f : α → β) (s : α) (m : β) : α → β := fun x => if x = s then m else f x

theorem run_put_newG {P : Program} {k t e : TypeId} {w : World} {b : Nat} {es : Array MapEntry} {clock : Nat} (K : Maps.Keyed P k) (ht : P.underlying t = some (.map k e)) (hb : w.heap[b]? = some (.map es clock)) {key val : Value} {l : Lit} (hl : keyOf P k key = some l)
    (h2 : (Instr.findKey k key es.toList).run P w = .ok none w) : (Instr.mapUpdate t (.map (some b)) key val).run P w = .ok () (setBlock w b (.map (es.push ⟨key, val, clock⟩) (clock + 1))) := by
  have hs := MapKept.run_setObj_map (P := P) (.map (es.push ⟨key, val, clock⟩) (clock + 1)) hb
  simp only [Instr.mapUpdate, Sem.run_bind, run_underlying ht, Result.andThen_ok, MapKept.run_getObj_map hb, K.check w false hl, h2]
  exact hs

theorem MapG.add [DecidableEq α] (hk : KeyK K kt ok) (ht : Tryd.prog.underlying mt = some (.map kt vt)) (h : MapG K V ok w b pl f) (s : α) (m : β) (hs : ok s) (hn : s ∉ pl) :
    ∃ w', (Instr.mapUpdate mt (.map (some b)) (K s) (V m)).run Tryd.prog w = .ok () w' ∧ MapG K V ok w' b (pl ++ [s]) (setG f s m) ∧ w.grownBy w' (some b) ∧ w'.heap.size = w.heap.size := by
  obtain ⟨l, hl⟩ := hk.key s hs
  obtain ⟨es, clock, hb, hm, h1⟩ := h.find hk s hs
  obtain ⟨_, hnd, hok⟩ := h
  rcases h1 with ⟨h1, h2⟩ | ⟨j, e, h1, h2, h3, h4⟩
  · refine ⟨setBlock w b (.map (es.push ⟨K s, V m, clock⟩) (clock + 1)), ?_, ⟨⟨_, _, heap_setBlock_same hb _, ?_⟩, ?_, ?_⟩, ⟨rfl, rfl, rfl, by simp [setBlock], fun i _ hi => heap_setBlock_other hb _ (fun e => hi (by rw [e]))⟩, by simp [setBlock]⟩
    · exact run_put_newG hk.keyed ht hb hl h2
    · have e1 : pl.map (fun x => (K x, V (setG f s m x))) = pl.map fun x => (K x, V (f x)) := by
        refine List.map_congr_left fun x hx => ?_
        unfold setG
        rw [if_neg (fun e : x = s => hn (e ▸ hx))]
      have e2 : setG f s m s = m := if_pos rfl
      rw [Array.toList_push, List.map_append, hm, List.map_append, e1, List.map_singleton, List.map_singleton, e2]
    · exact List.nodup_append.2 ⟨hnd, by simp, fun a ha b' hb' e => by simp at hb'; subst hb'; exact hn (e ▸ ha)⟩
    · intro x hx
      rcases List.mem_append.1 hx with hx | hx
      · exact hok x hx
      · simp at hx; rw [hx]; exact hs
  · exact absurd (List.mem_of_getElem? h1) hn

theorem setG_map [DecidableEq α] {pl : List α} (hn : pl.Nodup) {f : α → β} {s : α} {m : β} : ∀ {j : Nat}, pl[j]? = some s → (pl.map fun s => (K s, V (f s))).set j (K s, V m) = pl.map fun x => (K x, V (setG f s m x)) := by
  induction pl with
  | nil => intro j h; simp at h
  | cons a t ih =>
    intro j h
    obtain ⟨h1, h2⟩ := List.nodup_cons.1 hn
    cases j with
    | zero =>
      simp at h
      subst h
      simp only [List.map_cons, List.set_cons_zero]
      congr 1
      · simp [setG]
      · refine List.map_congr_left fun x hx => ?_
        unfold setG
        rw [if_neg (fun e : x = a => h1 (e ▸ hx))]
    | succ j =>
      simp at h
      simp only [List.map_cons, List.set_cons_succ, ih h2 h]
      congr 1
      unfold setG
      rw [if_neg (fun e : a = s => h1 (by rw [e]; exact List.mem_of_getElem? h))]

theorem MapG.set [DecidableEq α] (hk : KeyK K kt ok) (ht : Tryd.prog.underlying mt = some (.map kt vt)) (h : MapG K V ok w b pl f) (s : α) (m : β) (hs : s ∈ pl) :
    ∃ w', (Instr.mapUpdate mt (.map (some b)) (K s) (V m)).run Tryd.prog w = .ok () w' ∧ MapG K V ok w' b pl (setG f s m) ∧ w.grownBy w' (some b) ∧ w'.heap.size = w.heap.size := by
  have hr := h.2.2 s hs
  obtain ⟨l, hl⟩ := hk.key s hr
  obtain ⟨es, clock, hb, hm, h1⟩ := h.find hk s hr
  obtain ⟨_, hnd, hok⟩ := h
  rcases h1 with ⟨h1, h2⟩ | ⟨j, e, h1, h2, h3, h4⟩
  · exact absurd hs h1
  · have h2' : es.toList[j]? = some e := by simpa using h2
    refine ⟨setBlock w b (.map (es.modify j (fun e' => { e' with key := K s, val := V m })) clock), ?_, ⟨⟨_, _, heap_setBlock_same hb _, ?_⟩, hnd, hok⟩, ⟨rfl, rfl, rfl, by simp [setBlock], fun i _ hi => heap_setBlock_other hb _ (fun e => hi (by rw [e]))⟩, by simp [setBlock]⟩
    · simp [Instr.mapUpdate, run_underlying ht, MapKept.run_getObj_map hb, hk.keyed.check w false hl, h4, h2, h3, hk.keyed.stays w hl, MapKept.run_setObj_map _ hb, Result.andThen, setBlock]
    · rw [Array.toList_modify, ChangeMaps.modify_eq_set _ _ _ _ h2', List.map_set, hm]
      exact setG_map hnd h1

/-- One step: a look-up, whatever is found. -/
theorem wpList_lookG {ops : Array Oper} {rest : List Oper} {o : Oper} {a : Act} {Q : Exit → Act → World → Prop} (hk : KeyK K kt ok) (ht : Tryd.prog.underlying mt = some (.map kt vt)) {z : Value} (hz : (zeroValue vt).run Tryd.prog w = .ok z w)
    (hg : o.guard = none) (m x : Operand) (c : Bool) (hop : o.op = Op.lookup mt m x c) (h : MapG K V ok w b pl f)
    (hm : a.eval m = .map (some b)) (s : α) (hs : ok s) (hx : a.eval x = K s)
    (hK : ∀ v has, (s ∈ pl ∧ has = true ∧ v = V (f s) ∨ s ∉ pl ∧ has = false ∧ v = z) → wpList Tryd.prog ops Q rest (a.put o.dst (if c then .tuple #[v, .bool has] else v)) w) :
    wpList Tryd.prog ops Q (o :: rest) a w := by
  refine wpList_plain hg fun K' hK' => ?_
  unfold Oper.wp
  rcases h.look hk ht hz c s hs with ⟨h1, h2⟩ | ⟨h1, h2⟩
  · simp only [execOp, hop, hm, hx, h2, Sem.run_bind, Sem.run_pure, Result.andThen_ok, Sem.run_map]
    exact hK' _ _ (hK _ true (.inl ⟨h1, rfl, rfl⟩))
  · simp only [execOp, hop, hm, hx, h2, Sem.run_bind, Sem.run_pure, Result.andThen_ok, Sem.run_map]
    exact hK' _ _ (hK _ false (.inr ⟨h1, rfl, rfl⟩))

/-- One step: a value is put in. -/
theorem wpList_putG {ops : Array Oper} {rest : List Oper} {o : Oper} {a : Act} {Q : Exit → Act → World → Prop}
    (hg : o.guard = none) (m x v : Operand) (hop : o.op = Op.mapUpdate mt m x v) (k u : Value)
    (hm : a.eval m = .map (some b)) (hx : a.eval x = k) (hv : a.eval v = u) {R : World → Prop}
    (hrun : ∃ w', (Instr.mapUpdate mt (.map (some b)) k u).run Tryd.prog w = .ok () w' ∧ R w')
    (hK : ∀ w', R w' → wpList Tryd.prog ops Q rest (a.put o.dst undef) w') :
    wpList Tryd.prog ops Q (o :: rest) a w := by
  refine wpList_plain hg fun K' hK' => ?_
  obtain ⟨w', hrun, r1⟩ := hrun
  unfold Oper.wp
  simp [execOp, hop, hm, hx, hv, hrun, Result.andThen]
  exact hK' _ _ (hK w' r1)
end

/-- Texts as keys. -/
def txtK (s : ByteArray) : Value := .string s

theorem txt_keyK : KeyK txtK 9 (fun s => s.size ≤ maxLen) where
  keyed := Maps.string_keyed Tryd.underlying9
  key := fun s hs => by
    unfold keyOf
    simp only [Tryd.underlying9, txtK, mapKey]
    rw [if_pos hs]
    exact ⟨_, rfl⟩
  inj := fun a b h => by
    injection h
end Go.Proofs.YtjahkaidinahpaaDoor
