/- Blocks of plain cells, whole: what lies in them, what is stored into them, what comes back. -/
import Derived.Test.YtpmmjccdogjncaaDoorPlnA
import Derived.Test.YtpmmjccdogjncaaDoorScrH
import Derived.Laws.Rows
namespace Go.Proofs.YtpmmjccdogjncaaDoor
open Go.RowKit
set_option linter.unusedSimpArgs false

/-- Block b is a row of the cells cs. -/
def Blk (w : World) (b : Nat) (T : TypeId) (cs : List Value) : Prop := w.heap[b]? = some (.cells cs.toArray T (0, 0))

section
variable {w w' : World} {b : Nat} {T : TypeId} {cs ds : List Value}
theorem Blk.lt (h : Blk w b T cs) : b < w.heap.size := by
  rcases Nat.lt_or_ge b w.heap.size with hlt | hge
  · exact hlt
  · unfold Blk at h; rw [Array.getElem?_eq_none hge] at h; cases h
theorem Blk.cell (h : Blk w b T cs) (j : Nat) : w.cell? ⟨b, j, none⟩ = cs[j]? := by
  rw [cell_of_row w b j _ _ _ h]
  simp only [List.getElem?_toArray]
theorem Blk.frozen (h : Blk w b T cs) (j : Nat) : w.frozen? ⟨b, j, none⟩ = false := frozen_of_row w b j _ _ h
theorem Blk.mono (h : Blk w b T cs) (hb : Below w.heap.size w w') : Blk w' b T cs := (hb.block b h.lt).trans h
theorem Blk.keep {B : Nat} (h : Blk w b T cs) (hb : Below B w w') (hB : b < B) : Blk w' b T cs := (hb.block b hB).trans h
theorem Blk.far {row : Option Nat} (h : Blk w b T cs) (hg : w.grownBy w' row) (hne : some b ≠ row) : Blk w' b T cs := (hg.block b h.lt hne).trans h
theorem Blk.alloc (h : Blk w b T cs) (o : Obj) : Blk (w.alloc o) b T cs := (Below.heap_alloc w o b h.lt).trans h
theorem Blk.new (w : World) (T : TypeId) (cs : List Value) : Blk (w.alloc (.cells cs.toArray T)) w.heap.size T cs := heap_alloc_new w _
theorem Blk.set (h : Blk w b T cs) (j : Nat) (v : Value) : Blk (w.setCell ⟨b, j, none⟩ v) b T (cs.set j v) := by
  unfold Blk at h ⊢
  simp [World.setCell, Array.getElem?_modify, h]
theorem Blk.range (h : Blk w b T cs) : w.rangeAt b 0 cs := fun j v hj => by
  rw [Nat.zero_add, h.cell j, hj]
theorem Blk.there (h : Blk w b T cs) (o n : Nat) (hn : o + n ≤ cs.length) : w.there b o n := fun j hj => by
  refine ⟨?_, h.frozen _⟩
  rw [h.cell, List.getElem?_eq_getElem (by omega)]
  rfl

/-- The cells of a list, with some of them written over. -/
def overV : List Value → Nat → List Value → List Value
  | l, _, [] => l
  | l, o, v :: m => overV (l.set o v) (o + 1) m

theorem overV_len : ∀ (m l : List Value) (o : Nat), (overV l o m).length = l.length
  | [], _, _ => rfl
  | v :: m, l, o => by rw [overV, overV_len m]; simp

theorem overV_get : ∀ (m l : List Value) (o j : Nat), (overV l o m)[j]? = if o ≤ j ∧ j < o + m.length ∧ j < l.length then m[j - o]? else l[j]?
  | [], l, o, j => by simp [overV]; omega
  | v :: m, l, o, j => by
    rw [overV, overV_get m]
    simp only [List.length_set, List.length_cons]
    by_cases h1 : o + 1 ≤ j ∧ j < o + 1 + m.length ∧ j < l.length
    · rw [if_pos h1, if_pos (by omega), show j - o = (j - (o + 1)) + 1 by omega, List.getElem?_cons_succ]
    · rw [if_neg h1]
      by_cases h2 : o = j
      · subst h2
        by_cases h3 : o < l.length
        · rw [if_pos (by omega), List.getElem?_set_self h3]; simp
        · rw [if_neg (by omega), List.getElem?_eq_none (by simp; omega), List.getElem?_eq_none (by omega)]
      · rw [if_neg (by omega), List.getElem?_set_ne h2]

theorem overV_whole {l m : List Value} (h : m.length = l.length) : overV l 0 m = m := by
  apply List.ext_getElem?
  intro j
  rw [overV_get]
  by_cases h1 : j < m.length
  · rw [if_pos (by omega)]; rfl
  · rw [if_neg (by omega), List.getElem?_eq_none (by omega), List.getElem?_eq_none (by omega)]

theorem Blk.over : ∀ (m : List Value) (cs : List Value) (o : Nat) (w : World), Blk w b T cs → Blk (w.setCells b o m) b T (overV cs o m)
  | [], _, _, _, h => h
  | v :: m, cs, o, _, h => Blk.over m (cs.set o v) (o + 1) _ (h.set o v)

theorem gr_setCell1 {a : World} (h : a.grownBy w (some b)) (j : Nat) (u : Value) : a.grownBy (w.setCell ⟨b, j, none⟩ u) (some b) := by
  refine ⟨h.os, h.tape, h.output, ?_, ?_⟩
  · have e : (w.setCell ⟨b, j, none⟩ u).heap.size = w.heap.size := by simp [World.setCell]
    rw [e]
    exact h.size
  · intro i hi hne
    rw [← h.block i hi hne]
    have hg' : i ≠ b := fun e => hne (by rw [e])
    simp [World.setCell, Array.getElem?_modify, Ne.symm hg']

theorem gr_setCells1 {a : World} : ∀ (vs : List Value) (o : Nat) (w : World), a.grownBy w (some b) → a.grownBy (w.setCells b o vs) (some b)
  | [], _, _, h => h
  | v :: vs, o, _, h => gr_setCells1 vs (o + 1) _ (gr_setCell1 h o v)

end

/-- A whole row is stored into a variable that holds one. -/
theorem wpList_store_blk {P : Program} {w : World} {ops : Array Oper} {rest : List Oper} {op : Oper} {a : Act} {Q : Exit → Act → World → Prop} (hgd : op.guard = none) (ty : TypeId) (x y : Operand) (ho : op.op = .store ty x y)
    (b : Nat) (T : TypeId) (l0 l : List Value) (hx : a.eval x = .pointer (some ⟨b, 0, none⟩)) (hy : a.eval y = .agg l.toArray)
    (ha : Blk w b T l0) (hl : l.length = l0.length) (hi : (P.info? ty).map (·.size) = some l.length) (h1 : ∀ v ∈ l, v.oneCell' = true)
    (h : ∀ w', Blk w' b T l → Below b w w' → w.grownBy w' (some b) → wpList P ops Q rest (a.put op.dst undef) w') : wpList P ops Q (op :: rest) a w := by
  have e1 : l.toArray.size = l.length := by simp
  refine wpList_store_mid hgd ty x y ho b 0 l.toArray hx hy (by rw [e1]; exact ha.there 0 _ (by omega)) (by rw [e1]; exact hi) (all_oneCell_toArray h1) (h _ ?_ ?_ ?_)
  · have := Blk.over l l0 0 w ha
    rwa [overV_whole hl] at this
  · exact bel_setCells (Nat.le_refl _) _ _ _ (Below.refl _ _)
  · exact gr_setCells1 _ _ _ (gr_of_below (Below.refl _ _) _)

/-- A row and a value come back. -/
theorem results_row_tmp {P : Program} {fn : Func} {p q : Tmp} {ty : TypeId} (h : fn.results = #[.cell p ty, .tmp q]) (tmps : Array Value) (w : World) (g : Nat) (t : TypeId) (cs : List Value) (d : TypeDesc)
    (hp : tmps.getD p undef = .pointer (some ⟨g, 0, none⟩)) (hg : Blk w g t cs)
    (hu : P.underlying ty = some d) (hd : (match d with | .struct _ | .array _ _ => true | _ => false) = true) (hi : (P.info? ty).map (·.size) = some cs.length) :
    (results fn tmps).run P w = .ok (.tuple #[.agg cs.toArray, tmps.getD q undef]) w := by
  have hp' : tmps[p]?.getD undef = .pointer (some ⟨g, 0, none⟩) := by simpa using hp
  simp [results, h, hp', asAddr, run_loadVar_row w g t ty cs.toArray (0, 0) d hg hu hd (by simpa using hi)]

end Go.Proofs.YtpmmjccdogjncaaDoor
