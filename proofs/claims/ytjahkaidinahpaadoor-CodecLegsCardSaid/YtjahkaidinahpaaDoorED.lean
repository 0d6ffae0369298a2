/- Blocks of plain cells; lists in memory (HasE); lists of bytes. -/
import Derived.Test.YtjahkaidinahpaaDoorEC
import Derived.Laws.Rows
import Derived.Laws.MakeOwn
namespace Go.Proofs.YtjahkaidinahpaaDoor
open Go.RowKit
set_option linter.unusedSimpArgs false
set_option linter.unusedVariables false
set_option maxRecDepth 20000

/-- Block b is a row of the cells cs. -/
def Blk (w : World) (b : Nat) (T : TypeId) (cs : List Value) : Prop := w.heap[b]? = some (.cells cs.toArray T (0, 0))

section
variable {w w' : World} {b : Nat} {T : TypeId} {cs ds : List Value}
theorem Blk.lt (h : Blk w b T cs) : b < w.heap.size := by
  rcases Nat.lt_or_ge b w.heap.size with hlt | hge
  · exact hlt
  · unfold Blk at h; rw [Array.getElem?_eq_none hge] at h; cases h
theorem Blk.cell (h : Blk w b T cs) (j : Nat) : w.cell? ⟨b, j, none⟩ = cs[j]? := by
  rw [cell_of_row w b j _ _ _ h]
  simp only [List.getElem?_toArray]
theorem Blk.frozen (h : Blk w b T cs) (j : Nat) : w.frozen? ⟨b, j, none⟩ = false := frozen_of_row w b j _ _ h
theorem Blk.mono (h : Blk w b T cs) (hb : Below w.heap.size w w') : Blk w' b T cs := (hb.block b h.lt).trans h
theorem Blk.keep {B : Nat} (h : Blk w b T cs) (hb : Below B w w') (hB : b < B) : Blk w' b T cs := (hb.block b hB).trans h
theorem Blk.far {row : Option Nat} (h : Blk w b T cs) (hg : w.grownBy w' row) (hne : some b ≠ row) : Blk w' b T cs := (hg.block b h.lt hne).trans h
theorem Blk.alloc (h : Blk w b T cs) (o : Obj) : Blk (w.alloc o) b T cs := (Below.heap_alloc w o b h.lt).trans h
theorem Blk.new (w : World) (T : TypeId) (cs : List Value) : Blk (w.alloc (.cells cs.toArray T)) w.heap.size T cs := heap_alloc_new w _
theorem Blk.set (h : Blk w b T cs) (j : Nat) (v : Value) : Blk (w.setCell ⟨b, j, none⟩ v) b T (cs.set j v) := by
  unfold Blk at h ⊢
  simp [World.setCell, Array.getElem?_modify, h]
theorem Blk.range (h : Blk w b T cs) : w.rangeAt b 0 cs := fun j v hj => by
  rw [Nat.zero_add, h.cell j, hj]
theorem Blk.there (h : Blk w b T cs) (o n : Nat) (hn : o + n ≤ cs.length) : w.there b o n := fun j hj => by
  refine ⟨?_, h.frozen _⟩
  rw [h.cell, List.getElem?_eq_getElem (by omega)]
  rfl

/-- The cells of a list, with some of them written over. -/
def overV : List Value → Nat → List Value → List Value
  | l, _, [] => l
  | l, o, v :: m => overV (l.set o v) (o + 1) m

theorem overV_len : ∀ (m l : List Value) (o : Nat), (overV l o m).length = l.length
  | [], _, _ => rfl
  | v :: m, l, o => by rw [overV, overV_len m]; simp

theorem overV_get : ∀ (m l : List Value) (o j : Nat), (overV l o m)[j]? = if o ≤ j ∧ j < o + m.length ∧ j < l.length then m[j - o]? else l[j]?
  | [], l, o, j => by simp [overV]; omega
  | v :: m, l, o, j => by
    rw [overV, overV_get m]
    simp only [List.length_set, List.length_cons]
    by_cases h1 : o + 1 ≤ j ∧ j < o + 1 + m.length ∧ j < l.length
    · rw [if_pos h1, if_pos (by omega), show j - o = (j - (o + 1)) + 1 by omega, List.getElem?_cons_succ]
    · rw [if_neg h1]
      by_cases h2 : o = j
      · subst h2
        by_cases h3 : o < l.length
        · rw [if_pos (by omega), List.getElem?_set_self h3]; simp
        · rw [if_neg (by omega), List.getElem?_eq_none (by simp; omega), List.getElem?_eq_none (by omega)]
      · rw [if_neg (by omega), List.getElem?_set_ne h2]

theorem overV_whole {l m : List Value} (h : m.length = l.length) : overV l 0 m = m := by
  apply List.ext_getElem?
  intro j
  rw [overV_get]
  by_cases h1 : j < m.length
  · rw [if_pos (by omega)]; rfl
  · rw [if_neg (by omega), List.getElem?_eq_none (by omega), List.getElem?_eq_none (by omega)]

theorem Blk.over : ∀ (m : List Value) (cs : List Value) (o : Nat) (w : World), Blk w b T cs → Blk (w.setCells b o m) b T (overV cs o m)
  | [], _, _, _, h => h
  | v :: m, cs, o, _, h => Blk.over m (cs.set o v) (o + 1) _ (h.set o v)

theorem gr_setCell1 {a : World} (h : a.grownBy w (some b)) (j : Nat) (u : Value) : a.grownBy (w.setCell ⟨b, j, none⟩ u) (some b) := by
  refine ⟨h.os, h.tape, h.output, ?_, ?_⟩
  · have e : (w.setCell ⟨b, j, none⟩ u).heap.size = w.heap.size := by simp [World.setCell]
    rw [e]
    exact h.size
  · intro i hi hne
    rw [← h.block i hi hne]
    have hg' : i ≠ b := fun e => hne (by rw [e])
    simp [World.setCell, Array.getElem?_modify, Ne.symm hg']

theorem gr_setCells1 {a : World} : ∀ (vs : List Value) (o : Nat) (w : World), a.grownBy w (some b) → a.grownBy (w.setCells b o vs) (some b)
  | [], _, _, h => h
  | v :: vs, o, _, h => gr_setCells1 vs (o + 1) _ (gr_setCell1 h o v)

end

theorem bel_setCells {B b : Nat} {a : World} (hb : B ≤ b) : ∀ (vs : List Value) (o : Nat) (w : World), Below B a w → Below B a (w.setCells b o vs)
  | [], _, _, h => h
  | v :: vs, o, _, h => bel_setCells hb vs (o + 1) _ (h.setCell (p := ⟨b, o, none⟩) hb v)

/-- A whole row is stored into a variable that holds one. -/
theorem wpList_store_blk {P : Program} {w : World} {ops : Array Oper} {rest : List Oper} {op : Oper} {a : Act} {Q : Exit → Act → World → Prop} (hgd : op.guard = none) (ty : TypeId) (x y : Operand) (ho : op.op = .store ty x y)
    (b : Nat) (T : TypeId) (l0 l : List Value) (hx : a.eval x = .pointer (some ⟨b, 0, none⟩)) (hy : a.eval y = .agg l.toArray)
    (ha : Blk w b T l0) (hl : l.length = l0.length) (hi : (P.info? ty).map (·.size) = some l.length) (h1 : ∀ v ∈ l, v.oneCell' = true)
    (h : ∀ w', Blk w' b T l → Below b w w' → w.grownBy w' (some b) → wpList P ops Q rest (a.put op.dst undef) w') : wpList P ops Q (op :: rest) a w := by
  have e1 : l.toArray.size = l.length := by simp
  refine wpList_store_mid hgd ty x y ho b 0 l.toArray hx hy (by rw [e1]; exact ha.there 0 _ (by omega)) (by rw [e1]; exact hi) (all_oneCell_toArray h1) (h _ ?_ ?_ ?_)
  · have := Blk.over l l0 0 w ha
    rwa [overV_whole hl] at this
  · exact bel_setCells (Nat.le_refl _) _ _ _ (Below.refl _ _)
  · exact gr_setCells1 _ _ _ (gr_of_below (Below.refl _ _) _)


section
variable {α : Type} {enc : α → List Value} {st : Nat}

theorem cells_len (hst : ∀ a, (enc a).length = st) : ∀ l : List α, (l.flatMap enc).length = l.length * st
  | [] => by simp
  | a :: l => by rw [List.flatMap_cons, List.length_append, hst, cells_len hst l, List.length_cons, Nat.succ_mul]; omega

theorem cells_get (hst : ∀ a, (enc a).length = st) : ∀ {l : List α} {i : Nat} {a : α} (k : Nat), l[i]? = some a → k < st → (l.flatMap enc)[i * st + k]? = (enc a)[k]?
  | [], i, a, k, h, _ => by simp at h
  | x :: l, 0, a, k, h, hk => by
    simp at h
    subst h
    rw [List.flatMap_cons, Nat.zero_mul, Nat.zero_add, List.getElem?_append_left (by rw [hst]; exact hk)]
  | x :: l, i + 1, a, k, h, hk => by
    simp at h
    rw [List.flatMap_cons, List.getElem?_append_right (by rw [hst, Nat.succ_mul]; omega), hst, Nat.succ_mul, show i * st + st + k - st = i * st + k by omega]
    exact cells_get hst k h hk

/-- 'v' reads as the list l. -/
def HasE (enc : α → List Value) (w : World) (v : Value) (l : List α) : Prop :=
  (∃ p c, v = .slice p 0 c ∧ l = [] ∧ (p = none → c = 0)) ∨ ∃ b off c, v = .slice (some ⟨b, off, none⟩) l.length c ∧ l.length ≤ c ∧ c ≤ maxLen ∧ ∀ j u, (l.flatMap enc)[j]? = some u → w.cell? ⟨b, off + j, none⟩ = some u

theorem HasE.keep {w w' : World} {v : Value} {l : List α} (h : HasE enc w v l) (hk : ∀ a u, w.cell? a = some u → w'.cell? a = some u) : HasE enc w' v l := by
  rcases h with h | ⟨b, off, c, e, h1, h2, h3⟩
  · exact .inl h
  · exact .inr ⟨b, off, c, e, h1, h2, fun j u hj => hk _ _ (h3 j u hj)⟩

theorem HasE.mono {w w' : World} {v : Value} {l : List α} (h : HasE enc w v l) (hb : Below w.heap.size w w') : HasE enc w' v l :=
  h.keep fun a _ hu => (hb.cell (World.block_lt_of_cell? w a hu)).trans hu

theorem HasE.nil (w : World) : HasE enc w (.slice none 0 0) [] := .inl ⟨none, 0, rfl, rfl, fun _ => rfl⟩

theorem HasE.own {w : World} {base : Nat} {e : TypeId} {v : Value} {l : List α} (h : w.ownsRow base e st v l.length (l.flatMap enc)) : HasE enc w v l := by
  rcases h.2 with ⟨e1, e2⟩ | ⟨g, cap, cur, e1, _, _, h3, h4, _⟩
  · exact .inl ⟨none, 0, e1, List.length_eq_zero_iff.1 e2, fun _ => rfl⟩
  · refine .inr ⟨g, 0, cap, e1, h3, h4, fun j u hj => ?_⟩
    have := h.cells (g := g) (by rw [e1]; rfl) j _ hj
    rw [Addr.add_lit] at this
    exact this

theorem HasE.len {w : World} {v : Value} {l : List α} (h : HasE enc w v l) : ∃ p c, v = .slice p l.length c := by
  rcases h with ⟨p, c, e, rfl, _⟩ | ⟨b, off, c, e, _⟩
  · exact ⟨p, c, e⟩
  · exact ⟨_, c, e⟩

theorem HasE.max {w : World} {v : Value} {l : List α} (h : HasE enc w v l) : l.length ≤ maxLen := by
  rcases h with ⟨p, c, e, rfl, _⟩ | ⟨b, off, c, e, h1, h2, _⟩
  · exact Nat.zero_le _
  · exact Nat.le_trans h1 h2

/-- One element. -/
theorem HasE.at {w : World} {p : Option Addr} {n c : Nat} {l : List α} (hst : ∀ a, (enc a).length = st) (h : HasE enc w (.slice p n c) l) {i : Nat} {a : α} (hi : l[i]? = some a) :
    ∃ b off, p = some ⟨b, off, none⟩ ∧ ∀ k u, k < st → (enc a)[k]? = some u → w.cell? ⟨b, off + (i * st + k), none⟩ = some u := by
  have hil : i < l.length := (List.getElem?_eq_some_iff.1 hi).1
  rcases h with ⟨p', c', e, rfl, _⟩ | ⟨b, off, c', e, h1, h2, h3⟩
  · simp at hi
  · injection e with e1 e2 e3
    refine ⟨b, off, e1, fun k u hk hu => h3 _ _ ?_⟩
    rw [cells_get hst k hi hk]
    exact hu
end

/-- 'append(v, vs...)' of a list that may lie anywhere, as long as memory bears. -/
theorem wpList_append_big {α : Type} {enc : α → List Value} {st : Nat} (hst : ∀ a, (enc a).length = st) (hone : ∀ a, ∀ v ∈ enc a, v.oneCell' = true) (hst0 : 0 < st)
    {w : World} {ops : Array Oper} {rest : List Oper} {o : Oper} {a : Act} {Q : Exit → Act → World → Prop} (hgd : o.guard = none) (x y : Operand) (t : TypeId)
    (ho : o.op = .call { callee := .builtin .append, args := #[x, y], argTypes := #[t, t] })
    (base : Nat) (e : TypeId) (i : TypeInfo) (z : Value) (bytes : Nat) (ht : Tryd.prog.underlying t = some (.slice e)) (hi : Tryd.prog.info? e = some i) (hz : i.zero = some z)
    (hsize : i.size = st) (hby : i.bytes = bytes) (hzs : z.cells.size = st)
    (v : Value) (l0 : List α) (hs : a.eval x = v) (hown : w.ownsRow base e st v l0.length (l0.flatMap enc)) (vs : Value) (l : List α) (hx : a.eval y = vs) (hh : HasE enc w vs l)
    (hlen : l0.length + l.length ≤ maxLen) (hby2 : (l0.length + l.length) * bytes ≤ 140737488355328) (hbase : base ≤ w.heap.size)
    (h : ∀ v' w', w'.ownsRow base e st v' (l0 ++ l).length ((l0 ++ l).flatMap enc) → w.grownBy w' v.ownBlock → Below base w w' → wpList Tryd.prog ops Q rest (a.put o.dst v') w') :
    wpList Tryd.prog ops Q (o :: rest) a w := by
  have hgB : ∀ {w' : World}, w.grownBy w' v.ownBlock → Below base w w' := fun hg => (Below.refl base w).grown hg hbase fun k hk => (World.ownsRow.lt hown k hk).1
  rcases hh with ⟨p, c, rfl, rfl, hpn⟩ | ⟨b, off, c, rfl, h1, h2, h3⟩
  · cases p with
    | none =>
      have hc := hpn rfl
      subst hc
      refine wpList_append_own_none hgd x y t ho base e i st ht hi v l0.length _ hs hown hx ?_
      refine h v w ?_ (World.grownBy.refl w _) (Below.refl _ _)
      rw [List.append_nil]
      exact hown
    | some ad =>
      refine wpList_append_own _ hgd x y t ho base e i z st bytes ht hi hz hsize hby hzs hst0 v l0.length _ hs hown ad 0 c [] hx (by simp) (by simp) (by simp) hlen hby2 hbase ?_
      intro v' w' ho' hg' _
      refine h v' w' ?_ hg' (hgB hg')
      rw [List.append_nil] at ho' ⊢
      exact ho'
  · refine wpList_append_own _ hgd x y t ho base e i z st bytes ht hi hz hsize hby hzs hst0 v l0.length _ hs hown ⟨b, off, none⟩ l.length c (l.flatMap enc) hx (cells_len hst l) ?_ ?_ hlen hby2 hbase ?_
    · intro j u hj
      rw [Addr.add_lit]
      exact h3 j u hj
    · intro u hu
      obtain ⟨a', _, ha'⟩ := List.mem_flatMap.1 hu
      exact hone a' u ha'
    · intro v' w' ho' hg' _
      refine h v' w' ?_ hg' (hgB hg')
      rw [List.length_append, List.flatMap_append]
      exact ho'


theorem below_le {B B' : Nat} {w w' : World} (h : Below B w w') (hB : B' ≤ B) : Below B' w w' := ⟨h.os, h.tape, h.output, h.size, fun i hi => h.block i (Nat.lt_of_lt_of_le hi hB)⟩

def byteC (b : UInt8) : List Value := [.int .u8 b.toNat]
theorem byteC_len (b : UInt8) : (byteC b).length = 1 := rfl
theorem byteC_one (b : UInt8) : ∀ v ∈ byteC b, v.oneCell' = true := by
  intro v hv
  simp [byteC] at hv
  subst hv
  rfl

theorem flat_byte : ∀ (l : List UInt8), l.flatMap byteC = l.map fun b => .int .u8 b.toNat
  | [] => rfl
  | b :: l => by rw [List.flatMap_cons, flat_byte l]; rfl

theorem byte_at {w : World} {p : Option Addr} {n c : Nat} {l : List UInt8} (h : HasE byteC w (.slice p n c) l) {i : Nat} (hi : i < l.length) : ∃ b off, p = some ⟨b, off, none⟩ ∧ w.cell? ⟨b, off + i, none⟩ = some (.int .u8 (l.getD i 0).toNat) := by
  have e : l[i]? = some (l.getD i 0) := by rw [List.getD_eq_getElem?_getD, List.getElem?_eq_getElem hi]; rfl
  obtain ⟨b, off, h1, h2⟩ := h.at byteC_len e
  refine ⟨b, off, h1, ?_⟩
  have := h2 0 _ (by decide) rfl
  rwa [Nat.mul_one, Nat.add_zero] at this

/-- A list of bytes in memory from B on, or nil. -/
def OwnB (w : World) (B : Nat) (v : Value) (l : List UInt8) : Prop := w.ownsRow B 5 1 v l.length (l.flatMap byteC)

theorem OwnB.has {w : World} {B : Nat} {v : Value} {l : List UInt8} (h : OwnB w B v l) : HasE byteC w v l := HasE.own h
theorem OwnB.nil (w : World) (B : Nat) : OwnB w B (.slice none 0 0) [] := World.ownsRow_nil _ _ _ _
theorem OwnB.mono {w w' : World} {B : Nat} {v : Value} {l : List UInt8} (h : OwnB w B v l) (hb : Below w.heap.size w w') : OwnB w' B v l :=
  World.ownsRow.kept h (gr_of_below hb none) (by cases hv : v.ownBlock <;> simp)
theorem OwnB.low {w : World} {B B' : Nat} {v : Value} {l : List UInt8} (h : OwnB w B v l) (hb : B' ≤ B) : OwnB w B' v l := own_low h hb

theorem byte_info : ∃ i0 : TypeInfo, Tryd.prog.info? 5 = some i0 ∧ i0.zero = some (.int .u8 0) ∧ i0.size = 1 ∧ i0.bytes = 1 := by
  have hbyte : (Tryd.prog.info? 5).map (fun i => (i.zero, i.size, i.bytes)) = some (some (.int .u8 0), 1, 1) := by kernel_rfl
  rw [Option.map_eq_some_iff] at hbyte
  obtain ⟨i0, h1, h2⟩ := hbyte
  simp only [Prod.mk.injEq] at h2
  exact ⟨i0, h1, h2.1, h2.2.1, h2.2.2⟩

/-- 'append(v, c)' of one byte. -/
theorem wpList_push_byte {wr : World} {ops : Array Oper} {rest : List Oper} {o : Oper} {a : Act} {Q : Exit → Act → World → Prop} (hgd : o.guard = none) (x y : Operand)
    (ho : o.op = .call { callee := .builtin .append, args := #[x, y], argTypes := #[48, 48] })
    (base : Nat) (v : Value) (l : List UInt8) (c : UInt8) {ci : Int} (hci : ci = (c.toNat : Int)) (hs : a.eval x = v) (hown : OwnB wr base v l) (hx : a.eval y = .slice (some ⟨wr.heap.size, 0, none⟩) 1 1)
    (hm : l.length + 1 ≤ 100000000) (hbase : base ≤ wr.heap.size)
    (h : ∀ v' w', OwnB w' base v' (l ++ [c]) → Below base wr w' → (wr.alloc (.cells #[.int .u8 ci] 5)).grownBy w' v.ownBlock → wpList Tryd.prog ops Q rest (a.put o.dst v') w') :
    wpList Tryd.prog ops Q (o :: rest) a (wr.alloc (.cells #[.int .u8 ci] 5)) := by
  subst hci
  obtain ⟨i0, hi, hz, hsz, hby⟩ := byte_info
  refine wpList_push hgd x y 48 ho base 5 i0 _ 1 Tryd.underlying48 hi hz hsz hby rfl v l.length (l.flatMap byteC) hs hown (.int .u8 c.toNat) hx rfl (by unfold maxLen; omega) (by omega) hbase ?_
  intro v' w' hown' hb hg
  refine h v' w' ?_ hb hg
  unfold OwnB
  rw [List.flatMap_append, List.length_append]
  exact hown'
end Go.Proofs.YtjahkaidinahpaaDoor
