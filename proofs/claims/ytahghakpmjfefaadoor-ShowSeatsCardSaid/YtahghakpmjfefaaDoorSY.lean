/- Openers of holders and of what is left; 'append([]T{}, l...)' as a step. -/
import Derived.Test.YtahghakpmjfefaaDoorSZ
import Derived.Test.YtahghakpmjfefaaDoorKN
namespace Go.Proofs.YtahghakpmjfefaaDoor.Sh
open Go.RowKit Go.ChangeMaps En Go.WideShapes Go.ChangeShapes
set_option linter.unusedSimpArgs false
set_option linter.unusedVariables false
set_option maxRecDepth 20000

theorem gr_cell {w w' : World} {g b off : Nat} {u : Value} (hg : w.grownBy w' (some g)) (h : w.cell? ⟨b, off, none⟩ = some u) (hb : b ≠ g) : w'.cell? ⟨b, off, none⟩ = some u := by
  have hlt := World.block_lt_of_cell? w _ h
  have := hg.block b hlt (fun e => hb (by injection e))
  rw [← h]
  simp only [World.cell?, this]
theorem hasE_far {α : Type} {enc : α → List Value} {W W' : World} {v : Value} {l : List α} {b : Nat} {T : TypeId} {cs : List Value} (h : HasE enc W v l) (hb : Blk W b T cs) (hc : ∀ a, ∀ u ∈ enc a, u ∉ cs) (hg : W.grownBy W' (some b)) : HasE enc W' v l := by
  rcases h with h | ⟨bb, off, c, e, h1, h2, h3⟩
  · exact .inl h
  · refine .inr ⟨bb, off, c, e, h1, h2, fun j u hj => ?_⟩
    have hcell := h3 j u hj
    refine gr_cell hg hcell ?_
    rintro rfl
    rw [hb.cell] at hcell
    obtain ⟨a, _, ha⟩ := List.mem_flatMap.1 (List.mem_of_getElem? hj)
    exact hc a u ha (List.mem_of_getElem? hcell)

theorem own_blk0 {W : World} {b B : Nat} {e : TypeId} {size : Nat} (h : Blk W b e []) (hB : B ≤ b) : W.ownsRow B e size (.slice (some ⟨b, 0, none⟩) 0 0) 0 [] :=
  ⟨by simp, .inr ⟨b, 0, #[], rfl, hB, h, Nat.le_refl _, Nat.zero_le _, by simp, by simp⟩⟩

/-- AT A STEP OF A REGION THAT DRAWS: 'append([]T{}, l...)'. -/
theorem step_copyE {α : Type} {enc : α → List Value} {st : Nat} (hst : ∀ a, (enc a).length = st) (hone : ∀ a, ∀ v ∈ enc a, v.oneCell' = true) (hst0 : 0 < st)
    {w : World} {ops : Array Oper} {o : Oper} {a : Act} {K : Act → World → Prop} {Q : Exit → Act → World → Prop} {E : Prop} (hgd : o.guard = none) (x y : Operand) (t : TypeId)
    (ho : o.op = .call { callee := .builtin .append, args := #[x, y], argTypes := #[t, t] })
    (b : Nat) (e : TypeId) (i : TypeInfo) (z : Value) (bytes : Nat) (ht : Tryd.prog.underlying t = some (.slice e)) (hi : Tryd.prog.info? e = some i) (hz : i.zero = some z)
    (hsize : i.size = st) (hby : i.bytes = bytes) (hzs : z.cells.size = st) (hs : a.eval x = .slice (some ⟨b, 0, none⟩) 0 0) (hb : Blk w b e []) (vs : Value) (l : List α) (hx : a.eval y = vs) (hh : HasE enc w vs l)
    (hlen : l.length ≤ maxLen) (hby2 : l.length * bytes ≤ 140737488355328)
    (h : ∀ v' w', HasE enc w' v' l → w.grownBy w' (some b) → (∀ (β : Type) (enc' : β → List Value) (u : Value) (m : List β), HasE enc' w u m → HasE enc' w' u m) → K (a.put o.dst v') w') :
    if Region.wanted o (yielded ops a.tmps) = true then Oper.wp Tryd.prog o a w K Q else E := by
  have hw : Region.wanted o (yielded ops a.tmps) = true := by simp [Region.wanted, hgd]
  rw [if_pos hw]
  have hown : w.ownsRow b e st (.slice (some ⟨b, 0, none⟩) 0 0) 0 [] := own_blk0 hb (Nat.le_refl _)
  have hlt := hb.lt
  rcases hh with ⟨p, c, rfl, rfl, hpn⟩ | ⟨bb, off, c, rfl, h1, h2, h3⟩
  · cases p with
    | none =>
      have hc := hpn rfl
      subst hc
      have hrun := run_append_owned_none (P := Tryd.prog) (w := w) b t o.type e i st ht hi _ 0 [] hown
      have hk := h (.slice (some ⟨b, 0, none⟩) 0 0) w (.inl ⟨_, _, rfl, rfl, fun h => by cases h⟩) (World.grownBy.refl w _) (fun _ _ _ _ k => k)
      unfold Oper.wp
      simp [execOp, ho, resolve, invoke, builtin, hs, hx, hrun, Result.andThen]
      exact hk
    | some ad =>
      refine wp_append_own (P := Tryd.prog) w x y t ho b e i z st bytes ht hi hz hsize hby hzs hst0 _ 0 [] hs hown ad 0 c [] hx (by simp) (by simp) (by simp) (by simp [maxLen]) (by simp) (Nat.le_of_lt hlt) ?_
      intro v' w' ho' hg' _
      refine h v' w' ?_ hg' (fun _ _ _ _ k => hasE_far k hb (fun _ _ _ => List.not_mem_nil) hg')
      exact HasE.own (l := ([] : List α)) (st := st) ho'
  · refine wp_append_own (P := Tryd.prog) w x y t ho b e i z st bytes ht hi hz hsize hby hzs hst0 _ 0 [] hs hown ⟨bb, off, none⟩ l.length c (l.flatMap enc) hx (cells_len hst l) ?_ ?_ (by omega) (by rw [Nat.zero_add]; exact hby2) (Nat.le_of_lt hlt) ?_
    · intro j u hj
      rw [Addr.add_lit]
      exact h3 j u hj
    · intro u hu
      obtain ⟨a', _, ha'⟩ := List.mem_flatMap.1 hu
      exact hone a' u ha'
    · intro v' w' ho' hg' _
      refine h v' w' ?_ hg' (fun _ _ _ _ k => hasE_far k hb (fun _ _ _ => List.not_mem_nil) hg')
      rw [List.nil_append, Nat.zero_add] at ho'
      exact HasE.own ho'

theorem no_nil {α : Type} {enc : α → List Value} : ∀ a, ∀ u ∈ enc a, u ∉ ([] : List Value) := fun _ _ _ => List.not_mem_nil

theorem blkN {w : World} {b : Nat} {T : TypeId} (h : w.heap.size = b) : Blk (w.alloc (.cells #[] T)) b T [] := by subst h; exact Blk.new w T []
theorem blkND {w : World} {b : Nat} {T : TypeId} (h : w.heap.size = b) : Blk (w.alloc (.cells #[] T)).drew b T [] := blkN h
theorem blkNA {w : World} {b : Nat} {T : TypeId} {o : Obj} (h : w.heap.size = b) : Blk ((w.alloc (.cells #[] T)).alloc o) b T [] := (blkN h).alloc o
theorem blkNAD {w : World} {b : Nat} {T : TypeId} {o : Obj} (h : w.heap.size = b) : Blk ((w.alloc (.cells #[] T)).alloc o).drew b T [] := (blkN h).alloc o

theorem below_grown {B b : Nat} {a w w' : World} (h : Below B a w) (hg : w.grownBy w' (some b)) (hB : B ≤ w.heap.size) (hb : B ≤ b) : Below B a w' := h.grown hg hB fun k hk => by injection hk with hk; omega

theorem below_grown2 {b : Nat} {a w w' : World} (h : Below a.heap.size a w) (hg : w.grownBy w' (some b)) (hb : a.heap.size ≤ b) : Below a.heap.size a w' := below_grown h hg h.size hb

theorem heC_one (x : HeT) : ∀ v ∈ heC x, v.oneCell' = true := by
  intro v hv
  simp [heC] at hv
  rcases hv with rfl | rfl | rfl | rfl <;> rfl
theorem held_info : ∃ i0 : TypeInfo, Tryd.prog.info? 84 = some i0 ∧ i0.zero = some (.agg #[.int .i64 0, .int .u8 0, .string ⟨#[]⟩, .int .i64 0]) ∧ i0.size = 4 ∧ i0.bytes = 40 := by
  have hbyte : (Tryd.prog.info? 84).map (fun i => (i.zero, i.size, i.bytes)) = some (some (.agg #[.int .i64 0, .int .u8 0, .string ⟨#[]⟩, .int .i64 0]), 4, 40) := by kernel_rfl
  rw [Option.map_eq_some_iff] at hbyte
  obtain ⟨i0, h1, h2⟩ := hbyte
  simp only [Prod.mk.injEq] at h2
  exact ⟨i0, h1, h2.1, h2.2.1, h2.2.2⟩

section
variable {H : Type} {enc : TypeId × Value → H} {W : World}
def HeldIn (w : World) (v : Value) (l : List HeT) : Prop := HasE heC w v l ∧ ∀ x ∈ l, okRow x.1.1
set_option maxRecDepth 100000 in
theorem open_heldE {a0 : Option Addr} {len cap fuel : Nat} {x : DataW H × List MemPlace} (hf : DataW.trod enc Tryd.prog W 0 (fun _ => true) true fuel 54 [.slice a0 len cap] = some x) : ∃ l, HeldIn W (.slice a0 len cap) l := by
  obtain ⟨l, h, hk⟩ := open_listE heC_len (fun x => okRow x.1.1) Tryd.underlying54 (by kernel_rfl) (by decide) (fun {fuel cs x} hl h => by
    have he : ∃ f0 f1 : Field, Tryd.prog.underlying 84 = some (.struct #[f0, f1]) ∧ f0.offset = 0 ∧ f1.offset = 2 ∧ f0.type = 80 ∧ f1.type = 82 := ⟨_, _, Tryd.underlying84, rfl, rfl, rfl, rfl⟩
    obtain ⟨f0, f1, he, o0, o1, t0, t1⟩ := he
    obtain ⟨y0, y1, n, _, _, g0, g1⟩ := trod_struct2 he h
    match cs, hl with
    | [v0, v1, v2, v3], _ =>
      rw [t0, o0, show Tryd.prog.cellsOf 80 = 2 by kernel_rfl] at g0
      rw [t1, o1, show Tryd.prog.cellsOf 82 = 2 by kernel_rfl] at g1
      obtain ⟨r, c, e1, e2, hr⟩ := seat_each g0
      have hh : ∃ f0 f1 : Field, Tryd.prog.underlying 82 = some (.struct #[f0, f1]) ∧ f0.offset = 0 ∧ f1.offset = 1 ∧ f0.type = 9 ∧ f1.type = 3 := ⟨_, _, Tryd.underlying82, rfl, rfl, rfl, rfl⟩
      obtain ⟨q0, q1, hh, p0, p1, u0, u1⟩ := hh
      obtain ⟨z0, z1, n2, _, _, k0, k1⟩ := trod_struct2 hh g1
      rw [u0, p0, show Tryd.prog.cellsOf 9 = 1 by kernel_rfl] at k0
      rw [u1, p1, show Tryd.prog.cellsOf 3 = 1 by kernel_rfl] at k1
      obtain ⟨s, e3, _, h3⟩ := DataW.trod_string Tryd.underlying9 k0
      obtain ⟨px, e4, _, h4⟩ := DataW.trod_int Tryd.underlying3 k1
      simp at e3 e4
      exact ⟨((r, c), (s, px)), by rw [e1, e2, e3, e4]; rfl, hr⟩) hf
  exact ⟨l, h, hk⟩
def SoldIn (w : World) (v : Value) (l : List LeftT) : Prop := HasE leftC w v l ∧ ∀ x ∈ l, (Lit.int .i64 x.n).wf = true
set_option maxRecDepth 100000 in
theorem open_leftE {a0 : Option Addr} {len cap fuel : Nat} {x : DataW H × List MemPlace} (hf : DataW.trod enc Tryd.prog W 0 (fun _ => true) true fuel 42 [.slice a0 len cap] = some x) : ∃ l, SoldIn W (.slice a0 len cap) l := by
  obtain ⟨l, h, hk⟩ := open_listE (en := leftC) (st := 2) (fun _ => rfl) (fun x => (Lit.int .i64 x.n).wf = true) Tryd.underlying42 (by kernel_rfl) (by decide) (fun {fuel cs x} hl h => by
    have he : ∃ f0 f1 : Field, Tryd.prog.underlying 100 = some (.struct #[f0, f1]) ∧ f0.offset = 0 ∧ f1.offset = 1 ∧ f0.type = 5 ∧ f1.type = 3 := ⟨_, _, Tryd.underlying100, rfl, rfl, rfl, rfl⟩
    obtain ⟨f0, f1, he, o0, o1, t0, t1⟩ := he
    obtain ⟨y0, y1, n, _, _, g0, g1⟩ := trod_struct2 he h
    match cs, hl with
    | [v0, v1], _ =>
      rw [t0, o0, show Tryd.prog.cellsOf 5 = 1 by kernel_rfl] at g0
      rw [t1, o1, show Tryd.prog.cellsOf 3 = 1 by kernel_rfl] at g1
      obtain ⟨s, e2, _, h2⟩ := DataW.trod_int Tryd.underlying5 g0
      obtain ⟨k, e1, _, h1⟩ := DataW.trod_int Tryd.underlying3 g1
      simp at e1 e2
      obtain ⟨c, hc, _⟩ := wf_byte h2
      exact ⟨⟨c, k⟩, by rw [e1, e2, hc]; rfl, h1⟩) hf
  exact ⟨l, h, hk⟩
end
end Go.Proofs.YtahghakpmjfefaaDoor.Sh
