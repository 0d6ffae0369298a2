/- What ShowAvail is handed; its own list of lines. Printed by tools/gen_sle.py. -/
import Derived.Test.YtahghakpmjfefaaDoorSU
import Derived.Test.YtahghakpmjfefaaDoorSY
namespace Go.Proofs.YtahghakpmjfefaaDoor.Sh
open Go.RowKit Go.ChangeMaps En
set_option linter.unusedSimpArgs false
set_option linter.unusedVariables false
set_option maxRecDepth 20000
open Go.WideShapes Go.ChangeShapes Go.Deep Go.Joins
theorem take_snocE {α : Type} (d : α) {l : List α} {i : Nat} (h : i < l.length) : l.take (i + 1) = l.take i ++ [l.getD i d] := by
  rw [List.take_succ_eq_append_getElem h]
  simp [List.getD, h]
theorem own_ne {W : World} {B B' st st' n n' : Nat} {T T' : TypeId} {v v' : Value} {xs xs' : List Value} (hT : T ≠ T') (h : W.ownsRow B T st v n xs) (h' : W.ownsRow B' T' st' v' n' xs') : v.ownBlock = none ∨ v.ownBlock ≠ v'.ownBlock := by
  rcases h.2 with ⟨e, _⟩ | ⟨g, c, cur, e, _, hg, _⟩
  · exact .inl (by rw [e]; rfl)
  · right
    intro he
    rcases h'.2 with ⟨e', _⟩ | ⟨g', c', cur', e', _, hg', _⟩
    · rw [e, e'] at he; cases he
    · rw [e, e'] at he
      have he : some g = some g' := he
      injection he with he
      subst he
      rw [hg] at hg'
      injection hg' with hg'
      injection hg' with _ ht _
      exact hT ht
/-- 'append([]T{}, l...)': a row of its own. -/
theorem run_copy {α : Type} {enc : α → List Value} {st : Nat} (hst : ∀ a, (enc a).length = st) {w : World} (t ty : TypeId)
    (b : Nat) (e : TypeId) (i : TypeInfo) (z : Value) (bytes : Nat) (ht : Tryd.prog.underlying t = some (.slice e)) (hi : Tryd.prog.info? e = some i) (hz : i.zero = some z)
    (hsize : i.size = st) (hby : i.bytes = bytes) (hzs : z.cells.size = st) (hb : Blk w b e []) (vs : Value) (l : List α) (hh : HasE enc w vs l)
    (hlen : l.length ≤ maxLen) (hby2 : l.length * bytes ≤ 140737488355328) :
    ∃ v' w', (Builtin.append_ #[t, t] ty #[.slice (some ⟨b, 0, none⟩) 0 0, vs]).run Tryd.prog w = .ok v' w' ∧ w'.ownsRow b e st v' l.length (l.flatMap enc) ∧ Below w.heap.size w w' := by
  have hown : w.ownsRow b e st (.slice (some ⟨b, 0, none⟩) 0 0) 0 [] := own_blk0 hb (Nat.le_refl _)
  have hlt := hb.lt
  have hroom : ∀ (ad : Addr) (c : Nat), ∃ v' w', (Builtin.append_ #[t, t] ty #[.slice (some ⟨b, 0, none⟩) 0 0, .slice (some ad) 0 c]).run Tryd.prog w = .ok v' w' ∧ w'.ownsRow b e st v' 0 [] ∧ Below w.heap.size w w' := by
    intro ad c
    have hr := run_append_room (P := Tryd.prog) w t ty e i ht hi b 0 0 #[] hb ad 0 c [] (by simp) (by simp) (by simp) (by simp) (by simp)
    have hn : ((#[] : Array Value).toList.take (0 * i.size) ++ ([] : List Value) ++ (#[] : Array Value).toList.drop (0 * i.size + ([] : List Value).length)).toArray = (#[] : Array Value) := by simp
    rw [hn] at hr
    refine ⟨_, _, hr, own_blk0 (setRow_heap w b #[] _ e _ hb) (Nat.le_refl _), ⟨rfl, rfl, rfl, by simp, fun k hk => ?_⟩⟩
    by_cases hkb : k = b
    · subst hkb
      rw [setRow_heap w k #[] _ e _ hb]
      exact hb.symm
    · exact setRow_other w b k _ hkb
  rcases hh with ⟨p, c, rfl, rfl, hpn⟩ | ⟨bb, off, c, rfl, h1, h2, h3⟩
  · cases p with
    | none =>
      have hc := hpn rfl
      subst hc
      exact ⟨_, w, run_append_owned_none (P := Tryd.prog) (w := w) b t ty e i st ht hi _ 0 [] hown, hown, Below.refl _ _⟩
    | some ad => exact hroom ad c
  · cases l with
    | nil => exact hroom _ _
    | cons x xs =>
      subst hsize
      subst hby
      have hsmall : (x :: xs).length ≤ 9223372036854775807 := by simp only [maxLen] at hlen; omega
      have hn0 : 0 < (x :: xs).length := by simp
      generalize hL : x :: xs = L at *
      have hr := run_append_grow (P := Tryd.prog) w t ty e i z ht hi hz ⟨b, 0, none⟩ 0 0 [] (by simp) (by simp) ⟨bb, off, none⟩ L.length c (L.flatMap enc) (cells_len hst L) (fun j u hj => by rw [Addr.add_lit]; exact h3 j u hj) (by omega) (by omega) (growslice_fits (by omega) (by rw [Nat.zero_add]; exact hby2))
      have hge := grownCap_ge w (0 + L.length) 0 e
      have hcm : grownCap w (0 + L.length) 0 e ≤ maxLen := grownCap_le_maxLen w (0 + L.length) 0 e (by rw [Nat.zero_add]; exact hlen)
      refine ⟨_, _, hr, ⟨cells_len hst L, .inr ⟨w.heap.size, _, _, by rw [Nat.zero_add], Nat.le_of_lt hlt, heap_alloc_new w.drew _, ?_, hcm, ?_, ?_⟩⟩, (Below.refl w.heap.size w).drew.alloc (Nat.le_refl _) _⟩
      · rw [Nat.zero_add] at hge ⊢; exact hge
      · simp only [Array.size_append, List.size_toArray, size_zeroCells, hzs, cells_len hst L, ← Nat.add_mul, List.length_nil, Nat.zero_add]
        rw [Nat.zero_add] at hge
        congr 1
        omega
      · simp only [Array.toList_append, List.append_assoc, List.nil_append, Nat.zero_add]
        rw [← cells_len hst L]
        exact List.take_left
theorem ord_copy {α : Type} {enc : α → List Value} {st : Nat} (hst : ∀ a, (enc a).length = st) {ops : Array Oper} {Q : Act → World → Prop} {o : Oper} {rest : List (Oper × Bool)} {a : Act} {w0 : World} (hgd : o.guard = none) (x y : Operand) (t : TypeId)
    (ho : o.op = .call { callee := .builtin .append, args := #[x, y], argTypes := #[t, t] })
    (b : Nat) (e : TypeId) (i : TypeInfo) (z : Value) (bytes : Nat) (ht : Tryd.prog.underlying t = some (.slice e)) (hi : Tryd.prog.info? e = some i) (hz : i.zero = some z)
    (hsize : i.size = st) (hby : i.bytes = bytes) (hzs : z.cells.size = st) (hs : a.eval x = .slice (some ⟨b, 0, none⟩) 0 0) (hb : Blk w0 b e []) (vs : Value) (l : List α) (hx : a.eval y = vs) (hh : HasE enc w0 vs l)
    (hlen : l.length ≤ maxLen) (hby2 : l.length * bytes ≤ 140737488355328)
    (h : ∀ w v' w', Cone w0 w → w'.ownsRow b e st v' l.length (l.flatMap enc) → Below w.heap.size w w' → wpOrd Tryd.prog ops Q rest (a.put o.dst v') w') : wpOrd Tryd.prog ops Q ((o, true) :: rest) a w0 := by
  unfold wpOrd
  refine ⟨by simp [Region.wanted, hgd], fun w hw => ?_⟩
  obtain ⟨v', w', hr, h2, h3⟩ := run_copy hst t o.type b e i z bytes ht hi hz hsize hby hzs (hb.mono hw.bel) vs l (hh.mono hw.bel) hlen hby2
  refine ⟨v', w', ?_, .of h3, h w v' w' hw h2 h3⟩
  unfold execOp
  simp only [ho, resolve, invoke, builtin, Sem.run_bind, Sem.run_pure, Result.andThen_ok, List.map_toArray, List.map_cons, List.map_nil, hs, hx, hr]

theorem sold_info : ∃ i0 : TypeInfo, Tryd.prog.info? 100 = some i0 ∧ i0.zero = some (.agg #[.int .u8 0, .int .i64 0]) ∧ i0.size = 2 ∧ i0.bytes = 16 := by
  have hbyte : (Tryd.prog.info? 100).map (fun i => (i.zero, i.size, i.bytes)) = some (some (.agg #[.int .u8 0, .int .i64 0]), 2, 16) := by kernel_rfl
  rw [Option.map_eq_some_iff] at hbyte
  obtain ⟨i0, h1, h2⟩ := hbyte
  simp only [Prod.mk.injEq] at h2
  exact ⟨i0, h1, h2.1, h2.2.1, h2.2.2⟩
theorem line_info : ∃ i0 z, Tryd.prog.info? 46 = some i0 ∧ i0.zero = some z ∧ i0.size = 8 ∧ i0.bytes = 104 ∧ z.cells.size = 8 := by
  have hbyte : (Tryd.prog.info? 46).map (fun i => (i.zero, i.size, i.bytes)) = some (some (.agg #[.string ⟨#[]⟩, .int .i64 0, .string ⟨#[]⟩, .string ⟨#[]⟩, .int .i64 0, .int .i64 0, .bool false, .slice none 0 0]), 8, 104) := by kernel_rfl
  rw [Option.map_eq_some_iff] at hbyte
  obtain ⟨i0, h1, h2⟩ := hbyte
  simp only [Prod.mk.injEq] at h2
  exact ⟨i0, _, h1, h2.1, h2.2.1, h2.2.2, rfl⟩

/-- The statement's own list. -/
def OwnA (w : World) (B : Nat) (v : Value) (lm : List (LineT × Value)) : Prop := w.ownsRow B 46 8 v lm.length (lm.flatMap lineC)
def LeftOk (w : World) (B : Nat) (lm : List (LineT × Value)) : Prop := ∀ x ∈ lm, LineOk x.1 ∧ w.ownsRow B 100 2 x.2 x.1.left.length (x.1.left.flatMap leftC)
theorem OwnA.mono {w w' : World} {B : Nat} {v : Value} {l : List (LineT × Value)} (h : OwnA w B v l) (hb : Below w.heap.size w w') : OwnA w' B v l := World.ownsRow.kept h (gr_of_below hb none) (by cases hv : v.ownBlock <;> simp)
theorem LeftOk.mono {w w' : World} {B : Nat} {l : List (LineT × Value)} (h : LeftOk w B l) (hb : Below w.heap.size w w') : LeftOk w' B l := fun x hx => ⟨(h x hx).1, World.ownsRow.kept (h x hx).2 (gr_of_below hb none) (by cases hv : x.2.ownBlock <;> simp)⟩
theorem LeftOk.grown {w w' : World} {B : Nat} {v : Value} {l : List (LineT × Value)} (h : LeftOk w B l) (ho : OwnA w B v l) (hg : w.grownBy w' v.ownBlock) : LeftOk w' B l := fun x hx => ⟨(h x hx).1, World.ownsRow.kept (h x hx).2 hg (own_ne (by decide) (h x hx).2 ho)⟩

section
variable {H : Type} {enc : TypeId × Value → H} {W : World}
def EndsIn (v : Value) (a : ByteArray × ByteArray) : Prop := v = .agg #[.string a.1, .string a.2]
theorem open_endsV {r : Reach} {b0 : Nat} {v : Value} {d : DataW H} {p : List MemPlace} (hv : Value.okWide Tryd.prog W r b0 34 v) (h : DataW.Trod enc Tryd.prog W 0 (fun _ => true) true 34 v d p) :
    ∃ a, EndsIn v a := by
  have he : Tryd.prog.underlying 34 = some (.array 2 9) := Tryd.underlying34
  have hC : Tryd.prog.cellsOf 34 = 2 := by kernel_rfl
  have hv' : ∃ cs, v = .agg cs ∧ cs.size = Tryd.prog.cellsOf 34 := by
    simp only [Value.okWide, he] at hv
    obtain ⟨cs, h1, h2, _⟩ := hv
    exact ⟨cs, h1, h2⟩
  obtain ⟨cs, rfl, hsz⟩ := hv'
  obtain ⟨l⟩ := cs
  match l, hsz.trans hC with
  | [c0, c1], _ =>
    obtain ⟨fuel, hf⟩ := h
    obtain ⟨xs, n, _, hx, _, hlen, hg⟩ := DataW.trod_array he hf
    match xs, hlen with
    | [y0, y1], _ =>
      have g0 := hg 0 (by decide)
      have g1 := hg 1 (by decide)
      rw [show Tryd.prog.cellsOf 9 = 1 by kernel_rfl] at g0 g1
      obtain ⟨s0, e0, _, h0⟩ := DataW.trod_string Tryd.underlying9 g0
      obtain ⟨s1, e1, _, h1⟩ := DataW.trod_string Tryd.underlying9 g1
      have e0 : [c0] = [.string s0] := e0
      have e1 : [c1] = [.string s1] := e1
      injection e0 with e0
      injection e1 with e1
      exact ⟨(s0, s1), by rw [e0, e1]; rfl⟩
def LinesIn (w : World) (v : Value) (l : List (LineT × RxT)) : Prop := HasE rlineC w v l ∧ ∀ x ∈ l, (Lit.int .i64 x.1.num).wf = true ∧ SoldIn w x.2.left x.1.left ∧ x.2.classes.oneCell' = true
theorem open_flight {fuel : Nat} {v0 v1 v2 v3 v4 v5 v6 v7 v8 : Value} {x : DataW H × List MemPlace} (h : DataW.trod enc Tryd.prog W 0 (fun _ => true) true fuel 41 [v0, v1, v2, v3, v4, v5, v6, v7, v8] = some x) :
    ∃ (car : ByteArray) (num : Int) (src dst : ByteArray) (days dep arr : Int) (cl : Value) (plan : Int), [v0, v1, v2, v3, v4, v5, v6, v7, v8] = [.string car, .int .i64 num, .string src, .string dst, .int .u8 days, .int .i64 dep, .int .i64 arr, cl, .int .i64 plan] ∧ (Lit.int .i64 num).wf = true ∧ cl.oneCell' = true := by
  have he : ∃ f0 f1 f2 f3 f4 f5 f6 f7 : Field, Tryd.prog.underlying 41 = some (.struct #[f0, f1, f2, f3, f4, f5, f6, f7]) ∧ (f0.offset = 0 ∧ f1.offset = 2 ∧ f2.offset = 3 ∧ f3.offset = 4 ∧ f4.offset = 5 ∧ f5.offset = 6 ∧ f6.offset = 7 ∧ f7.offset = 8) ∧ f0.type = 38 ∧ f1.type = 9 ∧ f2.type = 9 ∧ f3.type = 5 ∧ f4.type = 3 ∧ f5.type = 3 ∧ f6.type = 39 ∧ f7.type = 3 := ⟨_, _, _, _, _, _, _, _, Tryd.underlying41, ⟨rfl, rfl, rfl, rfl, rfl, rfl, rfl, rfl⟩, rfl, rfl, rfl, rfl, rfl, rfl, rfl, rfl⟩
  obtain ⟨f0, f1, f2, f3, f4, f5, f6, f7, he, ⟨o0, o1, o2, o3, o4, o5, o6, o7⟩, t0, t1, t2, t3, t4, t5, t6, t7⟩ := he
  obtain ⟨xs, n, _, hx, _, hlen, hg⟩ := DataW.trod_struct he h
  match xs, hlen with
  | [y0, y1, y2, y3, y4, y5, y6, y7], _ =>
    have g0 := hg 0 f0 rfl
    rw [t0, o0, show Tryd.prog.cellsOf 38 = 2 by kernel_rfl] at g0
    have g1 := hg 1 f1 rfl
    rw [t1, o1, show Tryd.prog.cellsOf 9 = 1 by kernel_rfl] at g1
    have g2 := hg 2 f2 rfl
    rw [t2, o2, show Tryd.prog.cellsOf 9 = 1 by kernel_rfl] at g2
    have g3 := hg 3 f3 rfl
    rw [t3, o3, show Tryd.prog.cellsOf 5 = 1 by kernel_rfl] at g3
    have g4 := hg 4 f4 rfl
    rw [t4, o4, show Tryd.prog.cellsOf 3 = 1 by kernel_rfl] at g4
    have g5 := hg 5 f5 rfl
    rw [t5, o5, show Tryd.prog.cellsOf 3 = 1 by kernel_rfl] at g5
    have g6 := hg 6 f6 rfl
    rw [t6, o6, show Tryd.prog.cellsOf 39 = 1 by kernel_rfl] at g6
    have g7 := hg 7 f7 rfl
    rw [t7, o7, show Tryd.prog.cellsOf 3 = 1 by kernel_rfl] at g7
    have hk : ∃ f0 f1 : Field, Tryd.prog.underlying 38 = some (.struct #[f0, f1]) ∧ f0.offset = 0 ∧ f1.offset = 1 ∧ f0.type = 9 ∧ f1.type = 3 := ⟨_, _, Tryd.underlying38, rfl, rfl, rfl, rfl⟩
    obtain ⟨q0, q1, hk, p0, p1, u0, u1⟩ := hk
    obtain ⟨z0, z1, n2, _, _, k0, k1⟩ := trod_struct2 hk g0
    rw [u0, p0, show Tryd.prog.cellsOf 9 = 1 by kernel_rfl] at k0
    rw [u1, p1, show Tryd.prog.cellsOf 3 = 1 by kernel_rfl] at k1
    obtain ⟨car, e0, _, _⟩ := DataW.trod_string Tryd.underlying9 k0
    obtain ⟨num, e1, _, hn⟩ := DataW.trod_int Tryd.underlying3 k1
    obtain ⟨src, e2, _, _⟩ := DataW.trod_string Tryd.underlying9 g1
    obtain ⟨dst, e3, _, _⟩ := DataW.trod_string Tryd.underlying9 g2
    obtain ⟨days, e4, _, _⟩ := DataW.trod_int Tryd.underlying5 g3
    obtain ⟨dep, e5, _, _⟩ := DataW.trod_int Tryd.underlying3 g4
    obtain ⟨arr, e6, _, _⟩ := DataW.trod_int Tryd.underlying3 g5
    obtain ⟨pc, lc, cc, e7⟩ := slice_form Tryd.underlying39 g6
    obtain ⟨plan, e8, _, _⟩ := DataW.trod_int Tryd.underlying3 g7
    simp at e0 e1 e2 e3 e4 e5 e6 e7 e8
    exact ⟨car, num, src, dst, days, dep, arr, .slice pc lc cc, plan, by rw [e0, e1, e2, e3, e4, e5, e6, e7, e8], hn, rfl⟩
set_option maxRecDepth 100000 in
theorem open_linesE {a0 : Option Addr} {len cap fuel : Nat} {x : DataW H × List MemPlace} (hf : DataW.trod enc Tryd.prog W 0 (fun _ => true) true fuel 35 [.slice a0 len cap] = some x) : ∃ l, LinesIn W (.slice a0 len cap) l := by
  obtain ⟨l, h, hk⟩ := open_listE (en := rlineC) (st := 11) rlineC_len (fun x => (Lit.int .i64 x.1.num).wf = true ∧ SoldIn W x.2.left x.1.left ∧ x.2.classes.oneCell' = true) Tryd.underlying35 (by kernel_rfl) (by decide) (fun {fuel cs x} hl h => by
    have he : ∃ f0 f1 f2 : Field, Tryd.prog.underlying 44 = some (.struct #[f0, f1, f2]) ∧ f0.offset = 0 ∧ f1.offset = 9 ∧ f2.offset = 10 ∧ f0.type = 41 ∧ f1.type = 4 ∧ f2.type = 42 := ⟨_, _, _, Tryd.underlying44, rfl, rfl, rfl, rfl, rfl, rfl⟩
    obtain ⟨f0, f1, f2, he, o0, o1, o2, t0, t1, t2⟩ := he
    obtain ⟨y0, y1, y2, n, _, _, g0, g1, g2⟩ := trod_struct3 he h
    match cs, hl with
    | [v0, v1, v2, v3, v4, v5, v6, v7, v8, v9, v10], _ =>
      rw [t0, o0, show Tryd.prog.cellsOf 41 = 9 by kernel_rfl] at g0
      rw [t1, o1, show Tryd.prog.cellsOf 4 = 1 by kernel_rfl] at g1
      rw [t2, o2, show Tryd.prog.cellsOf 42 = 1 by kernel_rfl] at g2
      obtain ⟨car, num, src, dst, days, dep, arr, cl, plan, e0, hn, hc⟩ := open_flight g0
      obtain ⟨lk, e1, _⟩ := DataW.trod_bool Tryd.underlying4 g1
      obtain ⟨ps, ls, cs, e2⟩ := slice_form Tryd.underlying42 g2
      simp at e0 e1 e2
      obtain ⟨rfl, rfl, rfl, rfl, rfl, rfl, rfl, rfl, rfl⟩ := e0
      subst e1
      subst e2
      obtain ⟨left, hleft⟩ := open_leftE g2
      exact ⟨(⟨car, num, src, dst, dep, arr, lk, left⟩, ⟨days, v7, plan, .slice ps ls cs⟩), rfl, hn, hleft, hc⟩) hf
  exact ⟨l, h, hk⟩
end
end Go.Proofs.YtahghakpmjfefaaDoor.Sh
