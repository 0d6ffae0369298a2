/- The law's made. -/
import Derived.Test.YtpmmjccdogjncaaDoorPlnAB
namespace Go.Proofs.YtpmmjccdogjncaaDoor
open Go.RowKit Go.ChangeMaps
set_option linter.unusedSimpArgs false

/-- 'append(v, vs...)' of a list that may lie anywhere. -/
theorem wpList_append_has {α : Type} {enc : α → List Value} {st : Nat} (hst : ∀ a, (enc a).length = st) (hone : ∀ a, ∀ v ∈ enc a, v.oneCell' = true) (hst0 : 0 < st)
    {w : World} {ops : Array Oper} {rest : List Oper} {o : Oper} {a : Act} {Q : Exit → Act → World → Prop} (hgd : o.guard = none) (x y : Operand) (t : TypeId)
    (ho : o.op = .call { callee := .builtin .append, args := #[x, y], argTypes := #[t, t] })
    (base : Nat) (e : TypeId) (i : TypeInfo) (z : Value) (bytes : Nat) (ht : Tryd.prog.underlying t = some (.slice e)) (hi : Tryd.prog.info? e = some i) (hz : i.zero = some z)
    (hsize : i.size = st) (hby : i.bytes = bytes) (hzs : z.cells.size = st) (hb16 : bytes ≤ 16)
    (v : Value) (l0 : List α) (hs : a.eval x = v) (hown : w.ownsRow base e st v l0.length (l0.flatMap enc)) (vs : Value) (l : List α) (hx : a.eval y = vs) (hh : HasE enc w vs l)
    (hlen : l0.length + l.length ≤ 1000000) (hbase : base ≤ w.heap.size)
    (h : ∀ v' w', w'.ownsRow base e st v' (l0 ++ l).length ((l0 ++ l).flatMap enc) → w.grownBy w' v.ownBlock → Below base w w' → wpList Tryd.prog ops Q rest (a.put o.dst v') w') :
    wpList Tryd.prog ops Q (o :: rest) a w := by
  have hgB : ∀ {w' : World}, w.grownBy w' v.ownBlock → Below base w w' := fun hg => (Below.refl base w).grown hg hbase fun k hk => (World.ownsRow.lt hown k hk).1
  have hby2 : (l0.length + l.length) * bytes ≤ 140737488355328 := by
    have : (l0.length + l.length) * bytes ≤ 1000000 * 16 := Nat.mul_le_mul hlen hb16
    omega
  rcases hh with ⟨p, c, rfl, rfl, hpn⟩ | ⟨b, off, c, rfl, h1, h2, h3⟩
  · cases p with
    | none =>
      have hc := hpn rfl
      subst hc
      refine wpList_append_own_none hgd x y t ho base e i st ht hi v l0.length _ hs hown hx ?_
      refine h v w ?_ (World.grownBy.refl w _) (Below.refl _ _)
      rw [List.append_nil]
      exact hown
    | some ad =>
      refine wpList_append_own _ hgd x y t ho base e i z st bytes ht hi hz hsize hby hzs hst0 v l0.length _ hs hown ad 0 c [] hx (by simp) (by simp) (by simp) (by unfold maxLen; simp at hlen; omega) (by simpa using hby2) hbase ?_
      intro v' w' ho' hg' _
      refine h v' w' ?_ hg' (hgB hg')
      rw [List.append_nil] at ho' ⊢
      exact ho'
  · refine wpList_append_own _ hgd x y t ho base e i z st bytes ht hi hz hsize hby hzs hst0 v l0.length _ hs hown ⟨b, off, none⟩ l.length c (l.flatMap enc) hx (cells_len hst l) ?_ ?_ (by unfold maxLen; omega) hby2 hbase ?_
    · intro j u hj
      rw [Addr.add_lit]
      exact h3 j u hj
    · intro u hu
      obtain ⟨a', _, ha'⟩ := List.mem_flatMap.1 hu
      exact hone a' u ha'
    · intro v' w' ho' hg' _
      refine h v' w' ?_ hg' (hgB hg')
      rw [List.length_append, List.flatMap_append]
      exact ho'

theorem intC_one (x : Int) : ∀ v ∈ intC x, v.oneCell' = true := by
  intro v hv
  simp [intC] at hv
  subst hv
  rfl
theorem wordC_one (x : Nat) : ∀ v ∈ wordC x, v.oneCell' = true := by
  intro v hv
  simp [wordC] at hv
  subst hv
  rfl
theorem stC_one (s : St) : ∀ v ∈ stC s, v.oneCell' = true := seatC_one

theorem int_info : ∃ i0 : TypeInfo, Tryd.prog.info? 3 = some i0 ∧ i0.zero = some (.int .i64 0) ∧ i0.size = 1 ∧ i0.bytes = 8 := by
  have hbyte : (Tryd.prog.info? 3).map (fun i => (i.zero, i.size, i.bytes)) = some (some (.int .i64 0), 1, 8) := by kernel_rfl
  rw [Option.map_eq_some_iff] at hbyte
  obtain ⟨i0, h1, h2⟩ := hbyte
  simp only [Prod.mk.injEq] at h2
  exact ⟨i0, h1, h2.1, h2.2.1, h2.2.2⟩

/-- An empty literal. -/
theorem own_lit0 (w : World) (base : Nat) (e : TypeId) (st : Nat) (hb : base ≤ w.heap.size) : (w.alloc (.cells #[] e)).ownsRow base e st (.slice (some ⟨w.heap.size, 0, none⟩) 0 0) 0 [] :=
  World.ownsRow_made w #[] 0 hb (Nat.zero_le _) (by simp)

theorem Stage.low {w w' : World} {B g b : Nat} {vl : Value} {pl ml : List St} {f : St → Mk} {row : Option Nat} (h : Stage w B g b vl pl ml f) (hg : w.grownBy w' row) (hr : ∀ k, row = some k → k < B) : Stage w' B g b vl pl ml f := by
  have hne : ∀ k, B ≤ k → some k ≠ row := fun k hk e => by have := hr k e.symm; omega
  refine ⟨h.hg, h.hb, h.blk.far hg (hne _ h.hg), h.map.kept hg (hne _ h.hb), World.ownsRow.kept h.own hg ?_⟩
  cases hv : vl.ownBlock with
  | none => exact .inl rfl
  | some k => exact .inr (hne k (h.vlt hv).1)

theorem MapObj.low {w w' : World} {B : Nat} {v : Value} {p : Pl} {l : List UInt8} {row : Option Nat} (h : MapObj w B v p l) (hg : w.grownBy w' row) (hr : ∀ k, row = some k → k < B) : MapObj w' B v p l := by
  obtain ⟨g, b, vl, e, h⟩ := h
  exact ⟨g, b, vl, e, h.low hg hr⟩

theorem MapObj.down {w : World} {B B0 : Nat} {v : Value} {p : Pl} {l : List UInt8} (h : MapObj w B v p l) (hB : B0 ≤ B) : MapObj w B0 v p l := by
  obtain ⟨g, b, vl, e, h⟩ := h
  exact ⟨g, b, vl, e, Nat.le_trans hB h.hg, Nat.le_trans hB h.hb, h.blk, h.map, own_low h.own hB⟩

theorem newE_form {p : Pl} {B : Nat} {e : Ending} {w : World} (h : newE p B e w) : ∃ v z, e = .returned (.tuple #[v, .int .i64 z]) ∧
    ((rightB p = false ∧ v = .pointer none ∧ z = 4) ∨ (rightB p = true ∧ z = 0 ∧ (∃ g, v = .pointer (some ⟨g, 0, none⟩)) ∧ ∃ l, letF p.lets.data.toList = some l ∧ MapObj w B v p l)) := by
  rcases h with ⟨h1, h2⟩ | ⟨v, l, h1, h2, h3, h4⟩
  · exact ⟨_, _, h2, .inl ⟨h1, rfl, rfl⟩⟩
  · refine ⟨v, 0, h3, .inr ⟨h1, rfl, ?_, l, h2, h4⟩⟩
    obtain ⟨g, b, vl, e, _⟩ := h4
    exact ⟨g, e⟩

theorem own_ne {w : World} {base k : Nat} {e : TypeId} {size : Nat} {v : Value} {n : Nat} {xs : List Value} (h : w.ownsRow base e size v n xs) (hk : k < base) : v.ownBlock = none ∨ v.ownBlock ≠ some k := by
  refine .inr fun e1 => ?_
  have := (World.ownsRow.lt h k e1).1
  omega

set_option maxRecDepth 20000 in
set_option maxHeartbeats 16000000 in
theorem made_any (p : Pl) (ve vb : Value) (w : World) (he : HasE intC w ve p.exits) (hb : HasE stC w vb p.bks) (hf : fewP p = true) :
    Calls Tryd.prog 23 #[planV p ve vb] w fun e w' => ∃ v, e = .returned (.tuple #[v, .bool (rightB p)]) ∧ (rightB p = true → ∃ l, letF p.lets.data.toList = some l ∧ MapObj w' w.heap.size v p l) ∧ Below w.heap.size w w' := by
  have hfew := of_decide_eq_true hf
  obtain ⟨f1, f2, f3⟩ := hfew
  have HBL := Lib.hid (planC_blk w p ve vb)
  have HNEW : RowKit.Hid (∀ W ve' vb', HasE intC W ve' p.exits → HasE stC W vb' p.bks → Calls Tryd.prog 21 #[planV p ve' vb'] W fun e w' => newE p W.heap.size e w' ∧ Below W.heap.size W w') := Lib.hid fun W ve' vb' h1 h2 => new_any p ve' vb' W h1 h2 (by omega) (by omega) (by omega)
  obtain ⟨a, b, q, x, bk⟩ := p
  simp only at he hb f1 f2 f3 HNEW ⊢
  obtain ⟨pe, ce, rfl⟩ := he.len
  obtain ⟨pb, cb, rfl⟩ := hb.len
  obtain ⟨w1, e1, a0, a1, a2, a3, a4, hb1, hz1⟩ := plan_boxed w a b q (.slice pe x.length ce) (.slice pb bk.length cb)
  unfold planC at HBL
  simp only at HBL
  rw [e1] at HBL
  have HE := Lib.hid (he.mono hb1)
  have HS := Lib.hid (hb.mono hb1)
  have HB := Lib.hid hb1
  have hone : ∀ v ∈ ([.int .i64 a, .int .i64 b, .string q, .slice pe x.length ce, .slice pb bk.length cb] : List Value), v.oneCell' = true := by
    intro v hv
    simp at hv
    rcases hv with rfl | rfl | rfl | rfl | rfl <;> rfl
  have hlx : ([] : List Int).length + x.length ≤ 1000000 := by simp; omega
  have hls : ([] : List St).length + bk.length ≤ 1000000 := by simp; omega
  obtain ⟨i1, hi1, hz1', hs1, hy1⟩ := int_info
  obtain ⟨i2, hi2, hz2', hs2, hy2⟩ := seat_info
  unfold planV at HNEW ⊢
  clear he hb hb1 hz1 hf
  go_enter Tryd.func23, Tryd.ntmps23
  go_upto_region 3 with (first
    | (refine wpList_load_mid rfl 32 (.tmp 1) rfl w.heap.size 0 rfl _ _ HBL.out.range Tryd.underlying32 rfl info_plan ?_)
    | (refine wpList_store_blk rfl 32 (.tmp 4) (.tmp 9) rfl w1.heap.size 32 [.int .i64 0, .int .i64 0, .string ⟨#[]⟩, .slice none 0 0, .slice none 0 0] [.int .i64 a, .int .i64 b, .string q, .slice pe x.length ce, .slice pb bk.length cb] rfl rfl (Blk.new w1 32 [.int .i64 0, .int .i64 0, .string ⟨#[]⟩, .slice none 0 0, .slice none 0 0]) rfl info_plan hone ?_; intro w8 ha8 hb8 _
       have hb18 : Below w1.heap.size w1 w8 := ((Below.refl _ _).alloc (Nat.le_refl _) _).trans hb8
       have t3 : (w8.alloc (.cells #[] 3)).cell? ⟨w.heap.size, 3, none⟩ = some (.slice pe x.length ce) := Lib.cell?_alloc_some _ (cell_bel hb18 a3))
    | (at_builtin; refine wpList_append_has (enc := intC) (st := 1) intC_len intC_one (by decide) rfl _ _ 29 rfl w8.heap.size 3 i1 _ 8 Tryd.underlying29 hi1 hz1' hs1 hy1 rfl (by decide) (.slice (some ⟨w8.heap.size, 0, none⟩) 0 0) [] rfl (own_lit0 _ _ _ _ (Nat.le_refl _)) (.slice pe x.length ce) x rfl ((HE.out.mono hb18).mono ((Below.refl _ _).alloc (Nat.le_refl _) _)) hlx (by simp) ?_; intro v1 w10 ho10 _ hb10
       rw [List.nil_append] at ho10
       obtain ⟨p1, k1, rfl⟩ := (HasE.own (enc := intC) (l := x) ho10).len
       have hb8' : Below w8.heap.size w8 w10 := ((Below.refl _ _).alloc (Nat.le_refl _) _).trans hb10
       have hx10 := ha8.mono hb8'
       have n3 : w10.cell? ⟨w1.heap.size, 3, none⟩ = some (.slice pe x.length ce) := (hx10.cell 3).trans rfl
       have n3f := hx10.frozen 3))
  have hg2 : w1.heap.size < w8.heap.size := ha8.lt
  have hb11 : Below w1.heap.size w1 (w10.setCell ⟨w1.heap.size, 3, none⟩ (.slice p1 x.length k1)) := (bel_trans hb18 hb8').setCell (p := ⟨w1.heap.size, 3, none⟩) (Nat.le_refl _) _
  have hgs : w10.grownBy (w10.setCell ⟨w1.heap.size, 3, none⟩ (.slice p1 x.length k1)) (some w1.heap.size) := gr_setCell1 (gr_of_below (Below.refl _ _) _) 3 _
  have ho11 := World.ownsRow.kept ho10 hgs (own_ne ho10 hg2)
  have hx11 := hx10.set 3 (.slice p1 x.length k1)
  have HSZ11 : RowKit.Hid ((w10.setCell ⟨w1.heap.size, 3, none⟩ (.slice p1 x.length k1)).heap.size = w10.heap.size) := Lib.hid (by simp [World.setCell])
  have hsz10 := hb8'.size
  generalize w10.setCell ⟨w1.heap.size, 3, none⟩ (.slice p1 x.length k1) = w11 at *
  have t4 : (w11.alloc (.cells #[] 23)).cell? ⟨w.heap.size, 4, none⟩ = some (.slice pb bk.length cb) := Lib.cell?_alloc_some _ (cell_bel hb11 a4)
  clear t3 n3 n3f hx10 ho10 hb10 hb8' hb8 hgs
  go_upto_region 4 with (first
    | (at_builtin; refine wpList_append_has (enc := stC) (st := 2) stC_len stC_one (by decide) rfl _ _ 30 rfl w11.heap.size 23 i2 _ 16 Tryd.underlying30 hi2 hz2' hs2 hy2 rfl (by decide) (.slice (some ⟨w11.heap.size, 0, none⟩) 0 0) [] rfl (own_lit0 _ _ _ _ (Nat.le_refl _)) (.slice pb bk.length cb) bk rfl ((HS.out.mono hb11).mono ((Below.refl _ _).alloc (Nat.le_refl _) _)) hls (by simp) ?_; intro v2 w12 ho12 _ hb12
       rw [List.nil_append] at ho12
       obtain ⟨p2, k2, rfl⟩ := (HasE.own (enc := stC) (l := bk) ho12).len
       have hb11' : Below w11.heap.size w11 w12 := ((Below.refl _ _).alloc (Nat.le_refl _) _).trans hb12
       have hx12 := hx11.mono hb11'
       have n4 : w12.cell? ⟨w1.heap.size, 4, none⟩ = some (.slice pb bk.length cb) := (hx12.cell 4).trans rfl
       have n4f := hx12.frozen 4))
  have hb13 : Below w1.heap.size w1 (w12.setCell ⟨w1.heap.size, 4, none⟩ (.slice p2 bk.length k2)) := (bel_trans hb11 hb11').setCell (p := ⟨w1.heap.size, 4, none⟩) (Nat.le_refl _) _
  have hgs : w12.grownBy (w12.setCell ⟨w1.heap.size, 4, none⟩ (.slice p2 bk.length k2)) (some w1.heap.size) := gr_setCell1 (gr_of_below (Below.refl _ _) _) 4 _
  have hg3 : w1.heap.size < w11.heap.size := by have := HSZ11.out; omega
  have ho13 := World.ownsRow.kept ho12 hgs (own_ne ho12 hg3)
  have ho23 := World.ownsRow.kept (World.ownsRow.kept ho11 (gr_of_below hb11' none) (by cases hv : (Value.slice p1 x.length k1).ownBlock <;> simp)) hgs (own_ne ho11 hg2)
  have hx13 := hx12.set 4 (.slice p2 bk.length k2)
  have HSZ13 : RowKit.Hid ((w12.setCell ⟨w1.heap.size, 4, none⟩ (.slice p2 bk.length k2)).heap.size = w12.heap.size) := Lib.hid (by simp [World.setCell])
  have hsz12 := hb11'.size
  have hlt1 := World.ownsRow.lt ho11
  generalize w12.setCell ⟨w1.heap.size, 4, none⟩ (.slice p2 bk.length k2) = w13 at *
  clear n4 n4f hx12 ho12 hb12 hb11' hgs t4
  simp only [List.set] at hx13
  have HN14 := Lib.hid (HNEW.out w13 _ _ (HasE.own (enc := intC) ho23) (HasE.own (enc := stC) ho13))
  have HF13 := Lib.hid hb13
  generalize hNx : x.length = N at *
  generalize hMx : bk.length = M at *
  clear hNx hMx HNEW hb13 hb11 hb18 HE HS hone hlx hls
  go_upto_region 5 with (first
    | (refine wpList_load_mid rfl 32 (.tmp 4) rfl w1.heap.size 0 rfl _ _ hx13.range Tryd.underlying32 rfl info_plan ?_)
    | (go_at_call 21; (with_reducible refine HN14.out.mono ?_); rintro e w14 ⟨hne, hb14⟩; obtain ⟨v5, z5, rfl, hres⟩ := newE_form hne))
  have hx14 := hx13.mono hb14
  have ho14 : w14.ownsRow w11.heap.size 23 2 (.slice p2 M k2) M _ := World.ownsRow.kept ho13 (gr_of_below hb14 none) (by cases hv : (Value.slice p2 M k2).ownBlock <;> simp)
  have ho24 : w14.ownsRow w8.heap.size 3 1 (.slice p1 N k1) N _ := World.ownsRow.kept ho23 (gr_of_below hb14 none) (by cases hv : (Value.slice p1 N k1).ownBlock <;> simp)
  have HRES := Lib.hid hres
  have HX14 := Lib.hid hx14
  have HO14 := Lib.hid ho14
  have hl13 := World.ownsRow.lt ho13
  have hl23 := World.ownsRow.lt ho23
  have hap := own_ne ho13 (k := w1.heap.size) (by have := HSZ11.out; omega)
  have hap2 := own_ne ho23 hg2
  have HB14 := Lib.hid hb14
  clear hx13 hx11 ho13 ho23 ho11 hres hx14 ho14 hb14 ha8 hne
  go_wp2
  go_loopg [7] N (fun g i wr => ∃ (k : Nat) (xs : List Value), k ≤ N ∧ g = N - k ∧ i = .int .i64 (k : Int) ∧ wr.ownsRow w8.heap.size 3 1 (.slice p1 N k1) N xs ∧ w14.grownBy wr (Value.slice p1 N k1).ownBlock)
  case atStart => exact ⟨0, _, Nat.zero_le _, rfl, rfl, ho24, World.grownBy.refl _ _⟩
  case round =>
    obtain ⟨k, xs, hk, rfl, rfl, hrow, hgr⟩ := hrel
    have n3 : wr.cell? ⟨w1.heap.size, 3, none⟩ = some (.slice p1 N k1) := ((HX14.out.far hgr (by rcases hap2 with h | h; rw [h]; simp; exact fun e => h e.symm)).cell 3).trans rfl
    by_cases hlt : k < N
    · have hki : (k : Int) < (N : Int) := by omega
      have hk0 : (0 : Int) ≤ (k : Int) := by omega
      rcases hrow.2 with ⟨h, _⟩ | ⟨gg, cap, cur, e1, _⟩
      · injection h with _ h _
        omega
      injection e1 with e1 _ e3
      subst e1
      subst e3
      have hxl := hrow.1
      obtain ⟨u, hu⟩ : ∃ u, xs[k]? = some u := ⟨_, List.getElem?_eq_getElem (by omega)⟩
      have hx := hrow.cellAt k (by omega)
      rw [hu] at hx
      have hfz := hrow.frozenAt k
      have hst := Lib.hid (hrow.stored k (.int .i64 99))
      clear hu hrow
      go_wp2
      go_roundg (N - (k + 1))
      case measure => omega
      case rel => exact ⟨k + 1, _, by omega, rfl, by go_num, hst.out.1, gby_trans hgr hst.out.2⟩
    · have hke : k = N := by omega
      subst hke
      have hki : ¬ (k : Int) < (k : Int) := by omega
      have hx15 := HX14.out.far hgr (by rcases hap2 with h | h; rw [h]; simp; exact fun e => h e.symm)
      have hapB : (Value.slice p2 M k2).ownBlock = none ∨ (Value.slice p2 M k2).ownBlock ≠ (Value.slice p1 k k1).ownBlock := by
        cases hv : (Value.slice p2 M k2).ownBlock with
        | none => exact .inl rfl
        | some j2 =>
          refine .inr fun e => ?_
          have h1 := hl13 j2 hv
          have h2 := hlt1 j2 e.symm
          omega
      have ho15 := World.ownsRow.kept HO14.out hgr hapB
      have hw14 : w8.heap.size ≤ w14.heap.size := by
        have := HB14.out.size
        have := HSZ13.out
        have := HSZ11.out
        omega
      have HB15 : RowKit.Hid (∀ B0, B0 ≤ w8.heap.size → Below B0 w14 wr) := Lib.hid fun B0 hB0 => (Below.refl _ _).grown hgr (Nat.le_trans hB0 hw14) fun j hj => by have := hl23 j hj; omega
      have HX15 := Lib.hid hx15
      have HG15 := Lib.hid hgr
      clear hx15 hrow hgr
      obtain ⟨w15, rfl⟩ : ∃ y : World, y = wr := ⟨_, rfl⟩
      go_wp2
      go_loopg [8] M (fun g i wr => ∃ (m : Nat) (ys : List Value), m ≤ M ∧ g = M - m ∧ i = .int .i64 (m : Int) ∧ wr.ownsRow w11.heap.size 23 2 (.slice p2 M k2) M ys ∧ w15.grownBy wr (Value.slice p2 M k2).ownBlock)
      case atStart => exact ⟨0, _, Nat.zero_le _, rfl, rfl, ho15, World.grownBy.refl _ _⟩
      case round =>
        obtain ⟨m, ys, hm, rfl, rfl, hrow, hgr⟩ := hrel
        have n4 : wr.cell? ⟨w1.heap.size, 4, none⟩ = some (.slice p2 M k2) := ((HX15.out.far hgr (by rcases hap with h | h; rw [h]; simp; exact fun e => h e.symm)).cell 4).trans rfl
        by_cases hlt2 : m < M
        · have hmi : (m : Int) < (M : Int) := by omega
          have hm0 : (0 : Int) ≤ (m : Int) := by omega
          rcases hrow.2 with ⟨h, _⟩ | ⟨gg, cap, cur, e1, _⟩
          · injection h with _ h _
            omega
          injection e1 with e1 _ e3
          subst e1
          subst e3
          have hxl := hrow.1
          obtain ⟨u, hu⟩ : ∃ u, ys[m * 2]? = some u := ⟨_, List.getElem?_eq_getElem (by omega)⟩
          have hx := hrow.cellAt (m * 2) (by omega)
          rw [hu] at hx
          have hfz := hrow.frozenAt (m * 2)
          have hst := Lib.hid (hrow.stored (m * 2) (.int .i64 99))
          clear hu hrow
          go_wp2
          go_roundg (M - (m + 1))
          case measure => omega
          case rel => exact ⟨m + 1, _, by omega, rfl, by go_num, hst.out.1, gby_trans hgr hst.out.2⟩
        · have hme : m = M := by omega
          subst hme
          have hmi : ¬ (m : Int) < (m : Int) := by omega
          have HBZ : RowKit.Hid (Below w.heap.size w wr) := Lib.hid (by
            have h1 := HB15.out w.heap.size (by have := HB.out.size; omega)
            have h2 : Below w.heap.size w15 wr := (Below.refl _ _).grown hgr (Nat.le_trans (by have := HB.out.size; omega : w.heap.size ≤ w14.heap.size) (HB15.out 0 (Nat.zero_le _)).size) fun j hj => by have := hl13 j hj; have := HB.out.size; have := HSZ11.out; omega
            have h3 : Below w.heap.size w w13 := bel_trans HB.out HF13.out
            exact ((below_low h3 h3.size HB14.out).trans h1).trans h2)
          have HMO : RowKit.Hid (∀ p' l', MapObj w14 w13.heap.size v5 p' l' → MapObj wr w.heap.size v5 p' l') := Lib.hid fun p' l' h => ((h.low HG15.out (fun j hj => (hl23 j hj).2)).low hgr (fun j hj => (hl13 j hj).2)).down (bel_trans HB.out HF13.out).size
          rcases HRES.out with ⟨r1, rfl, rfl⟩ | ⟨r1, rfl, ⟨gp, rfl⟩, l, r2, r3⟩
          · have HR := Lib.hid r1
            clear r1
            go_wp2
            go_ret2
            refine ⟨_, by rw [HR.out]; rfl, ?_, HBZ.out⟩
            intro h
            rw [HR.out] at h
            cases h
          · have HR := Lib.hid r1
            have HR3 := Lib.hid r3
            clear r1 r3
            go_wp2
            go_ret2
            refine ⟨_, by rw [HR.out]; rfl, ?_, HBZ.out⟩
            intro _
            first | exact ⟨l, r2, HMO.out _ l HR3.out⟩ | exact HMO.out _ l HR3.out
end Go.Proofs.YtpmmjccdogjncaaDoor
