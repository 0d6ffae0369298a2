/- jetwaylaw12.Copied. Printed by tools/gen_zg.py. -/
import Derived.Test.YtofomopmmopflaaGreatDoorZF
namespace Go.Proofs.YtofomopmmopflaaGreatDoor
open Go.RowKit Go.ChangeMaps
set_option linter.unusedSimpArgs false
set_option linter.unusedVariables false
set_option maxRecDepth 20000

theorem ord_makeZ {ops : Array Oper} {Q : Act → World → Prop} {o : Oper} {rest : List (Oper × Bool)} {a : Act} {w0 : World} (hgd : o.guard = none) (l c : Operand) (t : TypeId) (hop : o.op = Op.makeSlice t l c)
    (e : TypeId) (i : TypeInfo) (z : Value) (size : Nat) (h1 : Tryz.prog.underlying t = some (.slice e)) (h2 : Tryz.prog.info? e = some i) (h3 : i.zero = some z) (h4 : i.size = size)
    (n : Nat) (hl : a.eval l = .int .i64 0) (hc : a.eval c = .int .i64 (n : Int)) (b2 : i.bytes * n ≤ 281474976710656) (b3 : n ≤ maxLen)
    (hK : ∀ w w', Cone w0 w → w'.ownsRow w.heap.size e size (.slice (some ⟨w.heap.size, 0, none⟩) 0 n) 0 [] → Below w.heap.size w w' → wpOrd Tryz.prog ops Q rest (a.put o.dst (.slice (some ⟨w.heap.size, 0, none⟩) 0 n)) w') : wpOrd Tryz.prog ops Q ((o, true) :: rest) a w0 := by
  unfold wpOrd
  refine ⟨by simp [Region.wanted, hgd], fun w hw => ?_⟩
  obtain ⟨w', hrun, r1, r2⟩ := run_make_own (P := Tryz.prog) w w.heap.size t e i z size h1 h2 h3 h4 .i64 .i64 n b2 b3 (Nat.le_refl _)
  have hb : Below w.heap.size w w' := (Below.refl _ _).grown r2 (Nat.le_refl _) (fun k hk => by cases hk)
  refine ⟨_, w', ?_, .of hb, hK w w' hw r1 hb⟩
  unfold execOp
  simp [hop, hl, hc, hrun]
theorem wpList_append_big {α : Type} {enc : α → List Value} {st : Nat} (hst : ∀ a, (enc a).length = st) (hone : ∀ a, ∀ v ∈ enc a, v.oneCell' = true) (hst0 : 0 < st)
    {w : World} {ops : Array Oper} {rest : List Oper} {o : Oper} {a : Act} {Q : Exit → Act → World → Prop} (hgd : o.guard = none) (x y : Operand) (t : TypeId)
    (ho : o.op = .call { callee := .builtin .append, args := #[x, y], argTypes := #[t, t] })
    (base : Nat) (e : TypeId) (i : TypeInfo) (z : Value) (bytes : Nat) (ht : Tryz.prog.underlying t = some (.slice e)) (hi : Tryz.prog.info? e = some i) (hz : i.zero = some z)
    (hsize : i.size = st) (hby : i.bytes = bytes) (hzs : z.cells.size = st)
    (v : Value) (l0 : List α) (hs : a.eval x = v) (hown : w.ownsRow base e st v l0.length (l0.flatMap enc)) (vs : Value) (l : List α) (hx : a.eval y = vs) (hh : HasE enc w vs l)
    (hlen : l0.length + l.length ≤ maxLen) (hby2 : (l0.length + l.length) * bytes ≤ 140737488355328) (hbase : base ≤ w.heap.size)
    (h : ∀ v' w', w'.ownsRow base e st v' (l0 ++ l).length ((l0 ++ l).flatMap enc) → w.grownBy w' v.ownBlock → Below base w w' → wpList Tryz.prog ops Q rest (a.put o.dst v') w') :
    wpList Tryz.prog ops Q (o :: rest) a w := by
  have hgB : ∀ {w' : World}, w.grownBy w' v.ownBlock → Below base w w' := fun hg => (Below.refl base w).grown hg hbase fun k hk => (World.ownsRow.lt hown k hk).1
  rcases hh with ⟨p, c, rfl, rfl, hpn⟩ | ⟨b, off, c, rfl, h1, h2, h3⟩
  · cases p with
    | none =>
      have hc := hpn rfl
      subst hc
      refine wpList_append_own_none hgd x y t ho base e i st ht hi v l0.length _ hs hown hx ?_
      refine h v w ?_ (World.grownBy.refl w _) (Below.refl _ _)
      rw [List.append_nil]
      exact hown
    | some ad =>
      refine wpList_append_own _ hgd x y t ho base e i z st bytes ht hi hz hsize hby hzs hst0 v l0.length _ hs hown ad 0 c [] hx (by simp) (by simp) (by simp) hlen hby2 hbase ?_
      intro v' w' ho' hg' _
      refine h v' w' ?_ hg' (hgB hg')
      rw [List.append_nil] at ho' ⊢
      exact ho'
  · refine wpList_append_own _ hgd x y t ho base e i z st bytes ht hi hz hsize hby hzs hst0 v l0.length _ hs hown ⟨b, off, none⟩ l.length c (l.flatMap enc) hx (cells_len hst l) ?_ ?_ hlen hby2 hbase ?_
    · intro j u hj
      rw [Addr.add_lit]
      exact h3 j u hj
    · intro u hu
      obtain ⟨a', _, ha'⟩ := List.mem_flatMap.1 hu
      exact hone a' u ha'
    · intro v' w' ho' hg' _
      refine h v' w' ?_ hg' (hgB hg')
      rw [List.length_append, List.flatMap_append]
      exact ho'
theorem strE_lenZ (s : ByteArray) : (strE s).length = 1 := rfl
theorem texts_hasZ {w : World} {v : Value} {l : List ByteArray} (h : HasL w v l) : HasE strE w v l := by
  rcases h with h | ⟨b, off, c, h1, h2, h3, h4⟩
  · exact .inl h
  · refine .inr ⟨b, off, c, h1, h2, h3, fun j u hj => ?_⟩
    rw [flat_strE] at hj
    have hjl : j < l.length := by
      rcases Nat.lt_or_ge j l.length with h | h
      · exact h
      · rw [List.getElem?_eq_none (by unfold strV; rw [List.length_map]; exact h)] at hj; cases hj
    rw [h4 j hjl]
    rw [strV, List.getElem?_map, List.getElem?_eq_getElem hjl] at hj
    simp at hj
    rw [← hj]
    simp [List.getD, hjl]

set_option maxHeartbeats 16000000 in
theorem copied_any (p : PnrT) (vn vs vp vr vx : Value) (w : World) (h : PIn w p vn vs vp vr vx) :
    Calls Tryz.prog 7 #[.agg (pnrC p vn vs vp vr vx).toArray] w fun e w' => (∃ un us up ur ux, e = .returned (.agg (pnrC p un us up ur ux).toArray) ∧ PIn w' p un us up ur ux) ∧ Below w.heap.size w w' := by
  have HP := Lib.hid h
  obtain ⟨pn, cn, rfl⟩ := h.n.len
  obtain ⟨ps, cs, rfl⟩ := h.s.len
  obtain ⟨pp, cp, rfl⟩ := own_len h.ph
  obtain ⟨pr, cr, rfl⟩ := own_len h.rm
  obtain ⟨px, cx, rfl⟩ := h.x.len
  obtain ⟨NN, hNN⟩ : ∃ n, p.names.length = n := ⟨_, rfl⟩
  obtain ⟨NS, hNS⟩ : ∃ n, p.segs.length = n := ⟨_, rfl⟩
  obtain ⟨NP, hNP⟩ : ∃ n, p.phones.length = n := ⟨_, rfl⟩
  obtain ⟨NR, hNR⟩ : ∃ n, p.remarks.length = n := ⟨_, rfl⟩
  obtain ⟨NX, hNX⟩ : ∃ n, p.seats.length = n := ⟨_, rfl⟩
  rw [hNN, hNS, hNP, hNR, hNX] at HP ⊢
  have hfew := h.few
  have HNN := Lib.hid (And.intro hNN (show NN ≤ 1000 by omega))
  have HNS := Lib.hid (And.intro hNS (show NS ≤ 1000 by omega))
  have HNP := Lib.hid (And.intro hNP (show NP ≤ 1000 by omega))
  have HNR := Lib.hid (And.intro hNR (show NR ≤ 1000 by omega))
  have HNX := Lib.hid (And.intro hNX (show NX ≤ 1000 by omega))
  clear h hfew hNN hNS hNP hNR hNX
  have hw1 : (w.alloc (.cells (pnrC p (.slice pn NN cn) (.slice ps NS cs) (.slice pp NP cp) (.slice pr NR cr) (.slice px NX cx)).toArray 29)).heap.size = w.heap.size + 1 := by simp
  have hbk := (Blk.new w 29 (pnrC p (.slice pn NN cn) (.slice ps NS cs) (.slice pp NP cp) (.slice pr NR cr) (.slice px NX cx))).alloc (.cells zeroC.toArray 29)
  have hre := Blk.new (w.alloc (.cells (pnrC p (.slice pn NN cn) (.slice ps NS cs) (.slice pp NP cp) (.slice pr NR cr) (.slice px NX cx)).toArray 29)) 29 zeroC
  have hbb : Below w.heap.size w ((w.alloc (.cells (pnrC p (.slice pn NN cn) (.slice ps NS cs) (.slice pp NP cp) (.slice pr NR cr) (.slice px NX cx)).toArray 29)).alloc (.cells zeroC.toArray 29)) := ((Below.refl _ _).alloc (Nat.le_refl _) _).alloc (by rw [hw1]; omega) _
  rw [hw1] at hre
  have hsz : w.heap.size + 2 ≤ ((w.alloc (.cells (pnrC p (.slice pn NN cn) (.slice ps NS cs) (.slice pp NP cp) (.slice pr NR cr) (.slice px NX cx)).toArray 29)).alloc (.cells zeroC.toArray 29)).heap.size := by simp
  unfold pnrC zeroC at hbk hre hbb hsz
  unfold pnrC
  simp only [List.toArray] at hbk hre hbb hsz ⊢
  generalize hwq : (w.alloc (.cells #[.string p.loc, .string p.off, .slice pn NN cn, .slice ps NS cs, .slice pp NP cp, .int .i64 p.tk, .int .i64 p.td, .int .i64 p.tm, .string p.recv, .slice pr NR cr, .slice px NX cx, .bool p.queued] 29)).alloc (.cells #[.string ⟨#[]⟩, .string ⟨#[]⟩, .slice none 0 0, .slice none 0 0, .slice none 0 0, .int .i64 0, .int .i64 0, .int .i64 0, .string ⟨#[]⟩, .slice none 0 0, .slice none 0 0, .bool false] 29) = w0 at hbk hre hbb hsz
  have HBK := Lib.hid hbk
  have HRE := Lib.hid hre
  have HBB := Lib.hid hbb
  have HSZ := Lib.hid hsz
  clear hbk hre hbb hsz hw1
  go_enter Tryz.func7, Tryz.ntmps7
  go_upto_region 1 with fail
  try rw [hwq]
  clear hwq
  have HL1 : RowKit.Hid (HasE nameC w0 (.slice pn NN cn) p.names) := Lib.hid (HP.out.n.mono HBB.out)
  have z1 : w0.cell? ⟨w.heap.size, 2, none⟩ = some (.slice pn NN cn) := (HBK.out.cell 2).trans rfl
  have k1 := cell_regrown z1
  clear z1
  obtain ⟨i0, hi0, hz0, hsz0, hby0⟩ := name_tinfo
  have hww : IntKind.i64.wrap ((NN : Int) + 2) = (NN : Int) + 2 := IntWalk.i64_in _ (by have := HNN.out.2; omega)
  have hm1 : ([] : List NameT).length + p.names.length ≤ maxLen := by simp; have := HNN.out; unfold maxLen; omega
  have hm2 : (([] : List NameT).length + p.names.length) * 32 ≤ 140737488355328 := by simp; have := HNN.out; omega
  have hm3 : i0.bytes * (NN + 2) ≤ 281474976710656 := by rw [hby0]; have := HNN.out; omega
  have hm4 : NN + 2 ≤ maxLen := by have := HNN.out; unfold maxLen; omega
  go_upto_region 1 with fail
  refine wp_region_cone 7 [(0, false), (1, false), (2, false), (3, false), (5, false), (6, false), (4, true)] (by kernel_rfl) (by kernel_rfl) ?_
  simp only [ordO, List.map_cons, List.map_nil, List.getD_cons_zero, List.getD_cons_succ, List.drop_succ_cons, List.drop_zero]
  repeat (
    refine ord_quiet (fun K hK => ?_)
    go_simp
    first
      | (refine hK _ ?_; clear hK K)
      | (refine ⟨_, fun _ => up_val, hK _ ?_⟩; clear hK K))
  refine ord_makeZ (by rfl) _ _ 22 (by rfl) 59 i0 _ 2 Tryz.underlying22 hi0 hz0 hsz0 (NN + 2) (by rfl) (by rfl) hm3 hm4 ?_
  intro wa wb hwa hrow hbab
  unfold wpOrd
  intro wq hwq
  have hb0q : Below w0.heap.size w0 wq := bel_trans hwa.bel (bel_trans hbab hwq.bel)
  have hga : w0.heap.size ≤ wa.heap.size := hwa.bel.size
  have hgq : wa.heap.size ≤ wq.heap.size := Nat.le_trans hbab.size hwq.bel.size
  have hmade := own_mono hrow hwq.bel
  have HLQ := Lib.hid (HL1.out.mono hb0q)
  have HBKQ := Lib.hid (HBK.out.mono hb0q)
  have HB0Q := Lib.hid hb0q
  clear k1 hwa hrow hbab hwq hb0q hww hm3 hm4
  generalize wa.heap.size = gb at *
  go_upto_region 2 with (at_builtin; refine wpList_append_big nameC_len nameC_one (by decide) rfl _ _ 22 rfl gb 59 i0 _ 32 Tryz.underlying22 hi0 hz0 hsz0 hby0 rfl _ [] rfl hmade _ p.names rfl HLQ.out hm1 hm2 hgq ?_; intro v1 w1' ho' hg' hb'; obtain ⟨a1, b1, e1, rfl⟩ := own_slice ho'; have hB1 : Below w0.heap.size w0 w1' := HB0Q.out.trans (hb'.mono hga); have hbk' := HBK.out.mono hB1; have x1 : w1'.cell? ⟨w.heap.size, 2, none⟩ = some (.slice pn NN cn) := (hbk'.cell 2).trans rfl; have f1 := hbk'.frozen 2)
  have hsc : w.heap.size + 2 ≤ w1'.heap.size := Nat.le_trans HSZ.out hB1.size
  have hgS := gr_setCell1 (b := w.heap.size) (World.grownBy.refl w1' _) 2 (.slice a1 b1 e1)
  have HRow1 : RowKit.Hid ((w1'.setCell ⟨w.heap.size, 2, none⟩ (.slice a1 b1 e1)).ownsRow (w.heap.size + 2) 59 2 (.slice a1 b1 e1) p.names.length (p.names.flatMap nameC)) := Lib.hid (World.ownsRow.kept (own_lowR (by simpa using ho') (Nat.le_trans HSZ.out hga)) hgS (own_ne (own_lowR ho' (Nat.le_trans HSZ.out hga)) (by omega)))
  have HBK2 : RowKit.Hid (Blk (w1'.setCell ⟨w.heap.size, 2, none⟩ (.slice a1 b1 e1)) w.heap.size 29 [.string p.loc, .string p.off, .slice a1 b1 e1, .slice ps NS cs, .slice pp NP cp, .int .i64 p.tk, .int .i64 p.td, .int .i64 p.tm, .string p.recv, .slice pr NR cr, .slice px NX cx, .bool p.queued]) := Lib.hid (hbk'.set 2 _)
  have HRE2 := Lib.hid ((HRE.out.mono hB1).far hgS (fun e => by injection e with e; omega))
  have HBB2 : RowKit.Hid (Below w.heap.size w (w1'.setCell ⟨w.heap.size, 2, none⟩ (.slice a1 b1 e1))) := Lib.hid ((below_low HBB.out HBB.out.size hB1).setCell (p := ⟨w.heap.size, 2, none⟩) (Nat.le_refl _) _)
  have HSZ2 : RowKit.Hid (w.heap.size + 2 ≤ (w1'.setCell ⟨w.heap.size, 2, none⟩ (.slice a1 b1 e1)).heap.size) := Lib.hid (Nat.le_trans hsc hgS.size)
  have HW1 := HBB2
  clear ho' hg' hb' hbk' x1 f1 hB1 hsc hgS hmade HLQ HBKQ HB0Q hga hgq hm1 hm2 HL1 HBK HRE HBB HSZ hi0 hz0 hsz0 hby0 i0
  have HBK := HBK2
  have HRE := HRE2
  have HBB := HBB2
  have HSZ := HSZ2
  clear HBK2 HRE2 HBB2 HSZ2 HW1
  generalize w1'.setCell ⟨w.heap.size, 2, none⟩ (.slice a1 b1 e1) = w1 at *
  have HL2 : RowKit.Hid (HasE segC w1 (.slice ps NS cs) p.segs) := Lib.hid (HP.out.s.mono HBB.out)
  have z2 : w1.cell? ⟨w.heap.size, 3, none⟩ = some (.slice ps NS cs) := (HBK.out.cell 3).trans rfl
  have k2 := cell_regrown z2
  clear z2
  obtain ⟨i0, hi0, hz0, hsz0, hby0⟩ := seg_tinfo
  have hww : IntKind.i64.wrap ((NS : Int) + 2) = (NS : Int) + 2 := IntWalk.i64_in _ (by have := HNS.out.2; omega)
  have hm1 : ([] : List SegT).length + p.segs.length ≤ maxLen := by simp; have := HNS.out; unfold maxLen; omega
  have hm2 : (([] : List SegT).length + p.segs.length) * 40 ≤ 140737488355328 := by simp; have := HNS.out; omega
  have hm3 : i0.bytes * (NS + 2) ≤ 281474976710656 := by rw [hby0]; have := HNS.out; omega
  have hm4 : NS + 2 ≤ maxLen := by have := HNS.out; unfold maxLen; omega
  go_upto_region 2 with fail
  refine wp_region_cone 7 [(0, false), (1, false), (2, false), (3, false), (5, false), (6, false), (4, true)] (by kernel_rfl) (by kernel_rfl) ?_
  simp only [ordO, List.map_cons, List.map_nil, List.getD_cons_zero, List.getD_cons_succ, List.drop_succ_cons, List.drop_zero]
  repeat (
    refine ord_quiet (fun K hK => ?_)
    go_simp
    first
      | (refine hK _ ?_; clear hK K)
      | (refine ⟨_, fun _ => up_val, hK _ ?_⟩; clear hK K))
  refine ord_makeZ (by rfl) _ _ 23 (by rfl) 65 i0 _ 5 Tryz.underlying23 hi0 hz0 hsz0 (NS + 2) (by rfl) (by rfl) hm3 hm4 ?_
  intro wa wb hwa hrow hbab
  unfold wpOrd
  intro wq hwq
  have hb0q : Below w1.heap.size w1 wq := bel_trans hwa.bel (bel_trans hbab hwq.bel)
  have hga : w1.heap.size ≤ wa.heap.size := hwa.bel.size
  have hgq : wa.heap.size ≤ wq.heap.size := Nat.le_trans hbab.size hwq.bel.size
  have hmade := own_mono hrow hwq.bel
  have HLQ := Lib.hid (HL2.out.mono hb0q)
  have HBKQ := Lib.hid (HBK.out.mono hb0q)
  have HB0Q := Lib.hid hb0q
  clear k2 hwa hrow hbab hwq hb0q hww hm3 hm4
  generalize wa.heap.size = gb at *
  go_upto_region 3 with (at_builtin; refine wpList_append_big segC_len segC_one (by decide) rfl _ _ 23 rfl gb 65 i0 _ 40 Tryz.underlying23 hi0 hz0 hsz0 hby0 rfl _ [] rfl hmade _ p.segs rfl HLQ.out hm1 hm2 hgq ?_; intro v2 w2' ho' hg' hb'; obtain ⟨a2, b2, e2, rfl⟩ := own_slice ho'; have hB2 : Below w1.heap.size w1 w2' := HB0Q.out.trans (hb'.mono hga); have hbk' := HBK.out.mono hB2; have x2 : w2'.cell? ⟨w.heap.size, 3, none⟩ = some (.slice ps NS cs) := (hbk'.cell 3).trans rfl; have f2 := hbk'.frozen 3)
  have hsc : w.heap.size + 2 ≤ w2'.heap.size := Nat.le_trans HSZ.out hB2.size
  have hgS := gr_setCell1 (b := w.heap.size) (World.grownBy.refl w2' _) 3 (.slice a2 b2 e2)
  have HRow2 : RowKit.Hid ((w2'.setCell ⟨w.heap.size, 3, none⟩ (.slice a2 b2 e2)).ownsRow (w.heap.size + 2) 65 5 (.slice a2 b2 e2) p.segs.length (p.segs.flatMap segC)) := Lib.hid (World.ownsRow.kept (own_lowR (by simpa using ho') (Nat.le_trans HSZ.out hga)) hgS (own_ne (own_lowR ho' (Nat.le_trans HSZ.out hga)) (by omega)))
  have HBK2 : RowKit.Hid (Blk (w2'.setCell ⟨w.heap.size, 3, none⟩ (.slice a2 b2 e2)) w.heap.size 29 [.string p.loc, .string p.off, .slice a1 b1 e1, .slice a2 b2 e2, .slice pp NP cp, .int .i64 p.tk, .int .i64 p.td, .int .i64 p.tm, .string p.recv, .slice pr NR cr, .slice px NX cx, .bool p.queued]) := Lib.hid (hbk'.set 3 _)
  have HRE2 := Lib.hid ((HRE.out.mono hB2).far hgS (fun e => by injection e with e; omega))
  have HBB2 : RowKit.Hid (Below w.heap.size w (w2'.setCell ⟨w.heap.size, 3, none⟩ (.slice a2 b2 e2))) := Lib.hid ((below_low HBB.out HBB.out.size hB2).setCell (p := ⟨w.heap.size, 3, none⟩) (Nat.le_refl _) _)
  have HSZ2 : RowKit.Hid (w.heap.size + 2 ≤ (w2'.setCell ⟨w.heap.size, 3, none⟩ (.slice a2 b2 e2)).heap.size) := Lib.hid (Nat.le_trans hsc hgS.size)
  have HRow1 : RowKit.Hid ((w2'.setCell ⟨w.heap.size, 3, none⟩ (.slice a2 b2 e2)).ownsRow (w.heap.size + 2) 59 2 (.slice a1 b1 e1) p.names.length (p.names.flatMap nameC)) := Lib.hid (World.ownsRow.kept (own_mono HRow1.out hB2) hgS (own_ne (own_mono HRow1.out hB2) (by omega)))
  have HW2 := HBB2
  clear ho' hg' hb' hbk' x2 f2 hB2 hsc hgS hmade HLQ HBKQ HB0Q hga hgq hm1 hm2 HL2 HBK HRE HBB HSZ hi0 hz0 hsz0 hby0 i0
  have HBK := HBK2
  have HRE := HRE2
  have HBB := HBB2
  have HSZ := HSZ2
  clear HBK2 HRE2 HBB2 HSZ2 HW2
  generalize w2'.setCell ⟨w.heap.size, 3, none⟩ (.slice a2 b2 e2) = w2 at *
  have HL3 : RowKit.Hid (HasE strE w2 (.slice pp NP cp) p.phones) := Lib.hid (texts_hasZ (HP.out.ph.mono HBB.out))
  have z3 : w2.cell? ⟨w.heap.size, 4, none⟩ = some (.slice pp NP cp) := (HBK.out.cell 4).trans rfl
  have k3 := cell_regrown z3
  clear z3
  obtain ⟨i0, hi0, hz0, hsz0, hby0⟩ := str_tinfo
  have hww : IntKind.i64.wrap ((NP : Int) + 2) = (NP : Int) + 2 := IntWalk.i64_in _ (by have := HNP.out.2; omega)
  have hm1 : ([] : List ByteArray).length + p.phones.length ≤ maxLen := by simp; have := HNP.out; unfold maxLen; omega
  have hm2 : (([] : List ByteArray).length + p.phones.length) * 16 ≤ 140737488355328 := by simp; have := HNP.out; omega
  have hm3 : i0.bytes * (NP + 2) ≤ 281474976710656 := by rw [hby0]; have := HNP.out; omega
  have hm4 : NP + 2 ≤ maxLen := by have := HNP.out; unfold maxLen; omega
  go_upto_region 3 with fail
  refine wp_region_cone 7 [(0, false), (1, false), (2, false), (3, false), (5, false), (6, false), (4, true)] (by kernel_rfl) (by kernel_rfl) ?_
  simp only [ordO, List.map_cons, List.map_nil, List.getD_cons_zero, List.getD_cons_succ, List.drop_succ_cons, List.drop_zero]
  repeat (
    refine ord_quiet (fun K hK => ?_)
    go_simp
    first
      | (refine hK _ ?_; clear hK K)
      | (refine ⟨_, fun _ => up_val, hK _ ?_⟩; clear hK K))
  refine ord_makeZ (by rfl) _ _ 24 (by rfl) 9 i0 _ 1 Tryz.underlying24 hi0 hz0 hsz0 (NP + 2) (by rfl) (by rfl) hm3 hm4 ?_
  intro wa wb hwa hrow hbab
  unfold wpOrd
  intro wq hwq
  have hb0q : Below w2.heap.size w2 wq := bel_trans hwa.bel (bel_trans hbab hwq.bel)
  have hga : w2.heap.size ≤ wa.heap.size := hwa.bel.size
  have hgq : wa.heap.size ≤ wq.heap.size := Nat.le_trans hbab.size hwq.bel.size
  have hmade := own_mono hrow hwq.bel
  have HLQ := Lib.hid (HL3.out.mono hb0q)
  have HBKQ := Lib.hid (HBK.out.mono hb0q)
  have HB0Q := Lib.hid hb0q
  clear k3 hwa hrow hbab hwq hb0q hww hm3 hm4
  generalize wa.heap.size = gb at *
  go_upto_region 4 with (at_builtin; refine wpList_append_big strE_lenZ strE_one (by decide) rfl _ _ 24 rfl gb 9 i0 _ 16 Tryz.underlying24 hi0 hz0 hsz0 hby0 rfl _ [] rfl hmade _ p.phones rfl HLQ.out hm1 hm2 hgq ?_; intro v3 w3' ho' hg' hb'; obtain ⟨a3, b3, e3, rfl⟩ := own_slice ho'; have hB3 : Below w2.heap.size w2 w3' := HB0Q.out.trans (hb'.mono hga); have hbk' := HBK.out.mono hB3; have x3 : w3'.cell? ⟨w.heap.size, 4, none⟩ = some (.slice pp NP cp) := (hbk'.cell 4).trans rfl; have f3 := hbk'.frozen 4)
  have hsc : w.heap.size + 2 ≤ w3'.heap.size := Nat.le_trans HSZ.out hB3.size
  have hgS := gr_setCell1 (b := w.heap.size) (World.grownBy.refl w3' _) 4 (.slice a3 b3 e3)
  have HRow3 : RowKit.Hid ((w3'.setCell ⟨w.heap.size, 4, none⟩ (.slice a3 b3 e3)).ownsRow (w.heap.size + 2) 9 1 (.slice a3 b3 e3) p.phones.length (p.phones.flatMap strE)) := Lib.hid (World.ownsRow.kept (own_lowR (by simpa using ho') (Nat.le_trans HSZ.out hga)) hgS (own_ne (own_lowR ho' (Nat.le_trans HSZ.out hga)) (by omega)))
  have HBK2 : RowKit.Hid (Blk (w3'.setCell ⟨w.heap.size, 4, none⟩ (.slice a3 b3 e3)) w.heap.size 29 [.string p.loc, .string p.off, .slice a1 b1 e1, .slice a2 b2 e2, .slice a3 b3 e3, .int .i64 p.tk, .int .i64 p.td, .int .i64 p.tm, .string p.recv, .slice pr NR cr, .slice px NX cx, .bool p.queued]) := Lib.hid (hbk'.set 4 _)
  have HRE2 := Lib.hid ((HRE.out.mono hB3).far hgS (fun e => by injection e with e; omega))
  have HBB2 : RowKit.Hid (Below w.heap.size w (w3'.setCell ⟨w.heap.size, 4, none⟩ (.slice a3 b3 e3))) := Lib.hid ((below_low HBB.out HBB.out.size hB3).setCell (p := ⟨w.heap.size, 4, none⟩) (Nat.le_refl _) _)
  have HSZ2 : RowKit.Hid (w.heap.size + 2 ≤ (w3'.setCell ⟨w.heap.size, 4, none⟩ (.slice a3 b3 e3)).heap.size) := Lib.hid (Nat.le_trans hsc hgS.size)
  have HRow1 : RowKit.Hid ((w3'.setCell ⟨w.heap.size, 4, none⟩ (.slice a3 b3 e3)).ownsRow (w.heap.size + 2) 59 2 (.slice a1 b1 e1) p.names.length (p.names.flatMap nameC)) := Lib.hid (World.ownsRow.kept (own_mono HRow1.out hB3) hgS (own_ne (own_mono HRow1.out hB3) (by omega)))
  have HRow2 : RowKit.Hid ((w3'.setCell ⟨w.heap.size, 4, none⟩ (.slice a3 b3 e3)).ownsRow (w.heap.size + 2) 65 5 (.slice a2 b2 e2) p.segs.length (p.segs.flatMap segC)) := Lib.hid (World.ownsRow.kept (own_mono HRow2.out hB3) hgS (own_ne (own_mono HRow2.out hB3) (by omega)))
  have HW3 := HBB2
  clear ho' hg' hb' hbk' x3 f3 hB3 hsc hgS hmade HLQ HBKQ HB0Q hga hgq hm1 hm2 HL3 HBK HRE HBB HSZ hi0 hz0 hsz0 hby0 i0
  have HBK := HBK2
  have HRE := HRE2
  have HBB := HBB2
  have HSZ := HSZ2
  clear HBK2 HRE2 HBB2 HSZ2 HW3
  generalize w3'.setCell ⟨w.heap.size, 4, none⟩ (.slice a3 b3 e3) = w3 at *
  have HL4 : RowKit.Hid (HasE strE w3 (.slice pr NR cr) p.remarks) := Lib.hid (texts_hasZ (HP.out.rm.mono HBB.out))
  have z4 : w3.cell? ⟨w.heap.size, 9, none⟩ = some (.slice pr NR cr) := (HBK.out.cell 9).trans rfl
  have k4 := cell_regrown z4
  clear z4
  obtain ⟨i0, hi0, hz0, hsz0, hby0⟩ := str_tinfo
  have hww : IntKind.i64.wrap ((NR : Int) + 2) = (NR : Int) + 2 := IntWalk.i64_in _ (by have := HNR.out.2; omega)
  have hm1 : ([] : List ByteArray).length + p.remarks.length ≤ maxLen := by simp; have := HNR.out; unfold maxLen; omega
  have hm2 : (([] : List ByteArray).length + p.remarks.length) * 16 ≤ 140737488355328 := by simp; have := HNR.out; omega
  have hm3 : i0.bytes * (NR + 2) ≤ 281474976710656 := by rw [hby0]; have := HNR.out; omega
  have hm4 : NR + 2 ≤ maxLen := by have := HNR.out; unfold maxLen; omega
  go_upto_region 4 with fail
  refine wp_region_cone 7 [(0, false), (1, false), (2, false), (3, false), (5, false), (6, false), (4, true)] (by kernel_rfl) (by kernel_rfl) ?_
  simp only [ordO, List.map_cons, List.map_nil, List.getD_cons_zero, List.getD_cons_succ, List.drop_succ_cons, List.drop_zero]
  repeat (
    refine ord_quiet (fun K hK => ?_)
    go_simp
    first
      | (refine hK _ ?_; clear hK K)
      | (refine ⟨_, fun _ => up_val, hK _ ?_⟩; clear hK K))
  refine ord_makeZ (by rfl) _ _ 24 (by rfl) 9 i0 _ 1 Tryz.underlying24 hi0 hz0 hsz0 (NR + 2) (by rfl) (by rfl) hm3 hm4 ?_
  intro wa wb hwa hrow hbab
  unfold wpOrd
  intro wq hwq
  have hb0q : Below w3.heap.size w3 wq := bel_trans hwa.bel (bel_trans hbab hwq.bel)
  have hga : w3.heap.size ≤ wa.heap.size := hwa.bel.size
  have hgq : wa.heap.size ≤ wq.heap.size := Nat.le_trans hbab.size hwq.bel.size
  have hmade := own_mono hrow hwq.bel
  have HLQ := Lib.hid (HL4.out.mono hb0q)
  have HBKQ := Lib.hid (HBK.out.mono hb0q)
  have HB0Q := Lib.hid hb0q
  clear k4 hwa hrow hbab hwq hb0q hww hm3 hm4
  generalize wa.heap.size = gb at *
  go_upto_region 5 with (at_builtin; refine wpList_append_big strE_lenZ strE_one (by decide) rfl _ _ 24 rfl gb 9 i0 _ 16 Tryz.underlying24 hi0 hz0 hsz0 hby0 rfl _ [] rfl hmade _ p.remarks rfl HLQ.out hm1 hm2 hgq ?_; intro v4 w4' ho' hg' hb'; obtain ⟨a4, b4, e4, rfl⟩ := own_slice ho'; have hB4 : Below w3.heap.size w3 w4' := HB0Q.out.trans (hb'.mono hga); have hbk' := HBK.out.mono hB4; have x4 : w4'.cell? ⟨w.heap.size, 9, none⟩ = some (.slice pr NR cr) := (hbk'.cell 9).trans rfl; have f4 := hbk'.frozen 9)
  have hsc : w.heap.size + 2 ≤ w4'.heap.size := Nat.le_trans HSZ.out hB4.size
  have hgS := gr_setCell1 (b := w.heap.size) (World.grownBy.refl w4' _) 9 (.slice a4 b4 e4)
  have HRow4 : RowKit.Hid ((w4'.setCell ⟨w.heap.size, 9, none⟩ (.slice a4 b4 e4)).ownsRow (w.heap.size + 2) 9 1 (.slice a4 b4 e4) p.remarks.length (p.remarks.flatMap strE)) := Lib.hid (World.ownsRow.kept (own_lowR (by simpa using ho') (Nat.le_trans HSZ.out hga)) hgS (own_ne (own_lowR ho' (Nat.le_trans HSZ.out hga)) (by omega)))
  have HBK2 : RowKit.Hid (Blk (w4'.setCell ⟨w.heap.size, 9, none⟩ (.slice a4 b4 e4)) w.heap.size 29 [.string p.loc, .string p.off, .slice a1 b1 e1, .slice a2 b2 e2, .slice a3 b3 e3, .int .i64 p.tk, .int .i64 p.td, .int .i64 p.tm, .string p.recv, .slice a4 b4 e4, .slice px NX cx, .bool p.queued]) := Lib.hid (hbk'.set 9 _)
  have HRE2 := Lib.hid ((HRE.out.mono hB4).far hgS (fun e => by injection e with e; omega))
  have HBB2 : RowKit.Hid (Below w.heap.size w (w4'.setCell ⟨w.heap.size, 9, none⟩ (.slice a4 b4 e4))) := Lib.hid ((below_low HBB.out HBB.out.size hB4).setCell (p := ⟨w.heap.size, 9, none⟩) (Nat.le_refl _) _)
  have HSZ2 : RowKit.Hid (w.heap.size + 2 ≤ (w4'.setCell ⟨w.heap.size, 9, none⟩ (.slice a4 b4 e4)).heap.size) := Lib.hid (Nat.le_trans hsc hgS.size)
  have HRow1 : RowKit.Hid ((w4'.setCell ⟨w.heap.size, 9, none⟩ (.slice a4 b4 e4)).ownsRow (w.heap.size + 2) 59 2 (.slice a1 b1 e1) p.names.length (p.names.flatMap nameC)) := Lib.hid (World.ownsRow.kept (own_mono HRow1.out hB4) hgS (own_ne (own_mono HRow1.out hB4) (by omega)))
  have HRow2 : RowKit.Hid ((w4'.setCell ⟨w.heap.size, 9, none⟩ (.slice a4 b4 e4)).ownsRow (w.heap.size + 2) 65 5 (.slice a2 b2 e2) p.segs.length (p.segs.flatMap segC)) := Lib.hid (World.ownsRow.kept (own_mono HRow2.out hB4) hgS (own_ne (own_mono HRow2.out hB4) (by omega)))
  have HRow3 : RowKit.Hid ((w4'.setCell ⟨w.heap.size, 9, none⟩ (.slice a4 b4 e4)).ownsRow (w.heap.size + 2) 9 1 (.slice a3 b3 e3) p.phones.length (p.phones.flatMap strE)) := Lib.hid (World.ownsRow.kept (own_mono HRow3.out hB4) hgS (own_ne (own_mono HRow3.out hB4) (by omega)))
  have HW4 := HBB2
  clear ho' hg' hb' hbk' x4 f4 hB4 hsc hgS hmade HLQ HBKQ HB0Q hga hgq hm1 hm2 HL4 HBK HRE HBB HSZ hi0 hz0 hsz0 hby0 i0
  have HBK := HBK2
  have HRE := HRE2
  have HBB := HBB2
  have HSZ := HSZ2
  clear HBK2 HRE2 HBB2 HSZ2 HW4
  generalize w4'.setCell ⟨w.heap.size, 9, none⟩ (.slice a4 b4 e4) = w4 at *
  have HL5 : RowKit.Hid (HasE placeC w4 (.slice px NX cx) p.seats) := Lib.hid (HP.out.x.mono HBB.out)
  have z5 : w4.cell? ⟨w.heap.size, 10, none⟩ = some (.slice px NX cx) := (HBK.out.cell 10).trans rfl
  have k5 := cell_regrown z5
  clear z5
  obtain ⟨i0, hi0, hz0, hsz0, hby0⟩ := place_tinfo
  have hww : IntKind.i64.wrap ((NX : Int) + 2) = (NX : Int) + 2 := IntWalk.i64_in _ (by have := HNX.out.2; omega)
  have hm1 : ([] : List PlaceT).length + p.seats.length ≤ maxLen := by simp; have := HNX.out; unfold maxLen; omega
  have hm2 : (([] : List PlaceT).length + p.seats.length) * 32 ≤ 140737488355328 := by simp; have := HNX.out; omega
  have hm3 : i0.bytes * (NX + 2) ≤ 281474976710656 := by rw [hby0]; have := HNX.out; omega
  have hm4 : NX + 2 ≤ maxLen := by have := HNX.out; unfold maxLen; omega
  go_upto_region 5 with fail
  refine wp_region_cone 7 [(0, false), (1, false), (2, false), (3, false), (5, false), (6, false), (4, true)] (by kernel_rfl) (by kernel_rfl) ?_
  simp only [ordO, List.map_cons, List.map_nil, List.getD_cons_zero, List.getD_cons_succ, List.drop_succ_cons, List.drop_zero]
  repeat (
    refine ord_quiet (fun K hK => ?_)
    go_simp
    first
      | (refine hK _ ?_; clear hK K)
      | (refine ⟨_, fun _ => up_val, hK _ ?_⟩; clear hK K))
  refine ord_makeZ (by rfl) _ _ 27 (by rfl) 73 i0 _ 4 Tryz.underlying27 hi0 hz0 hsz0 (NX + 2) (by rfl) (by rfl) hm3 hm4 ?_
  intro wa wb hwa hrow hbab
  unfold wpOrd
  intro wq hwq
  have hb0q : Below w4.heap.size w4 wq := bel_trans hwa.bel (bel_trans hbab hwq.bel)
  have hga : w4.heap.size ≤ wa.heap.size := hwa.bel.size
  have hgq : wa.heap.size ≤ wq.heap.size := Nat.le_trans hbab.size hwq.bel.size
  have hmade := own_mono hrow hwq.bel
  have HLQ := Lib.hid (HL5.out.mono hb0q)
  have HBKQ := Lib.hid (HBK.out.mono hb0q)
  have HB0Q := Lib.hid hb0q
  clear k5 hwa hrow hbab hwq hb0q hww hm3 hm4
  generalize wa.heap.size = gb at *
  go_upto_region 6 with (at_builtin; refine wpList_append_big placeC_len placeC_one (by decide) rfl _ _ 27 rfl gb 73 i0 _ 32 Tryz.underlying27 hi0 hz0 hsz0 hby0 rfl _ [] rfl hmade _ p.seats rfl HLQ.out hm1 hm2 hgq ?_; intro v5 w5' ho' hg' hb'; obtain ⟨a5, b5, e5, rfl⟩ := own_slice ho'; have hB5 : Below w4.heap.size w4 w5' := HB0Q.out.trans (hb'.mono hga); have hbk' := HBK.out.mono hB5; have x5 : w5'.cell? ⟨w.heap.size, 10, none⟩ = some (.slice px NX cx) := (hbk'.cell 10).trans rfl; have f5 := hbk'.frozen 10)
  have hsc : w.heap.size + 2 ≤ w5'.heap.size := Nat.le_trans HSZ.out hB5.size
  have hgS := gr_setCell1 (b := w.heap.size) (World.grownBy.refl w5' _) 10 (.slice a5 b5 e5)
  have HRow5 : RowKit.Hid ((w5'.setCell ⟨w.heap.size, 10, none⟩ (.slice a5 b5 e5)).ownsRow (w.heap.size + 2) 73 4 (.slice a5 b5 e5) p.seats.length (p.seats.flatMap placeC)) := Lib.hid (World.ownsRow.kept (own_lowR (by simpa using ho') (Nat.le_trans HSZ.out hga)) hgS (own_ne (own_lowR ho' (Nat.le_trans HSZ.out hga)) (by omega)))
  have HBK2 : RowKit.Hid (Blk (w5'.setCell ⟨w.heap.size, 10, none⟩ (.slice a5 b5 e5)) w.heap.size 29 [.string p.loc, .string p.off, .slice a1 b1 e1, .slice a2 b2 e2, .slice a3 b3 e3, .int .i64 p.tk, .int .i64 p.td, .int .i64 p.tm, .string p.recv, .slice a4 b4 e4, .slice a5 b5 e5, .bool p.queued]) := Lib.hid (hbk'.set 10 _)
  have HRE2 := Lib.hid ((HRE.out.mono hB5).far hgS (fun e => by injection e with e; omega))
  have HBB2 : RowKit.Hid (Below w.heap.size w (w5'.setCell ⟨w.heap.size, 10, none⟩ (.slice a5 b5 e5))) := Lib.hid ((below_low HBB.out HBB.out.size hB5).setCell (p := ⟨w.heap.size, 10, none⟩) (Nat.le_refl _) _)
  have HSZ2 : RowKit.Hid (w.heap.size + 2 ≤ (w5'.setCell ⟨w.heap.size, 10, none⟩ (.slice a5 b5 e5)).heap.size) := Lib.hid (Nat.le_trans hsc hgS.size)
  have HRow1 : RowKit.Hid ((w5'.setCell ⟨w.heap.size, 10, none⟩ (.slice a5 b5 e5)).ownsRow (w.heap.size + 2) 59 2 (.slice a1 b1 e1) p.names.length (p.names.flatMap nameC)) := Lib.hid (World.ownsRow.kept (own_mono HRow1.out hB5) hgS (own_ne (own_mono HRow1.out hB5) (by omega)))
  have HRow2 : RowKit.Hid ((w5'.setCell ⟨w.heap.size, 10, none⟩ (.slice a5 b5 e5)).ownsRow (w.heap.size + 2) 65 5 (.slice a2 b2 e2) p.segs.length (p.segs.flatMap segC)) := Lib.hid (World.ownsRow.kept (own_mono HRow2.out hB5) hgS (own_ne (own_mono HRow2.out hB5) (by omega)))
  have HRow3 : RowKit.Hid ((w5'.setCell ⟨w.heap.size, 10, none⟩ (.slice a5 b5 e5)).ownsRow (w.heap.size + 2) 9 1 (.slice a3 b3 e3) p.phones.length (p.phones.flatMap strE)) := Lib.hid (World.ownsRow.kept (own_mono HRow3.out hB5) hgS (own_ne (own_mono HRow3.out hB5) (by omega)))
  have HRow4 : RowKit.Hid ((w5'.setCell ⟨w.heap.size, 10, none⟩ (.slice a5 b5 e5)).ownsRow (w.heap.size + 2) 9 1 (.slice a4 b4 e4) p.remarks.length (p.remarks.flatMap strE)) := Lib.hid (World.ownsRow.kept (own_mono HRow4.out hB5) hgS (own_ne (own_mono HRow4.out hB5) (by omega)))
  have HW5 := HBB2
  clear ho' hg' hb' hbk' x5 f5 hB5 hsc hgS hmade HLQ HBKQ HB0Q hga hgq hm1 hm2 HL5 HBK HRE HBB HSZ hi0 hz0 hsz0 hby0 i0
  have HBK := HBK2
  have HRE := HRE2
  have HBB := HBB2
  have HSZ := HSZ2
  clear HBK2 HRE2 HBB2 HSZ2 HW5
  generalize w5'.setCell ⟨w.heap.size, 10, none⟩ (.slice a5 b5 e5) = w5 at *
  have hrg := HBK.out.range
  have hrs := HRE.out
  go_wp2_with (first
    | (refine wpList_load_mid rfl 29 (.tmp 1) rfl w.heap.size 0 rfl _ _ hrg Tryz.underlying29 rfl info_pnr ?_)
    | (refine wpList_store_blk rfl 29 (.tmp 2) (.tmp 48) rfl (w.heap.size + 1) 29 [.string ⟨#[]⟩, .string ⟨#[]⟩, .slice none 0 0, .slice none 0 0, .slice none 0 0, .int .i64 0, .int .i64 0, .int .i64 0, .string ⟨#[]⟩, .slice none 0 0, .slice none 0 0, .bool false] [.string p.loc, .string p.off, .slice a1 b1 e1, .slice a2 b2 e2, .slice a3 b3 e3, .int .i64 p.tk, .int .i64 p.td, .int .i64 p.tm, .string p.recv, .slice a4 b4 e4, .slice a5 b5 e5, .bool p.queued] rfl rfl hrs rfl info_pnr (pnrC_one (x := p)) ?_; intro w8 ha8 hb8 hgr8))
  refine bodyPost_ret (results_row1Z rfl _ _ (w.heap.size + 1) 29 [.string p.loc, .string p.off, .slice a1 b1 e1, .slice a2 b2 e2, .slice a3 b3 e3, .int .i64 p.tk, .int .i64 p.td, .int .i64 p.tm, .string p.recv, .slice a4 b4 e4, .slice a5 b5 e5, .bool p.queued] _ rfl ha8 Tryz.underlying29 rfl info_pnr) rfl ?_
  have hfew : p.names.length ≤ 1000 ∧ p.segs.length ≤ 1000 ∧ p.phones.length ≤ 1000 ∧ p.remarks.length ≤ 1000 ∧ p.seats.length ≤ 1000 := HP.out.few
  refine ⟨⟨_, _, _, _, _, rfl, ⟨HasE.own (own_far HRow1.out hgr8 (by omega)), HasE.own (own_far HRow2.out hgr8 (by omega)), (own_texts (own_far HRow3.out hgr8 (by omega))).has, (own_texts (own_far HRow4.out hgr8 (by omega))).has, HasE.own (own_far HRow5.out hgr8 (by omega)), HP.out.fit, HP.out.wf, hfew⟩⟩, bel_grZ HBB.out hgr8 (Nat.le_succ _) HBB.out.size⟩
end Go.Proofs.YtofomopmmopflaaGreatDoor
