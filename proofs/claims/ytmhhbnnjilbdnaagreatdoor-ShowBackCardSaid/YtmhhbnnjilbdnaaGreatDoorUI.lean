/- A line of a segment. Printed by tools/gen_ui.py. -/
import Derived.Test.YtmhhbnnjilbdnaaGreatDoorUE
import Derived.Test.YtmhhbnnjilbdnaaGreatDoorKL
namespace Go.Proofs.YtmhhbnnjilbdnaaGreatDoor.Sh
open Go.RowKit En Go.ChangeMaps
set_option linter.unusedSimpArgs false
set_option linter.unusedVariables false
set_option maxRecDepth 20000

section
variable {P : Program} {ops : Array Oper}
/-- A variable is made. -/
theorem ord_alloc {Q : Act → World → Prop} {o : Oper} {rest : List (Oper × Bool)} {a : Act} {w0 : World} (hgd : o.guard = none) {T : TypeId} (cs : List Value)
    (hr : ∀ w, (execOp a.eval o).run P w = .ok (.value (.pointer (some ⟨w.heap.size, 0, none⟩))) (w.alloc (.cells cs.toArray T)))
    (h : ∀ w, Cone w0 w → wpOrd P ops Q rest (a.put o.dst (.pointer (some ⟨w.heap.size, 0, none⟩))) (w.alloc (.cells cs.toArray T))) : wpOrd P ops Q ((o, true) :: rest) a w0 := by
  unfold wpOrd
  exact ⟨by simp [Region.wanted, hgd], fun w hw => ⟨_, _, hr w, .of ((Below.refl _ _).alloc (Nat.le_refl _) _), h w hw⟩⟩
end

theorem info_key : (Tryz.prog.info? 40).map (·.size) = some 2 := by kernel_rfl
theorem str_int_one (a : ByteArray) (b : Int) : ∀ v ∈ ([.string a, .int .i64 b] : List Value), v.oneCell' = true := by
  intro v hv
  simp at hv
  rcases hv with rfl | rfl <;> rfl
theorem HiAgr.far {B g : Nat} {w3 W W' : World} (h : HiAgr B w3 W) (hg : W.grownBy W' (some g)) (hgS : w3.heap.size ≤ g) : HiAgr B w3 W' := fun a u ha hc => hg.cell (h a u ha hc) (fun e => by
  injection e with e
  have := World.block_lt_of_cell? w3 a hc
  omega)
/-- The boxes, and one more that came behind the words. -/
structure Sg (w w3 W : World) (B : Nat) (cs : List Value) (T : TypeId) (g : Nat) (sc : List Value) : Prop where
  s : St w w3 W B cs
  b : Blk W g T sc
  lo : w3.heap.size ≤ g
  le : B ≤ w3.heap.size
  l2 : w.heap.size + 2 ≤ B
theorem Sg.bel {w w3 W W' : World} {B g : Nat} {T : TypeId} {cs sc : List Value} (h : Sg w w3 W B cs T g sc) (hb : Below W.heap.size W W') : Sg w w3 W' B cs T g sc := ⟨h.s.bel hb, h.b.mono hb, h.lo, h.le, h.l2⟩
theorem Sg.wr {w w3 W W' : World} {B g : Nat} {T : TypeId} {cs sc sc' : List Value} (h : Sg w w3 W B cs T g sc) (hb : Blk W' g T sc') (hg : W.grownBy W' (some g)) : Sg w w3 W' B cs T g sc' := by
  have hlt := h.s.lt
  have h1 := h.lo
  have h2 := h.le
  have h3 := h.l2
  exact ⟨⟨h.s.k.far hg (fun e => by injection e with e; omega), h.s.t.far hg (fun e => by injection e with e; omega), h.s.a.far hg h1, h.s.b.grown hg h.s.b.size (fun k hk => by injection hk with hk; omega), hlt⟩, hb, h1, h2, h3⟩

set_option maxHeartbeats 16000000 in
theorem line_seg (B : Nat) (p : PnrT) (vn vs vp vr vx : Value) (i : Nat) (x : SegT) (hx : segOk x) (hi : i < 9) (hfew : p.segs.length + 1 ≤ 1000) (w : World) (h : RdP w B p vn vs vp vr vx) (hB : B ≤ w.heap.size) :
    Calls Tryz.prog 34 #[.agg (pnrC p vn vs vp vr vx).toArray, .string (mkB (segLn i x))] w fun e w' => LineE B { p with segs := p.segs ++ [x] } e w' ∧ Below B w w' := by
  obtain ⟨w2, e2, b0, b1, hb2, hz2⟩ := boxes2 w (pnrC p vn vs vp vr vx)
  have hLN : (mkB (segLn i x)).size ≤ 1000 := by
    rw [mkB_size]
    exact Nat.le_trans (seg_ok (by omega) hx).le (by decide)
  have HWD : RowKit.Hid (∀ W, Calls Tryz.prog 33 #[.string (mkB (segLn i x))] W fun e w' => (∃ g c, e = .returned (.slice (some ⟨g, 0, none⟩) 5 c) ∧ ∀ W', HiAgr W.heap.size w' W' → W'.cell? ⟨g, 0, none⟩ = some (.string (mkB (83 :: itoaL ((i : Int) + 1)))) ∧ W'.cell? ⟨g, 1, none⟩ = some (.string (mkB (toL x.car ++ itoaL x.num))) ∧ W'.cell? ⟨g, 2, none⟩ = some (.string (mkB [x.cls])) ∧ W'.cell? ⟨g, 3, none⟩ = some (.string (mkB (dTx x.day))) ∧ W'.cell? ⟨g, 4, none⟩ = some (.string (mkB (stL x.live)))) ∧ Below W.heap.size W w') := Lib.hid fun W =>
    (words_at (ws := [(83 :: itoaL ((i : Int) + 1)), (toL x.car ++ itoaL x.num), [x.cls], (dTx x.day), (stL x.live)]) (n := 5) (by simp) rfl ((congrArg wordsL (toL_mkB _)).trans (seg_words hx)) hLN W).mono fun e w' ⟨⟨g, c, h1, h2⟩, h3⟩ => ⟨⟨g, c, h1, fun W' hW => ⟨h2 W' hW 0 _ rfl, h2 W' hW 1 _ rfl, h2 W' hW 2 _ rfl, h2 W' hW 3 _ rfl, h2 W' hW 4 _ rfl⟩⟩, h3⟩
  have hgl : ∀ h0 : 0 < (mkB (segLn i x)).size, (mkB (segLn i x))[0] = 83 := fun h0 => mkB_at h0
  have hl3 := itoa_le4 (n := (i : Int) + 1) (by omega) (by omega)
  have hln := itoa_le4 (n := x.num) (by have := hx.2.1; omega) (by have := hx.2.1; omega)
  have hlc := (car_len hx.1).1
  have hs1 : 2 ≤ (mkB (segLn i x)).size ∧ (mkB (segLn i x)).size ≤ 1000 ∧ (mkB (83 :: itoaL ((i : Int) + 1))).size < (mkB (segLn i x)).size ∧ 1 ≤ (mkB (83 :: itoaL ((i : Int) + 1))).size := by
    refine ⟨?_, hLN, ?_, ?_⟩ <;> (simp only [mkB_size]; try unfold segLn); (try simp only [List.length_cons, List.length_append]); (try omega)
    · simp only [List.length_cons, List.length_append]; omega
    · simp only [List.length_cons, List.length_append]; omega
  have hq0 : ((mkB (stL x.live)).toList == [72, 75]) = x.live := by
    rw [ByteArray.toList_eq, mkB_data]
    unfold stL
    cases x.live <;> decide
  have hgl2 : ∀ h0 : 0 < (mkB [x.cls]).size, (mkB [x.cls])[0] = x.cls := fun h0 => mkB_at h0
  have hz2a : 0 < (mkB [x.cls]).size := by rw [mkB_size]; simp
  have hz1a : 2 ≤ (mkB (toL x.car ++ itoaL x.num)).size := by rw [mkB_size, List.length_append]; omega
  have HCR : RowKit.Hid ((mkB (toL x.car ++ itoaL x.num)).extract 0 2 = x.car) := Lib.hid (toL_inj (cut_left _ _ hlc))
  have HNU : RowKit.Hid (∀ W, Calls Tryz.prog 57 #[.string ((mkB (toL x.car ++ itoaL x.num)).extract 2 (mkB (toL x.car ++ itoaL x.num)).size)] W fun e w' => e = .returned (.int .i64 x.num) ∧ W = w') := Lib.hid fun W => by
    have e := cut_right (toL x.car) (itoaL x.num) hlc
    have k := number_any ((mkB (toL x.car ++ itoaL x.num)).extract 2 (mkB (toL x.car ++ itoaL x.num)).size) W (by rw [← toL_size, e]; omega)
    rw [e, numL_itoa (by have := hx.2.1; omega) (by have := hx.2.1; omega)] at k
    exact k
  have HDY : RowKit.Hid (∀ W, Calls Tryz.prog 58 #[.string (mkB (dTx x.day))] W fun e w' => e = .returned (.tuple #[.int .i64 x.day, .bool true]) ∧ Below W.heap.size W w') := Lib.hid fun W => read_day hx.2.2.1 (toL_mkB _) W
  have HSX : RowKit.Hid (segC x = [.string x.car, .int .i64 x.num, .int .i64 x.day, .int .u8 x.cls.toNat, .bool x.live]) := Lib.hid rfl
  generalize mkB (83 :: itoaL ((i : Int) + 1)) = a0 at *
  generalize mkB (toL x.car ++ itoaL x.num) = a1 at *
  generalize mkB [x.cls] = a2 at *
  generalize mkB (dTx x.day) = a3 at *
  generalize mkB (stL x.live) = a4 at *
  generalize mkB (segLn i x) = s at *
  obtain ⟨hs2, hs3, hs4, hs5⟩ := hs1
  have hh0 : 0 < s.size := by omega
  have hgl0 := hgl hh0
  have hi2 : ¬ (s.size : Int) < 2 := by omega
  have hi3 : (a0.size : Int) < (s.size : Int) := by omega
  have hi4 : ¬ (a0.size : Int) < 1 := by omega
  have hi5 : (a0.size : Int) + 1 ≤ (s.size : Int) := by omega
  have hi6 : (s.size : Int) ≤ 1000 := by omega
  have H0 := Lib.hid b0
  have H1 := Lib.hid b1
  have HB2 := Lib.hid hb2
  have HRD := Lib.hid h
  have HBB := Lib.hid hB
  have HZ2 : RowKit.Hid (w.heap.size < w2.heap.size) := Lib.hid (by omega)
  have HZ3 : RowKit.Hid (w.heap.size + 2 ≤ w2.heap.size) := Lib.hid (by omega)
  have hz2b : (0 : Int) < (a2.size : Int) := by omega
  have hgl3 := hgl2 hz2a
  have hz1b : (2 : Int) ≤ (a1.size : Int) := by omega
  have HFEW := Lib.hid hfew
  have HOW := Lib.hid h.s
  have HOL := Lib.hid (own_lt (g := w.heap.size) h.s (Nat.le_refl _))
  have HOL1 := Lib.hid (own_lt (g := w.heap.size + 1) h.s (Nat.le_succ _))
  have hm1 : p.segs.length + 1 ≤ maxLen := by unfold maxLen; omega
  have hm2 : (p.segs.length + 1) * 40 ≤ 140737488355328 := by omega
  have HM := Lib.hid (And.intro hm1 hm2)
  obtain ⟨i0, hi0, hz0, hsz0, hby0⟩ := seg_tinfo
  generalize hcar : x.car = car at *
  generalize hnum : x.num = num at *
  generalize hday : x.day = day at *
  generalize hcls : x.cls = cls at *
  generalize hlv : x.live = live at *
  have HXX : RowKit.Hid (x = ⟨car, num, day, cls, live⟩) := Lib.hid (by rw [← hcar, ← hnum, ← hday, ← hcls, ← hlv])
  clear hcar hnum hday hcls hlv hl3 hln hlc hx hi hfew hm1 hm2 hgl2 hz1a
  obtain ⟨pn, nn, cn, rfl⟩ := own_slice h.n
  obtain ⟨ps, ns, cs, rfl⟩ := own_slice h.s
  obtain ⟨pp, np, cp, rfl⟩ := own_slice h.ph
  obtain ⟨pr, nr, cr, rfl⟩ := own_slice h.rm
  obtain ⟨px, nx, cx, rfl⟩ := own_slice h.x
  obtain ⟨loc, off, names, segs, phones, tk, td, tm, recv, remarks, seats, queued⟩ := p
  unfold pnrC at H0 e2 ⊢
  have H1' := H1
  unfold zeroC at H1' e2
  simp only at H0 e2 HOW HM ⊢
  simp only [List.toArray] at e2
  clear b0 b1 hb2 h hB hgl hs2 hs3 hs4 hs5 hz2 H1' hLN
  go_enter Tryz.func34, Tryz.ntmps34
  go_upto_region 1 with fail
  try rw [e2]
  clear e2
  go_upto_region 15 with (first
    | (go_at_call 33; (with_reducible refine (HWD.out _).mono ?_); rintro e w3 ⟨⟨gw, cw, rfl, hcw⟩, hb3⟩; obtain ⟨c0, c1, c2, c3, c4⟩ := hcw w3 (HiAgr.bel (Below.refl _ _)); have s3 : St w w3 w3 w2.heap.size _ := ⟨H0.out.mono hb3, H1.out.mono hb3, HiAgr.bel (Below.refl _ _), bel_trans HB2.out hb3, HZ2.out⟩; have HLE := Lib.hid hb3.size))
  have S3 := Lib.hid s3
  have k2 := cell_regrown c2
  have k4 := cell_regrown c4
  clear s3 hb3
  refine wp_region_cone 10 [(0, false), (1, false), (2, false), (3, false), (4, false), (5, false), (6, false), (7, false), (8, false), (9, true)] (by kernel_rfl) (by kernel_rfl) ?_
  simp only [ordO, List.map_cons, List.map_nil, List.getD_cons_zero, List.getD_cons_succ, List.drop_succ_cons, List.drop_zero]
  repeat (
    refine ord_quiet (fun K hK => ?_)
    go_simp
    first
      | (refine hK _ ?_; clear hK K)
      | (refine ⟨_, fun _ => up_val, hK _ ?_⟩; clear hK K))
  refine ord_alloc (by rfl) (T := 44) [.string ⟨#[]⟩, .int .i64 0, .int .i64 0, .int .u8 0, .bool false] ?_ ?_
  · intro w
    go_simp
  intro wa hwa
  unfold wpOrd
  intro wq hwq
  have hbq : Below w3.heap.size w3 wq := bel_trans (hwa.bel.alloc hwa.bel.size (.cells #[.string ⟨#[]⟩, .int .i64 0, .int .i64 0, .int .u8 0, .bool false] 44)) hwq.bel
  have hkq : Blk wq wa.heap.size 44 [.string ⟨#[]⟩, .int .i64 0, .int .i64 0, .int .u8 0, .bool false] := (Blk.new wa 44 [.string ⟨#[]⟩, .int .i64 0, .int .i64 0, .int .u8 0, .bool false]).mono hwq.bel
  have S4 : RowKit.Hid (Sg w w3 wq w2.heap.size _ 44 wa.heap.size _) := Lib.hid ⟨S3.out.bel hbq, hkq, hwa.bel.size, HLE.out, HZ3.out⟩
  generalize wa.heap.size = gs at *
  clear k2 k4 hwa hwq hbq c0 c1 c2 c3 c4
  go_upto_region 16 with (first
    | (refine wpList_store_blk rfl 44 (.tmp 8) (.tmp 81) rfl gs 44 _ [.string ⟨#[]⟩, .int .i64 0, .int .i64 0, .int .u8 cls.toNat, .bool live] rfl rfl hkq rfl info_seg (segC_one (⟨⟨#[]⟩, 0, 0, cls, live⟩ : SegT)) ?_; intro w5 hb5 hl5 hg5))
  have S5 := Lib.hid (S4.out.wr hb5 hg5)
  obtain ⟨c0, c1, c2, c3, c4⟩ := hcw _ S5.out.s.a
  have k1 := cell_regrown c1
  clear hkq hb5 hl5 hg5 S4
  have cN : ∀ d os, Calls Tryz.prog 57 #[.string (a1.extract 2 a1.size)] (Go.Sort.grow (redrawn w5 d) os) fun e w'' => e = .returned (.int .i64 num) ∧ Below (Go.Sort.grow (redrawn w5 d) os).heap.size (Go.Sort.grow (redrawn w5 d) os) w'' := fun d os => (HNU.out _).mono fun e w'' ⟨h1, h2⟩ => ⟨h1, by rw [← h2]; exact Below.refl _ _⟩
  refine wp_region_cone 12 [(0, false), (1, false), (2, false), (3, false), (4, false), (5, false), (6, false), (7, false), (8, false), (9, false), (10, false), (11, false)] (by kernel_rfl) (by kernel_rfl) ?_
  simp only [ordO, List.map_cons, List.map_nil, List.getD_cons_zero, List.getD_cons_succ, List.drop_succ_cons, List.drop_zero]
  repeat (
    refine ord_quiet (fun K hK => ?_)
    go_simp
    first
      | (refine hK _ ?_; clear hK K)
      | (refine ⟨_, fun _ => up_val, hK _ ?_⟩; clear hK K)
      | (apply Exists.intro; refine ⟨fun _ => ?_, hK _ ?_⟩; (first | (with_reducible exact up_call (cN _ _))); clear hK K))
  unfold wpOrd
  intro wp hwp
  have s6 := S5.out.bel hwp.bel
  have hb6 := s6.b
  clear k1 cN hwp c0 c1 c2 c3 c4
  go_upto_region 17 with (first
    | (refine wpList_store_part rfl 40 (.tmp 93) (.tmp 91) rfl gs 0 44 _ [.string (a1.extract 0 2), .int .i64 num] rfl rfl hb6 (by simp) info_key (str_int_one _ _) ?_; intro w7 hb7 hl7 hg7))
  have S7 : RowKit.Hid (Sg w w3 w7 w2.heap.size _ 44 gs [.string (a1.extract 0 2), .int .i64 num, .int .i64 0, .int .u8 cls.toNat, .bool live]) := Lib.hid (s6.wr hb7 hg7)
  obtain ⟨c0, c1, c2, c3, c4⟩ := hcw _ S7.out.s.a
  clear s6 hb6 hb7 hl7 hg7 S5
  go_upto_region 18 with (first
    | (go_at_call 58; (with_reducible refine (HDY.out _).mono ?_); rintro e w8 ⟨rfl, hb8⟩; have s8 := S7.out.bel hb8; have y2 : w8.cell? ⟨gs, 2, none⟩ = some (.int .i64 0) := (s8.b.cell 2).trans rfl; have g2 := s8.b.frozen 2))
  have S9 : RowKit.Hid (Sg w w3 (w8.setCell ⟨gs, 2, none⟩ (.int .i64 day)) w2.heap.size _ 44 gs [.string (a1.extract 0 2), .int .i64 num, .int .i64 day, .int .u8 cls.toNat, .bool live]) := Lib.hid (s8.wr (s8.b.set 2 (.int .i64 day)) (gr_setCell1 (World.grownBy.refl _ _) 2 _))
  generalize w8.setCell ⟨gs, 2, none⟩ (.int .i64 day) = w9 at *
  clear s8 hb8 y2 g2 S7 c0 c1 c2 c3 c4 hcw HNU HDY
  rw [HCR.out] at S9
  have s9 := S9.out
  have hrg := s9.b.range
  have x4 : w9.cell? ⟨w.heap.size, 3, none⟩ = some (.slice ps ns cs) := (s9.s.k.cell 3).trans rfl
  have hown : w9.ownsRow B 44 5 (.slice ps ns cs) segs.length (segs.flatMap segC) := own_mono HOW.out s9.s.b
  have hBw := Nat.le_trans HBB.out s9.s.b.size
  have hmm := HM.out
  have HRW := Lib.hid (RdP.mono HRD.out s9.s.b)
  clear s9
  go_upto_region 37 with (first
    | (refine wpList_load_mid rfl 44 (.tmp 8) rfl gs 0 rfl [.string car, .int .i64 num, .int .i64 day, .int .u8 cls.toNat, .bool live] _ hrg Tryz.underlying44 rfl info_seg ?_)
    | (at_builtin; refine wpList_pushC rfl _ _ 23 rfl B 44 i0 _ 5 40 Tryz.underlying23 hi0 hz0 hsz0 hby0 rfl (by decide) (.slice ps ns cs) _ _ rfl hown (segC ⟨car, num, day, cls, live⟩) rfl rfl (segC_one _) hmm.1 hmm.2 hBw ?_; intro v4 w4 hown4 hb4 hgr4; obtain ⟨q4, m4, e4, rfl⟩ := own_slice hown4; have hk4 := (S9.out.s.k.alloc (.cells (segC ⟨car, num, day, cls, live⟩).toArray 44)).far hgr4 (fun e => by rcases HOL.out with k | k; (rw [k] at e; cases e); exact k e.symm); have y4 : w4.cell? ⟨w.heap.size, 3, none⟩ = some (.slice ps ns cs) := (hk4.cell 3).trans rfl; have f4 := hk4.frozen 3))
  have hT4 := (S9.out.s.t.alloc (.cells (segC ⟨car, num, day, cls, live⟩).toArray 44)).far hgr4 (fun e => by rcases HOL1.out with k | k; (rw [k] at e; cases e); exact k e.symm)
  have HRD4 := Lib.hid (RdP.segs (S := ⟨car, num, day, cls, live⟩) (HRW.out.mono ((Below.refl _ _).alloc (Nat.le_refl _) (.cells (segC ⟨car, num, day, cls, live⟩).toArray 44))) hgr4 hown4 HFEW.out)
  have HB4 : RowKit.Hid (Below B w w4) := Lib.hid ((below_le S9.out.s.b HBB.out).trans hb4)
  have HK4 := Lib.hid hk4
  have HT4 := Lib.hid hT4
  have hgS := gr_setCell1 (b := w.heap.size) (World.grownBy.refl w4 _) 3 (.slice q4 m4 e4)
  have hS := hk4.set 3 (.slice q4 m4 e4)
  have hrS := hS.range
  have hT := hT4.far hgS (fun e => by injection e with e; omega)
  have HN1 := Lib.hid (pnrC_one (x := ⟨loc, off, names, segs, phones, tk, td, tm, recv, remarks, seats, queued⟩) (p1 := pn) (n1 := nn) (c1 := cn) (p2 := q4) (n2 := m4) (c2 := e4) (p3 := pp) (n3 := np) (c3 := cp) (p4 := pr) (n4 := nr) (c4 := cr) (p5 := px) (n5 := nx) (c5 := cx))
  clear hS hgS hk4 hT4 y4 f4 hown hown4 hb4 hgr4 x4 hmm hBw hrg
  go_wp2_with (first
    | (refine wpList_load_mid rfl 29 (.tmp 2) rfl w.heap.size 0 rfl _ _ hrS Tryz.underlying29 rfl info_pnr ?_)
    | (refine wpList_store_blk rfl 29 (.tmp 4) (.tmp 194) rfl (w.heap.size + 1) 29 _ [.string loc, .string off, .slice pn nn cn, .slice q4 m4 e4, .slice pp np cp, .int .i64 tk, .int .i64 td, .int .i64 tm, .string recv, .slice pr nr cr, .slice px nx cx, .bool queued] rfl rfl hT rfl info_pnr HN1.out ?_; intro wz hbz hlz hgz))
  obtain ⟨k1, k2⟩ := rd_fin2 HRD4.out HB4.out HBB.out HK4.out HT4.out hgz
  rw [HXX.out]
  exact line_back rfl rfl rfl rfl hbz rfl k2 ⟨_, _, _, _, _, rfl, k1⟩
end Go.Proofs.YtmhhbnnjilbdnaaGreatDoor.Sh
