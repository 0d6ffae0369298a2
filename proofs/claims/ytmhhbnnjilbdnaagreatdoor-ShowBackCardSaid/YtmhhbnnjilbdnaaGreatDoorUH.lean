/- A line of a ticketing field. Printed by tools/gen_uh.py. -/
import Derived.Test.YtmhhbnnjilbdnaaGreatDoorUE
namespace Go.Proofs.YtmhhbnnjilbdnaaGreatDoor.Sh
open Go.RowKit En Go.ChangeMaps
set_option linter.unusedSimpArgs false
set_option linter.unusedVariables false
set_option maxRecDepth 20000

set_option maxHeartbeats 16000000 in
theorem line_none (B : Nat) (p : PnrT) (vn vs vp vr vx : Value)  (w : World) (h : RdP w B p vn vs vp vr vx) (hB : B ≤ w.heap.size) :
    Calls Tryz.prog 34 #[.agg (pnrC p vn vs vp vr vx).toArray, .string (mkB ([84, 32] ++ [78, 79, 78, 69]))] w fun e w' => LineE B p e w' ∧ Below B w w' := by
  obtain ⟨w2, e2, b0, b1, hb2, hz2⟩ := boxes2 w (pnrC p vn vs vp vr vx)
  have hLN : (mkB ([84, 32] ++ [78, 79, 78, 69])).size ≤ 1000 := by
    decide
  have HWD : RowKit.Hid (∀ W, Calls Tryz.prog 33 #[.string (mkB ([84, 32] ++ [78, 79, 78, 69]))] W fun e w' => (∃ g c, e = .returned (.slice (some ⟨g, 0, none⟩) 2 c) ∧ ∀ W', HiAgr W.heap.size w' W' → W'.cell? ⟨g, 0, none⟩ = some (.string (mkB [84])) ∧ W'.cell? ⟨g, 1, none⟩ = some (.string (mkB [78, 79, 78, 69]))) ∧ Below W.heap.size W w') := Lib.hid fun W =>
    (words_at (ws := [[84], [78, 79, 78, 69]]) (n := 2) (by simp) rfl ((congrArg wordsL (toL_mkB _)).trans (by decide)) hLN W).mono fun e w' ⟨⟨g, c, h1, h2⟩, h3⟩ => ⟨⟨g, c, h1, fun W' hW => ⟨h2 W' hW 0 _ rfl, h2 W' hW 1 _ rfl⟩⟩, h3⟩
  have hgl : ∀ h0 : 0 < (mkB ([84, 32] ++ [78, 79, 78, 69])).size, (mkB ([84, 32] ++ [78, 79, 78, 69]))[0] = 84 := fun h0 => mkB_at h0
  have hs1 : 2 ≤ (mkB ([84, 32] ++ [78, 79, 78, 69])).size ∧ (mkB ([84, 32] ++ [78, 79, 78, 69])).size ≤ 1000 ∧ (mkB [84]).size < (mkB ([84, 32] ++ [78, 79, 78, 69])).size ∧ 1 ≤ (mkB [84]).size := by decide
  have hq0 : ((mkB [78, 79, 78, 69]).toList == [68, 79, 78, 69]) = false := by rw [ByteArray.toList_eq]; decide
  have hq1 : ((mkB [78, 79, 78, 69]).toList == [76, 73, 77, 73, 84]) = false := by rw [ByteArray.toList_eq]; decide
  generalize mkB [84] = a0 at *
  generalize mkB [78, 79, 78, 69] = a1 at *
  generalize mkB ([84, 32] ++ [78, 79, 78, 69]) = s at *
  obtain ⟨hs2, hs3, hs4, hs5⟩ := hs1
  have hh0 : 0 < s.size := by omega
  have hgl0 := hgl hh0
  have hi2 : ¬ (s.size : Int) < 2 := by omega
  have hi3 : (a0.size : Int) < (s.size : Int) := by omega
  have hi4 : ¬ (a0.size : Int) < 1 := by omega
  have hi5 : (a0.size : Int) + 1 ≤ (s.size : Int) := by omega
  have hi6 : (s.size : Int) ≤ 1000 := by omega
  have H0 := Lib.hid b0
  have H1 := Lib.hid b1
  have HB2 := Lib.hid hb2
  have HRD := Lib.hid h
  have HBB := Lib.hid hB
  have HZ2 : RowKit.Hid (w.heap.size < w2.heap.size) := Lib.hid (by omega)
  obtain ⟨pn, nn, cn, rfl⟩ := own_slice h.n
  obtain ⟨ps, ns, cs, rfl⟩ := own_slice h.s
  obtain ⟨pp, np, cp, rfl⟩ := own_slice h.ph
  obtain ⟨pr, nr, cr, rfl⟩ := own_slice h.rm
  obtain ⟨px, nx, cx, rfl⟩ := own_slice h.x
  obtain ⟨loc, off, names, segs, phones, tk, td, tm, recv, remarks, seats, queued⟩ := p
  unfold pnrC at H0 e2 ⊢
  have H1' := H1
  unfold zeroC at H1' e2
  simp only at H0 e2 ⊢
  simp only [List.toArray] at e2
  clear b0 b1 hb2 h hB hgl hs2 hs3 hs4 hs5 hz2 H1' hLN
  go_enter Tryz.func34, Tryz.ntmps34
  go_upto_region 1 with fail
  try rw [e2]
  clear e2
  go_upto_region 37 with (first
    | (go_at_call 33; (with_reducible refine (HWD.out _).mono ?_); rintro e w3 ⟨⟨gw, cw, rfl, hcw⟩, hb3⟩; obtain ⟨c0, c1⟩ := hcw w3 (HiAgr.bel (Below.refl _ _)); have s3 : St w w3 w3 w2.heap.size _ := ⟨H0.out.mono hb3, H1.out.mono hb3, HiAgr.bel (Below.refl _ _), bel_trans HB2.out hb3, HZ2.out⟩))
  have S9 := Lib.hid s3
  clear s3 c0 c1 hcw
  have HN1 := Lib.hid (pnrC_one (x := ⟨loc, off, names, segs, phones, tk, td, tm, recv, remarks, seats, queued⟩) (p1 := pn) (n1 := nn) (c1 := cn) (p2 := ps) (n2 := ns) (c2 := cs) (p3 := pp) (n3 := np) (c3 := cp) (p4 := pr) (n4 := nr) (c4 := cr) (p5 := px) (n5 := nx) (c5 := cx))
  have hrS := S9.out.k.range
  have hT := S9.out.t
  go_wp2_with (first
    | (refine wpList_load_mid rfl 29 (.tmp 2) rfl w.heap.size 0 rfl _ _ hrS Tryz.underlying29 rfl info_pnr ?_)
    | (refine wpList_store_blk rfl 29 (.tmp 4) (.tmp 194) rfl (w.heap.size + 1) 29 _ [.string loc, .string off, .slice pn nn cn, .slice ps ns cs, .slice pp np cp, .int .i64 tk, .int .i64 td, .int .i64 tm, .string recv, .slice pr nr cr, .slice px nx cx, .bool queued] rfl rfl hT rfl info_pnr HN1.out ?_; intro wz hbz hlz hgz))
  obtain ⟨k1, k2⟩ := rd_fin HRD.out S9.out.b hgz HBB.out
  exact line_back rfl rfl rfl rfl hbz rfl k2 ⟨_, _, _, _, _, rfl, ⟨k1.n, k1.s, k1.ph, k1.rm, k1.x, k1.d, k1.few⟩⟩

set_option maxHeartbeats 16000000 in
theorem line_done (B : Nat) (p : PnrT) (vn vs vp vr vx : Value)  (w : World) (h : RdP w B p vn vs vp vr vx) (hB : B ≤ w.heap.size) :
    Calls Tryz.prog 34 #[.agg (pnrC p vn vs vp vr vx).toArray, .string (mkB ([84, 32] ++ [68, 79, 78, 69]))] w fun e w' => LineE B { p with tk := 2 } e w' ∧ Below B w w' := by
  obtain ⟨w2, e2, b0, b1, hb2, hz2⟩ := boxes2 w (pnrC p vn vs vp vr vx)
  have hLN : (mkB ([84, 32] ++ [68, 79, 78, 69])).size ≤ 1000 := by
    decide
  have HWD : RowKit.Hid (∀ W, Calls Tryz.prog 33 #[.string (mkB ([84, 32] ++ [68, 79, 78, 69]))] W fun e w' => (∃ g c, e = .returned (.slice (some ⟨g, 0, none⟩) 2 c) ∧ ∀ W', HiAgr W.heap.size w' W' → W'.cell? ⟨g, 0, none⟩ = some (.string (mkB [84])) ∧ W'.cell? ⟨g, 1, none⟩ = some (.string (mkB [68, 79, 78, 69]))) ∧ Below W.heap.size W w') := Lib.hid fun W =>
    (words_at (ws := [[84], [68, 79, 78, 69]]) (n := 2) (by simp) rfl ((congrArg wordsL (toL_mkB _)).trans (by decide)) hLN W).mono fun e w' ⟨⟨g, c, h1, h2⟩, h3⟩ => ⟨⟨g, c, h1, fun W' hW => ⟨h2 W' hW 0 _ rfl, h2 W' hW 1 _ rfl⟩⟩, h3⟩
  have hgl : ∀ h0 : 0 < (mkB ([84, 32] ++ [68, 79, 78, 69])).size, (mkB ([84, 32] ++ [68, 79, 78, 69]))[0] = 84 := fun h0 => mkB_at h0
  have hs1 : 2 ≤ (mkB ([84, 32] ++ [68, 79, 78, 69])).size ∧ (mkB ([84, 32] ++ [68, 79, 78, 69])).size ≤ 1000 ∧ (mkB [84]).size < (mkB ([84, 32] ++ [68, 79, 78, 69])).size ∧ 1 ≤ (mkB [84]).size := by decide
  have hq0 : ((mkB [68, 79, 78, 69]).toList == [68, 79, 78, 69]) = true := by rw [ByteArray.toList_eq]; decide
  have hq1 : ((mkB [68, 79, 78, 69]).toList == [76, 73, 77, 73, 84]) = false := by rw [ByteArray.toList_eq]; decide
  generalize mkB [84] = a0 at *
  generalize mkB [68, 79, 78, 69] = a1 at *
  generalize mkB ([84, 32] ++ [68, 79, 78, 69]) = s at *
  obtain ⟨hs2, hs3, hs4, hs5⟩ := hs1
  have hh0 : 0 < s.size := by omega
  have hgl0 := hgl hh0
  have hi2 : ¬ (s.size : Int) < 2 := by omega
  have hi3 : (a0.size : Int) < (s.size : Int) := by omega
  have hi4 : ¬ (a0.size : Int) < 1 := by omega
  have hi5 : (a0.size : Int) + 1 ≤ (s.size : Int) := by omega
  have hi6 : (s.size : Int) ≤ 1000 := by omega
  have H0 := Lib.hid b0
  have H1 := Lib.hid b1
  have HB2 := Lib.hid hb2
  have HRD := Lib.hid h
  have HBB := Lib.hid hB
  have HZ2 : RowKit.Hid (w.heap.size < w2.heap.size) := Lib.hid (by omega)
  obtain ⟨pn, nn, cn, rfl⟩ := own_slice h.n
  obtain ⟨ps, ns, cs, rfl⟩ := own_slice h.s
  obtain ⟨pp, np, cp, rfl⟩ := own_slice h.ph
  obtain ⟨pr, nr, cr, rfl⟩ := own_slice h.rm
  obtain ⟨px, nx, cx, rfl⟩ := own_slice h.x
  obtain ⟨loc, off, names, segs, phones, tk, td, tm, recv, remarks, seats, queued⟩ := p
  unfold pnrC at H0 e2 ⊢
  have H1' := H1
  unfold zeroC at H1' e2
  simp only at H0 e2 ⊢
  simp only [List.toArray] at e2
  clear b0 b1 hb2 h hB hgl hs2 hs3 hs4 hs5 hz2 H1' hLN
  go_enter Tryz.func34, Tryz.ntmps34
  go_upto_region 1 with fail
  try rw [e2]
  clear e2
  go_upto_region 28 with (first
    | (go_at_call 33; (with_reducible refine (HWD.out _).mono ?_); rintro e w3 ⟨⟨gw, cw, rfl, hcw⟩, hb3⟩; obtain ⟨c0, c1⟩ := hcw w3 (HiAgr.bel (Below.refl _ _)); have s3 : St w w3 w3 w2.heap.size _ := ⟨H0.out.mono hb3, H1.out.mono hb3, HiAgr.bel (Below.refl _ _), bel_trans HB2.out hb3, HZ2.out⟩; have x5 : w3.cell? ⟨w.heap.size, 5, none⟩ = some (.int .i64 tk) := (s3.k.cell 5).trans rfl; have f5 := s3.k.frozen 5))
  have S4 := Lib.hid (s3.set 5 (.int .i64 2))
  have c1' := (hcw _ S4.out.a).2
  generalize w3.setCell ⟨w.heap.size, 5, none⟩ (.int .i64 2) = w4 at *
  clear s3 x5 f5 c0 c1 hcw
  go_upto_region 37 with fail
  have S9 := S4
  have HN1 := Lib.hid (pnrC_one (x := ⟨loc, off, names, segs, phones, 2, td, tm, recv, remarks, seats, queued⟩) (p1 := pn) (n1 := nn) (c1 := cn) (p2 := ps) (n2 := ns) (c2 := cs) (p3 := pp) (n3 := np) (c3 := cp) (p4 := pr) (n4 := nr) (c4 := cr) (p5 := px) (n5 := nx) (c5 := cx))
  have hrS := S9.out.k.range
  have hT := S9.out.t
  go_wp2_with (first
    | (refine wpList_load_mid rfl 29 (.tmp 2) rfl w.heap.size 0 rfl _ _ hrS Tryz.underlying29 rfl info_pnr ?_)
    | (refine wpList_store_blk rfl 29 (.tmp 4) (.tmp 194) rfl (w.heap.size + 1) 29 _ [.string loc, .string off, .slice pn nn cn, .slice ps ns cs, .slice pp np cp, .int .i64 2, .int .i64 td, .int .i64 tm, .string recv, .slice pr nr cr, .slice px nx cx, .bool queued] rfl rfl hT rfl info_pnr HN1.out ?_; intro wz hbz hlz hgz))
  obtain ⟨k1, k2⟩ := rd_fin HRD.out S9.out.b hgz HBB.out
  exact line_back rfl rfl rfl rfl hbz rfl k2 ⟨_, _, _, _, _, rfl, ⟨k1.n, k1.s, k1.ph, k1.rm, k1.x, k1.d, k1.few⟩⟩

set_option maxHeartbeats 16000000 in
theorem line_limit (B : Nat) (p : PnrT) (vn vs vp vr vx : Value) (q : PnrT) (h1 : q.tk = 1) (h2 : 0 ≤ q.td ∧ q.td < 366) (h3 : 0 ≤ q.tm ∧ q.tm < 1440) (h4 : q.queued = false) (w : World) (h : RdP w B p vn vs vp vr vx) (hB : B ≤ w.heap.size) :
    Calls Tryz.prog 34 #[.agg (pnrC p vn vs vp vr vx).toArray, .string (mkB (tickLn q))] w fun e w' => LineE B { p with tk := 1, td := q.td, tm := q.tm, queued := false } e w' ∧ Below B w w' := by
  obtain ⟨w2, e2, b0, b1, hb2, hz2⟩ := boxes2 w (pnrC p vn vs vp vr vx)
  have hLN : (mkB (tickLn q)).size ≤ 1000 := by
    rw [mkB_size]
    exact Nat.le_trans (tick_ok (p := q) (.inl ⟨h1, h2, h3⟩)).le (by decide)
  have HWD : RowKit.Hid (∀ W, Calls Tryz.prog 33 #[.string (mkB (tickLn q))] W fun e w' => (∃ g c, e = .returned (.slice (some ⟨g, 0, none⟩) 3 c) ∧ ∀ W', HiAgr W.heap.size w' W' → W'.cell? ⟨g, 0, none⟩ = some (.string (mkB [84])) ∧ W'.cell? ⟨g, 1, none⟩ = some (.string (mkB [76, 73, 77, 73, 84])) ∧ W'.cell? ⟨g, 2, none⟩ = some (.string (mkB (dTx q.td ++ 47 :: cTx q.tm)))) ∧ Below W.heap.size W w') := Lib.hid fun W =>
    (words_at (ws := [[84], [76, 73, 77, 73, 84], (dTx q.td ++ 47 :: cTx q.tm)]) (n := 3) (by simp) rfl ((congrArg wordsL (toL_mkB _)).trans ((limit_words h1 h2 h3).trans (by rw [h4]; rfl))) hLN W).mono fun e w' ⟨⟨g, c, h1, h2⟩, h3⟩ => ⟨⟨g, c, h1, fun W' hW => ⟨h2 W' hW 0 _ rfl, h2 W' hW 1 _ rfl, h2 W' hW 2 _ rfl⟩⟩, h3⟩
  have hgl : ∀ h0 : 0 < (mkB (tickLn q)).size, (mkB (tickLn q))[0] = 84 := fun h0 => (mkB_at h0).trans (by obtain ⟨t, e⟩ := tick_head q; rw [e]; rfl)
  have hs1 : 2 ≤ (mkB (tickLn q)).size ∧ (mkB (tickLn q)).size ≤ 1000 ∧ (mkB [84]).size < (mkB (tickLn q)).size ∧ 1 ≤ (mkB [84]).size := by
    refine ⟨?_, hLN, ?_, by decide⟩ <;> (rw [mkB_size]; obtain ⟨t, e⟩ := tick_head q; rw [e]; simp [mkB_size])
  have hq0 : ((mkB [76, 73, 77, 73, 84]).toList == [68, 79, 78, 69]) = false := by rw [ByteArray.toList_eq]; decide
  have hq1 : ((mkB [76, 73, 77, 73, 84]).toList == [76, 73, 77, 73, 84]) = true := by rw [ByteArray.toList_eq]; decide
  have hld := day_len h2
  have hlc := clk_len h3
  have hi7 : 10 = (mkB (dTx q.td ++ 47 :: cTx q.tm)).size := by rw [mkB_size, List.length_append, List.length_cons, hld, hlc]
  have HDY : RowKit.Hid (∀ W, Calls Tryz.prog 58 #[.string ((mkB (dTx q.td ++ 47 :: cTx q.tm)).extract 0 5)] W fun e w' => e = .returned (.tuple #[.int .i64 q.td, .bool true]) ∧ Below W.heap.size W w') := Lib.hid fun W => read_day h2 (cut_left _ _ hld) W
  have HCK : RowKit.Hid (∀ W, Calls Tryz.prog 59 #[.string ((mkB (dTx q.td ++ 47 :: cTx q.tm)).extract 6 (mkB (dTx q.td ++ 47 :: cTx q.tm)).size)] W fun e w' => e = .returned (.tuple #[.int .i64 q.tm, .bool true]) ∧ Below W.heap.size W w') := Lib.hid fun W => read_clk h3 (by
    have := cut_right (dTx q.td ++ [47]) (cTx q.tm) (n := 6) (by rw [List.length_append, hld]; rfl)
    rwa [List.append_assoc] at this) W
  generalize mkB [84] = a0 at *
  generalize mkB [76, 73, 77, 73, 84] = a1 at *
  generalize mkB (dTx q.td ++ 47 :: cTx q.tm) = a2 at *
  generalize mkB (tickLn q) = s at *
  obtain ⟨hs2, hs3, hs4, hs5⟩ := hs1
  have hh0 : 0 < s.size := by omega
  have hgl0 := hgl hh0
  have hi2 : ¬ (s.size : Int) < 2 := by omega
  have hi3 : (a0.size : Int) < (s.size : Int) := by omega
  have hi4 : ¬ (a0.size : Int) < 1 := by omega
  have hi5 : (a0.size : Int) + 1 ≤ (s.size : Int) := by omega
  have hi6 : (s.size : Int) ≤ 1000 := by omega
  have H0 := Lib.hid b0
  have H1 := Lib.hid b1
  have HB2 := Lib.hid hb2
  have HRD := Lib.hid h
  have HBB := Lib.hid hB
  have HZ2 : RowKit.Hid (w.heap.size < w2.heap.size) := Lib.hid (by omega)
  have hi8 : (5 : Int) ≤ (a2.size : Int) ∧ (6 : Int) ≤ (a2.size : Int) := by omega
  obtain ⟨hi8, hi9⟩ := hi8
  clear hi7 hld hlc
  obtain ⟨pn, nn, cn, rfl⟩ := own_slice h.n
  obtain ⟨ps, ns, cs, rfl⟩ := own_slice h.s
  obtain ⟨pp, np, cp, rfl⟩ := own_slice h.ph
  obtain ⟨pr, nr, cr, rfl⟩ := own_slice h.rm
  obtain ⟨px, nx, cx, rfl⟩ := own_slice h.x
  obtain ⟨loc, off, names, segs, phones, tk, td, tm, recv, remarks, seats, queued⟩ := p
  unfold pnrC at H0 e2 ⊢
  have H1' := H1
  unfold zeroC at H1' e2
  simp only at H0 e2 ⊢
  simp only [List.toArray] at e2
  clear b0 b1 hb2 h hB hgl hs2 hs3 hs4 hs5 hz2 H1' hLN
  generalize q.td = qd at *
  generalize q.tm = qm at *
  clear h1 h2 h3 h4
  go_enter Tryz.func34, Tryz.ntmps34
  go_upto_region 1 with fail
  try rw [e2]
  clear e2
  go_upto_region 30 with (first
    | (go_at_call 33; (with_reducible refine (HWD.out _).mono ?_); rintro e w3 ⟨⟨gw, cw, rfl, hcw⟩, hb3⟩; obtain ⟨c0, c1, c2⟩ := hcw w3 (HiAgr.bel (Below.refl _ _)); have s3 : St w w3 w3 w2.heap.size _ := ⟨H0.out.mono hb3, H1.out.mono hb3, HiAgr.bel (Below.refl _ _), bel_trans HB2.out hb3, HZ2.out⟩; have x5 : w3.cell? ⟨w.heap.size, 5, none⟩ = some (.int .i64 tk) := (s3.k.cell 5).trans rfl; have f5 := s3.k.frozen 5))
  clear c0 c1 c2
  have S4 := Lib.hid (s3.set 5 (.int .i64 1))
  obtain ⟨c0, c1, c2⟩ := hcw _ S4.out.a
  generalize w3.setCell ⟨w.heap.size, 5, none⟩ (.int .i64 1) = w4 at *
  clear s3 x5 f5
  go_upto_region 31 with (first
    | (go_at_call 58; (with_reducible refine (HDY.out _).mono ?_); rintro e w5 ⟨rfl, hb5⟩; have s5 := S4.out.bel hb5; have x6 : w5.cell? ⟨w.heap.size, 6, none⟩ = some (.int .i64 td) := (s5.k.cell 6).trans rfl; have f6 := s5.k.frozen 6))
  clear c0 c1 c2
  have S6 := Lib.hid (s5.set 6 (.int .i64 qd))
  obtain ⟨c0, c1, c2⟩ := hcw _ S6.out.a
  generalize w5.setCell ⟨w.heap.size, 6, none⟩ (.int .i64 qd) = w6 at *
  clear s5 x6 f6 hb5
  go_upto_region 32 with (first
    | (go_at_call 59; (with_reducible refine (HCK.out _).mono ?_); rintro e w7 ⟨rfl, hb7⟩; have s7 := S6.out.bel hb7; have x7 : w7.cell? ⟨w.heap.size, 7, none⟩ = some (.int .i64 tm) := (s7.k.cell 7).trans rfl; have f7 := s7.k.frozen 7))
  clear c0 c1 c2
  have S8 := Lib.hid (s7.set 7 (.int .i64 qm))
  obtain ⟨c0, c1, c2⟩ := hcw _ S8.out.a
  generalize w7.setCell ⟨w.heap.size, 7, none⟩ (.int .i64 qm) = w8 at *
  clear s7 x7 f7 hb7
  have s8 := S8.out
  have x11 : w8.cell? ⟨w.heap.size, 11, none⟩ = some (.bool queued) := (s8.k.cell 11).trans rfl; have f11 := s8.k.frozen 11
  go_upto_region 37 with fail
  have S9 := Lib.hid (s8.set 11 (.bool false))
  generalize w8.setCell ⟨w.heap.size, 11, none⟩ (.bool false) = w9 at *
  clear s8 x11 f11 c0 c1 c2 hcw
  have HN1 := Lib.hid (pnrC_one (x := ⟨loc, off, names, segs, phones, 1, qd, qm, recv, remarks, seats, false⟩) (p1 := pn) (n1 := nn) (c1 := cn) (p2 := ps) (n2 := ns) (c2 := cs) (p3 := pp) (n3 := np) (c3 := cp) (p4 := pr) (n4 := nr) (c4 := cr) (p5 := px) (n5 := nx) (c5 := cx))
  have hrS := S9.out.k.range
  have hT := S9.out.t
  go_wp2_with (first
    | (refine wpList_load_mid rfl 29 (.tmp 2) rfl w.heap.size 0 rfl _ _ hrS Tryz.underlying29 rfl info_pnr ?_)
    | (refine wpList_store_blk rfl 29 (.tmp 4) (.tmp 194) rfl (w.heap.size + 1) 29 _ [.string loc, .string off, .slice pn nn cn, .slice ps ns cs, .slice pp np cp, .int .i64 1, .int .i64 qd, .int .i64 qm, .string recv, .slice pr nr cr, .slice px nx cx, .bool false] rfl rfl hT rfl info_pnr HN1.out ?_; intro wz hbz hlz hgz))
  obtain ⟨k1, k2⟩ := rd_fin HRD.out S9.out.b hgz HBB.out
  exact line_back rfl rfl rfl rfl hbz rfl k2 ⟨_, _, _, _, _, rfl, ⟨k1.n, k1.s, k1.ph, k1.rm, k1.x, k1.d, k1.few⟩⟩

set_option maxHeartbeats 16000000 in
theorem line_queued (B : Nat) (p : PnrT) (vn vs vp vr vx : Value) (q : PnrT) (h1 : q.tk = 1) (h2 : 0 ≤ q.td ∧ q.td < 366) (h3 : 0 ≤ q.tm ∧ q.tm < 1440) (h4 : q.queued = true) (w : World) (h : RdP w B p vn vs vp vr vx) (hB : B ≤ w.heap.size) :
    Calls Tryz.prog 34 #[.agg (pnrC p vn vs vp vr vx).toArray, .string (mkB (tickLn q))] w fun e w' => LineE B { p with tk := 1, td := q.td, tm := q.tm, queued := true } e w' ∧ Below B w w' := by
  obtain ⟨w2, e2, b0, b1, hb2, hz2⟩ := boxes2 w (pnrC p vn vs vp vr vx)
  have hLN : (mkB (tickLn q)).size ≤ 1000 := by
    rw [mkB_size]
    exact Nat.le_trans (tick_ok (p := q) (.inl ⟨h1, h2, h3⟩)).le (by decide)
  have HWD : RowKit.Hid (∀ W, Calls Tryz.prog 33 #[.string (mkB (tickLn q))] W fun e w' => (∃ g c, e = .returned (.slice (some ⟨g, 0, none⟩) 4 c) ∧ ∀ W', HiAgr W.heap.size w' W' → W'.cell? ⟨g, 0, none⟩ = some (.string (mkB [84])) ∧ W'.cell? ⟨g, 1, none⟩ = some (.string (mkB [76, 73, 77, 73, 84])) ∧ W'.cell? ⟨g, 2, none⟩ = some (.string (mkB (dTx q.td ++ 47 :: cTx q.tm))) ∧ W'.cell? ⟨g, 3, none⟩ = some (.string (mkB [81, 85, 69, 85, 69, 68]))) ∧ Below W.heap.size W w') := Lib.hid fun W =>
    (words_at (ws := [[84], [76, 73, 77, 73, 84], (dTx q.td ++ 47 :: cTx q.tm), [81, 85, 69, 85, 69, 68]]) (n := 4) (by simp) rfl ((congrArg wordsL (toL_mkB _)).trans ((limit_words h1 h2 h3).trans (by rw [h4]; rfl))) hLN W).mono fun e w' ⟨⟨g, c, h1, h2⟩, h3⟩ => ⟨⟨g, c, h1, fun W' hW => ⟨h2 W' hW 0 _ rfl, h2 W' hW 1 _ rfl, h2 W' hW 2 _ rfl, h2 W' hW 3 _ rfl⟩⟩, h3⟩
  have hgl : ∀ h0 : 0 < (mkB (tickLn q)).size, (mkB (tickLn q))[0] = 84 := fun h0 => (mkB_at h0).trans (by obtain ⟨t, e⟩ := tick_head q; rw [e]; rfl)
  have hs1 : 2 ≤ (mkB (tickLn q)).size ∧ (mkB (tickLn q)).size ≤ 1000 ∧ (mkB [84]).size < (mkB (tickLn q)).size ∧ 1 ≤ (mkB [84]).size := by
    refine ⟨?_, hLN, ?_, by decide⟩ <;> (rw [mkB_size]; obtain ⟨t, e⟩ := tick_head q; rw [e]; simp [mkB_size])
  have hq0 : ((mkB [76, 73, 77, 73, 84]).toList == [68, 79, 78, 69]) = false := by rw [ByteArray.toList_eq]; decide
  have hq1 : ((mkB [76, 73, 77, 73, 84]).toList == [76, 73, 77, 73, 84]) = true := by rw [ByteArray.toList_eq]; decide
  have hld := day_len h2
  have hlc := clk_len h3
  have hi7 : 10 = (mkB (dTx q.td ++ 47 :: cTx q.tm)).size := by rw [mkB_size, List.length_append, List.length_cons, hld, hlc]
  have HDY : RowKit.Hid (∀ W, Calls Tryz.prog 58 #[.string ((mkB (dTx q.td ++ 47 :: cTx q.tm)).extract 0 5)] W fun e w' => e = .returned (.tuple #[.int .i64 q.td, .bool true]) ∧ Below W.heap.size W w') := Lib.hid fun W => read_day h2 (cut_left _ _ hld) W
  have HCK : RowKit.Hid (∀ W, Calls Tryz.prog 59 #[.string ((mkB (dTx q.td ++ 47 :: cTx q.tm)).extract 6 (mkB (dTx q.td ++ 47 :: cTx q.tm)).size)] W fun e w' => e = .returned (.tuple #[.int .i64 q.tm, .bool true]) ∧ Below W.heap.size W w') := Lib.hid fun W => read_clk h3 (by
    have := cut_right (dTx q.td ++ [47]) (cTx q.tm) (n := 6) (by rw [List.length_append, hld]; rfl)
    rwa [List.append_assoc] at this) W
  generalize mkB [84] = a0 at *
  generalize mkB [76, 73, 77, 73, 84] = a1 at *
  generalize mkB (dTx q.td ++ 47 :: cTx q.tm) = a2 at *
  generalize mkB [81, 85, 69, 85, 69, 68] = a3 at *
  generalize mkB (tickLn q) = s at *
  obtain ⟨hs2, hs3, hs4, hs5⟩ := hs1
  have hh0 : 0 < s.size := by omega
  have hgl0 := hgl hh0
  have hi2 : ¬ (s.size : Int) < 2 := by omega
  have hi3 : (a0.size : Int) < (s.size : Int) := by omega
  have hi4 : ¬ (a0.size : Int) < 1 := by omega
  have hi5 : (a0.size : Int) + 1 ≤ (s.size : Int) := by omega
  have hi6 : (s.size : Int) ≤ 1000 := by omega
  have H0 := Lib.hid b0
  have H1 := Lib.hid b1
  have HB2 := Lib.hid hb2
  have HRD := Lib.hid h
  have HBB := Lib.hid hB
  have HZ2 : RowKit.Hid (w.heap.size < w2.heap.size) := Lib.hid (by omega)
  have hi8 : (5 : Int) ≤ (a2.size : Int) ∧ (6 : Int) ≤ (a2.size : Int) := by omega
  obtain ⟨hi8, hi9⟩ := hi8
  clear hi7 hld hlc
  obtain ⟨pn, nn, cn, rfl⟩ := own_slice h.n
  obtain ⟨ps, ns, cs, rfl⟩ := own_slice h.s
  obtain ⟨pp, np, cp, rfl⟩ := own_slice h.ph
  obtain ⟨pr, nr, cr, rfl⟩ := own_slice h.rm
  obtain ⟨px, nx, cx, rfl⟩ := own_slice h.x
  obtain ⟨loc, off, names, segs, phones, tk, td, tm, recv, remarks, seats, queued⟩ := p
  unfold pnrC at H0 e2 ⊢
  have H1' := H1
  unfold zeroC at H1' e2
  simp only at H0 e2 ⊢
  simp only [List.toArray] at e2
  clear b0 b1 hb2 h hB hgl hs2 hs3 hs4 hs5 hz2 H1' hLN
  generalize q.td = qd at *
  generalize q.tm = qm at *
  clear h1 h2 h3 h4
  go_enter Tryz.func34, Tryz.ntmps34
  go_upto_region 1 with fail
  try rw [e2]
  clear e2
  go_upto_region 30 with (first
    | (go_at_call 33; (with_reducible refine (HWD.out _).mono ?_); rintro e w3 ⟨⟨gw, cw, rfl, hcw⟩, hb3⟩; obtain ⟨c0, c1, c2, c3⟩ := hcw w3 (HiAgr.bel (Below.refl _ _)); have s3 : St w w3 w3 w2.heap.size _ := ⟨H0.out.mono hb3, H1.out.mono hb3, HiAgr.bel (Below.refl _ _), bel_trans HB2.out hb3, HZ2.out⟩; have x5 : w3.cell? ⟨w.heap.size, 5, none⟩ = some (.int .i64 tk) := (s3.k.cell 5).trans rfl; have f5 := s3.k.frozen 5))
  clear c0 c1 c2 c3
  have S4 := Lib.hid (s3.set 5 (.int .i64 1))
  obtain ⟨c0, c1, c2, c3⟩ := hcw _ S4.out.a
  generalize w3.setCell ⟨w.heap.size, 5, none⟩ (.int .i64 1) = w4 at *
  clear s3 x5 f5
  go_upto_region 31 with (first
    | (go_at_call 58; (with_reducible refine (HDY.out _).mono ?_); rintro e w5 ⟨rfl, hb5⟩; have s5 := S4.out.bel hb5; have x6 : w5.cell? ⟨w.heap.size, 6, none⟩ = some (.int .i64 td) := (s5.k.cell 6).trans rfl; have f6 := s5.k.frozen 6))
  clear c0 c1 c2 c3
  have S6 := Lib.hid (s5.set 6 (.int .i64 qd))
  obtain ⟨c0, c1, c2, c3⟩ := hcw _ S6.out.a
  generalize w5.setCell ⟨w.heap.size, 6, none⟩ (.int .i64 qd) = w6 at *
  clear s5 x6 f6 hb5
  go_upto_region 32 with (first
    | (go_at_call 59; (with_reducible refine (HCK.out _).mono ?_); rintro e w7 ⟨rfl, hb7⟩; have s7 := S6.out.bel hb7; have x7 : w7.cell? ⟨w.heap.size, 7, none⟩ = some (.int .i64 tm) := (s7.k.cell 7).trans rfl; have f7 := s7.k.frozen 7))
  clear c0 c1 c2 c3
  have S8 := Lib.hid (s7.set 7 (.int .i64 qm))
  obtain ⟨c0, c1, c2, c3⟩ := hcw _ S8.out.a
  generalize w7.setCell ⟨w.heap.size, 7, none⟩ (.int .i64 qm) = w8 at *
  clear s7 x7 f7 hb7
  have s8 := S8.out
  have x11 : w8.cell? ⟨w.heap.size, 11, none⟩ = some (.bool queued) := (s8.k.cell 11).trans rfl; have f11 := s8.k.frozen 11
  go_upto_region 37 with fail
  have S9 := Lib.hid (s8.set 11 (.bool true))
  generalize w8.setCell ⟨w.heap.size, 11, none⟩ (.bool true) = w9 at *
  clear s8 x11 f11 c0 c1 c2 c3 hcw
  have HN1 := Lib.hid (pnrC_one (x := ⟨loc, off, names, segs, phones, 1, qd, qm, recv, remarks, seats, true⟩) (p1 := pn) (n1 := nn) (c1 := cn) (p2 := ps) (n2 := ns) (c2 := cs) (p3 := pp) (n3 := np) (c3 := cp) (p4 := pr) (n4 := nr) (c4 := cr) (p5 := px) (n5 := nx) (c5 := cx))
  have hrS := S9.out.k.range
  have hT := S9.out.t
  go_wp2_with (first
    | (refine wpList_load_mid rfl 29 (.tmp 2) rfl w.heap.size 0 rfl _ _ hrS Tryz.underlying29 rfl info_pnr ?_)
    | (refine wpList_store_blk rfl 29 (.tmp 4) (.tmp 194) rfl (w.heap.size + 1) 29 _ [.string loc, .string off, .slice pn nn cn, .slice ps ns cs, .slice pp np cp, .int .i64 1, .int .i64 qd, .int .i64 qm, .string recv, .slice pr nr cr, .slice px nx cx, .bool true] rfl rfl hT rfl info_pnr HN1.out ?_; intro wz hbz hlz hgz))
  obtain ⟨k1, k2⟩ := rd_fin HRD.out S9.out.b hgz HBB.out
  exact line_back rfl rfl rfl rfl hbz rfl k2 ⟨_, _, _, _, _, rfl, ⟨k1.n, k1.s, k1.ph, k1.rm, k1.x, k1.d, k1.few⟩⟩
end Go.Proofs.YtmhhbnnjilbdnaaGreatDoor.Sh
