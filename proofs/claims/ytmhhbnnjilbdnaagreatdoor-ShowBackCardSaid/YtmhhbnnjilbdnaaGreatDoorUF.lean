/- A line of a received-from, of a phone, of a remark. -/
import Derived.Test.YtmhhbnnjilbdnaaGreatDoorUE
namespace Go.Proofs.YtmhhbnnjilbdnaaGreatDoor.Sh
open Go.RowKit En Go.ChangeMaps
set_option linter.unusedSimpArgs false
set_option linter.unusedVariables false
set_option maxRecDepth 20000

set_option maxHeartbeats 16000000 in
theorem line_recv (B : Nat) (p : PnrT) (vn vs vp vr vx : Value) (t : ByteArray) (w : World) (h : RdP w B p vn vs vp vr vx) (hB : B ≤ w.heap.size) (hf : freeP t) :
    Calls Tryz.prog 34 #[.agg (pnrC p vn vs vp vr vx).toArray, .string (mkB (82 :: 32 :: toL t))] w fun e w' => LineE B { p with recv := t } e w' ∧ Below B w w' := by
  obtain ⟨w2, e2, b0, b1, hb2, hz2⟩ := boxes2 w (pnrC p vn vs vp vr vx)
  obtain ⟨_, _, hl1, hl2⟩ := free_parts hf
  have HR0 : RowKit.Hid ((mkB (82 :: 32 :: toL t)).extract ((mkB [82]).size + 1) (mkB (82 :: 32 :: toL t)).size = t) := Lib.hid ((rest_of [82] (toL t)).trans (mkB_toL t))
  have HWD : RowKit.Hid (∀ W, Calls Tryz.prog 33 #[.string (mkB (82 :: 32 :: toL t))] W fun e w' => (∃ g c n, e = .returned (.slice (some ⟨g, 0, none⟩) n c) ∧ 0 < n ∧ ∀ W', Below w'.heap.size w' W' → W'.cell? ⟨g, 0, none⟩ = some (.string (mkB [82]))) ∧ Below W.heap.size W w') := Lib.hid fun W =>
    (words_at (by simp) rfl ((congrArg wordsL (toL_mkB _)).trans recv_words) (by rw [mkB_size]; simp; omega) W).mono fun e w' ⟨⟨g, c, h1, h2⟩, h3⟩ => ⟨⟨g, c, _, h1, by simp, fun W' hW => h2 W' (HiAgr.bel hW) 0 _ rfl⟩, h3⟩
  have hgl : ∀ h0 : 0 < (mkB (82 :: 32 :: toL t)).size, (mkB (82 :: 32 :: toL t))[0] = 82 := fun h0 => mkB_at h0
  have hs1 : 2 ≤ (mkB (82 :: 32 :: toL t)).size ∧ (mkB (82 :: 32 :: toL t)).size ≤ 1000 ∧ (mkB [82]).size < (mkB (82 :: 32 :: toL t)).size ∧ 1 ≤ (mkB [82]).size := by simp only [mkB_size, List.length_cons, List.length_nil]; omega
  generalize mkB (82 :: 32 :: toL t) = s at *
  generalize mkB [82] = a0 at *
  obtain ⟨hs2, hs3, hs4, hs5⟩ := hs1
  have hh0 : 0 < s.size := by omega
  have hgl0 : (s[0]'hh0) = 82 := hgl hh0
  have hi2 : ¬ (s.size : Int) < 2 := by omega
  have hi3 : (a0.size : Int) < (s.size : Int) := by omega
  have hi4 : ¬ (a0.size : Int) < 1 := by omega
  have hi5 : (a0.size : Int) + 1 ≤ (s.size : Int) := by omega
  have hi6 : (s.size : Int) ≤ 1000 := by omega
  have H0 := Lib.hid b0
  have H1 := Lib.hid b1
  have HB2 := Lib.hid hb2
  have HRD := Lib.hid h
  have HZ2 := Lib.hid hz2
  have HBB := Lib.hid hB
  have HF : RowKit.Hid (toL t ≠ []) := Lib.hid fun e => by rw [e] at hl1; simp at hl1
  obtain ⟨pn, nn, cn, rfl⟩ := own_slice h.n
  obtain ⟨ps, ns, cs, rfl⟩ := own_slice h.s
  obtain ⟨pp, np, cp, rfl⟩ := own_slice h.ph
  obtain ⟨pr, nr, cr, rfl⟩ := own_slice h.rm
  obtain ⟨px, nx, cx, rfl⟩ := own_slice h.x
  obtain ⟨loc, off, names, segs, phones, tk, td, tm, recv, remarks, seats, queued⟩ := p
  unfold pnrC at H0 e2 ⊢
  unfold zeroC at H1 e2
  simp only at H0 e2 ⊢
  simp only [List.toArray] at e2
  clear b0 b1 hb2 h hB hgl hl1 hl2 hf hs2 hs3 hs4 hs5 hz2
  go_enter Tryz.func34, Tryz.ntmps34
  go_upto_region 1 with fail
  try rw [e2]
  clear e2
  go_upto_region 22 with (first
    | (go_at_call 33; (with_reducible refine (HWD.out _).mono ?_); rintro e w3 ⟨⟨gw, cw, nw, rfl, hnw, hcw⟩, hb3⟩; have c0 := hcw w3 (Below.refl _ _); have hnwi : (0 : Int) < (nw : Int) := by omega))
  have hk3 := H0.out.mono hb3
  have x8 : w3.cell? ⟨w.heap.size, 8, none⟩ = some (.string recv) := (hk3.cell 8).trans rfl
  have f8 := hk3.frozen 8
  go_upto_region 37 with fail
  have hgS := gr_setCell1 (b := w.heap.size) (World.grownBy.refl w3 _) 8 (.string (s.extract (a0.size + 1) s.size))
  have hS := hk3.set 8 (.string (s.extract (a0.size + 1) s.size))
  have hrS := hS.range
  have hT := (H1.out.mono hb3).far hgS (fun e => by injection e with e; omega)
  have hbW : Below w.heap.size w (w3.setCell ⟨w.heap.size, 8, none⟩ (.string (s.extract (a0.size + 1) s.size))) := (bel_trans HB2.out hb3).setCell (p := ⟨w.heap.size, 8, none⟩) (Nat.le_refl _) _
  have HBW := Lib.hid hbW
  have HN1 := Lib.hid (pnrC_one (x := ⟨loc, off, names, segs, phones, tk, td, tm, s.extract (a0.size + 1) s.size, remarks, seats, queued⟩) (p1 := pn) (n1 := nn) (c1 := cn) (p2 := ps) (n2 := ns) (c2 := cs) (p3 := pp) (n3 := np) (c3 := cp) (p4 := pr) (n4 := nr) (c4 := cr) (p5 := px) (n5 := nx) (c5 := cx))
  generalize w3.setCell ⟨w.heap.size, 8, none⟩ (.string (s.extract (a0.size + 1) s.size)) = w4 at *
  clear hbW hS hgS hk3 x8 f8
  go_wp2_with (first
    | (refine wpList_load_mid rfl 29 (.tmp 2) rfl w.heap.size 0 rfl _ _ hrS Tryz.underlying29 rfl info_pnr ?_)
    | (refine wpList_store_blk rfl 29 (.tmp 4) (.tmp 194) rfl (w.heap.size + 1) 29 _ [.string loc, .string off, .slice pn nn cn, .slice ps ns cs, .slice pp np cp, .int .i64 tk, .int .i64 td, .int .i64 tm, .string (s.extract (a0.size + 1) s.size), .slice pr nr cr, .slice px nx cx, .bool queued] rfl rfl hT rfl info_pnr HN1.out ?_; intro w8 hb8 hl8 hg8))
  obtain ⟨k1, k2⟩ := rd_fin HRD.out HBW.out hg8 HBB.out
  exact line_back rfl rfl rfl rfl hb8 rfl k2 ⟨_, _, _, _, _, by rw [HR0.out]; rfl, ⟨k1.n, k1.s, k1.ph, k1.rm, k1.x, k1.d, k1.few⟩⟩

set_option maxHeartbeats 16000000 in
theorem line_phone (B : Nat) (p : PnrT) (vn vs vp vr vx : Value) (i : Nat) (t : ByteArray) (w : World) (h : RdP w B p vn vs vp vr vx) (hB : B ≤ w.heap.size) (hf : freeP t) (hi : i < 99) (hfew : p.phones.length + 1 ≤ 1000) :
    Calls Tryz.prog 34 #[.agg (pnrC p vn vs vp vr vx).toArray, .string (mkB (textLn 80 i t))] w fun e w' => LineE B { p with phones := p.phones ++ [t] } e w' ∧ Below B w w' := by
  obtain ⟨w2, e2, b0, b1, hb2, hz2⟩ := boxes2 w (pnrC p vn vs vp vr vx)
  obtain ⟨_, _, hl1, hl2⟩ := free_parts hf
  have hl3 := itoa_le4 (n := (i : Int) + 1) (by omega) (by omega)
  have HR0 : RowKit.Hid ((mkB (textLn 80 i t)).extract ((mkB (80 :: itoaL ((i : Int) + 1))).size + 1) (mkB (textLn 80 i t)).size = t) := Lib.hid ((rest_of (80 :: itoaL ((i : Int) + 1)) (toL t)).trans (mkB_toL t))
  have HWD : RowKit.Hid (∀ W, Calls Tryz.prog 33 #[.string (mkB (textLn 80 i t))] W fun e w' => (∃ g c n, e = .returned (.slice (some ⟨g, 0, none⟩) n c) ∧ 0 < n ∧ ∀ W', Below w'.heap.size w' W' → W'.cell? ⟨g, 0, none⟩ = some (.string (mkB (80 :: itoaL ((i : Int) + 1))))) ∧ Below W.heap.size W w') := Lib.hid fun W =>
    (words_at (by simp) rfl ((congrArg wordsL (toL_mkB _)).trans (text_words (by decide))) (by rw [mkB_size]; unfold textLn; simp only [List.length_cons, List.length_append]; omega) W).mono fun e w' ⟨⟨g, c, h1, h2⟩, h3⟩ => ⟨⟨g, c, _, h1, by simp, fun W' hW => h2 W' (HiAgr.bel hW) 0 _ rfl⟩, h3⟩
  have hgl : ∀ h0 : 0 < (mkB (textLn 80 i t)).size, (mkB (textLn 80 i t))[0] = 80 := fun h0 => mkB_at h0
  have hs1 : 2 ≤ (mkB (textLn 80 i t)).size ∧ (mkB (textLn 80 i t)).size ≤ 1000 ∧ (mkB (80 :: itoaL ((i : Int) + 1))).size < (mkB (textLn 80 i t)).size ∧ 1 ≤ (mkB (80 :: itoaL ((i : Int) + 1))).size := by unfold textLn; simp only [mkB_size, List.length_cons, List.length_append, List.length_nil]; omega
  generalize mkB (textLn 80 i t) = s at *
  generalize mkB (80 :: itoaL ((i : Int) + 1)) = a0 at *
  obtain ⟨hs2, hs3, hs4, hs5⟩ := hs1
  have hh0 : 0 < s.size := by omega
  have hgl0 : (s[0]'hh0) = 80 := hgl hh0
  have hi2 : ¬ (s.size : Int) < 2 := by omega
  have hi3 : (a0.size : Int) < (s.size : Int) := by omega
  have hi4 : ¬ (a0.size : Int) < 1 := by omega
  have hi5 : (a0.size : Int) + 1 ≤ (s.size : Int) := by omega
  have hi6 : (s.size : Int) ≤ 1000 := by omega
  have H0 := Lib.hid b0
  have H1 := Lib.hid b1
  have HB2 := Lib.hid hb2
  have HRD := Lib.hid h
  have HBB := Lib.hid hB
  have HOW := Lib.hid h.ph
  have HOL := Lib.hid (own_lt (g := w.heap.size) h.ph (Nat.le_refl _))
  have HOL1 := Lib.hid (own_lt (g := w.heap.size + 1) h.ph (Nat.le_succ _))
  have HOB : RowKit.Hid (∀ k, vp.ownBlock = some k → B ≤ k) := Lib.hid fun k hk => (World.ownsRow.lt h.ph k hk).1
  have hm1 : p.phones.length + 1 ≤ maxLen := by unfold maxLen; omega
  have hm2 : (p.phones.length + 1) * 16 ≤ 140737488355328 := by omega
  have HM := Lib.hid (And.intro hm1 hm2)
  have HFEW := Lib.hid hfew
  obtain ⟨i0, hi0, hz0, hsz0, hby0⟩ := str_info
  obtain ⟨pn, nn, cn, rfl⟩ := own_slice h.n
  obtain ⟨ps, ns, cs, rfl⟩ := own_slice h.s
  obtain ⟨pp, np, cp, rfl⟩ := own_slice h.ph
  obtain ⟨pr, nr, cr, rfl⟩ := own_slice h.rm
  obtain ⟨px, nx, cx, rfl⟩ := own_slice h.x
  obtain ⟨loc, off, names, segs, phones, tk, td, tm, recv, remarks, seats, queued⟩ := p
  unfold pnrC at H0 e2 ⊢
  have H1' := H1
  unfold zeroC at H1' e2
  simp only at H0 e2 HOW HM ⊢
  simp only [List.toArray] at e2
  clear b0 b1 hb2 h hB hgl hl1 hl2 hl3 hf hi hfew hs2 hs3 hs4 hs5 hz2 hm1 hm2 H1'
  go_enter Tryz.func34, Tryz.ntmps34
  go_upto_region 1 with fail
  try rw [e2]
  clear e2
  go_upto_region 20 with (first
    | (go_at_call 33; (with_reducible refine (HWD.out _).mono ?_); rintro e w3 ⟨⟨gw, cw, nw, rfl, hnw, hcw⟩, hb3⟩; have c0 := hcw w3 (Below.refl _ _); have hnwi : (0 : Int) < (nw : Int) := by omega))
  have hW3 := bel_trans HB2.out hb3
  have HW3 := Lib.hid hW3
  have hk3 := H0.out.mono hb3
  have HK3 := Lib.hid hk3
  have HT3 := Lib.hid (H1.out.mono hb3)
  have x4 : w3.cell? ⟨w.heap.size, 4, none⟩ = some (.slice pp np cp) := (hk3.cell 4).trans rfl
  have hown : w3.ownsRow B 9 1 (.slice pp np cp) phones.length (strV phones) := own_mono HOW.out hW3
  have hBw := Nat.le_trans HBB.out hW3.size
  have hmm := HM.out
  clear hk3 hcw hb3 c0
  go_upto_region 37 with (first
    | (at_builtin; refine wpList_push_at rfl _ _ 24 rfl B 9 i0 (.string ⟨#[]⟩) 16 Tryz.underlying24 hi0 hz0 hsz0 hby0 rfl (.slice pp np cp) _ _ rfl hown _ rfl rfl hmm.1 hmm.2 hBw ?_; intro v4 w4 hown4 hb4 hgr4 hloc4; obtain ⟨q4, m4, e4, rfl⟩ := own_slice hown4; have hk4 := HK3.out.far hgr4 (fun e => by rcases HOL.out with k | k; (rw [k] at e; cases e); exact k e.symm); have y4 : w4.cell? ⟨w.heap.size, 4, none⟩ = some (.slice pp np cp) := (hk4.cell 4).trans rfl; have f4 := hk4.frozen 4))
  have hT4 := HT3.out.far hgr4 (fun e => by rcases HOL1.out with k | k; (rw [k] at e; cases e); exact k e.symm)
  have HRD4 := Lib.hid (RdP.phones (S := s.extract (a0.size + 1) s.size) (HRD.out.mono HW3.out) hgr4 hown4 hloc4 HFEW.out)
  have HB4 : RowKit.Hid (Below B w w4) := Lib.hid ((below_le HW3.out HBB.out).trans hb4)
  have HK4 := Lib.hid hk4
  have HT4 := Lib.hid hT4
  have hgS := gr_setCell1 (b := w.heap.size) (World.grownBy.refl w4 _) 4 (.slice q4 m4 e4)
  have hS := hk4.set 4 (.slice q4 m4 e4)
  have hrS := hS.range
  have hT := hT4.far hgS (fun e => by injection e with e; omega)
  have HN1 := Lib.hid (pnrC_one (x := ⟨loc, off, names, segs, phones, tk, td, tm, recv, remarks, seats, queued⟩) (p1 := pn) (n1 := nn) (c1 := cn) (p2 := ps) (n2 := ns) (c2 := cs) (p3 := q4) (n3 := m4) (c3 := e4) (p4 := pr) (n4 := nr) (c4 := cr) (p5 := px) (n5 := nx) (c5 := cx))
  clear hS hgS hk4 hT4 y4 f4 hown hown4 hb4 hgr4 hloc4 x4 hW3 hmm hBw
  go_wp2_with (first
    | (refine wpList_load_mid rfl 29 (.tmp 2) rfl w.heap.size 0 rfl _ _ hrS Tryz.underlying29 rfl info_pnr ?_)
    | (refine wpList_store_blk rfl 29 (.tmp 4) (.tmp 194) rfl (w.heap.size + 1) 29 _ [.string loc, .string off, .slice pn nn cn, .slice ps ns cs, .slice q4 m4 e4, .int .i64 tk, .int .i64 td, .int .i64 tm, .string recv, .slice pr nr cr, .slice px nx cx, .bool queued] rfl rfl hT rfl info_pnr HN1.out ?_; intro w8 hb8 hl8 hg8))
  obtain ⟨k1, k2⟩ := rd_fin2 HRD4.out HB4.out HBB.out HK4.out HT4.out hg8
  rw [HR0.out] at k1
  exact line_back rfl rfl rfl rfl hb8 rfl k2 ⟨_, _, _, _, _, rfl, k1⟩

set_option maxHeartbeats 16000000 in
theorem line_remark (B : Nat) (p : PnrT) (vn vs vp vr vx : Value) (i : Nat) (t : ByteArray) (w : World) (h : RdP w B p vn vs vp vr vx) (hB : B ≤ w.heap.size) (hf : freeP t) (hi : i < 99) (hfew : p.remarks.length + 1 ≤ 1000) :
    Calls Tryz.prog 34 #[.agg (pnrC p vn vs vp vr vx).toArray, .string (mkB (textLn 77 i t))] w fun e w' => LineE B { p with remarks := p.remarks ++ [t] } e w' ∧ Below B w w' := by
  obtain ⟨w2, e2, b0, b1, hb2, hz2⟩ := boxes2 w (pnrC p vn vs vp vr vx)
  obtain ⟨_, _, hl1, hl2⟩ := free_parts hf
  have hl3 := itoa_le4 (n := (i : Int) + 1) (by omega) (by omega)
  have HR0 : RowKit.Hid ((mkB (textLn 77 i t)).extract ((mkB (77 :: itoaL ((i : Int) + 1))).size + 1) (mkB (textLn 77 i t)).size = t) := Lib.hid ((rest_of (77 :: itoaL ((i : Int) + 1)) (toL t)).trans (mkB_toL t))
  have HWD : RowKit.Hid (∀ W, Calls Tryz.prog 33 #[.string (mkB (textLn 77 i t))] W fun e w' => (∃ g c n, e = .returned (.slice (some ⟨g, 0, none⟩) n c) ∧ 0 < n ∧ ∀ W', Below w'.heap.size w' W' → W'.cell? ⟨g, 0, none⟩ = some (.string (mkB (77 :: itoaL ((i : Int) + 1))))) ∧ Below W.heap.size W w') := Lib.hid fun W =>
    (words_at (by simp) rfl ((congrArg wordsL (toL_mkB _)).trans (text_words (by decide))) (by rw [mkB_size]; unfold textLn; simp only [List.length_cons, List.length_append]; omega) W).mono fun e w' ⟨⟨g, c, h1, h2⟩, h3⟩ => ⟨⟨g, c, _, h1, by simp, fun W' hW => h2 W' (HiAgr.bel hW) 0 _ rfl⟩, h3⟩
  have hgl : ∀ h0 : 0 < (mkB (textLn 77 i t)).size, (mkB (textLn 77 i t))[0] = 77 := fun h0 => mkB_at h0
  have hs1 : 2 ≤ (mkB (textLn 77 i t)).size ∧ (mkB (textLn 77 i t)).size ≤ 1000 ∧ (mkB (77 :: itoaL ((i : Int) + 1))).size < (mkB (textLn 77 i t)).size ∧ 1 ≤ (mkB (77 :: itoaL ((i : Int) + 1))).size := by unfold textLn; simp only [mkB_size, List.length_cons, List.length_append, List.length_nil]; omega
  generalize mkB (textLn 77 i t) = s at *
  generalize mkB (77 :: itoaL ((i : Int) + 1)) = a0 at *
  obtain ⟨hs2, hs3, hs4, hs5⟩ := hs1
  have hh0 : 0 < s.size := by omega
  have hgl0 : (s[0]'hh0) = 77 := hgl hh0
  have hi2 : ¬ (s.size : Int) < 2 := by omega
  have hi3 : (a0.size : Int) < (s.size : Int) := by omega
  have hi4 : ¬ (a0.size : Int) < 1 := by omega
  have hi5 : (a0.size : Int) + 1 ≤ (s.size : Int) := by omega
  have hi6 : (s.size : Int) ≤ 1000 := by omega
  have H0 := Lib.hid b0
  have H1 := Lib.hid b1
  have HB2 := Lib.hid hb2
  have HRD := Lib.hid h
  have HBB := Lib.hid hB
  have HOW := Lib.hid h.rm
  have HOL := Lib.hid (own_lt (g := w.heap.size) h.rm (Nat.le_refl _))
  have HOL1 := Lib.hid (own_lt (g := w.heap.size + 1) h.rm (Nat.le_succ _))
  have HOB : RowKit.Hid (∀ k, vr.ownBlock = some k → B ≤ k) := Lib.hid fun k hk => (World.ownsRow.lt h.rm k hk).1
  have hm1 : p.remarks.length + 1 ≤ maxLen := by unfold maxLen; omega
  have hm2 : (p.remarks.length + 1) * 16 ≤ 140737488355328 := by omega
  have HM := Lib.hid (And.intro hm1 hm2)
  have HFEW := Lib.hid hfew
  obtain ⟨i0, hi0, hz0, hsz0, hby0⟩ := str_info
  obtain ⟨pn, nn, cn, rfl⟩ := own_slice h.n
  obtain ⟨ps, ns, cs, rfl⟩ := own_slice h.s
  obtain ⟨pp, np, cp, rfl⟩ := own_slice h.ph
  obtain ⟨pr, nr, cr, rfl⟩ := own_slice h.rm
  obtain ⟨px, nx, cx, rfl⟩ := own_slice h.x
  obtain ⟨loc, off, names, segs, phones, tk, td, tm, recv, remarks, seats, queued⟩ := p
  unfold pnrC at H0 e2 ⊢
  have H1' := H1
  unfold zeroC at H1' e2
  simp only at H0 e2 HOW HM ⊢
  simp only [List.toArray] at e2
  clear b0 b1 hb2 h hB hgl hl1 hl2 hl3 hf hi hfew hs2 hs3 hs4 hs5 hz2 hm1 hm2 H1'
  go_enter Tryz.func34, Tryz.ntmps34
  go_upto_region 1 with fail
  try rw [e2]
  clear e2
  go_upto_region 24 with (first
    | (go_at_call 33; (with_reducible refine (HWD.out _).mono ?_); rintro e w3 ⟨⟨gw, cw, nw, rfl, hnw, hcw⟩, hb3⟩; have c0 := hcw w3 (Below.refl _ _); have hnwi : (0 : Int) < (nw : Int) := by omega))
  have hW3 := bel_trans HB2.out hb3
  have HW3 := Lib.hid hW3
  have hk3 := H0.out.mono hb3
  have HK3 := Lib.hid hk3
  have HT3 := Lib.hid (H1.out.mono hb3)
  have x4 : w3.cell? ⟨w.heap.size, 9, none⟩ = some (.slice pr nr cr) := (hk3.cell 9).trans rfl
  have hown : w3.ownsRow B 9 1 (.slice pr nr cr) remarks.length (strV remarks) := own_mono HOW.out hW3
  have hBw := Nat.le_trans HBB.out hW3.size
  have hmm := HM.out
  clear hk3 hcw hb3 c0
  go_upto_region 37 with (first
    | (at_builtin; refine wpList_push_at rfl _ _ 24 rfl B 9 i0 (.string ⟨#[]⟩) 16 Tryz.underlying24 hi0 hz0 hsz0 hby0 rfl (.slice pr nr cr) _ _ rfl hown _ rfl rfl hmm.1 hmm.2 hBw ?_; intro v4 w4 hown4 hb4 hgr4 hloc4; obtain ⟨q4, m4, e4, rfl⟩ := own_slice hown4; have hk4 := HK3.out.far hgr4 (fun e => by rcases HOL.out with k | k; (rw [k] at e; cases e); exact k e.symm); have y4 : w4.cell? ⟨w.heap.size, 9, none⟩ = some (.slice pr nr cr) := (hk4.cell 9).trans rfl; have f4 := hk4.frozen 9))
  have hT4 := HT3.out.far hgr4 (fun e => by rcases HOL1.out with k | k; (rw [k] at e; cases e); exact k e.symm)
  have HRD4 := Lib.hid (RdP.remarks (S := s.extract (a0.size + 1) s.size) (HRD.out.mono HW3.out) hgr4 hown4 hloc4 HFEW.out)
  have HB4 : RowKit.Hid (Below B w w4) := Lib.hid ((below_le HW3.out HBB.out).trans hb4)
  have HK4 := Lib.hid hk4
  have HT4 := Lib.hid hT4
  have hgS := gr_setCell1 (b := w.heap.size) (World.grownBy.refl w4 _) 9 (.slice q4 m4 e4)
  have hS := hk4.set 9 (.slice q4 m4 e4)
  have hrS := hS.range
  have hT := hT4.far hgS (fun e => by injection e with e; omega)
  have HN1 := Lib.hid (pnrC_one (x := ⟨loc, off, names, segs, phones, tk, td, tm, recv, remarks, seats, queued⟩) (p1 := pn) (n1 := nn) (c1 := cn) (p2 := ps) (n2 := ns) (c2 := cs) (p3 := pp) (n3 := np) (c3 := cp) (p4 := q4) (n4 := m4) (c4 := e4) (p5 := px) (n5 := nx) (c5 := cx))
  clear hS hgS hk4 hT4 y4 f4 hown hown4 hb4 hgr4 hloc4 x4 hW3 hmm hBw
  go_wp2_with (first
    | (refine wpList_load_mid rfl 29 (.tmp 2) rfl w.heap.size 0 rfl _ _ hrS Tryz.underlying29 rfl info_pnr ?_)
    | (refine wpList_store_blk rfl 29 (.tmp 4) (.tmp 194) rfl (w.heap.size + 1) 29 _ [.string loc, .string off, .slice pn nn cn, .slice ps ns cs, .slice pp np cp, .int .i64 tk, .int .i64 td, .int .i64 tm, .string recv, .slice q4 m4 e4, .slice px nx cx, .bool queued] rfl rfl hT rfl info_pnr HN1.out ?_; intro w8 hb8 hl8 hg8))
  obtain ⟨k1, k2⟩ := rd_fin2 HRD4.out HB4.out HBB.out HK4.out HT4.out hg8
  rw [HR0.out] at k1
  exact line_back rfl rfl rfl rfl hb8 rfl k2 ⟨_, _, _, _, _, rfl, k1⟩
end Go.Proofs.YtmhhbnnjilbdnaaGreatDoor.Sh
