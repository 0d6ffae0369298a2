/- A line of a seat. Printed by tools/gen_uj.py. -/
import Derived.Test.YtmhhbnnjilbdnaaGreatDoorUI
namespace Go.Proofs.YtmhhbnnjilbdnaaGreatDoor.Sh
open Go.RowKit En Go.ChangeMaps
set_option linter.unusedSimpArgs false
set_option linter.unusedVariables false
set_option maxRecDepth 20000

theorem wf_4 {n : Int} (h : 1 ≤ n ∧ n < 10000) : (Lit.int .i64 n).wf = true := by
  simp [Lit.wf, IntKind.min, IntKind.max, IntKind.signed, IntKind.bits]
  omega
theorem info_seat3 : (Tryz.prog.info? 46).map (·.size) = some 2 := by kernel_rfl
theorem seatC_one3 (r : Int) (c : UInt8) : ∀ v ∈ ([.int .i64 r, .int .u8 c.toNat] : List Value), v.oneCell' = true := by
  intro v hv
  simp at hv
  rcases hv with rfl | rfl <;> rfl
theorem number_at {n : Int} (h : 1 ≤ n ∧ n < 10000) (c : UInt8) (W : World) : Calls Tryz.prog 57 #[.string ((mkB (c :: itoaL n)).extract 1 (mkB (c :: itoaL n)).size)] W fun e w' => e = .returned (.int .i64 n) ∧ W = w' := by
  have hl := itoa_le4 (n := n) (by omega) h.2
  have e : toL ((mkB (c :: itoaL n)).extract 1 (mkB (c :: itoaL n)).size) = itoaL n := cut_right [c] (itoaL n) rfl
  have k := number_any ((mkB (c :: itoaL n)).extract 1 (mkB (c :: itoaL n)).size) W (by rw [← toL_size, e]; omega)
  rw [e, numL_itoa (by omega) h.2] at k
  exact k
theorem read_seat {r : Int} {c : UInt8} (h : 1 ≤ r ∧ r ≤ 99 ∧ bL c = true) (W : World) : Calls Tryz.prog 60 #[.string (mkB (toL (seatT r c)))] W fun e w' => e = .returned (.tuple #[.agg #[.int .i64 r, .int .u8 c.toNat], .bool true]) ∧ Below W.heap.size W w' := by
  rw [mkB_toL]
  have k := Pl.refRead_any (seatT r c) W (by have := seatT_le r c; unfold maxLen; omega)
  have e : Pl.readL (seatT r c).data.toList = some (r, c) := by
    have hn : ((r.toNat : Nat) : Int) = r := by omega
    have e2 : (seatT ((r.toNat : Nat) : Int) c).data.toList = (seatT r c).data.toList := by rw [hn]
    have := Pl.read_seatT (l := (seatT r c).data.toList) (n := r.toNat) (c := c) (by omega) (by omega) (fun e => by
      have e3 := seatT_toL h
      unfold toL at e3
      rw [e3] at e
      simp at e) e2
    rw [this, hn]
  rw [e] at k
  exact k

set_option maxHeartbeats 16000000 in
theorem line_seat (B : Nat) (p : PnrT) (vn vs vp vr vx : Value) (x : PlaceT) (hx1 : 1 ≤ x.seg ∧ x.seg < 10000) (hx2 : 1 ≤ x.pax ∧ x.pax < 10000) (hx3 : 1 ≤ x.row ∧ x.row ≤ 99 ∧ bL x.c = true) (hfew : p.seats.length + 1 ≤ 1000) (w : World) (h : RdP w B p vn vs vp vr vx) (hB : B ≤ w.heap.size) :
    Calls Tryz.prog 34 #[.agg (pnrC p vn vs vp vr vx).toArray, .string (mkB (seatLn x))] w fun e w' => LineE B { p with seats := p.seats ++ [x] } e w' ∧ Below B w w' := by
  obtain ⟨w2, e2, b0, b1, hb2, hz2⟩ := boxes2 w (pnrC p vn vs vp vr vx)
  have hLN : (mkB (seatLn x)).size ≤ 1000 := by
    rw [mkB_size]
    exact Nat.le_trans (seat_ok hx3 (wf_4 hx1) (wf_4 hx2)).le (by decide)
  have HWD : RowKit.Hid (∀ W, Calls Tryz.prog 33 #[.string (mkB (seatLn x))] W fun e w' => (∃ g c, e = .returned (.slice (some ⟨g, 0, none⟩) 4 c) ∧ ∀ W', HiAgr W.heap.size w' W' → W'.cell? ⟨g, 0, none⟩ = some (.string (mkB [65])) ∧ W'.cell? ⟨g, 1, none⟩ = some (.string (mkB (83 :: itoaL x.seg))) ∧ W'.cell? ⟨g, 2, none⟩ = some (.string (mkB (80 :: itoaL x.pax))) ∧ W'.cell? ⟨g, 3, none⟩ = some (.string (mkB (toL (seatT x.row x.c))))) ∧ Below W.heap.size W w') := Lib.hid fun W =>
    (words_at (ws := [[65], (83 :: itoaL x.seg), (80 :: itoaL x.pax), (toL (seatT x.row x.c))]) (n := 4) (by simp) rfl ((congrArg wordsL (toL_mkB _)).trans (seat_words hx3)) hLN W).mono fun e w' ⟨⟨g, c, h1, h2⟩, h3⟩ => ⟨⟨g, c, h1, fun W' hW => ⟨h2 W' hW 0 _ rfl, h2 W' hW 1 _ rfl, h2 W' hW 2 _ rfl, h2 W' hW 3 _ rfl⟩⟩, h3⟩
  have hgl : ∀ h0 : 0 < (mkB (seatLn x)).size, (mkB (seatLn x))[0] = 65 := fun h0 => mkB_at h0
  have hs1 : 2 ≤ (mkB (seatLn x)).size ∧ (mkB (seatLn x)).size ≤ 1000 ∧ (mkB [65]).size < (mkB (seatLn x)).size ∧ 1 ≤ (mkB [65]).size := by
    refine ⟨?_, hLN, ?_, by decide⟩ <;> (simp only [mkB_size]; unfold seatLn; simp only [List.length_cons, List.length_append, List.length_nil]; omega)
  have hz1a : 1 ≤ (mkB (83 :: itoaL x.seg)).size ∧ 1 ≤ (mkB (80 :: itoaL x.pax)).size := by simp only [mkB_size, List.length_cons]; omega
  have HN1' : RowKit.Hid (∀ W, Calls Tryz.prog 57 #[.string ((mkB (83 :: itoaL x.seg)).extract 1 (mkB (83 :: itoaL x.seg)).size)] W fun e w' => e = .returned (.int .i64 x.seg) ∧ W = w') := Lib.hid fun W => number_at hx1 83 W
  have HN2' : RowKit.Hid (∀ W, Calls Tryz.prog 57 #[.string ((mkB (80 :: itoaL x.pax)).extract 1 (mkB (80 :: itoaL x.pax)).size)] W fun e w' => e = .returned (.int .i64 x.pax) ∧ W = w') := Lib.hid fun W => number_at hx2 80 W
  have HRS : RowKit.Hid (∀ W, Calls Tryz.prog 60 #[.string (mkB (toL (seatT x.row x.c)))] W fun e w' => e = .returned (.tuple #[.agg #[.int .i64 x.row, .int .u8 x.c.toNat], .bool true]) ∧ Below W.heap.size W w') := Lib.hid fun W => read_seat hx3 W
  generalize mkB [65] = a0 at *
  generalize mkB (83 :: itoaL x.seg) = a1 at *
  generalize mkB (80 :: itoaL x.pax) = a2 at *
  generalize mkB (toL (seatT x.row x.c)) = a3 at *
  generalize mkB (seatLn x) = s at *
  obtain ⟨hs2, hs3, hs4, hs5⟩ := hs1
  have hh0 : 0 < s.size := by omega
  have hgl0 := hgl hh0
  have hi2 : ¬ (s.size : Int) < 2 := by omega
  have hi3 : (a0.size : Int) < (s.size : Int) := by omega
  have hi4 : ¬ (a0.size : Int) < 1 := by omega
  have hi5 : (a0.size : Int) + 1 ≤ (s.size : Int) := by omega
  have hi6 : (s.size : Int) ≤ 1000 := by omega
  have H0 := Lib.hid b0
  have H1 := Lib.hid b1
  have HB2 := Lib.hid hb2
  have HRD := Lib.hid h
  have HBB := Lib.hid hB
  have HZ2 : RowKit.Hid (w.heap.size < w2.heap.size) := Lib.hid (by omega)
  have HZ3 : RowKit.Hid (w.heap.size + 2 ≤ w2.heap.size) := Lib.hid (by omega)
  have hz1b : (1 : Int) ≤ (a1.size : Int) := by omega
  have hz2b : (1 : Int) ≤ (a2.size : Int) := by omega
  have HFEW := Lib.hid hfew
  have HOW := Lib.hid h.x
  have HOL := Lib.hid (own_lt (g := w.heap.size) h.x (Nat.le_refl _))
  have HOL1 := Lib.hid (own_lt (g := w.heap.size + 1) h.x (Nat.le_succ _))
  have hm1 : p.seats.length + 1 ≤ maxLen := by unfold maxLen; omega
  have hm2 : (p.seats.length + 1) * 32 ≤ 140737488355328 := by omega
  have HM := Lib.hid (And.intro hm1 hm2)
  obtain ⟨i0, hi0, hz0, hsz0, hby0⟩ := place_tinfo
  generalize hsg : x.seg = sg at *
  generalize hpa : x.pax = pa at *
  generalize hrw : x.row = row at *
  generalize hcc : x.c = c at *
  have HXX : RowKit.Hid (x = ⟨sg, pa, row, c⟩) := Lib.hid (by rw [← hsg, ← hpa, ← hrw, ← hcc])
  clear hsg hpa hrw hcc hx1 hx2 hx3 hfew hm1 hm2 hz1a
  obtain ⟨pn, nn, cn, rfl⟩ := own_slice h.n
  obtain ⟨ps, ns, cs, rfl⟩ := own_slice h.s
  obtain ⟨pp, np, cp, rfl⟩ := own_slice h.ph
  obtain ⟨pr, nr, cr, rfl⟩ := own_slice h.rm
  obtain ⟨px, nx, cx, rfl⟩ := own_slice h.x
  obtain ⟨loc, off, names, segs, phones, tk, td, tm, recv, remarks, seats, queued⟩ := p
  unfold pnrC at H0 e2 ⊢
  have H1' := H1
  unfold zeroC at H1' e2
  simp only at H0 e2 HOW HM ⊢
  simp only [List.toArray] at e2
  clear b0 b1 hb2 h hB hgl hs2 hs3 hs4 hs5 hz2 H1' hLN
  go_enter Tryz.func34, Tryz.ntmps34
  go_upto_region 1 with fail
  try rw [e2]
  clear e2
  go_upto_region 34 with (first
    | (go_at_call 33; (with_reducible refine (HWD.out _).mono ?_); rintro e w3 ⟨⟨gw, cw, rfl, hcw⟩, hb3⟩; obtain ⟨c0, c1, c2, c3⟩ := hcw w3 (HiAgr.bel (Below.refl _ _)); have s3 : St w w3 w3 w2.heap.size _ := ⟨H0.out.mono hb3, H1.out.mono hb3, HiAgr.bel (Below.refl _ _), bel_trans HB2.out hb3, HZ2.out⟩; have HLE := Lib.hid hb3.size))
  have S3 := Lib.hid s3
  have k1 := cell_regrown c1
  have k2 := cell_regrown c2
  have cN1 : ∀ d os, Calls Tryz.prog 57 #[.string (a1.extract 1 a1.size)] (Go.Sort.grow (redrawn w3 d) os) fun e w'' => e = .returned (.int .i64 sg) ∧ Below (Go.Sort.grow (redrawn w3 d) os).heap.size (Go.Sort.grow (redrawn w3 d) os) w'' := fun d os => (HN1'.out _).mono fun e w'' ⟨h1, h2⟩ => ⟨h1, by rw [← h2]; exact Below.refl _ _⟩
  have cN2 : ∀ d os, Calls Tryz.prog 57 #[.string (a2.extract 1 a2.size)] (Go.Sort.grow (redrawn w3 d) os) fun e w'' => e = .returned (.int .i64 pa) ∧ Below (Go.Sort.grow (redrawn w3 d) os).heap.size (Go.Sort.grow (redrawn w3 d) os) w'' := fun d os => (HN2'.out _).mono fun e w'' ⟨h1, h2⟩ => ⟨h1, by rw [← h2]; exact Below.refl _ _⟩
  clear s3 hb3
  refine wp_region_cone 12 [(0, false), (1, false), (2, false), (3, false), (4, false), (5, false), (6, false), (7, false), (8, false), (9, false), (10, false), (11, true)] (by kernel_rfl) (by kernel_rfl) ?_
  simp only [ordO, List.map_cons, List.map_nil, List.getD_cons_zero, List.getD_cons_succ, List.drop_succ_cons, List.drop_zero]
  repeat (
    refine ord_quiet (fun K hK => ?_)
    go_simp
    first
      | (refine hK _ ?_; clear hK K)
      | (refine ⟨_, fun _ => up_val, hK _ ?_⟩; clear hK K)
      | (apply Exists.intro; refine ⟨fun _ => ?_, hK _ ?_⟩; (first | (with_reducible exact up_call (cN1 _ _)) | (with_reducible exact up_call (cN2 _ _))); clear hK K))
  refine ord_alloc (by rfl) (T := 72) [.int .i64 0, .int .i64 0, .int .i64 0, .int .u8 0] ?_ ?_
  · intro w
    go_simp
  intro wa hwa
  unfold wpOrd
  intro wq hwq
  have hbq : Below w3.heap.size w3 wq := bel_trans (hwa.bel.alloc hwa.bel.size (.cells #[.int .i64 0, .int .i64 0, .int .i64 0, .int .u8 0] 72)) hwq.bel
  have hkq : Blk wq wa.heap.size 72 [.int .i64 0, .int .i64 0, .int .i64 0, .int .u8 0] := (Blk.new wa 72 [.int .i64 0, .int .i64 0, .int .i64 0, .int .u8 0]).mono hwq.bel
  have S4 : RowKit.Hid (Sg w w3 wq w2.heap.size _ 72 wa.heap.size _) := Lib.hid ⟨S3.out.bel hbq, hkq, hwa.bel.size, HLE.out, HZ3.out⟩
  generalize wa.heap.size = gs at *
  clear k1 k2 cN1 cN2 hwa hwq hbq c0 c1 c2 c3
  go_upto_region 35 with (first
    | (refine wpList_store_blk rfl 72 (.tmp 9) (.tmp 179) rfl gs 72 _ [.int .i64 sg, .int .i64 pa, .int .i64 0, .int .u8 0] rfl rfl hkq rfl info_place (placeC_one (⟨sg, pa, 0, 0⟩ : PlaceT)) ?_; intro w5 hb5 hl5 hg5))
  have S5 := Lib.hid (S4.out.wr hb5 hg5)
  obtain ⟨c0, c1, c2, c3⟩ := hcw _ S5.out.s.a
  clear hkq hb5 hl5 hg5 S4
  go_upto_region 36 with (first
    | (go_at_call 60; (with_reducible refine (HRS.out _).mono ?_); rintro e w8 ⟨rfl, hb8⟩; have s8 := S5.out.bel hb8; have hk8 := s8.b)
    | (refine wpList_store_part rfl 46 (.tmp 187) (.tmp 185) rfl gs 2 72 _ [.int .i64 row, .int .u8 c.toNat] rfl rfl hk8 (by simp) info_seat3 (seatC_one3 _ _) ?_; intro w9 hb9 hl9 hg9))
  have S9 : RowKit.Hid (Sg w w3 w9 w2.heap.size _ 72 gs [.int .i64 sg, .int .i64 pa, .int .i64 row, .int .u8 c.toNat]) := Lib.hid (s8.wr hb9 hg9)
  clear s8 hb8 hk8 hb9 hl9 hg9 S5 c0 c1 c2 c3 hcw HN1' HN2' HRS
  have s9 := S9.out
  have hrg := s9.b.range
  have x4 : w9.cell? ⟨w.heap.size, 10, none⟩ = some (.slice px nx cx) := (s9.s.k.cell 10).trans rfl
  have hown : w9.ownsRow B 72 4 (.slice px nx cx) seats.length (seats.flatMap placeC) := own_mono HOW.out s9.s.b
  have hBw := Nat.le_trans HBB.out s9.s.b.size
  have hmm := HM.out
  have HRW := Lib.hid (RdP.mono HRD.out s9.s.b)
  clear s9
  go_upto_region 37 with (first
    | (refine wpList_load_mid rfl 72 (.tmp 9) rfl gs 0 rfl [.int .i64 sg, .int .i64 pa, .int .i64 row, .int .u8 c.toNat] _ hrg Tryz.underlying72 rfl info_place ?_)
    | (at_builtin; refine wpList_pushC rfl _ _ 27 rfl B 72 i0 _ 4 32 Tryz.underlying27 hi0 hz0 hsz0 hby0 rfl (by decide) (.slice px nx cx) _ _ rfl hown (placeC ⟨sg, pa, row, c⟩) rfl rfl (placeC_one _) hmm.1 hmm.2 hBw ?_; intro v4 w4 hown4 hb4 hgr4; obtain ⟨q4, m4, e4, rfl⟩ := own_slice hown4; have hk4 := (S9.out.s.k.alloc (.cells (placeC ⟨sg, pa, row, c⟩).toArray 72)).far hgr4 (fun e => by rcases HOL.out with k | k; (rw [k] at e; cases e); exact k e.symm); have y4 : w4.cell? ⟨w.heap.size, 10, none⟩ = some (.slice px nx cx) := (hk4.cell 10).trans rfl; have f4 := hk4.frozen 10))
  have hT4 := (S9.out.s.t.alloc (.cells (placeC ⟨sg, pa, row, c⟩).toArray 72)).far hgr4 (fun e => by rcases HOL1.out with k | k; (rw [k] at e; cases e); exact k e.symm)
  have HRD4 := Lib.hid (RdP.seats (S := ⟨sg, pa, row, c⟩) (HRW.out.mono ((Below.refl _ _).alloc (Nat.le_refl _) (.cells (placeC ⟨sg, pa, row, c⟩).toArray 72))) hgr4 hown4 HFEW.out)
  have HB4 : RowKit.Hid (Below B w w4) := Lib.hid ((below_le S9.out.s.b HBB.out).trans hb4)
  have HK4 := Lib.hid hk4
  have HT4 := Lib.hid hT4
  have hgS := gr_setCell1 (b := w.heap.size) (World.grownBy.refl w4 _) 10 (.slice q4 m4 e4)
  have hS := hk4.set 10 (.slice q4 m4 e4)
  have hrS := hS.range
  have hT := hT4.far hgS (fun e => by injection e with e; omega)
  have HN1 := Lib.hid (pnrC_one (x := ⟨loc, off, names, segs, phones, tk, td, tm, recv, remarks, seats, queued⟩) (p1 := pn) (n1 := nn) (c1 := cn) (p2 := ps) (n2 := ns) (c2 := cs) (p3 := pp) (n3 := np) (c3 := cp) (p4 := pr) (n4 := nr) (c4 := cr) (p5 := q4) (n5 := m4) (c5 := e4))
  clear hS hgS hk4 hT4 y4 f4 hown hown4 hb4 hgr4 x4 hmm hBw hrg
  go_wp2_with (first
    | (refine wpList_load_mid rfl 29 (.tmp 2) rfl w.heap.size 0 rfl _ _ hrS Tryz.underlying29 rfl info_pnr ?_)
    | (refine wpList_store_blk rfl 29 (.tmp 4) (.tmp 194) rfl (w.heap.size + 1) 29 _ [.string loc, .string off, .slice pn nn cn, .slice ps ns cs, .slice pp np cp, .int .i64 tk, .int .i64 td, .int .i64 tm, .string recv, .slice pr nr cr, .slice q4 m4 e4, .bool queued] rfl rfl hT rfl info_pnr HN1.out ?_; intro wz hbz hlz hgz))
  obtain ⟨k1, k2⟩ := rd_fin2 HRD4.out HB4.out HBB.out HK4.out HT4.out hgz
  rw [HXX.out]
  exact line_back rfl rfl rfl rfl hbz rfl k2 ⟨_, _, _, _, _, rfl, k1⟩
end Go.Proofs.YtmhhbnnjilbdnaaGreatDoor.Sh
