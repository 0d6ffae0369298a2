/- The lines of a PNR are read: Read. Printed by tools/gen_um.py. -/
import Derived.Test.YtmhhbnnjilbdnaaGreatDoorUL
namespace Go.Proofs.YtmhhbnnjilbdnaaGreatDoor.Sh
open Go.RowKit En Go.ChangeMaps
set_option linter.unusedSimpArgs false
set_option linter.unusedVariables false
set_option maxRecDepth 20000

/-- The boxes of the reader: the PNR's with the cells cs, the result's. -/
structure RS (w W : World) (cs : List Value) : Prop where
  k : Blk W (w.heap.size + 1) 29 cs
  t : Blk W w.heap.size 29 zeroC
  b : Below w.heap.size w W
theorem RS.bel {w W W' : World} {cs : List Value} (h : RS w W cs) (hb : Below W.heap.size W W') : RS w W' cs := ⟨h.k.mono hb, h.t.mono hb, bel_trans h.b hb⟩
theorem RS.keep {w W W' : World} {cs : List Value} (h : RS w W cs) (hb : Below (w.heap.size + 2) W W') : RS w W' cs := ⟨h.k.keep hb (by omega), h.t.keep hb (by omega), h.b.trans (below_le hb (by omega))⟩
theorem RS.wr {w W W' : World} {cs cs' : List Value} (h : RS w W cs) (hb : Blk W' (w.heap.size + 1) 29 cs') (hg : W.grownBy W' (some (w.heap.size + 1))) : RS w W' cs' :=
  ⟨hb, h.t.far hg (fun e => by injection e with e; omega), h.b.grown hg h.b.size (fun k hk => by injection hk with hk; omega)⟩
theorem RS.set {w W : World} {cs : List Value} (h : RS w W cs) (j : Nat) (u : Value) : RS w (W.setCell ⟨w.heap.size + 1, j, none⟩ u) (cs.set j u) :=
  h.wr (h.k.set j u) (gr_setCell1 (World.grownBy.refl _ _) j u)

theorem rd_nil (W : World) (B : Nat) (loc off : ByteArray) : RdP W B (baseP loc off) (.slice none 0 0) (.slice none 0 0) (.slice none 0 0) (.slice none 0 0) (.slice none 0 0) :=
  ⟨World.ownsRow_nil _ _ _ _, World.ownsRow_nil _ _ _ _, World.ownsRow_nil _ _ _ _, World.ownsRow_nil _ _ _ _, World.ownsRow_nil _ _ _ _, .inl rfl, ⟨Nat.zero_le _, Nat.zero_le _, Nat.zero_le _, Nat.zero_le _, Nat.zero_le _⟩⟩

/-- The texts in memory. -/
theorem txts_cells {w : World} {v : Value} {l : List ByteArray} (h : HasL w v l) (hne : 0 < l.length) : ∃ b off c, v = .slice (some ⟨b, off, none⟩) l.length c ∧ ∀ W, Below w.heap.size w W → ∀ k, k < l.length → W.cell? ⟨b, off + k, none⟩ = some (.string (l.getD k ByteArray.empty)) := by
  rcases h with ⟨_, _, _, rfl, _⟩ | ⟨b, off, c, e, _, _, h3⟩
  · simp at hne
  · exact ⟨b, off, c, e, fun W hW k hk => cell_bel hW (h3 k hk)⟩

set_option maxHeartbeats 32000000 in
theorem read_any (p : PnrT) (v : Value) (w : World) (hv : HasL w v (txtsP p)) (hs : SoundP p) (hf : FineP p) :
    Calls Tryz.prog 9 #[v] w fun e w' => ReadE p e w' ∧ Below w.heap.size w w' := by
  obtain ⟨w2, e2, b0, b1, hb2, hz2⟩ := boxes2 w zeroC
  have hcount := txts_count p
  have hcl := (txts_good hf).2.2.1
  obtain ⟨gb, off, cv, rfl, hcells⟩ := txts_cells hv (by omega)
  have HIT : RowKit.Hid (∀ k, k < (items p).length → ∃ it, (items p)[k]? = some it ∧ okI it ∧ (txtsP p).getD (k + 1) ByteArray.empty = mkB (lnI it)) := Lib.hid fun k hk => ⟨(items p)[k], List.getElem?_eq_getElem hk, items_ok hs _ (List.getElem_mem hk), txts_at (List.getElem?_eq_getElem hk)⟩
  have HCE : RowKit.Hid (∀ W, Below w.heap.size w W → ∀ k, k < (items p).length + 1 → W.cell? ⟨gb, off + k, none⟩ = some (.string ((txtsP p).getD k ByteArray.empty))) := Lib.hid fun W hW k hk => hcells W hW k (by omega)
  have HC0 : RowKit.Hid (∀ W, Below w.heap.size w W → W.cell? ⟨gb, off, none⟩ = some (.string (mkB (headLn p)))) := Lib.hid fun W hW => hcells W hW 0 (by omega)
  have hln := (head_ok hf).le
  have hln5 := head_len (p := p)
  have HWD : RowKit.Hid (∀ W, Calls Tryz.prog 33 #[.string (mkB (headLn p))] W fun e w' => (∃ g c, e = .returned (.slice (some ⟨g, 0, none⟩) 3 c) ∧ ∀ W', HiAgr W.heap.size w' W' → W'.cell? ⟨g, 1, none⟩ = some (.string (mkB (orL p.loc [78, 69, 87]))) ∧ W'.cell? ⟨g, 2, none⟩ = some (.string (mkB (orL p.off [45])))) ∧ Below W.heap.size W w') := Lib.hid fun W =>
    (words_at (ws := [[80, 78, 82], orL p.loc [78, 69, 87], orL p.off [45]]) (n := 3) (by simp) rfl ((congrArg wordsL (toL_mkB _)).trans (head_words hs)) (by rw [mkB_size]; omega) W).mono fun e w' ⟨⟨g, c, h1, h2⟩, h3⟩ => ⟨⟨g, c, h1, fun W' hW => ⟨h2 W' hW 1 _ rfl, h2 W' hW 2 _ rfl⟩⟩, h3⟩
  have HLI : RowKit.Hid (∀ (k : Nat) (it : It) vn vs vp vr vx W, (items p)[k]? = some it → okI it → RdP W (w.heap.size + 2) (partP p k) vn vs vp vr vx → w.heap.size + 2 ≤ W.heap.size → Calls Tryz.prog 34 #[.agg (pnrC (partP p k) vn vs vp vr vx).toArray, .string (mkB (lnI it))] W fun e w' => LineE (w.heap.size + 2) (partP p (k + 1)) e w' ∧ Below (w.heap.size + 2) W w') := Lib.hid fun k it vn vs vp vr vx W hk ho hr hz => by
    rw [part_step hk]
    have := part_cnt p k
    have hkl := (List.getElem?_eq_some_iff.1 hk).1
    exact line_item _ _ _ _ _ _ _ it W hr hz ho (by omega)
  have HALL : RowKit.Hid (partP p (items p).length = p) := Lib.hid (part_all hs)
  have HZERO : RowKit.Hid (partP p 0 = baseP p.loc p.off) := Lib.hid (part_zero p)
  have HPIN : RowKit.Hid (∀ W vn vs vp vr vx, RdP W (w.heap.size + 2) p vn vs vp vr vx → PIn W p vn vs vp vr vx) := Lib.hid fun W vn vs vp vr vx h => pin_of h hf
  have hlb := loc_back hs.loc
  have hob := off_back hs.off
  have hH : (4 : Int) < ((mkB (headLn p)).size : Int) := by rw [mkB_size]; omega
  rw [hcount] at hcl ⊢
  have hni : (items p).length ≤ 302 := by omega
  have hnn : (0 : Int) < (((items p).length + 1 : Nat) : Int) := by omega
  have H0 := Lib.hid b0
  have H1 := Lib.hid b1
  have HB2 := Lib.hid hb2
  have HZ2 := Lib.hid hz2
  generalize mkB (headLn p) = hd at *
  generalize (txtsP p) = TX at *
  generalize hIT : items p = IT at *
  generalize hNN : IT.length = NI at *
  generalize partP p = PP at *
  generalize hL1 : mkB (orL p.loc [78, 69, 87]) = l1 at *
  generalize hL2 : mkB (orL p.off [45]) = l2 at *
  have hk1 : ((l1.toList != [78, 69, 87]) = false ∧ p.loc = ⟨#[]⟩) ∨ ((l1.toList != [78, 69, 87]) = true ∧ l1 = p.loc) := by
    rcases hlb with ⟨k1, k2⟩ | ⟨k1, k2⟩
    · refine .inl ⟨?_, k2⟩
      rw [← hL1, k1, ByteArray.toList_eq]
      decide
    · refine .inr ⟨?_, ?_⟩
      · rw [← hL1, k1, bne_iff_ne, ByteArray.toList_eq, mkB_data]
        exact k2
      · rw [← hL1, k1, mkB_toL]
  have hk2 : ((l2.toList != [45]) = false ∧ p.off = ⟨#[]⟩) ∨ ((l2.toList != [45]) = true ∧ l2 = p.off) := by
    rcases hob with ⟨k1, k2⟩ | ⟨k1, k2⟩
    · refine .inl ⟨?_, k2⟩
      rw [← hL2, k1, ByteArray.toList_eq]
      decide
    · refine .inr ⟨?_, ?_⟩
      · rw [← hL2, k1, bne_iff_ne, ByteArray.toList_eq, mkB_data]
        exact k2
      · rw [← hL2, k1, mkB_toL]
  unfold zeroC at e2
  simp only [List.toArray] at e2
  clear b0 b1 hb2 hz2 hcount hcl hcells hv hs hf hln hln5 hlb hob hL1 hL2 hIT
  go_enter Tryz.func9, Tryz.ntmps9
  go_upto_region 2 with fail
  try rw [e2]
  clear e2
  have d0 := HC0.out w2 HB2.out
  go_upto_region 7 with (first
    | (go_at_call 33; (with_reducible refine (HWD.out _).mono ?_); rintro e w3 ⟨⟨gw, cw, rfl, hcw⟩, hb3⟩))
  obtain ⟨c1, c2⟩ := hcw w3 (HiAgr.bel (Below.refl _ _))
  have S3 : RowKit.Hid (RS w w3 zeroC) := Lib.hid ⟨H1.out.mono hb3, H0.out.mono hb3, bel_trans HB2.out hb3⟩
  have s3 := S3.out
  have x0 : w3.cell? ⟨w.heap.size + 1, 0, none⟩ = some (.string ⟨#[]⟩) := (s3.k.cell 0).trans rfl
  have f0 := s3.k.frozen 0
  clear d0 HWD hH
  rcases hk1 with ⟨hq1, hl1⟩ | ⟨hq1, hl1⟩ <;> rcases hk2 with ⟨hq2, hl2⟩ | ⟨hq2, hl2⟩
  · have HL1 := Lib.hid hl1
    have HL2 := Lib.hid hl2
    clear hl1 hl2
    have hr1 : (l1.toList == [78, 69, 87]) = true := by simpa using hq1
    have hr2 : (l2.toList == [45]) = true := by simpa using hq2
    go_upto_region 9 with fail
    have S4 : RowKit.Hid (RS w w3 zeroC) := S3
    have c2' := c2
    generalize w3 = w4 at *
    have s4 := S4.out
    clear c1 c2 x0 f0 s3 hcw S3
    have x1 : w4.cell? ⟨w.heap.size + 1, 1, none⟩ = some (.string ⟨#[]⟩) := (s4.k.cell 1).trans rfl
    have f1 := s4.k.frozen 1
    go_upto_region 11 with fail
    have S5 : RowKit.Hid (RS w w4 (zeroC)) := S4
    generalize w4 = w5 at *
    clear s4 S4 c2' x1 f1
    have S6 : RowKit.Hid (RS w w5 (pnrC (baseP p.loc p.off) (.slice none 0 0) (.slice none 0 0) (.slice none 0 0) (.slice none 0 0) (.slice none 0 0))) := Lib.hid (by
      have := S5.out
      rw [HL1.out]
      rw [HL2.out]
      exact this)
    clear S5
    clear hq1 hq2 hr1 hr2 HL1 HL2
    go_wp2_with fail
    go_loopg [5, 7] NI (fun g s5 s7 wr => ∃ (k : Nat) (vn vs vp vr vx : Value), k ≤ NI ∧ g = NI - k ∧ s7 = .int .i64 ((k + 1 : Nat) : Int) ∧ s5 = .bool true ∧ RS w wr (pnrC (PP k) vn vs vp vr vx) ∧ RdP wr (w.heap.size + 2) (PP k) vn vs vp vr vx ∧ w.heap.size + 2 ≤ wr.heap.size)
    case atStart => exact ⟨0, _, _, _, _, _, Nat.zero_le _, rfl, rfl, rfl, by rw [HZERO.out]; exact S6.out, by rw [HZERO.out]; exact rd_nil _ _ _ _, by have := Blk.lt S6.out.k; omega⟩
    case round =>
      obtain ⟨k, vn, vs, vp, vr, vx, hk, rfl, rfl, rfl, hS, hR, hz⟩ := hrel
      obtain ⟨pn, nn, cn, rfl⟩ := own_slice hR.n
      obtain ⟨ps, ns, cs, rfl⟩ := own_slice hR.s
      obtain ⟨pp, np, cp, rfl⟩ := own_slice hR.ph
      obtain ⟨pr, nr, cr, rfl⟩ := own_slice hR.rm
      obtain ⟨px, nx, cx, rfl⟩ := own_slice hR.x
      have HS := Lib.hid hS
      have HR := Lib.hid hR
      have hrg := hS.k.range
      clear hS hR
      by_cases hlt : k < NI
      · obtain ⟨it, hit, hok, htx⟩ := HIT.out k hlt
        have hki : ((k + 1 : Nat) : Int) < ((NI + 1 : Nat) : Int) := by omega
        have hk0 : (0 : Int) ≤ ((k + 1 : Nat) : Int) := by omega
        have hcell := HCE.out wr HS.out.b (k + 1) (by omega)
        rw [htx] at hcell
        have HLN : RowKit.Hid (∀ W, Below wr.heap.size wr W → Calls Tryz.prog 34 #[.agg (pnrC (PP k) (.slice pn nn cn) (.slice ps ns cs) (.slice pp np cp) (.slice pr nr cr) (.slice px nx cx)).toArray, .string (mkB (lnI it))] W fun e w' => LineE (w.heap.size + 2) (PP (k + 1)) e w' ∧ Below (w.heap.size + 2) W w') := Lib.hid fun W hW => HLI.out k it _ _ _ _ _ W hit hok (HR.out.mono hW) (Nat.le_trans hz hW.size)
        clear hit hok htx
        generalize mkB (lnI it) = ls at *
        obtain ⟨k1, hk1⟩ : ∃ x, x = k + 1 := ⟨_, rfl⟩
        rw [← hk1] at hki hk0 hcell HLN ⊢
        have HK1 := Lib.hid hk1
        have HPQ := Lib.hid (rfl : PP k1 = PP k1)
        have hS := HS.out
        generalize PP k = q at *
        generalize hqq : PP k1 = qn at HLN HPQ
        have HQN := Lib.hid hqq
        unfold pnrC at hS
        have x0 := (hS.k.cell 0).trans rfl
        have x1 := (hS.k.cell 1).trans rfl
        have x2 := (hS.k.cell 2).trans rfl
        have x3 := (hS.k.cell 3).trans rfl
        have x4 := (hS.k.cell 4).trans rfl
        have x5 := (hS.k.cell 5).trans rfl
        have x6 := (hS.k.cell 6).trans rfl
        have x7 := (hS.k.cell 7).trans rfl
        have x8 := (hS.k.cell 8).trans rfl
        have x9 := (hS.k.cell 9).trans rfl
        have x10 := (hS.k.cell 10).trans rfl
        have x11 := (hS.k.cell 11).trans rfl
        have hkn : k1 < NI + 1 := by omega
        clear hk1 hqq hS hrg
        go_upto_region 14 with fail
        have hbd : Below wr.heap.size wr wr.drew := (Below.refl _ _).drew
        have HLD := Lib.hid (HLN.out _ hbd)
        have HSD := Lib.hid (HS.out.bel hbd)
        unfold pnrC at HLD
        go_region_law (first
          | (go_simp; go_at_call 34; (with_reducible refine HLD.out.mono ?_); rintro e w6 ⟨⟨un, us, up, ur, ux, rfl, hR6⟩, hb6⟩; obtain ⟨pn6, nn6, cn6, rfl⟩ := own_slice hR6.n; obtain ⟨ps6, ns6, cs6, rfl⟩ := own_slice hR6.s; obtain ⟨pp6, np6, cp6, rfl⟩ := own_slice hR6.ph; obtain ⟨pr6, nr6, cr6, rfl⟩ := own_slice hR6.rm; obtain ⟨px6, nx6, cx6, rfl⟩ := own_slice hR6.x; have s6 := HSD.out.keep hb6; have hS6 := s6.k; unfold pnrC at hS6; have z0 := (hS6.cell 0).trans rfl; have z1 := (hS6.cell 1).trans rfl; have z2 := (hS6.cell 2).trans rfl; have z3 := (hS6.cell 3).trans rfl; have z4 := (hS6.cell 4).trans rfl; have z5 := (hS6.cell 5).trans rfl; have z6 := (hS6.cell 6).trans rfl; have z7 := (hS6.cell 7).trans rfl; have z8 := (hS6.cell 8).trans rfl; have z9 := (hS6.cell 9).trans rfl; have z10 := (hS6.cell 10).trans rfl; have z11 := (hS6.cell 11).trans rfl; have hfz : ∀ j, w6.frozen? ⟨w.heap.size + 1, j, none⟩ = false := fun j => hS6.frozen j; unfold pnrC))
        all_goals (
          have hfin := HSD.out
          have hS9 := s6.wr (cs' := pnrC qn (.slice pn6 nn6 cn6) (.slice ps6 ns6 cs6) (.slice pp6 np6 cp6) (.slice pr6 nr6 cr6) (.slice px6 nx6 cx6)) ((((((((((((hS6.set 0 (.string qn.loc)).set 1 (.string qn.off)).set 2 (.slice pn6 nn6 cn6)).set 3 (.slice ps6 ns6 cs6)).set 4 (.slice pp6 np6 cp6)).set 5 (.int .i64 qn.tk)).set 6 (.int .i64 qn.td)).set 7 (.int .i64 qn.tm)).set 8 (.string qn.recv)).set 9 (.slice pr6 nr6 cr6)).set 10 (.slice px6 nx6 cx6)).set 11 (.bool qn.queued)) (gr_setCell1 (b := w.heap.size + 1) (gr_setCell1 (b := w.heap.size + 1) (gr_setCell1 (b := w.heap.size + 1) (gr_setCell1 (b := w.heap.size + 1) (gr_setCell1 (b := w.heap.size + 1) (gr_setCell1 (b := w.heap.size + 1) (gr_setCell1 (b := w.heap.size + 1) (gr_setCell1 (b := w.heap.size + 1) (gr_setCell1 (b := w.heap.size + 1) (gr_setCell1 (b := w.heap.size + 1) (gr_setCell1 (b := w.heap.size + 1) (gr_setCell1 (b := w.heap.size + 1) (World.grownBy.refl w6 _) 0 (.string qn.loc)) 1 (.string qn.off)) 2 (.slice pn6 nn6 cn6)) 3 (.slice ps6 ns6 cs6)) 4 (.slice pp6 np6 cp6)) 5 (.int .i64 qn.tk)) 6 (.int .i64 qn.td)) 7 (.int .i64 qn.tm)) 8 (.string qn.recv)) 9 (.slice pr6 nr6 cr6)) 10 (.slice px6 nx6 cx6)) 11 (.bool qn.queued))
          have hR9 := hR6.box s6.k (gr_setCell1 (b := w.heap.size + 1) (gr_setCell1 (b := w.heap.size + 1) (gr_setCell1 (b := w.heap.size + 1) (gr_setCell1 (b := w.heap.size + 1) (gr_setCell1 (b := w.heap.size + 1) (gr_setCell1 (b := w.heap.size + 1) (gr_setCell1 (b := w.heap.size + 1) (gr_setCell1 (b := w.heap.size + 1) (gr_setCell1 (b := w.heap.size + 1) (gr_setCell1 (b := w.heap.size + 1) (gr_setCell1 (b := w.heap.size + 1) (gr_setCell1 (b := w.heap.size + 1) (World.grownBy.refl w6 _) 0 (.string qn.loc)) 1 (.string qn.off)) 2 (.slice pn6 nn6 cn6)) 3 (.slice ps6 ns6 cs6)) 4 (.slice pp6 np6 cp6)) 5 (.int .i64 qn.tk)) 6 (.int .i64 qn.td)) 7 (.int .i64 qn.tm)) 8 (.string qn.recv)) 9 (.slice pr6 nr6 cr6)) 10 (.slice px6 nx6 cx6)) 11 (.bool qn.queued))
          have hz9 := hS9.b.size
          have HS9 := Lib.hid hS9
          have HR9 := Lib.hid hR9
          have hzz : w.heap.size + 2 ≤ wr.drew.heap.size := by have := Blk.lt HSD.out.k; omega
          have HZ9 := Lib.hid (Nat.le_trans hzz hb6.size)
          clear z0 z1 z2 z3 z4 z5 z6 z7 z8 z9 z10 z11 hfz hS6 s6 hR6 hS9 hR9 hfin x0 x1 x2 x3 x4 x5 x6 x7 x8 x9 x10 x11 hcell
          go_wp2
          go_roundg (NI - k1)
          case measure => have := HK1.out; omega
          case rel => exact ⟨k1, _, _, _, _, _, by have := HK1.out; omega, rfl, by go_num, rfl, by rw [HQN.out]; exact HS9.out, by rw [HQN.out]; exact HR9.out, by have := Blk.lt HS9.out.k; omega⟩)
      · have hkN : k = NI := by omega
        subst hkN
        have hki : ¬ ((k + 1 : Nat) : Int) < ((k + 1 : Nat) : Int) := by omega
        rw [HALL.out] at HS HR hrg
        unfold pnrC at hrg
        have hT := HS.out.t
        have HN1 := Lib.hid (pnrC_one (x := p) (p1 := pn) (n1 := nn) (c1 := cn) (p2 := ps) (n2 := ns) (c2 := cs) (p3 := pp) (n3 := np) (c3 := cp) (p4 := pr) (n4 := nr) (c4 := cr) (p5 := px) (n5 := nx) (c5 := cx))
        go_wp2_with (first
          | (refine wpList_load_mid rfl 29 (.tmp 4) rfl (w.heap.size + 1) 0 rfl _ _ hrg Tryz.underlying29 rfl info_pnr ?_)
          | (refine wpList_store_blk rfl 29 (.tmp 2) (.tmp 68) rfl w.heap.size 29 _ [.string p.loc, .string p.off, .slice pn nn cn, .slice ps ns cs, .slice pp np cp, .int .i64 p.tk, .int .i64 p.td, .int .i64 p.tm, .string p.recv, .slice pr nr cr, .slice px nx cx, .bool p.queued] rfl rfl hT rfl info_pnr HN1.out ?_; intro wz hbz hlz hgz))
        exact read_back rfl rfl rfl rfl hbz rfl (HS.out.b.grown hgz HS.out.b.size (fun k hk => by injection hk with hk; omega)) ⟨_, _, _, _, _, rfl, HPIN.out _ _ _ _ _ _ (HR.out.box HS.out.t hgz)⟩
  · have HL1 := Lib.hid hl1
    have HL2 := Lib.hid hl2
    clear hl1 hl2
    have hr1 : (l1.toList == [78, 69, 87]) = true := by simpa using hq1
    have hr2 : (l2.toList == [45]) = false := by simpa using hq2
    go_upto_region 9 with fail
    have S4 : RowKit.Hid (RS w w3 zeroC) := S3
    have c2' := c2
    generalize w3 = w4 at *
    have s4 := S4.out
    clear c1 c2 x0 f0 s3 hcw S3
    have x1 : w4.cell? ⟨w.heap.size + 1, 1, none⟩ = some (.string ⟨#[]⟩) := (s4.k.cell 1).trans rfl
    have f1 := s4.k.frozen 1
    go_upto_region 11 with fail
    have S5 : RowKit.Hid (RS w (w4.setCell ⟨w.heap.size + 1, 1, none⟩ (.string l2)) ((zeroC).set 1 (.string l2))) := Lib.hid (s4.set 1 _)
    generalize w4.setCell ⟨w.heap.size + 1, 1, none⟩ (.string l2) = w5 at *
    clear s4 S4 c2' x1 f1
    have S6 : RowKit.Hid (RS w w5 (pnrC (baseP p.loc p.off) (.slice none 0 0) (.slice none 0 0) (.slice none 0 0) (.slice none 0 0) (.slice none 0 0))) := Lib.hid (by
      have := S5.out
      rw [HL1.out]
      rw [HL2.out] at this
      exact this)
    clear S5
    clear hq1 hq2 hr1 hr2 HL1 HL2
    go_wp2_with fail
    go_loopg [5, 7] NI (fun g s5 s7 wr => ∃ (k : Nat) (vn vs vp vr vx : Value), k ≤ NI ∧ g = NI - k ∧ s7 = .int .i64 ((k + 1 : Nat) : Int) ∧ s5 = .bool true ∧ RS w wr (pnrC (PP k) vn vs vp vr vx) ∧ RdP wr (w.heap.size + 2) (PP k) vn vs vp vr vx ∧ w.heap.size + 2 ≤ wr.heap.size)
    case atStart => exact ⟨0, _, _, _, _, _, Nat.zero_le _, rfl, rfl, rfl, by rw [HZERO.out]; exact S6.out, by rw [HZERO.out]; exact rd_nil _ _ _ _, by have := Blk.lt S6.out.k; omega⟩
    case round =>
      obtain ⟨k, vn, vs, vp, vr, vx, hk, rfl, rfl, rfl, hS, hR, hz⟩ := hrel
      obtain ⟨pn, nn, cn, rfl⟩ := own_slice hR.n
      obtain ⟨ps, ns, cs, rfl⟩ := own_slice hR.s
      obtain ⟨pp, np, cp, rfl⟩ := own_slice hR.ph
      obtain ⟨pr, nr, cr, rfl⟩ := own_slice hR.rm
      obtain ⟨px, nx, cx, rfl⟩ := own_slice hR.x
      have HS := Lib.hid hS
      have HR := Lib.hid hR
      have hrg := hS.k.range
      clear hS hR
      by_cases hlt : k < NI
      · obtain ⟨it, hit, hok, htx⟩ := HIT.out k hlt
        have hki : ((k + 1 : Nat) : Int) < ((NI + 1 : Nat) : Int) := by omega
        have hk0 : (0 : Int) ≤ ((k + 1 : Nat) : Int) := by omega
        have hcell := HCE.out wr HS.out.b (k + 1) (by omega)
        rw [htx] at hcell
        have HLN : RowKit.Hid (∀ W, Below wr.heap.size wr W → Calls Tryz.prog 34 #[.agg (pnrC (PP k) (.slice pn nn cn) (.slice ps ns cs) (.slice pp np cp) (.slice pr nr cr) (.slice px nx cx)).toArray, .string (mkB (lnI it))] W fun e w' => LineE (w.heap.size + 2) (PP (k + 1)) e w' ∧ Below (w.heap.size + 2) W w') := Lib.hid fun W hW => HLI.out k it _ _ _ _ _ W hit hok (HR.out.mono hW) (Nat.le_trans hz hW.size)
        clear hit hok htx
        generalize mkB (lnI it) = ls at *
        obtain ⟨k1, hk1⟩ : ∃ x, x = k + 1 := ⟨_, rfl⟩
        rw [← hk1] at hki hk0 hcell HLN ⊢
        have HK1 := Lib.hid hk1
        have HPQ := Lib.hid (rfl : PP k1 = PP k1)
        have hS := HS.out
        generalize PP k = q at *
        generalize hqq : PP k1 = qn at HLN HPQ
        have HQN := Lib.hid hqq
        unfold pnrC at hS
        have x0 := (hS.k.cell 0).trans rfl
        have x1 := (hS.k.cell 1).trans rfl
        have x2 := (hS.k.cell 2).trans rfl
        have x3 := (hS.k.cell 3).trans rfl
        have x4 := (hS.k.cell 4).trans rfl
        have x5 := (hS.k.cell 5).trans rfl
        have x6 := (hS.k.cell 6).trans rfl
        have x7 := (hS.k.cell 7).trans rfl
        have x8 := (hS.k.cell 8).trans rfl
        have x9 := (hS.k.cell 9).trans rfl
        have x10 := (hS.k.cell 10).trans rfl
        have x11 := (hS.k.cell 11).trans rfl
        have hkn : k1 < NI + 1 := by omega
        clear hk1 hqq hS hrg
        go_upto_region 14 with fail
        have hbd : Below wr.heap.size wr wr.drew := (Below.refl _ _).drew
        have HLD := Lib.hid (HLN.out _ hbd)
        have HSD := Lib.hid (HS.out.bel hbd)
        unfold pnrC at HLD
        go_region_law (first
          | (go_simp; go_at_call 34; (with_reducible refine HLD.out.mono ?_); rintro e w6 ⟨⟨un, us, up, ur, ux, rfl, hR6⟩, hb6⟩; obtain ⟨pn6, nn6, cn6, rfl⟩ := own_slice hR6.n; obtain ⟨ps6, ns6, cs6, rfl⟩ := own_slice hR6.s; obtain ⟨pp6, np6, cp6, rfl⟩ := own_slice hR6.ph; obtain ⟨pr6, nr6, cr6, rfl⟩ := own_slice hR6.rm; obtain ⟨px6, nx6, cx6, rfl⟩ := own_slice hR6.x; have s6 := HSD.out.keep hb6; have hS6 := s6.k; unfold pnrC at hS6; have z0 := (hS6.cell 0).trans rfl; have z1 := (hS6.cell 1).trans rfl; have z2 := (hS6.cell 2).trans rfl; have z3 := (hS6.cell 3).trans rfl; have z4 := (hS6.cell 4).trans rfl; have z5 := (hS6.cell 5).trans rfl; have z6 := (hS6.cell 6).trans rfl; have z7 := (hS6.cell 7).trans rfl; have z8 := (hS6.cell 8).trans rfl; have z9 := (hS6.cell 9).trans rfl; have z10 := (hS6.cell 10).trans rfl; have z11 := (hS6.cell 11).trans rfl; have hfz : ∀ j, w6.frozen? ⟨w.heap.size + 1, j, none⟩ = false := fun j => hS6.frozen j; unfold pnrC))
        all_goals (
          have hfin := HSD.out
          have hS9 := s6.wr (cs' := pnrC qn (.slice pn6 nn6 cn6) (.slice ps6 ns6 cs6) (.slice pp6 np6 cp6) (.slice pr6 nr6 cr6) (.slice px6 nx6 cx6)) ((((((((((((hS6.set 0 (.string qn.loc)).set 1 (.string qn.off)).set 2 (.slice pn6 nn6 cn6)).set 3 (.slice ps6 ns6 cs6)).set 4 (.slice pp6 np6 cp6)).set 5 (.int .i64 qn.tk)).set 6 (.int .i64 qn.td)).set 7 (.int .i64 qn.tm)).set 8 (.string qn.recv)).set 9 (.slice pr6 nr6 cr6)).set 10 (.slice px6 nx6 cx6)).set 11 (.bool qn.queued)) (gr_setCell1 (b := w.heap.size + 1) (gr_setCell1 (b := w.heap.size + 1) (gr_setCell1 (b := w.heap.size + 1) (gr_setCell1 (b := w.heap.size + 1) (gr_setCell1 (b := w.heap.size + 1) (gr_setCell1 (b := w.heap.size + 1) (gr_setCell1 (b := w.heap.size + 1) (gr_setCell1 (b := w.heap.size + 1) (gr_setCell1 (b := w.heap.size + 1) (gr_setCell1 (b := w.heap.size + 1) (gr_setCell1 (b := w.heap.size + 1) (gr_setCell1 (b := w.heap.size + 1) (World.grownBy.refl w6 _) 0 (.string qn.loc)) 1 (.string qn.off)) 2 (.slice pn6 nn6 cn6)) 3 (.slice ps6 ns6 cs6)) 4 (.slice pp6 np6 cp6)) 5 (.int .i64 qn.tk)) 6 (.int .i64 qn.td)) 7 (.int .i64 qn.tm)) 8 (.string qn.recv)) 9 (.slice pr6 nr6 cr6)) 10 (.slice px6 nx6 cx6)) 11 (.bool qn.queued))
          have hR9 := hR6.box s6.k (gr_setCell1 (b := w.heap.size + 1) (gr_setCell1 (b := w.heap.size + 1) (gr_setCell1 (b := w.heap.size + 1) (gr_setCell1 (b := w.heap.size + 1) (gr_setCell1 (b := w.heap.size + 1) (gr_setCell1 (b := w.heap.size + 1) (gr_setCell1 (b := w.heap.size + 1) (gr_setCell1 (b := w.heap.size + 1) (gr_setCell1 (b := w.heap.size + 1) (gr_setCell1 (b := w.heap.size + 1) (gr_setCell1 (b := w.heap.size + 1) (gr_setCell1 (b := w.heap.size + 1) (World.grownBy.refl w6 _) 0 (.string qn.loc)) 1 (.string qn.off)) 2 (.slice pn6 nn6 cn6)) 3 (.slice ps6 ns6 cs6)) 4 (.slice pp6 np6 cp6)) 5 (.int .i64 qn.tk)) 6 (.int .i64 qn.td)) 7 (.int .i64 qn.tm)) 8 (.string qn.recv)) 9 (.slice pr6 nr6 cr6)) 10 (.slice px6 nx6 cx6)) 11 (.bool qn.queued))
          have hz9 := hS9.b.size
          have HS9 := Lib.hid hS9
          have HR9 := Lib.hid hR9
          have hzz : w.heap.size + 2 ≤ wr.drew.heap.size := by have := Blk.lt HSD.out.k; omega
          have HZ9 := Lib.hid (Nat.le_trans hzz hb6.size)
          clear z0 z1 z2 z3 z4 z5 z6 z7 z8 z9 z10 z11 hfz hS6 s6 hR6 hS9 hR9 hfin x0 x1 x2 x3 x4 x5 x6 x7 x8 x9 x10 x11 hcell
          go_wp2
          go_roundg (NI - k1)
          case measure => have := HK1.out; omega
          case rel => exact ⟨k1, _, _, _, _, _, by have := HK1.out; omega, rfl, by go_num, rfl, by rw [HQN.out]; exact HS9.out, by rw [HQN.out]; exact HR9.out, by have := Blk.lt HS9.out.k; omega⟩)
      · have hkN : k = NI := by omega
        subst hkN
        have hki : ¬ ((k + 1 : Nat) : Int) < ((k + 1 : Nat) : Int) := by omega
        rw [HALL.out] at HS HR hrg
        unfold pnrC at hrg
        have hT := HS.out.t
        have HN1 := Lib.hid (pnrC_one (x := p) (p1 := pn) (n1 := nn) (c1 := cn) (p2 := ps) (n2 := ns) (c2 := cs) (p3 := pp) (n3 := np) (c3 := cp) (p4 := pr) (n4 := nr) (c4 := cr) (p5 := px) (n5 := nx) (c5 := cx))
        go_wp2_with (first
          | (refine wpList_load_mid rfl 29 (.tmp 4) rfl (w.heap.size + 1) 0 rfl _ _ hrg Tryz.underlying29 rfl info_pnr ?_)
          | (refine wpList_store_blk rfl 29 (.tmp 2) (.tmp 68) rfl w.heap.size 29 _ [.string p.loc, .string p.off, .slice pn nn cn, .slice ps ns cs, .slice pp np cp, .int .i64 p.tk, .int .i64 p.td, .int .i64 p.tm, .string p.recv, .slice pr nr cr, .slice px nx cx, .bool p.queued] rfl rfl hT rfl info_pnr HN1.out ?_; intro wz hbz hlz hgz))
        exact read_back rfl rfl rfl rfl hbz rfl (HS.out.b.grown hgz HS.out.b.size (fun k hk => by injection hk with hk; omega)) ⟨_, _, _, _, _, rfl, HPIN.out _ _ _ _ _ _ (HR.out.box HS.out.t hgz)⟩
  · have HL1 := Lib.hid hl1
    have HL2 := Lib.hid hl2
    clear hl1 hl2
    have hr1 : (l1.toList == [78, 69, 87]) = false := by simpa using hq1
    have hr2 : (l2.toList == [45]) = true := by simpa using hq2
    go_upto_region 9 with fail
    have S4 : RowKit.Hid (RS w (w3.setCell ⟨w.heap.size + 1, 0, none⟩ (.string l1)) (zeroC.set 0 (.string l1))) := Lib.hid (s3.set 0 _)
    have c2' := (hcw _ (HiAgr.gr (gr_setCell1 (b := w.heap.size + 1) (World.grownBy.refl w3 _) 0 (.string l1)) (by have := HZ2.out; omega))).2
    generalize w3.setCell ⟨w.heap.size + 1, 0, none⟩ (.string l1) = w4 at *
    have s4 := S4.out
    clear c1 c2 x0 f0 s3 hcw S3
    have x1 : w4.cell? ⟨w.heap.size + 1, 1, none⟩ = some (.string ⟨#[]⟩) := (s4.k.cell 1).trans rfl
    have f1 := s4.k.frozen 1
    go_upto_region 11 with fail
    have S5 : RowKit.Hid (RS w w4 (zeroC.set 0 (.string l1))) := S4
    generalize w4 = w5 at *
    clear s4 S4 c2' x1 f1
    have S6 : RowKit.Hid (RS w w5 (pnrC (baseP p.loc p.off) (.slice none 0 0) (.slice none 0 0) (.slice none 0 0) (.slice none 0 0) (.slice none 0 0))) := Lib.hid (by
      have := S5.out
      rw [HL1.out] at this
      rw [HL2.out]
      exact this)
    clear S5
    clear hq1 hq2 hr1 hr2 HL1 HL2
    go_wp2_with fail
    go_loopg [5, 7] NI (fun g s5 s7 wr => ∃ (k : Nat) (vn vs vp vr vx : Value), k ≤ NI ∧ g = NI - k ∧ s7 = .int .i64 ((k + 1 : Nat) : Int) ∧ s5 = .bool true ∧ RS w wr (pnrC (PP k) vn vs vp vr vx) ∧ RdP wr (w.heap.size + 2) (PP k) vn vs vp vr vx ∧ w.heap.size + 2 ≤ wr.heap.size)
    case atStart => exact ⟨0, _, _, _, _, _, Nat.zero_le _, rfl, rfl, rfl, by rw [HZERO.out]; exact S6.out, by rw [HZERO.out]; exact rd_nil _ _ _ _, by have := Blk.lt S6.out.k; omega⟩
    case round =>
      obtain ⟨k, vn, vs, vp, vr, vx, hk, rfl, rfl, rfl, hS, hR, hz⟩ := hrel
      obtain ⟨pn, nn, cn, rfl⟩ := own_slice hR.n
      obtain ⟨ps, ns, cs, rfl⟩ := own_slice hR.s
      obtain ⟨pp, np, cp, rfl⟩ := own_slice hR.ph
      obtain ⟨pr, nr, cr, rfl⟩ := own_slice hR.rm
      obtain ⟨px, nx, cx, rfl⟩ := own_slice hR.x
      have HS := Lib.hid hS
      have HR := Lib.hid hR
      have hrg := hS.k.range
      clear hS hR
      by_cases hlt : k < NI
      · obtain ⟨it, hit, hok, htx⟩ := HIT.out k hlt
        have hki : ((k + 1 : Nat) : Int) < ((NI + 1 : Nat) : Int) := by omega
        have hk0 : (0 : Int) ≤ ((k + 1 : Nat) : Int) := by omega
        have hcell := HCE.out wr HS.out.b (k + 1) (by omega)
        rw [htx] at hcell
        have HLN : RowKit.Hid (∀ W, Below wr.heap.size wr W → Calls Tryz.prog 34 #[.agg (pnrC (PP k) (.slice pn nn cn) (.slice ps ns cs) (.slice pp np cp) (.slice pr nr cr) (.slice px nx cx)).toArray, .string (mkB (lnI it))] W fun e w' => LineE (w.heap.size + 2) (PP (k + 1)) e w' ∧ Below (w.heap.size + 2) W w') := Lib.hid fun W hW => HLI.out k it _ _ _ _ _ W hit hok (HR.out.mono hW) (Nat.le_trans hz hW.size)
        clear hit hok htx
        generalize mkB (lnI it) = ls at *
        obtain ⟨k1, hk1⟩ : ∃ x, x = k + 1 := ⟨_, rfl⟩
        rw [← hk1] at hki hk0 hcell HLN ⊢
        have HK1 := Lib.hid hk1
        have HPQ := Lib.hid (rfl : PP k1 = PP k1)
        have hS := HS.out
        generalize PP k = q at *
        generalize hqq : PP k1 = qn at HLN HPQ
        have HQN := Lib.hid hqq
        unfold pnrC at hS
        have x0 := (hS.k.cell 0).trans rfl
        have x1 := (hS.k.cell 1).trans rfl
        have x2 := (hS.k.cell 2).trans rfl
        have x3 := (hS.k.cell 3).trans rfl
        have x4 := (hS.k.cell 4).trans rfl
        have x5 := (hS.k.cell 5).trans rfl
        have x6 := (hS.k.cell 6).trans rfl
        have x7 := (hS.k.cell 7).trans rfl
        have x8 := (hS.k.cell 8).trans rfl
        have x9 := (hS.k.cell 9).trans rfl
        have x10 := (hS.k.cell 10).trans rfl
        have x11 := (hS.k.cell 11).trans rfl
        have hkn : k1 < NI + 1 := by omega
        clear hk1 hqq hS hrg
        go_upto_region 14 with fail
        have hbd : Below wr.heap.size wr wr.drew := (Below.refl _ _).drew
        have HLD := Lib.hid (HLN.out _ hbd)
        have HSD := Lib.hid (HS.out.bel hbd)
        unfold pnrC at HLD
        go_region_law (first
          | (go_simp; go_at_call 34; (with_reducible refine HLD.out.mono ?_); rintro e w6 ⟨⟨un, us, up, ur, ux, rfl, hR6⟩, hb6⟩; obtain ⟨pn6, nn6, cn6, rfl⟩ := own_slice hR6.n; obtain ⟨ps6, ns6, cs6, rfl⟩ := own_slice hR6.s; obtain ⟨pp6, np6, cp6, rfl⟩ := own_slice hR6.ph; obtain ⟨pr6, nr6, cr6, rfl⟩ := own_slice hR6.rm; obtain ⟨px6, nx6, cx6, rfl⟩ := own_slice hR6.x; have s6 := HSD.out.keep hb6; have hS6 := s6.k; unfold pnrC at hS6; have z0 := (hS6.cell 0).trans rfl; have z1 := (hS6.cell 1).trans rfl; have z2 := (hS6.cell 2).trans rfl; have z3 := (hS6.cell 3).trans rfl; have z4 := (hS6.cell 4).trans rfl; have z5 := (hS6.cell 5).trans rfl; have z6 := (hS6.cell 6).trans rfl; have z7 := (hS6.cell 7).trans rfl; have z8 := (hS6.cell 8).trans rfl; have z9 := (hS6.cell 9).trans rfl; have z10 := (hS6.cell 10).trans rfl; have z11 := (hS6.cell 11).trans rfl; have hfz : ∀ j, w6.frozen? ⟨w.heap.size + 1, j, none⟩ = false := fun j => hS6.frozen j; unfold pnrC))
        all_goals (
          have hfin := HSD.out
          have hS9 := s6.wr (cs' := pnrC qn (.slice pn6 nn6 cn6) (.slice ps6 ns6 cs6) (.slice pp6 np6 cp6) (.slice pr6 nr6 cr6) (.slice px6 nx6 cx6)) ((((((((((((hS6.set 0 (.string qn.loc)).set 1 (.string qn.off)).set 2 (.slice pn6 nn6 cn6)).set 3 (.slice ps6 ns6 cs6)).set 4 (.slice pp6 np6 cp6)).set 5 (.int .i64 qn.tk)).set 6 (.int .i64 qn.td)).set 7 (.int .i64 qn.tm)).set 8 (.string qn.recv)).set 9 (.slice pr6 nr6 cr6)).set 10 (.slice px6 nx6 cx6)).set 11 (.bool qn.queued)) (gr_setCell1 (b := w.heap.size + 1) (gr_setCell1 (b := w.heap.size + 1) (gr_setCell1 (b := w.heap.size + 1) (gr_setCell1 (b := w.heap.size + 1) (gr_setCell1 (b := w.heap.size + 1) (gr_setCell1 (b := w.heap.size + 1) (gr_setCell1 (b := w.heap.size + 1) (gr_setCell1 (b := w.heap.size + 1) (gr_setCell1 (b := w.heap.size + 1) (gr_setCell1 (b := w.heap.size + 1) (gr_setCell1 (b := w.heap.size + 1) (gr_setCell1 (b := w.heap.size + 1) (World.grownBy.refl w6 _) 0 (.string qn.loc)) 1 (.string qn.off)) 2 (.slice pn6 nn6 cn6)) 3 (.slice ps6 ns6 cs6)) 4 (.slice pp6 np6 cp6)) 5 (.int .i64 qn.tk)) 6 (.int .i64 qn.td)) 7 (.int .i64 qn.tm)) 8 (.string qn.recv)) 9 (.slice pr6 nr6 cr6)) 10 (.slice px6 nx6 cx6)) 11 (.bool qn.queued))
          have hR9 := hR6.box s6.k (gr_setCell1 (b := w.heap.size + 1) (gr_setCell1 (b := w.heap.size + 1) (gr_setCell1 (b := w.heap.size + 1) (gr_setCell1 (b := w.heap.size + 1) (gr_setCell1 (b := w.heap.size + 1) (gr_setCell1 (b := w.heap.size + 1) (gr_setCell1 (b := w.heap.size + 1) (gr_setCell1 (b := w.heap.size + 1) (gr_setCell1 (b := w.heap.size + 1) (gr_setCell1 (b := w.heap.size + 1) (gr_setCell1 (b := w.heap.size + 1) (gr_setCell1 (b := w.heap.size + 1) (World.grownBy.refl w6 _) 0 (.string qn.loc)) 1 (.string qn.off)) 2 (.slice pn6 nn6 cn6)) 3 (.slice ps6 ns6 cs6)) 4 (.slice pp6 np6 cp6)) 5 (.int .i64 qn.tk)) 6 (.int .i64 qn.td)) 7 (.int .i64 qn.tm)) 8 (.string qn.recv)) 9 (.slice pr6 nr6 cr6)) 10 (.slice px6 nx6 cx6)) 11 (.bool qn.queued))
          have hz9 := hS9.b.size
          have HS9 := Lib.hid hS9
          have HR9 := Lib.hid hR9
          have hzz : w.heap.size + 2 ≤ wr.drew.heap.size := by have := Blk.lt HSD.out.k; omega
          have HZ9 := Lib.hid (Nat.le_trans hzz hb6.size)
          clear z0 z1 z2 z3 z4 z5 z6 z7 z8 z9 z10 z11 hfz hS6 s6 hR6 hS9 hR9 hfin x0 x1 x2 x3 x4 x5 x6 x7 x8 x9 x10 x11 hcell
          go_wp2
          go_roundg (NI - k1)
          case measure => have := HK1.out; omega
          case rel => exact ⟨k1, _, _, _, _, _, by have := HK1.out; omega, rfl, by go_num, rfl, by rw [HQN.out]; exact HS9.out, by rw [HQN.out]; exact HR9.out, by have := Blk.lt HS9.out.k; omega⟩)
      · have hkN : k = NI := by omega
        subst hkN
        have hki : ¬ ((k + 1 : Nat) : Int) < ((k + 1 : Nat) : Int) := by omega
        rw [HALL.out] at HS HR hrg
        unfold pnrC at hrg
        have hT := HS.out.t
        have HN1 := Lib.hid (pnrC_one (x := p) (p1 := pn) (n1 := nn) (c1 := cn) (p2 := ps) (n2 := ns) (c2 := cs) (p3 := pp) (n3 := np) (c3 := cp) (p4 := pr) (n4 := nr) (c4 := cr) (p5 := px) (n5 := nx) (c5 := cx))
        go_wp2_with (first
          | (refine wpList_load_mid rfl 29 (.tmp 4) rfl (w.heap.size + 1) 0 rfl _ _ hrg Tryz.underlying29 rfl info_pnr ?_)
          | (refine wpList_store_blk rfl 29 (.tmp 2) (.tmp 68) rfl w.heap.size 29 _ [.string p.loc, .string p.off, .slice pn nn cn, .slice ps ns cs, .slice pp np cp, .int .i64 p.tk, .int .i64 p.td, .int .i64 p.tm, .string p.recv, .slice pr nr cr, .slice px nx cx, .bool p.queued] rfl rfl hT rfl info_pnr HN1.out ?_; intro wz hbz hlz hgz))
        exact read_back rfl rfl rfl rfl hbz rfl (HS.out.b.grown hgz HS.out.b.size (fun k hk => by injection hk with hk; omega)) ⟨_, _, _, _, _, rfl, HPIN.out _ _ _ _ _ _ (HR.out.box HS.out.t hgz)⟩
  · have HL1 := Lib.hid hl1
    have HL2 := Lib.hid hl2
    clear hl1 hl2
    have hr1 : (l1.toList == [78, 69, 87]) = false := by simpa using hq1
    have hr2 : (l2.toList == [45]) = false := by simpa using hq2
    go_upto_region 9 with fail
    have S4 : RowKit.Hid (RS w (w3.setCell ⟨w.heap.size + 1, 0, none⟩ (.string l1)) (zeroC.set 0 (.string l1))) := Lib.hid (s3.set 0 _)
    have c2' := (hcw _ (HiAgr.gr (gr_setCell1 (b := w.heap.size + 1) (World.grownBy.refl w3 _) 0 (.string l1)) (by have := HZ2.out; omega))).2
    generalize w3.setCell ⟨w.heap.size + 1, 0, none⟩ (.string l1) = w4 at *
    have s4 := S4.out
    clear c1 c2 x0 f0 s3 hcw S3
    have x1 : w4.cell? ⟨w.heap.size + 1, 1, none⟩ = some (.string ⟨#[]⟩) := (s4.k.cell 1).trans rfl
    have f1 := s4.k.frozen 1
    go_upto_region 11 with fail
    have S5 : RowKit.Hid (RS w (w4.setCell ⟨w.heap.size + 1, 1, none⟩ (.string l2)) ((zeroC.set 0 (.string l1)).set 1 (.string l2))) := Lib.hid (s4.set 1 _)
    generalize w4.setCell ⟨w.heap.size + 1, 1, none⟩ (.string l2) = w5 at *
    clear s4 S4 c2' x1 f1
    have S6 : RowKit.Hid (RS w w5 (pnrC (baseP p.loc p.off) (.slice none 0 0) (.slice none 0 0) (.slice none 0 0) (.slice none 0 0) (.slice none 0 0))) := Lib.hid (by
      have := S5.out
      rw [HL1.out] at this
      rw [HL2.out] at this
      exact this)
    clear S5
    clear hq1 hq2 hr1 hr2 HL1 HL2
    go_wp2_with fail
    go_loopg [5, 7] NI (fun g s5 s7 wr => ∃ (k : Nat) (vn vs vp vr vx : Value), k ≤ NI ∧ g = NI - k ∧ s7 = .int .i64 ((k + 1 : Nat) : Int) ∧ s5 = .bool true ∧ RS w wr (pnrC (PP k) vn vs vp vr vx) ∧ RdP wr (w.heap.size + 2) (PP k) vn vs vp vr vx ∧ w.heap.size + 2 ≤ wr.heap.size)
    case atStart => exact ⟨0, _, _, _, _, _, Nat.zero_le _, rfl, rfl, rfl, by rw [HZERO.out]; exact S6.out, by rw [HZERO.out]; exact rd_nil _ _ _ _, by have := Blk.lt S6.out.k; omega⟩
    case round =>
      obtain ⟨k, vn, vs, vp, vr, vx, hk, rfl, rfl, rfl, hS, hR, hz⟩ := hrel
      obtain ⟨pn, nn, cn, rfl⟩ := own_slice hR.n
      obtain ⟨ps, ns, cs, rfl⟩ := own_slice hR.s
      obtain ⟨pp, np, cp, rfl⟩ := own_slice hR.ph
      obtain ⟨pr, nr, cr, rfl⟩ := own_slice hR.rm
      obtain ⟨px, nx, cx, rfl⟩ := own_slice hR.x
      have HS := Lib.hid hS
      have HR := Lib.hid hR
      have hrg := hS.k.range
      clear hS hR
      by_cases hlt : k < NI
      · obtain ⟨it, hit, hok, htx⟩ := HIT.out k hlt
        have hki : ((k + 1 : Nat) : Int) < ((NI + 1 : Nat) : Int) := by omega
        have hk0 : (0 : Int) ≤ ((k + 1 : Nat) : Int) := by omega
        have hcell := HCE.out wr HS.out.b (k + 1) (by omega)
        rw [htx] at hcell
        have HLN : RowKit.Hid (∀ W, Below wr.heap.size wr W → Calls Tryz.prog 34 #[.agg (pnrC (PP k) (.slice pn nn cn) (.slice ps ns cs) (.slice pp np cp) (.slice pr nr cr) (.slice px nx cx)).toArray, .string (mkB (lnI it))] W fun e w' => LineE (w.heap.size + 2) (PP (k + 1)) e w' ∧ Below (w.heap.size + 2) W w') := Lib.hid fun W hW => HLI.out k it _ _ _ _ _ W hit hok (HR.out.mono hW) (Nat.le_trans hz hW.size)
        clear hit hok htx
        generalize mkB (lnI it) = ls at *
        obtain ⟨k1, hk1⟩ : ∃ x, x = k + 1 := ⟨_, rfl⟩
        rw [← hk1] at hki hk0 hcell HLN ⊢
        have HK1 := Lib.hid hk1
        have HPQ := Lib.hid (rfl : PP k1 = PP k1)
        have hS := HS.out
        generalize PP k = q at *
        generalize hqq : PP k1 = qn at HLN HPQ
        have HQN := Lib.hid hqq
        unfold pnrC at hS
        have x0 := (hS.k.cell 0).trans rfl
        have x1 := (hS.k.cell 1).trans rfl
        have x2 := (hS.k.cell 2).trans rfl
        have x3 := (hS.k.cell 3).trans rfl
        have x4 := (hS.k.cell 4).trans rfl
        have x5 := (hS.k.cell 5).trans rfl
        have x6 := (hS.k.cell 6).trans rfl
        have x7 := (hS.k.cell 7).trans rfl
        have x8 := (hS.k.cell 8).trans rfl
        have x9 := (hS.k.cell 9).trans rfl
        have x10 := (hS.k.cell 10).trans rfl
        have x11 := (hS.k.cell 11).trans rfl
        have hkn : k1 < NI + 1 := by omega
        clear hk1 hqq hS hrg
        go_upto_region 14 with fail
        have hbd : Below wr.heap.size wr wr.drew := (Below.refl _ _).drew
        have HLD := Lib.hid (HLN.out _ hbd)
        have HSD := Lib.hid (HS.out.bel hbd)
        unfold pnrC at HLD
        go_region_law (first
          | (go_simp; go_at_call 34; (with_reducible refine HLD.out.mono ?_); rintro e w6 ⟨⟨un, us, up, ur, ux, rfl, hR6⟩, hb6⟩; obtain ⟨pn6, nn6, cn6, rfl⟩ := own_slice hR6.n; obtain ⟨ps6, ns6, cs6, rfl⟩ := own_slice hR6.s; obtain ⟨pp6, np6, cp6, rfl⟩ := own_slice hR6.ph; obtain ⟨pr6, nr6, cr6, rfl⟩ := own_slice hR6.rm; obtain ⟨px6, nx6, cx6, rfl⟩ := own_slice hR6.x; have s6 := HSD.out.keep hb6; have hS6 := s6.k; unfold pnrC at hS6; have z0 := (hS6.cell 0).trans rfl; have z1 := (hS6.cell 1).trans rfl; have z2 := (hS6.cell 2).trans rfl; have z3 := (hS6.cell 3).trans rfl; have z4 := (hS6.cell 4).trans rfl; have z5 := (hS6.cell 5).trans rfl; have z6 := (hS6.cell 6).trans rfl; have z7 := (hS6.cell 7).trans rfl; have z8 := (hS6.cell 8).trans rfl; have z9 := (hS6.cell 9).trans rfl; have z10 := (hS6.cell 10).trans rfl; have z11 := (hS6.cell 11).trans rfl; have hfz : ∀ j, w6.frozen? ⟨w.heap.size + 1, j, none⟩ = false := fun j => hS6.frozen j; unfold pnrC))
        all_goals (
          have hfin := HSD.out
          have hS9 := s6.wr (cs' := pnrC qn (.slice pn6 nn6 cn6) (.slice ps6 ns6 cs6) (.slice pp6 np6 cp6) (.slice pr6 nr6 cr6) (.slice px6 nx6 cx6)) ((((((((((((hS6.set 0 (.string qn.loc)).set 1 (.string qn.off)).set 2 (.slice pn6 nn6 cn6)).set 3 (.slice ps6 ns6 cs6)).set 4 (.slice pp6 np6 cp6)).set 5 (.int .i64 qn.tk)).set 6 (.int .i64 qn.td)).set 7 (.int .i64 qn.tm)).set 8 (.string qn.recv)).set 9 (.slice pr6 nr6 cr6)).set 10 (.slice px6 nx6 cx6)).set 11 (.bool qn.queued)) (gr_setCell1 (b := w.heap.size + 1) (gr_setCell1 (b := w.heap.size + 1) (gr_setCell1 (b := w.heap.size + 1) (gr_setCell1 (b := w.heap.size + 1) (gr_setCell1 (b := w.heap.size + 1) (gr_setCell1 (b := w.heap.size + 1) (gr_setCell1 (b := w.heap.size + 1) (gr_setCell1 (b := w.heap.size + 1) (gr_setCell1 (b := w.heap.size + 1) (gr_setCell1 (b := w.heap.size + 1) (gr_setCell1 (b := w.heap.size + 1) (gr_setCell1 (b := w.heap.size + 1) (World.grownBy.refl w6 _) 0 (.string qn.loc)) 1 (.string qn.off)) 2 (.slice pn6 nn6 cn6)) 3 (.slice ps6 ns6 cs6)) 4 (.slice pp6 np6 cp6)) 5 (.int .i64 qn.tk)) 6 (.int .i64 qn.td)) 7 (.int .i64 qn.tm)) 8 (.string qn.recv)) 9 (.slice pr6 nr6 cr6)) 10 (.slice px6 nx6 cx6)) 11 (.bool qn.queued))
          have hR9 := hR6.box s6.k (gr_setCell1 (b := w.heap.size + 1) (gr_setCell1 (b := w.heap.size + 1) (gr_setCell1 (b := w.heap.size + 1) (gr_setCell1 (b := w.heap.size + 1) (gr_setCell1 (b := w.heap.size + 1) (gr_setCell1 (b := w.heap.size + 1) (gr_setCell1 (b := w.heap.size + 1) (gr_setCell1 (b := w.heap.size + 1) (gr_setCell1 (b := w.heap.size + 1) (gr_setCell1 (b := w.heap.size + 1) (gr_setCell1 (b := w.heap.size + 1) (gr_setCell1 (b := w.heap.size + 1) (World.grownBy.refl w6 _) 0 (.string qn.loc)) 1 (.string qn.off)) 2 (.slice pn6 nn6 cn6)) 3 (.slice ps6 ns6 cs6)) 4 (.slice pp6 np6 cp6)) 5 (.int .i64 qn.tk)) 6 (.int .i64 qn.td)) 7 (.int .i64 qn.tm)) 8 (.string qn.recv)) 9 (.slice pr6 nr6 cr6)) 10 (.slice px6 nx6 cx6)) 11 (.bool qn.queued))
          have hz9 := hS9.b.size
          have HS9 := Lib.hid hS9
          have HR9 := Lib.hid hR9
          have hzz : w.heap.size + 2 ≤ wr.drew.heap.size := by have := Blk.lt HSD.out.k; omega
          have HZ9 := Lib.hid (Nat.le_trans hzz hb6.size)
          clear z0 z1 z2 z3 z4 z5 z6 z7 z8 z9 z10 z11 hfz hS6 s6 hR6 hS9 hR9 hfin x0 x1 x2 x3 x4 x5 x6 x7 x8 x9 x10 x11 hcell
          go_wp2
          go_roundg (NI - k1)
          case measure => have := HK1.out; omega
          case rel => exact ⟨k1, _, _, _, _, _, by have := HK1.out; omega, rfl, by go_num, rfl, by rw [HQN.out]; exact HS9.out, by rw [HQN.out]; exact HR9.out, by have := Blk.lt HS9.out.k; omega⟩)
      · have hkN : k = NI := by omega
        subst hkN
        have hki : ¬ ((k + 1 : Nat) : Int) < ((k + 1 : Nat) : Int) := by omega
        rw [HALL.out] at HS HR hrg
        unfold pnrC at hrg
        have hT := HS.out.t
        have HN1 := Lib.hid (pnrC_one (x := p) (p1 := pn) (n1 := nn) (c1 := cn) (p2 := ps) (n2 := ns) (c2 := cs) (p3 := pp) (n3 := np) (c3 := cp) (p4 := pr) (n4 := nr) (c4 := cr) (p5 := px) (n5 := nx) (c5 := cx))
        go_wp2_with (first
          | (refine wpList_load_mid rfl 29 (.tmp 4) rfl (w.heap.size + 1) 0 rfl _ _ hrg Tryz.underlying29 rfl info_pnr ?_)
          | (refine wpList_store_blk rfl 29 (.tmp 2) (.tmp 68) rfl w.heap.size 29 _ [.string p.loc, .string p.off, .slice pn nn cn, .slice ps ns cs, .slice pp np cp, .int .i64 p.tk, .int .i64 p.td, .int .i64 p.tm, .string p.recv, .slice pr nr cr, .slice px nx cx, .bool p.queued] rfl rfl hT rfl info_pnr HN1.out ?_; intro wz hbz hlz hgz))
        exact read_back rfl rfl rfl rfl hbz rfl (HS.out.b.grown hgz HS.out.b.size (fun k hk => by injection hk with hk; omega)) ⟨_, _, _, _, _, rfl, HPIN.out _ _ _ _ _ _ (HR.out.box HS.out.t hgz)⟩
end Go.Proofs.YtmhhbnnjilbdnaaGreatDoor.Sh
