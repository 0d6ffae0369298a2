/- The lines of a PNR (the reference's). Printed by tools/gen_rp.py and gen_sec.py. -/
import Derived.Test.YtahghakpmjfefaaDoorSRA
namespace Go.Proofs.YtahghakpmjfefaaDoor.Sh
open Go.RowKit En Go.ChangeMaps
set_option linter.unusedSimpArgs false
set_option linter.unusedVariables false
set_option maxRecDepth 20000

set_option maxHeartbeats 16000000 in
theorem pnrR_any (p : PnrT) (vn vs vp vr vx : Value) (w : World) (hP : PIn w p vn vs vp vr vx) (hf : FitB p) :
    Calls Tryd.prog 13 #[.agg (pnrC p vn vs vp vr vx).toArray] w fun e w' => LinesE w.heap.size (showP p) e w' ∧ Below w.heap.size w w' := by
  have hbk := Blk.new w 29 (pnrC p vn vs vp vr vx)
  have hb1 : Below w.heap.size w (w.alloc (.cells (pnrC p vn vs vp vr vx).toArray 29)) := (Below.refl _ _).alloc (Nat.le_refl _) _
  obtain ⟨pn, cn, rfl⟩ := hP.n.len
  obtain ⟨ps, cs, rfl⟩ := hP.s.len
  obtain ⟨pp, cp, rfl⟩ := hasL_len2 hP.ph
  obtain ⟨pr, cr, rfl⟩ := hasL_len2 hP.rm
  obtain ⟨px, cx, rfl⟩ := hP.x.len
  have HTK : RowKit.Hid (∀ W, Below w.heap.size w W → Calls Tryd.prog 38 #[.agg (pnrC p (.slice pn p.names.length cn) (.slice ps p.segs.length cs) (.slice pp p.phones.length cp) (.slice pr p.remarks.length cr) (.slice px p.seats.length cx)).toArray] W fun e w' => (∃ s : ByteArray, e = .returned (.string s) ∧ toL s = tickLn p) ∧ Below W.heap.size W w') := Lib.hid fun W hW => rticket_any p _ _ _ _ _ W
  unfold pnrC at hbk hb1 HTK ⊢
  simp only [List.toArray] at hbk hb1 HTK ⊢
  generalize hw1 : w.alloc (.cells #[.string p.loc, .string p.off, .slice pn p.names.length cn, .slice ps p.segs.length cs, .slice pp p.phones.length cp, .int .i64 p.tk, .int .i64 p.td, .int .i64 p.tm, .string p.recv, .slice pr p.remarks.length cr, .slice px p.seats.length cx, .bool p.queued] 29) = w1 at hbk hb1
  have hlp : w.heap.size < w1.heap.size := hbk.lt
  have HP := Lib.hid hP
  have HF := Lib.hid hf
  have HB := Lib.hid hb1
  have HK := Lib.hid hbk
  have HFEW : RowKit.Hid (p.names.length ≤ 1000 ∧ p.segs.length ≤ 1000 ∧ p.phones.length ≤ 1000 ∧ p.remarks.length ≤ 1000 ∧ p.seats.length ≤ 1000) := Lib.hid hP.few
  have HCS : RowKit.Hid (∀ W, Below w1.heap.size w1 W → W.cell? ⟨w.heap.size, 2, none⟩ = some (.slice pn p.names.length cn) ∧ W.cell? ⟨w.heap.size, 3, none⟩ = some (.slice ps p.segs.length cs) ∧ W.cell? ⟨w.heap.size, 4, none⟩ = some (.slice pp p.phones.length cp) ∧ W.cell? ⟨w.heap.size, 8, none⟩ = some (.string p.recv) ∧ W.cell? ⟨w.heap.size, 9, none⟩ = some (.slice pr p.remarks.length cr) ∧ W.cell? ⟨w.heap.size, 10, none⟩ = some (.slice px p.seats.length cx)) := Lib.hid fun W h => ⟨((hbk.mono h).cell 2).trans rfl, ((hbk.mono h).cell 3).trans rfl, ((hbk.mono h).cell 4).trans rfl, ((hbk.mono h).cell 8).trans rfl, ((hbk.mono h).cell 9).trans rfl, ((hbk.mono h).cell 10).trans rfl⟩
  have c0 : w1.cell? ⟨w.heap.size, 0, none⟩ = some (.string p.loc) := (hbk.cell 0).trans rfl
  have c1 : w1.cell? ⟨w.heap.size, 1, none⟩ = some (.string p.off) := (hbk.cell 1).trans rfl
  clear hb1 hP hf
  generalize hNN : p.names.length = NN at *
  generalize hNS : p.segs.length = NS at *
  generalize hNP : p.phones.length = NP at *
  generalize hNR : p.remarks.length = NR at *
  generalize hNX : p.seats.length = NX at *
  have HNN := Lib.hid hNN
  have HNS := Lib.hid hNS
  have HNP := Lib.hid hNP
  have HNR := Lib.hid hNR
  have HNX := Lib.hid hNX
  clear hNN hNS hNP hNR hNX
  go_enter Tryd.func13, Tryd.ntmps13
  go_upto_region 1 with fail
  try rw [hw1]
  clear hw1
  have hlz := HF.out.loc
  have q0 := sum_ok (a := 4) (b := p.loc.size) (by omega)
  go_upto_if 18 with fail
  go_cut [3] from 16 to 19 (fun s3 wx => ∃ S : ByteArray, s3 = .string S ∧ toL S = [80, 78, 82, 32] ++ orL p.loc [78, 69, 87] ∧ S.size ≤ 1125899906842700 ∧ w1 = wx)
  case first =>
    cases hs : p.loc.toList.isEmpty with
    | true =>
      have h0 : toL p.loc = [] := by rw [List.isEmpty_iff, ByteArray.toList_eq] at hs; exact hs
      have H0 := Lib.hid h0
      clear h0
      go_wp2
      go_meet
      exact ⟨_, rfl, by unfold orL; rw [if_pos H0.out]; rfl, by decide, rfl⟩
    | false =>
      have h0 : toL p.loc ≠ [] := fun h => by rw [show p.loc.toList = [] by rw [ByteArray.toList_eq]; exact h] at hs; cases hs
      have H0 := Lib.hid h0
      clear h0
      go_wp2
      go_meet
      exact ⟨_, rfl, by unfold orL; rw [if_neg H0.out, toL_app]; rfl, by rw [ByteArray.size_append]; have := HF.out.loc; show 4 + p.loc.size ≤ _; omega, rfl⟩
  case rest =>
    obtain ⟨S1, hs3, hS1, hz1, hw⟩ := hcut
    subst hs3
    subst hw
    have HS1 := Lib.hid hS1
    clear hS1
    go_upto_if 21 with fail
    go_cut [3] from 19 to 29 (fun s3 wx => ∃ S : ByteArray, s3 = .string S ∧ toL S = headLn p ∧ w1 = wx)
    case first =>
      have q1 := sum_ok (a := S1.size) (b := 2) (by omega)
      have q2 := sum_ok (a := S1.size) (b := 1) (by omega)
      have hoz := HF.out.off
      have q3 := sum_ok (a := S1.size + 1) (b := p.off.size) (by omega)
      cases hs : p.off.toList.isEmpty with
      | true =>
        have h0 : toL p.off = [] := by rw [List.isEmpty_iff, ByteArray.toList_eq] at hs; exact hs
        have H0 := Lib.hid h0
        clear h0
        go_wp2
        go_meet
        exact ⟨_, rfl, by rw [toL_app, HS1.out]; unfold headLn; rw [show orL p.off [45] = [45] from if_pos H0.out]; simp [toL_lit], rfl⟩
      | false =>
        have h0 : toL p.off ≠ [] := fun h => by rw [show p.off.toList = [] by rw [ByteArray.toList_eq]; exact h] at hs; cases hs
        have H0 := Lib.hid h0
        clear h0
        go_wp2
        go_meet
        exact ⟨_, rfl, by rw [toL_app, toL_app, HS1.out]; unfold headLn; rw [show orL p.off [45] = toL p.off from if_neg H0.out]; simp [toL_lit], rfl⟩
    case rest =>
      obtain ⟨S2, hs3, hS2, hw⟩ := hcut
      subst hs3
      subst hw
      have HST0 : RowKit.Hid (StgR w1 (.slice (some ⟨w1.heap.size, 0, none⟩) 1 1) (w1.alloc (.cells #[.string S2] 9)) [headLn p]) := Lib.hid ⟨_, _, _, [S2], rfl, World.ownsRow_lit (size := 1) w1 #[.string _] 1 (Nat.le_refl _) (by decide) rfl, by rw [List.map_singleton, hS2], (Below.refl _ _).alloc (Nat.le_refl _) _⟩
      clear hS2 HS1 hz1 c0 c1
      go_upto_block 0 with fail
      generalize w1.alloc (.cells #[.string S2] 9) = wb at HST0 ⊢
      generalize Value.slice (some ⟨w1.heap.size, 0, none⟩) 1 1 = vb at HST0 ⊢
      go_cut [4] from 31 to 60 (fun s4 wx => StgR w1 s4 wx ([headLn p] ++ p.names.mapIdx nameLn))
      case first =>
        go_wp2
        have HTA : RowKit.Hid (([headLn p]).length ≤ 9000) := Lib.hid (by
          have := HFEW.out
          have := HNN.out
          have := HNS.out
          have := HNP.out
          have := HNR.out
          have := recv_len p.recv
          simp only [List.length_append, List.length_mapIdx, List.length_singleton]
          omega)
        generalize [headLn p] = TA at *
        go_loopg [4, 5] NN (fun g0 s4 s5 wr => ∃ i : Nat, i ≤ NN ∧ g0 = NN - i ∧ s5 = .int .i64 (i : Int) ∧ StgR w1 s4 wr (TA ++ (p.names.take i).mapIdx nameLn))
        case atStart => exact ⟨0, Nat.zero_le _, rfl, rfl, by simpa using HST0.out⟩
        case round =>
          obtain ⟨i, hiN, rfl, rfl, hst⟩ := hrel
          have HST := Lib.hid hst
          clear hst
          obtain ⟨q, nq, cq, L, rfl, hown, hLm, hbw⟩ := HST.out
          have HLM := Lib.hid hLm
          have hLl : L.length = TA.length + i := by
            have := congrArg List.length hLm
            rw [List.length_map] at this
            rw [this]
            simp only [List.length_append, List.length_mapIdx, List.length_map, List.length_take]
            have := HNN.out
            omega
          have hL9 : L.length ≤ 90000 := by have := HTA.out; have := HFEW.out; omega
          clear hLm hLl
          by_cases hlt : i < NN
          · have hii : (i : Int) < (NN : Int) := by omega
            have hi0 : (0 : Int) ≤ (i : Int) := by omega
            have hi3 : i ≤ 100000 := by have := HFEW.out; omega
            have hiN2 : i < p.names.length := by rw [HNN.out]; exact hlt
            have hcs := HCS.out _ hbw
            have HW1 : RowKit.Hid (Below w.heap.size w wr) := Lib.hid (bel_trans HB.out hbw)
            obtain ⟨bb, of2, rfl, _, t0, t1⟩ := name_at (HP.out.n.mono HW1.out) hiN2
            have hone := HF.out.names _ (List.mem_of_getElem? (getD_at nm0 hiN2))
            have HX : RowKit.Hid (TA ++ (p.names.take (i + 1)).mapIdx nameLn = TA ++ (p.names.take i).mapIdx nameLn ++ [nameLn i (p.names.getD i nm0)]) := Lib.hid (by rw [take_mapIdx_snoc nameLn nm0 hiN2, List.append_assoc])
            generalize p.names.getD i nm0 = x at *
            obtain ⟨la, fi⟩ := x
            simp only at t0 t1 hone
            obtain ⟨c2, c3, c4, c8, c9, c10⟩ := hcs
            obtain ⟨tn, htn, hzn, HNC⟩ := num_one ((i : Int) + 1) (WalkArith.wf_i64 (by omega))
            have hwr : IntKind.i64.wrap ((i : Int) + 1) = (i : Int) + 1 := IntWalk.i64_in _ (by omega)
            have q1 := sum_ok (a := tn.size) (b := 1) (by omega)
            have q2 := sum_ok (a := tn.size + 1) (b := la.size) (by omega)
            have q3 := sum_ok (a := tn.size + 1 + la.size) (b := 1) (by omega)
            have q4 := sum_ok (a := tn.size + 1 + la.size + 1) (b := fi.size) (by omega)
            have k0 := cell_regrown c2
            have k1 := cell_regrown t0
            have k2 := cell_regrown t1
            have cN : ∀ d os, Calls Tryd.prog 35 #[.int .i64 ((i : Int) + 1)] (Go.Sort.grow (redrawn wr d) os) fun e w'' => e = .returned (.string tn) ∧ Below (Go.Sort.grow (redrawn wr d) os).heap.size (Go.Sort.grow (redrawn wr d) os) w'' := fun d os => HNC.out _
            have HLS : RowKit.Hid (nameLn i ⟨la, fi⟩ = toL (tn ++ (⟨#[46]⟩ : ByteArray) ++ la ++ ⟨#[47]⟩ ++ fi)) := Lib.hid (by
              unfold nameLn
              simp [toL_app, toL_lit, htn])
            have HBW := Lib.hid hbw
            have HOW := Lib.hid hown
            clear htn c3 c4 c8 c9 c10 t0 t1 hown hbw
            go_upto_region 11 with fail
            clear c2
            refine wp_region_cone 21 [(0, false), (1, false), (2, false), (3, false), (4, false), (5, false), (6, false), (7, false), (8, false), (9, false), (10, false), (11, false), (12, false), (13, false), (14, false), (15, false), (16, false), (17, false), (18, false), (19, false), (20, true)] (by kernel_rfl) (by kernel_rfl) ?_
            simp only [ordO, List.map_cons, List.map_nil, List.getD_cons_zero, List.getD_cons_succ, List.drop_succ_cons, List.drop_zero]
            repeat (
              refine ord_quiet (fun K hK => ?_)
              go_simp
              first
                | (refine hK _ ?_; clear hK K)
                | (refine ⟨_, fun _ => up_val, hK _ ?_⟩; clear hK K)
                | (apply Exists.intro; refine ⟨fun _ => ?_, hK _ ?_⟩; (first | (with_reducible exact up_call (cN _ _))); clear hK K))
            obtain ⟨SS, hSS⟩ : ∃ SS : ByteArray, (tn ++ (⟨#[46]⟩ : ByteArray) ++ la ++ ⟨#[47]⟩ ++ fi) = SS := ⟨_, rfl⟩
            rw [hSS] at HLS
            try rw [hSS]
            refine ord_slice (e := 9) (u := .string SS) (by rfl) (by rfl) (by rfl) ?_ ?_
            · intro w
              go_simp
            intro wb' hwb
            unfold wpOrd
            intro wq hwq
            have hbb : Below wr.heap.size wr wb' := hwb.bel
            have hbq : Below wr.heap.size wr wq := bel_trans (hbb.alloc hbb.size (.cells #[.string SS] 9)) hwq.bel
            have hcq : wq.cell? ⟨wb'.heap.size, 0, none⟩ = some (.string SS) := cell_bel hwq.bel (new1 wb' _ _)
            have hoq := HOW.out.mono hbq
            have hbwq := bel_trans HBW.out hbq
            have HBQ := Lib.hid hbwq
            have hsz := hbwq.size
            clear hwb hwq hbb k0 k1 k2 cN q1 q2 q3 q4 hSS hbwq hbq
            generalize wb'.heap.size = gb at *
            go_wp2_with (at_builtin; refine push_at3 rfl _ _ rfl w1.heap.size _ L rfl hoq gb SS rfl hcq (by omega) hsz ?_; intro q4 n4 c4 w4 ho4 hg4)
            have HSG := Lib.hid (StgR.push hoq HLM.out HBQ.out ho4 hg4 HLS.out.symm)
            clear ho4 hg4
            go_roundg (NN - (i + 1))
            case measure => omega
            case rel => exact ⟨i + 1, by omega, rfl, by go_num, by rw [HX.out]; exact HSG.out⟩
          · have hie : i = NN := by omega
            subst hie
            have hii : ¬ (i : Int) < (i : Int) := by omega
            have htk : p.names.take i = p.names := List.take_of_length_le (by rw [HNN.out]; exact Nat.le_refl _)
            rw [htk] at HST
            have hcs := HCS.out _ hbw
            obtain ⟨c2, c3, c4, c8, c9, c10⟩ := hcs
            clear htk hown
            go_wp2
            go_meet
            exact HST.out
      case rest =>
        have HST1 := Lib.hid hcut
        clear hcut HST0
        go_upto_block 2 with fail
        go_cut [4] from 60 to 106 (fun s4 wx => StgR w1 s4 wx ([headLn p] ++ p.names.mapIdx nameLn ++ p.segs.mapIdx segLn))
        case first =>
          go_wp2
          have HTA : RowKit.Hid (([headLn p] ++ p.names.mapIdx nameLn).length ≤ 9000) := Lib.hid (by
            have := HFEW.out
            have := HNN.out
            have := HNS.out
            have := HNP.out
            have := HNR.out
            have := recv_len p.recv
            simp only [List.length_append, List.length_mapIdx, List.length_singleton]
            omega)
          generalize [headLn p] ++ p.names.mapIdx nameLn = TA at *
          go_loopg [4, 6] NS (fun g0 s4 s6 wr => ∃ i : Nat, i ≤ NS ∧ g0 = NS - i ∧ s6 = .int .i64 (i : Int) ∧ StgR w1 s4 wr (TA ++ (p.segs.take i).mapIdx segLn))
          case atStart => exact ⟨0, Nat.zero_le _, rfl, rfl, by simpa using HST1.out⟩
          case round =>
            obtain ⟨i, hiN, rfl, rfl, hst⟩ := hrel
            have HST := Lib.hid hst
            clear hst
            obtain ⟨q, nq, cq, L, rfl, hown, hLm, hbw⟩ := HST.out
            have HLM := Lib.hid hLm
            have hLl : L.length = TA.length + i := by
              have := congrArg List.length hLm
              rw [List.length_map] at this
              rw [this]
              simp only [List.length_append, List.length_mapIdx, List.length_map, List.length_take]
              have := HNS.out
              omega
            have hL9 : L.length ≤ 90000 := by have := HTA.out; have := HFEW.out; omega
            clear hLm hLl
            by_cases hlt : i < NS
            · have hii : (i : Int) < (NS : Int) := by omega
              have hi0 : (0 : Int) ≤ (i : Int) := by omega
              have hi3 : i ≤ 100000 := by have := HFEW.out; omega
              have hiN2 : i < p.segs.length := by rw [HNS.out]; exact hlt
              have hcs := HCS.out _ hbw
              have HW1 : RowKit.Hid (Below w.heap.size w wr) := Lib.hid (bel_trans HB.out hbw)
              obtain ⟨bb, of2, rfl, hr, hrest⟩ := seg_at (HP.out.s.mono HW1.out) hiN2
              clear hrest
              have HONE := Lib.hid (HF.out.segs _ (List.mem_of_getElem? (getD_at sg0 hiN2)))
              have HX : RowKit.Hid (TA ++ (p.segs.take (i + 1)).mapIdx segLn = TA ++ (p.segs.take i).mapIdx segLn ++ [segLn i (p.segs.getD i sg0)]) := Lib.hid (by rw [take_mapIdx_snoc segLn sg0 hiN2, List.append_assoc])
              generalize p.segs.getD i sg0 = x at *
              obtain ⟨car, num, day, cls, live⟩ := x
              unfold segC at hr
              simp only at hr HONE HX
              obtain ⟨c2, c3, c4, c8, c9, c10⟩ := hcs
              have HBW := Lib.hid hbw
              have HOW := Lib.hid hown
              clear c2 c4 c8 c9 c10 hown hbw
              go_upto_region 16 with (first
                | (refine wpList_load_mid rfl 92 _ rfl bb (of2 + i * 5) rfl [.string car, .int .i64 num, .int .i64 day, .int .u8 cls.toNat, .bool live] _ hr Tryd.underlying92 rfl info_seg2 ?_)
                | (refine wpList_store_blk rfl 92 (.tmp 7) (.tmp 71) rfl wr.heap.size 92 (segC sg0) [.string car, .int .i64 num, .int .i64 day, .int .u8 cls.toNat, .bool live] rfl rfl (Blk.new wr 92 (segC sg0)) rfl info_seg2 (segC_one2 ⟨car, num, day, cls, live⟩) ?_; intro w8 ha8 hb8 hgr8))
              (try dsimp only [Act.put])
              have h18 : Below wr.heap.size wr w8 := ((Below.refl _ _).alloc (Nat.le_refl _) _).trans hb8
              have HB8 := Lib.hid (bel_trans HBW.out h18)
              have HO8 := Lib.hid (HOW.out.mono h18)
              have HA8 := Lib.hid ha8
              have hgl := ha8.lt
              generalize wr.heap.size = g8 at *
              have z0 : w8.cell? ⟨g8, 0, none⟩ = some (.string car) := (ha8.cell 0).trans rfl
              have z1 : w8.cell? ⟨g8, 1, none⟩ = some (.int .i64 num) := (ha8.cell 1).trans rfl
              have z2 : w8.cell? ⟨g8, 2, none⟩ = some (.int .i64 day) := (ha8.cell 2).trans rfl
              have z3 : w8.cell? ⟨g8, 3, none⟩ = some (.int .u8 cls.toNat) := (ha8.cell 3).trans rfl
              obtain ⟨sl, hsl, hz1, hl1⟩ : ∃ sl : ByteArray, sl = ⟨#[cls]⟩ ∧ sl.size = 1 ∧ toL sl = [cls] := ⟨_, rfl, rfl, rfl⟩
              have HSL := Lib.hid hsl
              have HLC : RowKit.Hid (∀ (W : World) (gg : Nat), W.cell? ⟨gg, 0, none⟩ = some (.int .u8 cls.toNat) → (convert 94 9 (.slice (some ⟨gg, 0, none⟩) 1 1)).run Tryd.prog W = .ok (.string sl) W) := Lib.hid fun W gg h0 => by rw [HSL.out]; exact one_at2 W gg cls h0
              obtain ⟨tn, htn, hzn, HNC⟩ := num_one ((i : Int) + 1) (WalkArith.wf_i64 (by omega))
              obtain ⟨tf, htf⟩ : ∃ s : ByteArray, toL s = flTx car num := ⟨⟨(flTx car num).toArray⟩, toL_mk _⟩
              obtain ⟨td, htd⟩ : ∃ s : ByteArray, toL s = dTx day := ⟨⟨(dTx day).toArray⟩, toL_mk _⟩
              have hzf : tf.size ≤ 1125899906842700 := by
                refine txt_le htf ?_
                have hcz := HONE.out.1
                have hil := itoaL_len num HONE.out.2
                have hcl : (toL car).length = car.size := rfl
                unfold flTx
                split
                · omega
                · rw [List.length_append]; omega
              have hzd : td.size ≤ 5 := txt_le htd (dTx_len day)
              have hwr : IntKind.i64.wrap ((i : Int) + 1) = (i : Int) + 1 := IntWalk.i64_in _ (by omega)
              have k0 := cell_regrown z0
              have k1 := cell_regrown z1
              have k2 := cell_regrown z2
              have k3 := cell_regrown z3
              have cN : ∀ d os, Calls Tryd.prog 35 #[.int .i64 ((i : Int) + 1)] (Go.Sort.grow (redrawn w8 d) os) fun e w'' => e = .returned (.string tn) ∧ Below (Go.Sort.grow (redrawn w8 d) os).heap.size (Go.Sort.grow (redrawn w8 d) os) w'' := fun d os => HNC.out _
              have cF : ∀ d os, Calls Tryd.prog 36 #[.agg #[.string car, .int .i64 num]] (Go.Sort.grow (redrawn w8 d) os) fun e w'' => e = .returned (.string tf) ∧ Below (Go.Sort.grow (redrawn w8 d) os).heap.size (Go.Sort.grow (redrawn w8 d) os) w'' := fun d os => ((rflText_any car num _ HONE.out.1 HONE.out.2).mono fun e w' ⟨⟨s, h1, h2⟩, h3⟩ => ⟨by rw [h1, show s = tf from toL_inj (h2.trans htf.symm)], h3⟩)
              have cD : ∀ d os, Calls Tryd.prog 37 #[.int .i64 day] (Go.Sort.grow (redrawn w8 d) os) fun e w'' => e = .returned (.string td) ∧ Below (Go.Sort.grow (redrawn w8 d) os).heap.size (Go.Sort.grow (redrawn w8 d) os) w'' := fun d os => ((rday_any day _).mono fun e w' ⟨⟨s, h1, h2⟩, h3⟩ => ⟨by rw [h1, show s = td from toL_inj (h2.trans htd.symm)], h3⟩)
              have q1 := sum_ok (a := 1) (b := tn.size) (by omega)
              have q2 := sum_ok (a := 1 + tn.size) (b := 1) (by omega)
              have q3 := sum_ok (a := 1 + tn.size + 1) (b := tf.size) (by omega)
              have q4 := sum_ok (a := 1 + tn.size + 1 + tf.size) (b := 1) (by omega)
              have q5 := sum_ok (a := 1 + tn.size + 1 + tf.size + 1) (b := sl.size) (by omega)
              have q6 := sum_ok (a := 1 + tn.size + 1 + tf.size + 1 + sl.size) (b := 1) (by omega)
              have q7 := sum_ok (a := 1 + tn.size + 1 + tf.size + 1 + sl.size + 1) (b := td.size) (by omega)
              have HLN : RowKit.Hid (segLn i ⟨car, num, day, cls, live⟩ = toL ((⟨#[83]⟩ : ByteArray) ++ tn ++ ⟨#[32]⟩ ++ tf ++ ⟨#[32]⟩ ++ sl ++ ⟨#[32]⟩ ++ td) ++ (if live = true then [32, 72, 75] else [32, 88, 88])) := Lib.hid (by
                unfold segLn
                simp [toL_app, toL_lit, htn, htf, htd, hl1])
              have hzS : ((⟨#[83]⟩ : ByteArray) ++ tn ++ ⟨#[32]⟩ ++ tf ++ ⟨#[32]⟩ ++ sl ++ ⟨#[32]⟩ ++ td).size ≤ 1125899906843000 := by
                simp only [ByteArray.size_append]
                show 1 + tn.size + 1 + tf.size + 1 + sl.size + 1 + td.size ≤ 1125899906843000
                omega
              clear htn htf htd hl1 hsl hz1 z0 z1 z2 z3 ha8 hb8 hgr8 h18 hr
              refine wp_region_cone 22 [(0, false), (1, false), (2, false), (3, false), (4, false), (5, false), (6, false), (7, false), (8, false), (9, false), (10, false), (11, false), (12, false), (17, false), (18, false), (19, false), (20, false), (13, true), (14, false), (15, false), (16, false), (21, false)] (by kernel_rfl) (by kernel_rfl) ?_
              simp only [ordO, List.map_cons, List.map_nil, List.getD_cons_zero, List.getD_cons_succ, List.drop_succ_cons, List.drop_zero]
              repeat (
                refine ord_quiet (fun K hK => ?_)
                go_simp
                first
                  | (refine hK _ ?_; clear hK K)
                  | (refine ⟨_, fun _ => up_val, hK _ ?_⟩; clear hK K)
                  | (apply Exists.intro; refine ⟨fun _ => ?_, hK _ ?_⟩; (first | (with_reducible exact up_call (cN _ _)) | (with_reducible exact up_call (cF _ _)) | (with_reducible exact up_call (cD _ _))); clear hK K))
              refine ord_slice (e := 5) (u := .int .u8 cls.toNat) (by rfl) (by rfl) (by rfl) ?_ ?_
              · intro w
                go_simp
              intro wb' hwb
              have hcv : ∀ d os, (convert 94 9 (.slice (some ⟨wb'.heap.size, 0, none⟩) 1 1)).run Tryd.prog (Go.Sort.grow (redrawn (wb'.alloc (.cells #[.int .u8 cls.toNat] 5)) d) os) = .ok (.string sl) (Go.Sort.grow (redrawn (wb'.alloc (.cells #[.int .u8 cls.toNat] 5)) d) os) := fun d os => HLC.out _ _ (cell_regrown (new1 wb' _ _) d os)
              have hbb : Below w8.heap.size w8 (wb'.alloc (.cells #[.int .u8 cls.toNat] 5)) := hwb.bel.alloc hwb.bel.size _
              generalize hwn : (wb'.alloc (.cells #[.int .u8 cls.toNat] 5)) = wn at *
              clear hwn hwb k0 k1 k2 k3
              generalize wb'.heap.size = gb at *
              repeat (
                refine ord_quiet (fun K hK => ?_)
                go_simp
                first
                  | (refine hK _ ?_; clear hK K)
                  | (refine ⟨_, fun _ => up_val, hK _ ?_⟩; clear hK K))
              unfold wpOrd
              intro wq hwq
              have hbq : Below w8.heap.size w8 wq := bel_trans hbb hwq.bel
              obtain ⟨SX, hSX⟩ : ∃ SX : ByteArray, ((⟨#[83]⟩ : ByteArray) ++ tn ++ ⟨#[32]⟩ ++ tf ++ ⟨#[32]⟩ ++ sl ++ ⟨#[32]⟩ ++ td) = SX := ⟨_, rfl⟩
              rw [hSX] at HLN hzS
              try rw [hSX]
              have cl : wq.cell? ⟨g8, 4, none⟩ = some (.bool live) := ((HA8.out.mono hbq).cell 4).trans rfl
              have hoq := HO8.out.mono hbq
              have hbwq := bel_trans HB8.out hbq
              have HBQ := Lib.hid hbwq
              have hsz := hbwq.size
              have q8 := sum_ok (a := SX.size) (b := 3) (by omega)
              clear hcv hwq hbb cN cF cD q1 q2 q3 q4 q5 q6 q7 hSX hbq hbwq
              cases live with
              | true =>
                obtain ⟨SS, hSS⟩ : ∃ SS : ByteArray, SX ++ (⟨#[32, 72, 75]⟩ : ByteArray) = SS := ⟨_, rfl⟩
                have HSS : RowKit.Hid (segLn i ⟨car, num, day, cls, true⟩ = toL SS) := Lib.hid (by rw [HLN.out, ← hSS, toL_app]; rfl)
                go_wp2_with (at_builtin; (try rw [hSS]); refine push_at3 rfl _ _ rfl w1.heap.size _ L rfl (OwnL.mono hoq ((Below.refl wq.heap.size wq).alloc (Nat.le_refl _) _)) wq.heap.size SS rfl (new1 wq _ _) (by omega) (by simp; omega) ?_; intro q4 n4 c4 w4 ho4 hg4)
                have HSG := Lib.hid (StgR.push (OwnL.mono hoq ((Below.refl wq.heap.size wq).alloc (Nat.le_refl _) _)) HLM.out (HBQ.out.alloc hsz _) ho4 hg4 HSS.out.symm)
                clear ho4 hg4
                go_roundg (NS - (i + 1))
                case measure => omega
                case rel => exact ⟨i + 1, by omega, rfl, by go_num, by rw [HX.out]; exact HSG.out⟩
              | false =>
                obtain ⟨SS, hSS⟩ : ∃ SS : ByteArray, SX ++ (⟨#[32, 88, 88]⟩ : ByteArray) = SS := ⟨_, rfl⟩
                have HSS : RowKit.Hid (segLn i ⟨car, num, day, cls, false⟩ = toL SS) := Lib.hid (by rw [HLN.out, ← hSS, toL_app]; rfl)
                go_wp2_with (at_builtin; (try rw [hSS]); refine push_at3 rfl _ _ rfl w1.heap.size _ L rfl (OwnL.mono hoq ((Below.refl wq.heap.size wq).alloc (Nat.le_refl _) _)) wq.heap.size SS rfl (new1 wq _ _) (by omega) (by simp; omega) ?_; intro q4 n4 c4 w4 ho4 hg4)
                have HSG := Lib.hid (StgR.push (OwnL.mono hoq ((Below.refl wq.heap.size wq).alloc (Nat.le_refl _) _)) HLM.out (HBQ.out.alloc hsz _) ho4 hg4 HSS.out.symm)
                clear ho4 hg4
                go_roundg (NS - (i + 1))
                case measure => omega
                case rel => exact ⟨i + 1, by omega, rfl, by go_num, by rw [HX.out]; exact HSG.out⟩
            · have hie : i = NS := by omega
              subst hie
              have hii : ¬ (i : Int) < (i : Int) := by omega
              have htk : p.segs.take i = p.segs := List.take_of_length_le (by rw [HNS.out]; exact Nat.le_refl _)
              rw [htk] at HST
              have hcs := HCS.out _ hbw
              obtain ⟨c2, c3, c4, c8, c9, c10⟩ := hcs
              clear htk hown
              go_wp2
              go_meet
              exact HST.out
        case rest =>
          have HST2 := Lib.hid hcut
          clear hcut HST1
          go_upto_block 4 with fail
          go_cut [4] from 106 to 127 (fun s4 wx => StgR w1 s4 wx ([headLn p] ++ p.names.mapIdx nameLn ++ p.segs.mapIdx segLn ++ p.phones.mapIdx (textLn 80)))
          case first =>
            go_wp2
            have HTA : RowKit.Hid (([headLn p] ++ p.names.mapIdx nameLn ++ p.segs.mapIdx segLn).length ≤ 9000) := Lib.hid (by
              have := HFEW.out
              have := HNN.out
              have := HNS.out
              have := HNP.out
              have := HNR.out
              have := recv_len p.recv
              simp only [List.length_append, List.length_mapIdx, List.length_singleton]
              omega)
            generalize [headLn p] ++ p.names.mapIdx nameLn ++ p.segs.mapIdx segLn = TA at *
            go_loopg [4, 9] NP (fun g0 s4 s9 wr => ∃ i : Nat, i ≤ NP ∧ g0 = NP - i ∧ s9 = .int .i64 (i : Int) ∧ StgR w1 s4 wr (TA ++ (p.phones.take i).mapIdx (textLn 80)))
            case atStart => exact ⟨0, Nat.zero_le _, rfl, rfl, by simpa using HST2.out⟩
            case round =>
              obtain ⟨i, hiN, rfl, rfl, hst⟩ := hrel
              have HST := Lib.hid hst
              clear hst
              obtain ⟨q, nq, cq, L, rfl, hown, hLm, hbw⟩ := HST.out
              have HLM := Lib.hid hLm
              have hLl : L.length = TA.length + i := by
                have := congrArg List.length hLm
                rw [List.length_map] at this
                rw [this]
                simp only [List.length_append, List.length_mapIdx, List.length_map, List.length_take]
                have := HNP.out
                omega
              have hL9 : L.length ≤ 90000 := by have := HTA.out; have := HFEW.out; omega
              clear hLm hLl
              by_cases hlt : i < NP
              · have hii : (i : Int) < (NP : Int) := by omega
                have hi0 : (0 : Int) ≤ (i : Int) := by omega
                have hi3 : i ≤ 100000 := by have := HFEW.out; omega
                have hiN2 : i < p.phones.length := by rw [HNP.out]; exact hlt
                have hcs := HCS.out _ hbw
                have HW1 : RowKit.Hid (Below w.heap.size w wr) := Lib.hid (bel_trans HB.out hbw)
                obtain ⟨bb, of2, nn2, cc2, he2, t0⟩ := text_at2 (HP.out.ph.mono HW1.out) hiN2
                injection he2 with e1 e2 e3
                subst e1
                subst e2
                subst e3
                have hone := HF.out.phones _ (List.mem_of_getElem? (getD_at ByteArray.empty hiN2))
                have HX : RowKit.Hid (TA ++ (p.phones.take (i + 1)).mapIdx (textLn 80) = TA ++ (p.phones.take i).mapIdx (textLn 80) ++ [textLn 80 i (p.phones.getD i ByteArray.empty)]) := Lib.hid (by rw [take_mapIdx_snoc (textLn 80) ByteArray.empty hiN2, List.append_assoc])
                generalize p.phones.getD i ByteArray.empty = x at *
                obtain ⟨c2, c3, c4, c8, c9, c10⟩ := hcs
                obtain ⟨tn, htn, hzn, HNC⟩ := num_one ((i : Int) + 1) (WalkArith.wf_i64 (by omega))
                have hwr : IntKind.i64.wrap ((i : Int) + 1) = (i : Int) + 1 := IntWalk.i64_in _ (by omega)
                have q1 := sum_ok (a := 1) (b := tn.size) (by omega)
                have q2 := sum_ok (a := 1 + tn.size) (b := 1) (by omega)
                have q3 := sum_ok (a := 1 + tn.size + 1) (b := x.size) (by omega)
                have k0 := cell_regrown c4
                have k1 := cell_regrown t0
                have cN : ∀ d os, Calls Tryd.prog 35 #[.int .i64 ((i : Int) + 1)] (Go.Sort.grow (redrawn wr d) os) fun e w'' => e = .returned (.string tn) ∧ Below (Go.Sort.grow (redrawn wr d) os).heap.size (Go.Sort.grow (redrawn wr d) os) w'' := fun d os => HNC.out _
                have HLS : RowKit.Hid (textLn 80 i x = toL ((⟨#[80]⟩ : ByteArray) ++ tn ++ ⟨#[32]⟩ ++ x)) := Lib.hid (by
                  unfold textLn
                  simp [toL_app, toL_lit, htn])
                have HBW := Lib.hid hbw
                have HOW := Lib.hid hown
                clear htn c2 c3 c8 c9 c10 t0 hown hbw
                go_upto_region 23 with fail
                clear c4
                refine wp_region_cone 13 [(0, false), (1, false), (2, false), (3, false), (4, false), (5, false), (6, false), (7, false), (8, false), (9, false), (10, false), (11, false), (12, true)] (by kernel_rfl) (by kernel_rfl) ?_
                simp only [ordO, List.map_cons, List.map_nil, List.getD_cons_zero, List.getD_cons_succ, List.drop_succ_cons, List.drop_zero]
                repeat (
                  refine ord_quiet (fun K hK => ?_)
                  go_simp
                  first
                    | (refine hK _ ?_; clear hK K)
                    | (refine ⟨_, fun _ => up_val, hK _ ?_⟩; clear hK K)
                    | (apply Exists.intro; refine ⟨fun _ => ?_, hK _ ?_⟩; (first | (with_reducible exact up_call (cN _ _))); clear hK K))
                obtain ⟨SS, hSS⟩ : ∃ SS : ByteArray, ((⟨#[80]⟩ : ByteArray) ++ tn ++ ⟨#[32]⟩ ++ x) = SS := ⟨_, rfl⟩
                rw [hSS] at HLS
                try rw [hSS]
                refine ord_slice (e := 9) (u := .string SS) (by rfl) (by rfl) (by rfl) ?_ ?_
                · intro w
                  go_simp
                intro wb' hwb
                unfold wpOrd
                intro wq hwq
                have hbb : Below wr.heap.size wr wb' := hwb.bel
                have hbq : Below wr.heap.size wr wq := bel_trans (hbb.alloc hbb.size (.cells #[.string SS] 9)) hwq.bel
                have hcq : wq.cell? ⟨wb'.heap.size, 0, none⟩ = some (.string SS) := cell_bel hwq.bel (new1 wb' _ _)
                have hoq := HOW.out.mono hbq
                have hbwq := bel_trans HBW.out hbq
                have HBQ := Lib.hid hbwq
                have hsz := hbwq.size
                clear hwb hwq hbb k0 k1 cN q1 q2 q3 hSS hbwq hbq
                generalize wb'.heap.size = gb at *
                go_wp2_with (at_builtin; refine push_at3 rfl _ _ rfl w1.heap.size _ L rfl hoq gb SS rfl hcq (by omega) hsz ?_; intro q4 n4 c4 w4 ho4 hg4)
                have HSG := Lib.hid (StgR.push hoq HLM.out HBQ.out ho4 hg4 HLS.out.symm)
                clear ho4 hg4
                go_roundg (NP - (i + 1))
                case measure => omega
                case rel => exact ⟨i + 1, by omega, rfl, by go_num, by rw [HX.out]; exact HSG.out⟩
              · have hie : i = NP := by omega
                subst hie
                have hii : ¬ (i : Int) < (i : Int) := by omega
                have htk : p.phones.take i = p.phones := List.take_of_length_le (by rw [HNP.out]; exact Nat.le_refl _)
                rw [htk] at HST
                have hcs := HCS.out _ hbw
                obtain ⟨c2, c3, c4, c8, c9, c10⟩ := hcs
                clear htk hown
                go_wp2
                go_meet
                exact HST.out
          case rest =>
            have HST3 := Lib.hid hcut
            clear hcut HST2
            go_upto_region 24 with fail
            go_cut [4] from 127 to 132 (fun s4 wx => StgR w1 s4 wx ([headLn p] ++ p.names.mapIdx nameLn ++ p.segs.mapIdx segLn ++ p.phones.mapIdx (textLn 80) ++ [tickLn p]))
            case first =>
              obtain ⟨q, nq, cq, L, hvq, hown, hLm, hbw⟩ := HST3.out
              subst hvq
              have HLM := Lib.hid hLm
              have hL9 : L.length ≤ 90000 := by
                have := congrArg List.length hLm
                rw [List.length_map] at this
                rw [this]
                have := HFEW.out
                have := HNN.out
                have := HNS.out
                have := HNP.out
                have := HNR.out
                have := recv_len p.recv
                simp only [List.length_append, List.length_mapIdx, List.length_singleton]
                omega
              have hsz := hbw.size
              have HBW := Lib.hid hbw
              rename_i wt
              have hbk := (HK.out.mono hbw).range
              have HTC := Lib.hid (HTK.out _ (bel_trans HB.out hbw))
              clear hLm hbw
              go_wp2_with (first
                | (refine wpList_load_mid rfl 29 (.tmp 1) rfl w.heap.size 0 rfl _ _ hbk Tryd.underlying29 rfl info_pnr ?_)
                | (go_at_call 38; (with_reducible refine HTC.out.mono ?_); rintro e w5 ⟨⟨t, rfl, ht⟩, hb5⟩; have ho5 := OwnL.mono hown hb5; have hbw5 := bel_trans HBW.out hb5)
                | (at_builtin; refine push_at3 rfl _ _ rfl w1.heap.size _ L rfl (OwnL.mono ho5 ((Below.refl w5.heap.size w5).alloc (Nat.le_refl _) _)) w5.heap.size t rfl (new1 w5 _ _) (by omega) (by have := hbw5.size; simp; omega) ?_; intro q4 n4 c4 w4 ho4 hg4; have HSG := Lib.hid (StgR.push (OwnL.mono ho5 ((Below.refl w5.heap.size w5).alloc (Nat.le_refl _) _)) HLM.out (hbw5.alloc hbw5.size _) ho4 hg4 ht)))
              go_meet
              exact HSG.out
            case rest =>
              have HST4 := Lib.hid hcut
              clear hcut HST3 HTK
              rename World => wt4
              have hbx4 : Below w1.heap.size w1 wt4 := by
                obtain ⟨_, _, _, _, _, _, _, h⟩ := HST4.out
                exact h
              have c8 := (HCS.out _ hbx4).2.2.2.1
              clear hbx4
              go_upto_if 134 with fail
              go_cut [4] from 132 to 141 (fun s4 wx => StgR w1 s4 wx ([headLn p] ++ p.names.mapIdx nameLn ++ p.segs.mapIdx segLn ++ p.phones.mapIdx (textLn 80) ++ [tickLn p] ++ recvLn p.recv))
              case first =>
                have hrz := HF.out.recv
                cases hs : p.recv.toList.isEmpty with
                | true =>
                  have h0 : toL p.recv = [] := by rw [List.isEmpty_iff, ByteArray.toList_eq] at hs; exact hs
                  have HE : RowKit.Hid ([headLn p] ++ p.names.mapIdx nameLn ++ p.segs.mapIdx segLn ++ p.phones.mapIdx (textLn 80) ++ [tickLn p] ++ recvLn p.recv = [headLn p] ++ p.names.mapIdx nameLn ++ p.segs.mapIdx segLn ++ p.phones.mapIdx (textLn 80) ++ [tickLn p]) := Lib.hid (by unfold recvLn; rw [if_pos h0]; simp)
                  clear h0
                  go_wp2
                  go_meet
                  rw [HE.out]
                  exact HST4.out
                | false =>
                  have h0 : toL p.recv ≠ [] := fun h => by rw [show p.recv.toList = [] by rw [ByteArray.toList_eq]; exact h] at hs; cases hs
                  have HE : RowKit.Hid ([headLn p] ++ p.names.mapIdx nameLn ++ p.segs.mapIdx segLn ++ p.phones.mapIdx (textLn 80) ++ [tickLn p] ++ recvLn p.recv = [headLn p] ++ p.names.mapIdx nameLn ++ p.segs.mapIdx segLn ++ p.phones.mapIdx (textLn 80) ++ [tickLn p] ++ [82 :: 32 :: toL p.recv]) := Lib.hid (by unfold recvLn; rw [if_neg h0])
                  clear h0
                  obtain ⟨q, nq, cq, L, hvq, hown, hLm, hbw⟩ := HST4.out
                  subst hvq
                  have HLM := Lib.hid hLm
                  have hL9 : L.length ≤ 90000 := by
                    have := congrArg List.length hLm
                    rw [List.length_map] at this
                    rw [this]
                    have := HFEW.out
                    have := HNN.out
                    have := HNS.out
                    have := HNP.out
                    have := HNR.out
                    simp only [List.length_append, List.length_mapIdx, List.length_singleton]
                    omega
                  have hsz := hbw.size
                  have q1 := sum_ok (a := 2) (b := p.recv.size) (by omega)
                  have HS2 : RowKit.Hid (toL ((⟨#[82, 32]⟩ : ByteArray) ++ p.recv) = 82 :: 32 :: toL p.recv) := Lib.hid (by simp [toL_app, toL_lit])
                  generalize hS : (⟨#[82, 32]⟩ : ByteArray) ++ p.recv = SS at HS2
                  clear hLm
                  go_wp2_with (at_builtin; (try rw [hS]); refine push_at3 rfl _ _ rfl w1.heap.size _ L rfl (OwnL.mono hown ((Below.refl _ _).alloc (Nat.le_refl _) _)) _ SS rfl (new1 _ _ _) (by omega) (by simp; omega) ?_; intro q4 n4 c4 w4 ho4 hg4; have HSG := Lib.hid (StgR.push (OwnL.mono hown ((Below.refl _ _).alloc (Nat.le_refl _) _)) HLM.out (hbw.alloc hsz _) ho4 hg4 HS2.out))
                  go_meet
                  rw [HE.out]
                  exact HSG.out
              case rest =>
                have HST5 := Lib.hid hcut
                clear hcut HST4 c8
                go_upto_block 6 with fail
                go_cut [4] from 141 to 162 (fun s4 wx => StgR w1 s4 wx ([headLn p] ++ p.names.mapIdx nameLn ++ p.segs.mapIdx segLn ++ p.phones.mapIdx (textLn 80) ++ [tickLn p] ++ recvLn p.recv ++ p.remarks.mapIdx (textLn 77)))
                case first =>
                  go_wp2
                  have HTA : RowKit.Hid (([headLn p] ++ p.names.mapIdx nameLn ++ p.segs.mapIdx segLn ++ p.phones.mapIdx (textLn 80) ++ [tickLn p] ++ recvLn p.recv).length ≤ 9000) := Lib.hid (by
                    have := HFEW.out
                    have := HNN.out
                    have := HNS.out
                    have := HNP.out
                    have := HNR.out
                    have := recv_len p.recv
                    simp only [List.length_append, List.length_mapIdx, List.length_singleton]
                    omega)
                  generalize [headLn p] ++ p.names.mapIdx nameLn ++ p.segs.mapIdx segLn ++ p.phones.mapIdx (textLn 80) ++ [tickLn p] ++ recvLn p.recv = TA at *
                  go_loopg [4, 10] NR (fun g0 s4 s10 wr => ∃ i : Nat, i ≤ NR ∧ g0 = NR - i ∧ s10 = .int .i64 (i : Int) ∧ StgR w1 s4 wr (TA ++ (p.remarks.take i).mapIdx (textLn 77)))
                  case atStart => exact ⟨0, Nat.zero_le _, rfl, rfl, by simpa using HST5.out⟩
                  case round =>
                    obtain ⟨i, hiN, rfl, rfl, hst⟩ := hrel
                    have HST := Lib.hid hst
                    clear hst
                    obtain ⟨q, nq, cq, L, rfl, hown, hLm, hbw⟩ := HST.out
                    have HLM := Lib.hid hLm
                    have hLl : L.length = TA.length + i := by
                      have := congrArg List.length hLm
                      rw [List.length_map] at this
                      rw [this]
                      simp only [List.length_append, List.length_mapIdx, List.length_map, List.length_take]
                      have := HNR.out
                      omega
                    have hL9 : L.length ≤ 90000 := by have := HTA.out; have := HFEW.out; omega
                    clear hLm hLl
                    by_cases hlt : i < NR
                    · have hii : (i : Int) < (NR : Int) := by omega
                      have hi0 : (0 : Int) ≤ (i : Int) := by omega
                      have hi3 : i ≤ 100000 := by have := HFEW.out; omega
                      have hiN2 : i < p.remarks.length := by rw [HNR.out]; exact hlt
                      have hcs := HCS.out _ hbw
                      have HW1 : RowKit.Hid (Below w.heap.size w wr) := Lib.hid (bel_trans HB.out hbw)
                      obtain ⟨bb, of2, nn2, cc2, he2, t0⟩ := text_at2 (HP.out.rm.mono HW1.out) hiN2
                      injection he2 with e1 e2 e3
                      subst e1
                      subst e2
                      subst e3
                      have hone := HF.out.remarks _ (List.mem_of_getElem? (getD_at ByteArray.empty hiN2))
                      have HX : RowKit.Hid (TA ++ (p.remarks.take (i + 1)).mapIdx (textLn 77) = TA ++ (p.remarks.take i).mapIdx (textLn 77) ++ [textLn 77 i (p.remarks.getD i ByteArray.empty)]) := Lib.hid (by rw [take_mapIdx_snoc (textLn 77) ByteArray.empty hiN2, List.append_assoc])
                      generalize p.remarks.getD i ByteArray.empty = x at *
                      obtain ⟨c2, c3, c4, c8, c9, c10⟩ := hcs
                      obtain ⟨tn, htn, hzn, HNC⟩ := num_one ((i : Int) + 1) (WalkArith.wf_i64 (by omega))
                      have hwr : IntKind.i64.wrap ((i : Int) + 1) = (i : Int) + 1 := IntWalk.i64_in _ (by omega)
                      have q1 := sum_ok (a := 1) (b := tn.size) (by omega)
                      have q2 := sum_ok (a := 1 + tn.size) (b := 1) (by omega)
                      have q3 := sum_ok (a := 1 + tn.size + 1) (b := x.size) (by omega)
                      have k0 := cell_regrown c9
                      have k1 := cell_regrown t0
                      have cN : ∀ d os, Calls Tryd.prog 35 #[.int .i64 ((i : Int) + 1)] (Go.Sort.grow (redrawn wr d) os) fun e w'' => e = .returned (.string tn) ∧ Below (Go.Sort.grow (redrawn wr d) os).heap.size (Go.Sort.grow (redrawn wr d) os) w'' := fun d os => HNC.out _
                      have HLS : RowKit.Hid (textLn 77 i x = toL ((⟨#[77]⟩ : ByteArray) ++ tn ++ ⟨#[32]⟩ ++ x)) := Lib.hid (by
                        unfold textLn
                        simp [toL_app, toL_lit, htn])
                      have HBW := Lib.hid hbw
                      have HOW := Lib.hid hown
                      clear htn c2 c3 c4 c8 c10 t0 hown hbw
                      go_upto_region 30 with fail
                      clear c9
                      refine wp_region_cone 13 [(0, false), (1, false), (2, false), (3, false), (4, false), (5, false), (6, false), (7, false), (8, false), (9, false), (10, false), (11, false), (12, true)] (by kernel_rfl) (by kernel_rfl) ?_
                      simp only [ordO, List.map_cons, List.map_nil, List.getD_cons_zero, List.getD_cons_succ, List.drop_succ_cons, List.drop_zero]
                      repeat (
                        refine ord_quiet (fun K hK => ?_)
                        go_simp
                        first
                          | (refine hK _ ?_; clear hK K)
                          | (refine ⟨_, fun _ => up_val, hK _ ?_⟩; clear hK K)
                          | (apply Exists.intro; refine ⟨fun _ => ?_, hK _ ?_⟩; (first | (with_reducible exact up_call (cN _ _))); clear hK K))
                      obtain ⟨SS, hSS⟩ : ∃ SS : ByteArray, ((⟨#[77]⟩ : ByteArray) ++ tn ++ ⟨#[32]⟩ ++ x) = SS := ⟨_, rfl⟩
                      rw [hSS] at HLS
                      try rw [hSS]
                      refine ord_slice (e := 9) (u := .string SS) (by rfl) (by rfl) (by rfl) ?_ ?_
                      · intro w
                        go_simp
                      intro wb' hwb
                      unfold wpOrd
                      intro wq hwq
                      have hbb : Below wr.heap.size wr wb' := hwb.bel
                      have hbq : Below wr.heap.size wr wq := bel_trans (hbb.alloc hbb.size (.cells #[.string SS] 9)) hwq.bel
                      have hcq : wq.cell? ⟨wb'.heap.size, 0, none⟩ = some (.string SS) := cell_bel hwq.bel (new1 wb' _ _)
                      have hoq := HOW.out.mono hbq
                      have hbwq := bel_trans HBW.out hbq
                      have HBQ := Lib.hid hbwq
                      have hsz := hbwq.size
                      clear hwb hwq hbb k0 k1 cN q1 q2 q3 hSS hbwq hbq
                      generalize wb'.heap.size = gb at *
                      go_wp2_with (at_builtin; refine push_at3 rfl _ _ rfl w1.heap.size _ L rfl hoq gb SS rfl hcq (by omega) hsz ?_; intro q4 n4 c4 w4 ho4 hg4)
                      have HSG := Lib.hid (StgR.push hoq HLM.out HBQ.out ho4 hg4 HLS.out.symm)
                      clear ho4 hg4
                      go_roundg (NR - (i + 1))
                      case measure => omega
                      case rel => exact ⟨i + 1, by omega, rfl, by go_num, by rw [HX.out]; exact HSG.out⟩
                    · have hie : i = NR := by omega
                      subst hie
                      have hii : ¬ (i : Int) < (i : Int) := by omega
                      have htk : p.remarks.take i = p.remarks := List.take_of_length_le (by rw [HNR.out]; exact Nat.le_refl _)
                      rw [htk] at HST
                      have hcs := HCS.out _ hbw
                      obtain ⟨c2, c3, c4, c8, c9, c10⟩ := hcs
                      clear htk hown
                      go_wp2
                      go_meet
                      exact HST.out
                case rest =>
                  have HST6 := Lib.hid hcut
                  clear hcut HST5
                  go_upto_block 8 with fail
                  go_cut [4] from 162 to 191 (fun s4 wx => StgR w1 s4 wx ([headLn p] ++ p.names.mapIdx nameLn ++ p.segs.mapIdx segLn ++ p.phones.mapIdx (textLn 80) ++ [tickLn p] ++ recvLn p.recv ++ p.remarks.mapIdx (textLn 77) ++ p.seats.map seatLn))
                  case first =>
                    go_wp2
                    have HTA : RowKit.Hid (([headLn p] ++ p.names.mapIdx nameLn ++ p.segs.mapIdx segLn ++ p.phones.mapIdx (textLn 80) ++ [tickLn p] ++ recvLn p.recv ++ p.remarks.mapIdx (textLn 77)).length ≤ 9000) := Lib.hid (by
                      have := HFEW.out
                      have := HNN.out
                      have := HNS.out
                      have := HNP.out
                      have := HNR.out
                      have := recv_len p.recv
                      simp only [List.length_append, List.length_mapIdx, List.length_singleton]
                      omega)
                    generalize [headLn p] ++ p.names.mapIdx nameLn ++ p.segs.mapIdx segLn ++ p.phones.mapIdx (textLn 80) ++ [tickLn p] ++ recvLn p.recv ++ p.remarks.mapIdx (textLn 77) = TA at *
                    go_loopg [4, 11] NX (fun g0 s4 s11 wr => ∃ i : Nat, i ≤ NX ∧ g0 = NX - i ∧ s11 = .int .i64 (i : Int) ∧ StgR w1 s4 wr (TA ++ (p.seats.take i).map seatLn))
                    case atStart => exact ⟨0, Nat.zero_le _, rfl, rfl, by simpa using HST6.out⟩
                    case round =>
                      obtain ⟨i, hiN, rfl, rfl, hst⟩ := hrel
                      have HST := Lib.hid hst
                      clear hst
                      obtain ⟨q, nq, cq, L, rfl, hown, hLm, hbw⟩ := HST.out
                      have HLM := Lib.hid hLm
                      have hLl : L.length = TA.length + i := by
                        have := congrArg List.length hLm
                        rw [List.length_map] at this
                        rw [this]
                        simp only [List.length_append, List.length_mapIdx, List.length_map, List.length_take]
                        have := HNX.out
                        omega
                      have hL9 : L.length ≤ 90000 := by have := HTA.out; have := HFEW.out; omega
                      clear hLm hLl
                      by_cases hlt : i < NX
                      · have hii : (i : Int) < (NX : Int) := by omega
                        have hi0 : (0 : Int) ≤ (i : Int) := by omega
                        have hi3 : i ≤ 100000 := by have := HFEW.out; omega
                        have hiN2 : i < p.seats.length := by rw [HNX.out]; exact hlt
                        have hcs := HCS.out _ hbw
                        have HW1 : RowKit.Hid (Below w.heap.size w wr) := Lib.hid (bel_trans HB.out hbw)
                        obtain ⟨bb, of2, rfl, hr, hrest⟩ := place_at (HP.out.x.mono HW1.out) hiN2
                        clear hrest
                        have HONE := Lib.hid (HF.out.seats _ (List.mem_of_getElem? (getD_at pl0 hiN2)))
                        have HX : RowKit.Hid (TA ++ (p.seats.take (i + 1)).map seatLn = TA ++ (p.seats.take i).map seatLn ++ [seatLn (p.seats.getD i pl0)]) := Lib.hid (by rw [take_map_snoc seatLn pl0 hiN2, List.append_assoc])
                        generalize p.seats.getD i pl0 = x at *
                        obtain ⟨sg, pa, rw', ch⟩ := x
                        unfold placeC at hr
                        simp only at hr HONE HX
                        obtain ⟨c2, c3, c4, c8, c9, c10⟩ := hcs
                        have HBW := Lib.hid hbw
                        have HOW := Lib.hid hown
                        clear c2 c3 c4 c8 c9 hown hbw
                        go_upto_region 35 with (first
                          | (refine wpList_load_mid rfl 97 _ rfl bb (of2 + i * 4) rfl [.int .i64 sg, .int .i64 pa, .int .i64 rw', .int .u8 ch.toNat] _ hr Tryd.underlying97 rfl info_place2 ?_)
                          | (refine wpList_store_blk rfl 97 (.tmp 12) (.tmp 173) rfl wr.heap.size 97 (placeC pl0) [.int .i64 sg, .int .i64 pa, .int .i64 rw', .int .u8 ch.toNat] rfl rfl (Blk.new wr 97 (placeC pl0)) rfl info_place2 (placeC_one2 ⟨sg, pa, rw', ch⟩) ?_; intro w8 ha8 hb8 hgr8))
                        (try dsimp only [Act.put])
                        have h18 : Below wr.heap.size wr w8 := ((Below.refl _ _).alloc (Nat.le_refl _) _).trans hb8
                        have HB8 := Lib.hid (bel_trans HBW.out h18)
                        have HO8 := Lib.hid (HOW.out.mono h18)
                        generalize wr.heap.size = g8 at *
                        have z0 : w8.cell? ⟨g8, 0, none⟩ = some (.int .i64 sg) := (ha8.cell 0).trans rfl
                        have z1 : w8.cell? ⟨g8, 1, none⟩ = some (.int .i64 pa) := (ha8.cell 1).trans rfl
                        have z2 : w8.cell? ⟨g8, 2, none⟩ = some (.int .i64 rw') := (ha8.cell 2).trans rfl
                        have z3 : w8.cell? ⟨g8, 3, none⟩ = some (.int .u8 ch.toNat) := (ha8.cell 3).trans rfl
                        have k0 := cell_regrown z0
                        have k1 := cell_regrown z1
                        have k2 := cell_regrown z2
                        have k3 := cell_regrown z3
                        obtain ⟨ta, hta, hza, HNA⟩ := num_one sg HONE.out.1
                        obtain ⟨tb, htb, hzb, HNB⟩ := num_one pa HONE.out.2
                        obtain ⟨tc, htc⟩ : ∃ s : ByteArray, toL s = toL (seatT rw' ch) := ⟨_, rfl⟩
                        have hzc : tc.size ≤ 1000 := txt_le htc (seatT_le rw' ch)
                        have cA : ∀ d os, Calls Tryd.prog 35 #[.int .i64 sg] (Go.Sort.grow (redrawn w8 d) os) fun e w'' => e = .returned (.string ta) ∧ Below (Go.Sort.grow (redrawn w8 d) os).heap.size (Go.Sort.grow (redrawn w8 d) os) w'' := fun d os => HNA.out _
                        have cB : ∀ d os, Calls Tryd.prog 35 #[.int .i64 pa] (Go.Sort.grow (redrawn w8 d) os) fun e w'' => e = .returned (.string tb) ∧ Below (Go.Sort.grow (redrawn w8 d) os).heap.size (Go.Sort.grow (redrawn w8 d) os) w'' := fun d os => HNB.out _
                        have cC : ∀ d os, Calls Tryd.prog 39 #[.agg #[.int .i64 rw', .int .u8 ch.toNat]] (Go.Sort.grow (redrawn w8 d) os) fun e w'' => e = .returned (.string tc) ∧ Below (Go.Sort.grow (redrawn w8 d) os).heap.size (Go.Sort.grow (redrawn w8 d) os) w'' := fun d os => ((refText_any rw' ch _).mono fun e w' ⟨h1, h3⟩ => ⟨by rw [h1, show seatT rw' ch = tc from toL_inj htc.symm], h3⟩)
                        have q1 := sum_ok (a := 3) (b := ta.size) (by omega)
                        have q2 := sum_ok (a := 3 + ta.size) (b := 2) (by omega)
                        have q3 := sum_ok (a := 3 + ta.size + 2) (b := tb.size) (by omega)
                        have q4 := sum_ok (a := 3 + ta.size + 2 + tb.size) (b := 1) (by omega)
                        have q5 := sum_ok (a := 3 + ta.size + 2 + tb.size + 1) (b := tc.size) (by omega)
                        have HLS : RowKit.Hid (seatLn ⟨sg, pa, rw', ch⟩ = toL ((⟨#[65, 32, 83]⟩ : ByteArray) ++ ta ++ ⟨#[32, 80]⟩ ++ tb ++ ⟨#[32]⟩ ++ tc)) := Lib.hid (by
                          unfold seatLn
                          simp [toL_app, toL_lit, hta, htb, htc])
                        clear hta htb htc z0 z1 z2 z3 ha8 hb8 hgr8 h18 hr
                        refine wp_region_cone 16 [(0, false), (1, false), (2, false), (3, false), (4, false), (5, false), (6, false), (7, false), (8, false), (9, false), (10, false), (11, false), (12, false), (13, false), (14, false), (15, true)] (by kernel_rfl) (by kernel_rfl) ?_
                        simp only [ordO, List.map_cons, List.map_nil, List.getD_cons_zero, List.getD_cons_succ, List.drop_succ_cons, List.drop_zero]
                        repeat (
                          refine ord_quiet (fun K hK => ?_)
                          go_simp
                          first
                            | (refine hK _ ?_; clear hK K)
                            | (refine ⟨_, fun _ => up_val, hK _ ?_⟩; clear hK K)
                            | (apply Exists.intro; refine ⟨fun _ => ?_, hK _ ?_⟩; (first | (with_reducible exact up_call (cA _ _)) | (with_reducible exact up_call (cB _ _)) | (with_reducible exact up_call (cC _ _))); clear hK K))
                        obtain ⟨SS, hSS⟩ : ∃ SS : ByteArray, ((⟨#[65, 32, 83]⟩ : ByteArray) ++ ta ++ ⟨#[32, 80]⟩ ++ tb ++ ⟨#[32]⟩ ++ tc) = SS := ⟨_, rfl⟩
                        rw [hSS] at HLS
                        try rw [hSS]
                        refine ord_slice (e := 9) (u := .string SS) (by rfl) (by rfl) (by rfl) ?_ ?_
                        · intro w
                          go_simp
                        intro wb' hwb
                        unfold wpOrd
                        intro wq hwq
                        have hbb : Below w8.heap.size w8 wb' := hwb.bel
                        have hbq : Below w8.heap.size w8 wq := bel_trans (hbb.alloc hbb.size (.cells #[.string SS] 9)) hwq.bel
                        have hcq : wq.cell? ⟨wb'.heap.size, 0, none⟩ = some (.string SS) := cell_bel hwq.bel (new1 wb' _ _)
                        have hoq := HO8.out.mono hbq
                        have hbwq := bel_trans HB8.out hbq
                        have HBQ := Lib.hid hbwq
                        have hsz := hbwq.size
                        clear hwb hwq hbb k0 k1 k2 k3 cA cB cC q1 q2 q3 q4 q5 hSS hbwq hbq
                        generalize wb'.heap.size = gb at *
                        go_wp2_with (at_builtin; refine push_at3 rfl _ _ rfl w1.heap.size _ L rfl hoq gb SS rfl hcq (by omega) hsz ?_; intro q4 n4 c4 w4 ho4 hg4)
                        have HSG := Lib.hid (StgR.push hoq HLM.out HBQ.out ho4 hg4 HLS.out.symm)
                        clear ho4 hg4
                        go_roundg (NX - (i + 1))
                        case measure => omega
                        case rel => exact ⟨i + 1, by omega, rfl, by go_num, by rw [HX.out]; exact HSG.out⟩
                      · have hie : i = NX := by omega
                        subst hie
                        have hii : ¬ (i : Int) < (i : Int) := by omega
                        have htk : p.seats.take i = p.seats := List.take_of_length_le (by rw [HNX.out]; exact Nat.le_refl _)
                        rw [htk] at HST
                        have hcs := HCS.out _ hbw
                        obtain ⟨c2, c3, c4, c8, c9, c10⟩ := hcs
                        clear htk hown
                        go_wp2
                        go_meet
                        exact HST.out
                  case rest =>
                    obtain ⟨q, nq, cq, L, hvq, hown, hLm, hbw⟩ := hcut
                    subst hvq
                    have HOW := Lib.hid (own_low hown (Nat.le_of_lt hlp))
                    have HB9 := Lib.hid (bel_trans HB.out hbw)
                    have HLM := Lib.hid hLm
                    clear hown hLm hbw HST6
                    go_wp2
                    go_ret
                    exact ⟨⟨_, L, rfl, HOW.out, by rw [HLM.out]; unfold showP tailP; simp⟩, HB9.out⟩
end Go.Proofs.YtahghakpmjfefaaDoor.Sh
