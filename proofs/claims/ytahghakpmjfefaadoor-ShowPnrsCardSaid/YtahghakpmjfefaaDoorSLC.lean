/- The statement about PNRs: its walk. -/
import Derived.Test.YtahghakpmjfefaaDoorSW
import Derived.Test.YtahghakpmjfefaaDoorSR
namespace Go.Proofs.YtahghakpmjfefaaDoor.Sh
open Go.RowKit Go.ChangeMaps En
set_option linter.unusedSimpArgs false
set_option linter.unusedVariables false
set_option maxRecDepth 20000

theorem pin0_mono {w w' : World} {p : PnrT} {vn vs vp vr vx : Value} (h : PIn0 w p vn vs vp vr vx) (hb : Below w.heap.size w w') : PIn0 w' p vn vs vp vr vx :=
  ⟨h.n.mono hb, h.s.mono hb, h.ph.mono hb, h.rm.mono hb, h.x.mono hb, h.fit, h.wf⟩
theorem small_few {p : PnrT} (h : smallB p = true) : p.names.length ≤ 1000 ∧ p.segs.length ≤ 1000 ∧ p.phones.length ≤ 1000 ∧ p.remarks.length ≤ 1000 ∧ p.seats.length ≤ 1000 := by
  have h := of_decide_eq_true h
  omega
theorem show_few {p : PnrT} (h : p.names.length ≤ 1000 ∧ p.segs.length ≤ 1000 ∧ p.phones.length ≤ 1000 ∧ p.remarks.length ≤ 1000 ∧ p.seats.length ≤ 1000) : ((showP p).map mkB).length ≤ 1000000 := by
  have := recv_len p.recv
  unfold showP tailP
  simp only [List.length_map, List.length_cons, List.length_append, List.length_mapIdx, List.length_nil]
  omega

set_option maxHeartbeats 8000000 in
theorem showPnrs_walk (v : Value) (p : PnrT) (w : World) (h : PnrIn w v p) (hf : FitB p) (ht : Da.LenTab w) (hp : PowTab w) (hm : MaxCell w) :
    Calls Tryd.prog 3 #[v] w fun e w' => e = .returned (.bool true) ∧ Below w.heap.size w w' := by
  obtain ⟨vn, vs, vp, vr, vx, rfl, h0⟩ := h
  have hbk := Blk.new w 29 (pnrC p vn vs vp vr vx)
  have hb1 : Below w.heap.size w (w.alloc (.cells (pnrC p vn vs vp vr vx).toArray 29)) := (Below.refl _ _).alloc (Nat.le_refl _) _
  have HAW : RowKit.Hid (∀ W, Below w.heap.size w W → Calls Tryd.prog 9 #[] W fun e w' => e = .returned (.bool true) ∧ Below W.heap.size W w') := Lib.hid fun W h => awake_any W (hm.keep h) (ht.keep h) (powTab_keep hp h)
  have HSM : RowKit.Hid (∀ W, Below w.heap.size w W → Calls Tryd.prog 10 #[.agg (pnrC p vn vs vp vr vx).toArray] W fun e w' => e = .returned (.bool (smallB p)) ∧ Below W.heap.size W w') := Lib.hid fun W h => smallP_any p vn vs vp vr vx W (pin0_mono h0 h)
  have HSH : RowKit.Hid (smallB p = true → ∀ W, Below w.heap.size w W → Calls Tryd.prog 12 #[.agg (pnrC p vn vs vp vr vx).toArray] W fun e w' => (∃ v, e = .returned v ∧ OwnL w' W.heap.size v ((showP p).map mkB)) ∧ Below W.heap.size W w') := Lib.hid fun hs W h => (pnrS_any p vn vs vp vr vx W (PIn.of0 (pin0_mono h0 h) (small_few hs)) hf (ht.keep h) (powTab_keep hp h)).mono fun e w' ⟨h1, h2⟩ => ⟨lines_own h1, h2⟩
  have HRF : RowKit.Hid (smallB p = true → ∀ W, Below w.heap.size w W → Calls Tryd.prog 13 #[.agg (pnrC p vn vs vp vr vx).toArray] W fun e w' => (∃ v, e = .returned v ∧ OwnL w' W.heap.size v ((showP p).map mkB)) ∧ Below W.heap.size W w') := Lib.hid fun hs W h => (pnrR_any p vn vs vp vr vx W (PIn.of0 (pin0_mono h0 h) (small_few hs)) hf).mono fun e w' ⟨h1, h2⟩ => ⟨lines_own h1, h2⟩
  have HLN : RowKit.Hid (smallB p = true → ((showP p).map mkB).length ≤ 1000000) := Lib.hid fun hs => show_few (small_few hs)
  unfold pnrC at hbk hb1 HSM HSH HRF ⊢
  simp only [List.toArray] at hbk hb1 HSM HSH HRF ⊢
  generalize hw1 : w.alloc (.cells #[.string p.loc, .string p.off, vn, vs, vp, .int .i64 p.tk, .int .i64 p.td, .int .i64 p.tm, .string p.recv, vr, vx, .bool p.queued] 29) = w1 at hbk hb1
  have HB := Lib.hid hb1
  have HK := Lib.hid hbk
  have HSA : RowKit.Hid (∀ va vb W, smallB p = true → HasL W va ((showP p).map mkB) → HasL W vb ((showP p).map mkB) → Calls Tryd.prog 11 #[va, vb] W fun e w' => e = .returned (.bool true) ∧ Below W.heap.size W w') := Lib.hid fun va vb W hs h1 h2 => same_true _ va vb W h1 h2 (HLN.out hs)
  generalize (showP p).map mkB = LL at *
  have HCX : RowKit.Hid (∀ W, Below w1.heap.size w1 W → W.cell? ⟨w.heap.size, 0, none⟩ = some (.string p.loc) ∧ W.cell? ⟨w.heap.size, 1, none⟩ = some (.string p.off) ∧ W.cell? ⟨w.heap.size, 2, none⟩ = some vn ∧ W.cell? ⟨w.heap.size, 3, none⟩ = some vs ∧ W.cell? ⟨w.heap.size, 4, none⟩ = some vp ∧ W.cell? ⟨w.heap.size, 5, none⟩ = some (.int .i64 p.tk) ∧ W.cell? ⟨w.heap.size, 6, none⟩ = some (.int .i64 p.td) ∧ W.cell? ⟨w.heap.size, 7, none⟩ = some (.int .i64 p.tm) ∧ W.cell? ⟨w.heap.size, 8, none⟩ = some (.string p.recv) ∧ W.cell? ⟨w.heap.size, 9, none⟩ = some vr ∧ W.cell? ⟨w.heap.size, 10, none⟩ = some vx ∧ W.cell? ⟨w.heap.size, 11, none⟩ = some (.bool p.queued) ∧ Below w1.heap.size w1 W) := Lib.hid fun W h => ⟨((hbk.mono h).cell 0).trans rfl, ((hbk.mono h).cell 1).trans rfl, ((hbk.mono h).cell 2).trans rfl, ((hbk.mono h).cell 3).trans rfl, ((hbk.mono h).cell 4).trans rfl, ((hbk.mono h).cell 5).trans rfl, ((hbk.mono h).cell 6).trans rfl, ((hbk.mono h).cell 7).trans rfl, ((hbk.mono h).cell 8).trans rfl, ((hbk.mono h).cell 9).trans rfl, ((hbk.mono h).cell 10).trans rfl, ((hbk.mono h).cell 11).trans rfl, h⟩
  clear hbk hb1 h0 hf ht hp hm HLN
  generalize smallB p = sb at *
  go_enter Tryd.func3, Tryd.ntmps3
  go_upto_region 1 with fail
  try rw [hw1]
  clear hw1
  cases sb with
  | false =>
    go_wp2_with (first
      | (go_at_call 9; (with_reducible refine (HAW.out _ HB.out).mono ?_); rintro e w2 ⟨rfl, hb2⟩; have hr2 := (HK.out.mono hb2).range)
      | (refine wpList_load_mid rfl 29 (.tmp 1) rfl w.heap.size 0 rfl _ _ hr2 Tryd.underlying29 rfl info_pnr ?_)
      | (go_at_call 10; (with_reducible refine (HSM.out _ (bel_trans HB.out hb2)).mono ?_); rintro e w3 ⟨rfl, hb3⟩))
    go_ret
    exact ⟨rfl, bel_trans (bel_trans HB.out hb2) hb3⟩
  | true =>
    have HSH2 := Lib.hid (HSH.out rfl)
    have HRF2 := Lib.hid (HRF.out rfl)
    have HSA2 : RowKit.Hid (∀ va vb W, HasL W va LL → HasL W vb LL → Calls Tryd.prog 11 #[va, vb] W fun e w' => e = .returned (.bool true) ∧ Below W.heap.size W w') := Lib.hid fun va vb W => HSA.out va vb W rfl
    clear HSH HRF HSA
    go_upto_region 5 with (first
      | (go_at_call 9; (with_reducible refine (HAW.out _ HB.out).mono ?_); rintro e w2 ⟨rfl, hb2⟩; have hr2 := (HK.out.mono hb2).range)
      | (refine wpList_load_mid rfl 29 (.tmp 1) rfl w.heap.size 0 rfl _ _ hr2 Tryd.underlying29 rfl info_pnr ?_)
      | (go_at_call 10; (with_reducible refine (HSM.out _ (bel_trans HB.out hb2)).mono ?_); rintro e w3 ⟨rfl, hb3⟩))
    have hb13 := bel_trans hb2 hb3
    have hS0 := HCX.out w3.drew hb13.drew
    have HB13 := Lib.hid hb13
    clear hb2 hb3 hr2 hb13
    go_region_held3 (fun W => W.cell? ⟨w.heap.size, 0, none⟩ = some (.string p.loc) ∧ W.cell? ⟨w.heap.size, 1, none⟩ = some (.string p.off) ∧ W.cell? ⟨w.heap.size, 2, none⟩ = some vn ∧ W.cell? ⟨w.heap.size, 3, none⟩ = some vs ∧ W.cell? ⟨w.heap.size, 4, none⟩ = some vp ∧ W.cell? ⟨w.heap.size, 5, none⟩ = some (.int .i64 p.tk) ∧ W.cell? ⟨w.heap.size, 6, none⟩ = some (.int .i64 p.td) ∧ W.cell? ⟨w.heap.size, 7, none⟩ = some (.int .i64 p.tm) ∧ W.cell? ⟨w.heap.size, 8, none⟩ = some (.string p.recv) ∧ W.cell? ⟨w.heap.size, 9, none⟩ = some vr ∧ W.cell? ⟨w.heap.size, 10, none⟩ = some vx ∧ W.cell? ⟨w.heap.size, 11, none⟩ = some (.bool p.queued) ∧ Below w1.heap.size w1 W)
      (first
        | (with_reducible exact hS0)
        | (with_reducible assumption)
        | (with_reducible exact HCX.out _ (bel_trans (show _ ∧ _ ∧ _ ∧ _ ∧ _ ∧ _ ∧ _ ∧ _ ∧ _ ∧ _ ∧ _ ∧ _ ∧ Below w1.heap.size w1 _ by assumption).2.2.2.2.2.2.2.2.2.2.2.2 hb4))
        | (with_reducible exact HCX.out _ (bel_trans (show _ ∧ _ ∧ _ ∧ _ ∧ _ ∧ _ ∧ _ ∧ _ ∧ _ ∧ _ ∧ _ ∧ _ ∧ Below w1.heap.size w1 _ by assumption).2.2.2.2.2.2.2.2.2.2.2.2 hb5))
        | (with_reducible exact HCX.out _ (bel_trans (show _ ∧ _ ∧ _ ∧ _ ∧ _ ∧ _ ∧ _ ∧ _ ∧ _ ∧ _ ∧ _ ∧ _ ∧ Below w1.heap.size w1 _ by assumption).2.2.2.2.2.2.2.2.2.2.2.2 hb6)))
      (first
        | (go_at_call 12; (with_reducible refine (HSH2.out _ (bel_trans HB.out (show _ ∧ _ ∧ _ ∧ _ ∧ _ ∧ _ ∧ _ ∧ _ ∧ _ ∧ _ ∧ _ ∧ _ ∧ Below w1.heap.size w1 _ by assumption).2.2.2.2.2.2.2.2.2.2.2.2)).mono ?_); rintro e w4 ⟨⟨v4, rfl, ho4⟩, hb4⟩)
        | (go_at_call 13; (with_reducible refine (HRF2.out _ (bel_trans HB.out (show _ ∧ _ ∧ _ ∧ _ ∧ _ ∧ _ ∧ _ ∧ _ ∧ _ ∧ _ ∧ _ ∧ _ ∧ Below w1.heap.size w1 _ by assumption).2.2.2.2.2.2.2.2.2.2.2.2)).mono ?_); rintro e w5 ⟨⟨v5, rfl, ho5⟩, hb5⟩; have hc1 := OwnL.has (OwnL.mono ho4 hb5); have hc2 := OwnL.has ho5)
        | (go_at_call 11; (with_reducible refine (HSA2.out _ _ _ hc1 hc2).mono ?_); rintro e w6 ⟨rfl, hb6⟩))
    all_goals (
      have hy : Below w1.heap.size w1 w6 := (show _ ∧ _ ∧ _ ∧ _ ∧ _ ∧ _ ∧ _ ∧ _ ∧ _ ∧ _ ∧ _ ∧ _ ∧ Below w1.heap.size w1 w6 by assumption).2.2.2.2.2.2.2.2.2.2.2.2
      go_wp2
      go_ret
      exact ⟨rfl, bel_trans HB.out hy⟩)
end Go.Proofs.YtahghakpmjfefaaDoor.Sh
