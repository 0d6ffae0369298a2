/- The law ShowUnlike: the walk. -/
import Derived.Test.YtmhhbnnjilbdnaaGreatDoorUC
import Derived.Test.YtmhhbnnjilbdnaaGreatDoorGJ
import Derived.Test.YtmhhbnnjilbdnaaGreatDoorHK
namespace Go.Proofs.YtmhhbnnjilbdnaaGreatDoor.Sh
open Go.RowKit En Go.ChangeMaps
set_option linter.unusedSimpArgs false
set_option linter.unusedVariables false
set_option maxRecDepth 20000

theorem sound_yes {p : PnrT} (h : soundPS p = true) : SoundP p := by
  rcases Classical.em (SoundP p) with k | k
  · exact k
  · rw [soundPS_no k] at h; cases h
theorem fine_small {p : PnrT} (h : smallB p = true) (hs : soundPS p = true) (hw : ∀ x ∈ p.seats, (Lit.int .i64 x.seg).wf = true) : FineP p ∧ cntP p < 300 := by
  have h := of_decide_eq_true h
  have hs := sound_yes hs
  refine ⟨fine_of hs hw h.2.2.2.2, ?_⟩
  have := hs.names.1
  have := hs.segs.1
  have := hs.phones.1
  have := hs.remarks.1
  unfold cntP
  omega
theorem room_small {p : PnrT} (h : smallB p = true) : Room p ∧ (p.names.length ≤ 1000 ∧ p.segs.length ≤ 1000 ∧ p.phones.length ≤ 1000 ∧ p.remarks.length ≤ 1000 ∧ p.seats.length ≤ 1000) := by
  have h := of_decide_eq_true h
  unfold Room
  omega

set_option maxHeartbeats 32000000 in
theorem showUnlike_walk (v0 : Value) (p : PnrT) (v1 : Value) (q : PnrT) (v2 : Value) (d : EditT) (w : World) (h0 : PnrIn w v0 p) (h1 : PnrIn w v1 q) (h2 : EditIn w v2 d) (ht : Da.LenTab w) (hpt : PowTab w) (hm : MaxCell w) :
    Calls Tryz.prog 4 #[v0, v1, v2] w fun e w' => e = .returned (.bool true) ∧ Below w.heap.size w w' := by
  obtain ⟨vn, vs, vp, vr, vx, rfl, hp⟩ := h0
  obtain ⟨un, us, up, ur, ux, rfl, hq⟩ := h1
  obtain ⟨h2', hd⟩ := h2
  subst h2'
  -- the three boxes
  have ha1 : Below w.heap.size w (w.alloc (.cells (pnrC p vn vs vp vr vx).toArray 29)) := (Below.refl _ _).alloc (Nat.le_refl _) _
  have hB0 := Blk.new w 29 (pnrC p vn vs vp vr vx)
  generalize hwa : w.alloc (.cells (pnrC p vn vs vp vr vx).toArray 29) = wa at ha1 hB0
  have ha2 : Below wa.heap.size wa (wa.alloc (.cells (pnrC q un us up ur ux).toArray 29)) := (Below.refl _ _).alloc (Nat.le_refl _) _
  have hB1 := Blk.new wa 29 (pnrC q un us up ur ux)
  generalize hwb : wa.alloc (.cells (pnrC q un us up ur ux).toArray 29) = wb at ha2 hB1
  have ha3 : Below wb.heap.size wb (wb.alloc (.cells (editC d).toArray 48)) := (Below.refl _ _).alloc (Nat.le_refl _) _
  have hB2 := Blk.new wb 48 (editC d)
  generalize hwc : wb.alloc (.cells (editC d).toArray 48) = w1 at ha3 hB2
  have hb01 : Below w.heap.size w w1 := bel_trans (bel_trans ha1 ha2) ha3
  have HB01 := Lib.hid hb01
  have HP0 := Lib.hid ((hB0.mono ha2).mono ha3)
  have HP1 := Lib.hid (hB1.mono ha3)
  have HP2 := Lib.hid hB2
  have HST0 : RowKit.Hid (∀ W, Below w1.heap.size w1 W → Below w.heap.size w W) := Lib.hid fun W h => below_w HB01.out h
  have HPI : RowKit.Hid (∀ W, Below w1.heap.size w1 W → PIn0 W p vn vs vp vr vx) := Lib.hid fun W h => by
    have hw := below_w HB01.out h
    exact ⟨hp.n.mono hw, hp.s.mono hw, hp.ph.mono hw, hp.rm.mono hw, hp.x.mono hw, hp.fit, hp.wf⟩
  have HQI : RowKit.Hid (∀ W, Below w1.heap.size w1 W → PIn0 W q un us up ur ux) := Lib.hid fun W h => by
    have hw := below_w HB01.out h
    exact ⟨hq.n.mono hw, hq.s.mono hw, hq.ph.mono hw, hq.rm.mono hw, hq.x.mono hw, hq.fit, hq.wf⟩
  have HTT : RowKit.Hid (∀ W, Below w1.heap.size w1 W → Da.LenTab W ∧ PowTab W ∧ MaxCell W) := Lib.hid fun W h => have hw := below_w HB01.out h; ⟨ht.keep hw, powTab_keep hpt hw, hm.keep hw⟩
  have HSP : RowKit.Hid (∀ W, Below w1.heap.size w1 W → Calls Tryz.prog 6 #[.agg (pnrC p vn vs vp vr vx).toArray] W fun e w' => e = .returned (.bool (smallB p)) ∧ Below W.heap.size W w') := Lib.hid fun W h => smallP_any p _ _ _ _ _ W (HPI.out W h)
  have HSQ : RowKit.Hid (∀ W, Below w1.heap.size w1 W → Calls Tryz.prog 6 #[.agg (pnrC q un us up ur ux).toArray] W fun e w' => e = .returned (.bool (smallB q)) ∧ Below W.heap.size W w') := Lib.hid fun W h => smallP_any q _ _ _ _ _ W (HQI.out W h)
  have HNP : RowKit.Hid (smallB p = true → ∀ W, Below w1.heap.size w1 W → Calls Tryz.prog 7 #[.agg (pnrC p vn vs vp vr vx).toArray] W fun e w' => e = .returned (.bool (soundPS p)) ∧ Below W.heap.size W w') := Lib.hid fun h W hW => refSoundP_any p _ _ _ _ _ W (PIn.of0 (HPI.out W hW) (room_small h).2)
  have HNQ : RowKit.Hid (smallB q = true → ∀ W, Below w1.heap.size w1 W → Calls Tryz.prog 7 #[.agg (pnrC q un us up ur ux).toArray] W fun e w' => e = .returned (.bool (soundPS q)) ∧ Below W.heap.size W w') := Lib.hid fun h W hW => refSoundP_any q _ _ _ _ _ W (PIn.of0 (HQI.out W hW) (room_small h).2)
  have HAP : RowKit.Hid (smallB p = true → ∀ W, Below w1.heap.size w1 W → Calls Tryz.prog 12 #[.agg (pnrC p vn vs vp vr vx).toArray, .agg (editC d).toArray] W fun e w' => AppP p e w' ∧ Below W.heap.size W w') := Lib.hid fun h W hW => apply_any p _ _ _ _ _ d W (PIn.of0 (HPI.out W hW) (room_small h).2) (room_small h).1 hd
  have HUR : RowKit.Hid (smallB p = true → soundPS p = true → ∀ x xn xs xp xr xx W, Below w1.heap.size w1 W → Kept p x → PIn W x xn xs xp xr xx → Calls Tryz.prog 13 #[.agg (pnrC p vn vs vp vr vx).toArray, .agg (pnrC x xn xs xp xr xx).toArray] W fun e w' => e = .returned (.bool true) ∧ Below W.heap.size W w') := Lib.hid fun h hs x xn xs xp xr xx W hW hk hx => have t := HTT.out W hW; have f := fine_small h hs hp.wf; unlikeS_any p x _ _ _ _ _ _ _ _ _ _ W (PIn.of0 (HPI.out W hW) (room_small h).2) hx f.1 (f.1.kept f.2 hk hx.wf) t.1 t.2.1
  have HUQ : RowKit.Hid (smallB p = true → soundPS p = true → smallB q = true → soundPS q = true → ∀ W, Below w1.heap.size w1 W → Calls Tryz.prog 13 #[.agg (pnrC p vn vs vp vr vx).toArray, .agg (pnrC q un us up ur ux).toArray] W fun e w' => e = .returned (.bool true) ∧ Below W.heap.size W w') := Lib.hid fun h hs k ks W hW => have t := HTT.out W hW; unlikeS_any p q _ _ _ _ _ _ _ _ _ _ W (PIn.of0 (HPI.out W hW) (room_small h).2) (PIn.of0 (HQI.out W hW) (room_small k).2) (fine_small h hs hp.wf).1 (fine_small k ks hq.wf).1 t.1 t.2.1
  have HAW : RowKit.Hid (∀ W, Below w1.heap.size w1 W → Calls Tryz.prog 5 #[] W fun e w' => e = .returned (.bool true) ∧ Below W.heap.size W w') := Lib.hid fun W hW => have t := HTT.out W hW; awake_any W t.2.2 t.1 t.2.1
  have HRR : RowKit.Hid (∀ W, Below w1.heap.size w1 W → W.rangeAt w.heap.size 0 (pnrC p vn vs vp vr vx) ∧ W.rangeAt wa.heap.size 0 (pnrC q un us up ur ux) ∧ W.rangeAt wb.heap.size 0 (editC d)) := Lib.hid fun W h => ⟨(HP0.out.mono h).range, (HP1.out.mono h).range, (HP2.out.mono h).range⟩
  have HLD : RowKit.Hid (∀ W, Below w1.heap.size w1 W → (loadVar 29 ⟨w.heap.size, 0, none⟩).run Tryz.prog W = .ok (.agg (pnrC p vn vs vp vr vx).toArray) W ∧ (loadVar 29 ⟨wa.heap.size, 0, none⟩).run Tryz.prog W = .ok (.agg (pnrC q un us up ur ux).toArray) W) := Lib.hid fun W h => ⟨pnr_load (HP0.out.mono h) rfl, pnr_load (HP1.out.mono h) rfl⟩
  clear hp hq hd ha1 hB0 ha2 hB1 ha3 hB2 hb01 HPI HQI HP0 HP1 HP2 ht hpt hm HTT
  unfold pnrC at hwa hwb HSP HSQ HNP HNQ HAP HUR HUQ HRR HLD ⊢
  unfold editC at hwc HAP HRR ⊢
  simp only [List.toArray] at hwa hwb hwc
  generalize smallB p = sp at *
  generalize smallB q = sq at *
  generalize soundPS p = np at *
  generalize soundPS q = nq at *
  go_enter Tryz.func4, Tryz.ntmps4
  go_upto_region 1 with fail
  try rw [hwa, hwb, hwc]
  clear hwa hwb hwc
  generalize wa.heap.size = gq at *
  generalize wb.heap.size = ge at *
  cases sp with
  | false =>
    go_wp2_with (first
      | (go_at_call 5; (with_reducible refine (HAW.out _ (Below.refl _ _)).mono ?_); rintro e w2 ⟨rfl, hb2⟩; obtain ⟨hr2, _, _⟩ := HRR.out w2 hb2)
      | (refine wpList_load_mid rfl 29 (.tmp 3) rfl w.heap.size 0 rfl _ _ hr2 Tryz.underlying29 rfl info_pnr ?_)
      | (go_at_call 6; (with_reducible refine (HSP.out _ hb2).mono ?_); rintro e w3 ⟨rfl, hb3⟩))
    go_ret
    exact ⟨rfl, HST0.out _ (bel_trans hb2 hb3)⟩
  | true =>
  cases sq with
  | false =>
    go_wp2_with (first
      | (go_at_call 5; (with_reducible refine (HAW.out _ (Below.refl _ _)).mono ?_); rintro e w2 ⟨rfl, hb2⟩; obtain ⟨hr2, _, _⟩ := HRR.out w2 hb2)
      | (refine wpList_load_mid rfl 29 (.tmp 3) rfl w.heap.size 0 rfl _ _ hr2 Tryz.underlying29 rfl info_pnr ?_)
      | (go_at_call 6; (with_reducible refine (HSP.out _ hb2).mono ?_); rintro e w3 ⟨rfl, hb3⟩; obtain ⟨_, hl3⟩ := HLD.out _ (bel_trans hb2 hb3))
      | (refine wpList_load_yes 29 (.tmp 4) rfl (by rfl) ⟨gq, 0, none⟩ rfl _ hl3 ?_)
      | (go_at_call 6; (with_reducible refine (HSQ.out _ (bel_trans hb2 hb3)).mono ?_); rintro e w4 ⟨rfl, hb4⟩))
    go_ret
    exact ⟨rfl, HST0.out _ (bel_trans (bel_trans hb2 hb3) hb4)⟩
  | true =>
  have HNP2 := Lib.hid (HNP.out rfl)
  have HNQ2 := Lib.hid (HNQ.out rfl)
  clear HNP HNQ
  cases np with
  | false =>
    go_wp2_with (first
      | (go_at_call 5; (with_reducible refine (HAW.out _ (Below.refl _ _)).mono ?_); rintro e w2 ⟨rfl, hb2⟩; obtain ⟨hr2, _, _⟩ := HRR.out w2 hb2)
      | (refine wpList_load_mid rfl 29 (.tmp 3) rfl w.heap.size 0 rfl _ _ hr2 Tryz.underlying29 rfl info_pnr ?_)
      | (go_at_call 6; (with_reducible refine (HSP.out _ hb2).mono ?_); rintro e w3 ⟨rfl, hb3⟩; obtain ⟨_, hl3⟩ := HLD.out _ (bel_trans hb2 hb3))
      | (refine wpList_load_yes 29 (.tmp 4) rfl (by rfl) ⟨gq, 0, none⟩ rfl _ hl3 ?_)
      | (go_at_call 6; (with_reducible refine (HSQ.out _ (bel_trans hb2 hb3)).mono ?_); rintro e w4 ⟨rfl, hb4⟩; obtain ⟨hl4, _⟩ := HLD.out _ (bel_trans (bel_trans hb2 hb3) hb4))
      | (refine wpList_load_yes 29 (.tmp 3) rfl (by rfl) ⟨w.heap.size, 0, none⟩ rfl _ hl4 ?_)
      | (go_at_call 7; (with_reducible refine (HNP2.out _ (bel_trans (bel_trans hb2 hb3) hb4)).mono ?_); rintro e w5 ⟨rfl, hb5⟩))
    go_ret
    exact ⟨rfl, HST0.out _ (bel_trans (bel_trans (bel_trans hb2 hb3) hb4) hb5)⟩
  | true =>
    have HAP2 := Lib.hid (HAP.out rfl)
    have HUR2 := Lib.hid (HUR.out rfl rfl)
    have HUQ2 := Lib.hid (HUQ.out rfl rfl rfl)
    clear HAP HUR HUQ
    go_upto_region 5 with (first
      | (go_at_call 5; (with_reducible refine (HAW.out _ (Below.refl _ _)).mono ?_); rintro e w2 ⟨rfl, hb2⟩; obtain ⟨hr2, _, _⟩ := HRR.out w2 hb2)
      | (refine wpList_load_mid rfl 29 (.tmp 3) rfl w.heap.size 0 rfl _ _ hr2 Tryz.underlying29 rfl info_pnr ?_)
      | (go_at_call 6; (with_reducible refine (HSP.out _ hb2).mono ?_); rintro e w3 ⟨rfl, hb3⟩; obtain ⟨_, hl3⟩ := HLD.out _ (bel_trans hb2 hb3))
      | (refine wpList_load_yes 29 (.tmp 4) rfl (by rfl) ⟨gq, 0, none⟩ rfl _ hl3 ?_)
      | (go_at_call 6; (with_reducible refine (HSQ.out _ (bel_trans hb2 hb3)).mono ?_); rintro e w4 ⟨rfl, hb4⟩; obtain ⟨hl4, _⟩ := HLD.out _ (bel_trans (bel_trans hb2 hb3) hb4))
      | (refine wpList_load_yes 29 (.tmp 3) rfl (by rfl) ⟨w.heap.size, 0, none⟩ rfl _ hl4 ?_)
      | (go_at_call 7; (with_reducible refine (HNP2.out _ (bel_trans (bel_trans hb2 hb3) hb4)).mono ?_); rintro e w4b ⟨rfl, hb4b⟩))
    have h4 := bel_trans (bel_trans (bel_trans hb2 hb3) hb4) hb4b
    obtain ⟨hr4, _, hre4⟩ := HRR.out w4b h4
    have H4 := Lib.hid h4
    clear hb2 hb3 hb4 hb4b h4 hr2 hl3 hl4 HSP HSQ HAW HNP2
    go_upto_region 6 with (first
      | (refine wpList_load_mid rfl 29 (.tmp 3) rfl w.heap.size 0 rfl _ _ hr4 Tryz.underlying29 rfl info_pnr ?_)
      | (refine wpList_load_mid rfl 48 (.tmp 5) rfl ge 0 rfl _ _ hre4 Tryz.underlying48 rfl info_edit ?_)
      | (go_at_call 12; (with_reducible refine (HAP2.out _ H4.out).mono ?_); rintro e w5 ⟨⟨x, xn, xs, xp, xr, xx, z, rfl, hx, hkx⟩, hb5⟩; have hone := pin_one hx; have HKX := Lib.hid hkx; clear hkx)
      | (refine wpList_store_blk rfl 29 (.tmp 7) (.tmp 28) rfl w5.heap.size 29 zeroC (pnrC x xn xs xp xr xx) rfl rfl (Blk.new w5 29 zeroC) rfl info_pnr hone ?_; intro w6 hb6 hl6 hg6))
    have hb56 : Below w5.heap.size w5 w6 := ((Below.refl _ _).alloc (Nat.le_refl _) (.cells zeroC.toArray 29)).trans hl6
    have hx6 := hx.mono hb56
    have h6 := bel_trans (bel_trans H4.out hb5) hb56
    have H6 := Lib.hid h6
    have hlp := (HLD.out _ h6).1
    obtain ⟨hr6, hrq6, _⟩ := HRR.out _ h6
    have hlx : (loadVar 29 ⟨w5.heap.size, 0, none⟩).run Tryz.prog w6 = .ok (.agg #[.string x.loc, .string x.off, xn, xs, xp, .int .i64 x.tk, .int .i64 x.td, .int .i64 x.tm, .string x.recv, xr, xx, .bool x.queued]) w6 := pnr_load hb6 rfl
    clear hr4 hre4 hb5 hl6 hg6 hb56 hx hb6 h6 hone
    have HX6 := Lib.hid hx6
    clear hx6
    by_cases hz : z = 0
    · subst hz
      have HKP := Lib.hid (HKX.out rfl)
      go_upto_region 8 with (first
        | (refine wpList_load_yes 29 (.tmp 3) rfl (by rfl) ⟨w.heap.size, 0, none⟩ rfl _ hlp ?_)
        | (refine wpList_load_yes 29 (.tmp 7) rfl (by rfl) ⟨w5.heap.size, 0, none⟩ rfl _ hlx ?_)
        | (go_at_call 13; (with_reducible refine (HUR2.out x xn xs xp xr xx _ H6.out HKP.out HX6.out).mono ?_); rintro e w7 ⟨rfl, hb7⟩))
      have h7 := bel_trans H6.out hb7
      obtain ⟨hr7, hrq7, _⟩ := HRR.out _ h7
      have H7 := Lib.hid h7
      clear hb7 h7 hlp hlx hr6 hrq6
      cases nq with
      | false =>
        go_wp2_with (first
          | (refine wpList_load_mid rfl 29 (.tmp 4) rfl gq 0 rfl _ _ hrq7 Tryz.underlying29 rfl info_pnr ?_)
          | (go_at_call 7; (with_reducible refine (HNQ2.out _ H7.out).mono ?_); rintro e w8 ⟨rfl, hb8⟩))
        go_ret
        exact ⟨rfl, HST0.out _ (bel_trans H7.out hb8)⟩
      | true =>
        have HUQ3 := Lib.hid (HUQ2.out rfl)
        go_wp2_with (first
          | (refine wpList_load_mid rfl 29 (.tmp 4) rfl gq 0 rfl _ _ hrq7 Tryz.underlying29 rfl info_pnr ?_)
          | (go_at_call 7; (with_reducible refine (HNQ2.out _ H7.out).mono ?_); rintro e w8 ⟨rfl, hb8⟩; have h8 := bel_trans H7.out hb8; obtain ⟨hlp8, hlq8⟩ := HLD.out _ h8)
          | (refine wpList_load_yes 29 (.tmp 3) rfl (by rfl) ⟨w.heap.size, 0, none⟩ rfl _ hlp8 ?_)
          | (refine wpList_load_yes 29 (.tmp 4) rfl (by rfl) ⟨gq, 0, none⟩ rfl _ hlq8 ?_)
          | (go_at_call 13; (with_reducible refine (HUQ3.out _ h8).mono ?_); rintro e w9 ⟨rfl, hb9⟩))
        go_ret
        exact ⟨rfl, HST0.out _ (bel_trans h8 hb9)⟩
    · have hzb : (z == 0) = false := by simp [hz]
      clear hz
      go_upto_region 8 with fail
      have H7 := H6
      have hrq7 := hrq6
      clear hlp hlx hr6 hrq6
      cases nq with
      | false =>
        go_wp2_with (first
          | (refine wpList_load_mid rfl 29 (.tmp 4) rfl gq 0 rfl _ _ hrq7 Tryz.underlying29 rfl info_pnr ?_)
          | (go_at_call 7; (with_reducible refine (HNQ2.out _ H7.out).mono ?_); rintro e w8 ⟨rfl, hb8⟩))
        go_ret
        exact ⟨rfl, HST0.out _ (bel_trans H7.out hb8)⟩
      | true =>
        have HUQ3 := Lib.hid (HUQ2.out rfl)
        go_wp2_with (first
          | (refine wpList_load_mid rfl 29 (.tmp 4) rfl gq 0 rfl _ _ hrq7 Tryz.underlying29 rfl info_pnr ?_)
          | (go_at_call 7; (with_reducible refine (HNQ2.out _ H7.out).mono ?_); rintro e w8 ⟨rfl, hb8⟩; have h8 := bel_trans H7.out hb8; obtain ⟨hlp8, hlq8⟩ := HLD.out _ h8)
          | (refine wpList_load_yes 29 (.tmp 3) rfl (by rfl) ⟨w.heap.size, 0, none⟩ rfl _ hlp8 ?_)
          | (refine wpList_load_yes 29 (.tmp 4) rfl (by rfl) ⟨gq, 0, none⟩ rfl _ hlq8 ?_)
          | (go_at_call 13; (with_reducible refine (HUQ3.out _ h8).mono ?_); rintro e w9 ⟨rfl, hb9⟩))
        go_ret
        exact ⟨rfl, HST0.out _ (bel_trans h8 hb9)⟩
end Go.Proofs.YtmhhbnnjilbdnaaGreatDoor.Sh
