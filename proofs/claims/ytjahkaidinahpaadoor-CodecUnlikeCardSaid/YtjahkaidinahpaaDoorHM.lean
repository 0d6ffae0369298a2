/- The law CodecUnlike: the walk. -/
import Derived.Test.YtjahkaidinahpaaDoorHL
import Derived.Test.YtjahkaidinahpaaDoorGC
namespace Go.Proofs.YtjahkaidinahpaaDoor
open Go.RowKit Go.ChangeMaps
set_option linter.unusedSimpArgs false
set_option linter.unusedVariables false
set_option maxRecDepth 20000

def smlB (p : PnrT) : Bool := decide (p.names.length ≤ 60 ∧ p.segs.length ≤ 60 ∧ p.phones.length ≤ 60 ∧ p.remarks.length ≤ 60 ∧ p.seats.length ≤ 200)

set_option maxHeartbeats 8000000 in
theorem smallC_any (p : PnrT) (vn vs vp vr vx : Value) (w : World) (h : PIn0 w p vn vs vp vr vx) :
    Calls Tryd.prog 14 #[.agg (pnrC p vn vs vp vr vx).toArray] w fun e w' => e = .returned (.bool (smlB p)) ∧ Below w.heap.size w w' := by
  have hbk := Blk.new w 29 (pnrC p vn vs vp vr vx)
  have hb1 : Below w.heap.size w (w.alloc (.cells (pnrC p vn vs vp vr vx).toArray 29)) := (Below.refl _ _).alloc (Nat.le_refl _) _
  have HYES : RowKit.Hid (p.names.length ≤ 60 ∧ p.segs.length ≤ 60 ∧ p.phones.length ≤ 60 ∧ p.remarks.length ≤ 60 ∧ p.seats.length ≤ 200 → smlB p = true) := Lib.hid fun h => decide_eq_true h
  have HNO : RowKit.Hid (¬ (p.names.length ≤ 60 ∧ p.segs.length ≤ 60 ∧ p.phones.length ≤ 60 ∧ p.remarks.length ≤ 60 ∧ p.seats.length ≤ 200) → smlB p = false) := Lib.hid fun h => decide_eq_false h
  generalize smlB p = sb at *
  obtain ⟨pn, cn, rfl⟩ := h.n.len
  obtain ⟨ps, cs, rfl⟩ := h.s.len
  obtain ⟨pp, cp, rfl⟩ := own_len h.ph
  obtain ⟨pr, cr, rfl⟩ := own_len h.rm
  obtain ⟨px, cx, rfl⟩ := h.x.len
  unfold pnrC at hbk hb1 ⊢
  have HB := Lib.hid hb1
  have HBK := Lib.hid hbk
  clear h hbk hb1
  generalize p.names.length = a1 at *
  generalize p.segs.length = a2 at *
  generalize p.phones.length = a3 at *
  generalize p.remarks.length = a4 at *
  generalize p.seats.length = a5 at *
  go_enter Tryd.func14, Tryd.ntmps14
  go_upto_region 1 with fail
  generalize w.alloc (.cells #[.string p.loc, .string p.off, .slice pn a1 cn, .slice ps a2 cs, .slice pp a3 cp, .int .i64 p.tk, .int .i64 p.td, .int .i64 p.tm, .string p.recv, .slice pr a4 cr, .slice px a5 cx, .bool p.queued] 29) = w1 at *
  have c2 : w1.cell? ⟨w.heap.size, 2, none⟩ = some (.slice pn a1 cn) := (HBK.out.cell 2).trans rfl
  have c3 : w1.cell? ⟨w.heap.size, 3, none⟩ = some (.slice ps a2 cs) := (HBK.out.cell 3).trans rfl
  have c4 : w1.cell? ⟨w.heap.size, 4, none⟩ = some (.slice pp a3 cp) := (HBK.out.cell 4).trans rfl
  have c9 : w1.cell? ⟨w.heap.size, 9, none⟩ = some (.slice pr a4 cr) := (HBK.out.cell 9).trans rfl
  have c10 : w1.cell? ⟨w.heap.size, 10, none⟩ = some (.slice px a5 cx) := (HBK.out.cell 10).trans rfl
  by_cases h1 : a1 ≤ 60
  rotate_left
  · have hf := Lib.hid (HNO.out fun k => h1 k.1)
    have hi : ¬ (a1 : Int) ≤ 60 := by omega
    go_wp2
    go_ret
    exact ⟨ret_bool (by rw [hf.out]; try simp), HB.out⟩
  have i1 : (a1 : Int) ≤ 60 := by omega
  by_cases h2 : a2 ≤ 60
  rotate_left
  · have hf := Lib.hid (HNO.out fun k => h2 k.2.1)
    have hi : ¬ (a2 : Int) ≤ 60 := by omega
    go_wp2
    go_ret
    exact ⟨ret_bool (by rw [hf.out]; try simp), HB.out⟩
  have i2 : (a2 : Int) ≤ 60 := by omega
  by_cases h3 : a3 ≤ 60
  rotate_left
  · have hf := Lib.hid (HNO.out fun k => h3 k.2.2.1)
    have hi : ¬ (a3 : Int) ≤ 60 := by omega
    go_wp2
    go_ret
    exact ⟨ret_bool (by rw [hf.out]; try simp), HB.out⟩
  have i3 : (a3 : Int) ≤ 60 := by omega
  by_cases h4 : a4 ≤ 60
  rotate_left
  · have hf := Lib.hid (HNO.out fun k => h4 k.2.2.2.1)
    have hi : ¬ (a4 : Int) ≤ 60 := by omega
    go_wp2
    go_ret
    exact ⟨ret_bool (by rw [hf.out]; try simp), HB.out⟩
  have i4 : (a4 : Int) ≤ 60 := by omega
  by_cases h5 : a5 ≤ 200
  · have ht := Lib.hid (HYES.out ⟨h1, h2, h3, h4, h5⟩)
    have i5 : (a5 : Int) ≤ 200 := by omega
    go_wp2
    go_ret
    exact ⟨ret_bool (by rw [ht.out]; try simp [h5]), HB.out⟩
  · have hf := Lib.hid (HNO.out fun k => h5 k.2.2.2.2)
    have hi : ¬ (a5 : Int) ≤ 200 := by omega
    go_wp2
    go_ret
    exact ⟨ret_bool (by rw [hf.out]; try simp [h5]), HB.out⟩

theorem room_of {p : PnrT} (h : smlB p = true) : Room p ∧ (p.names.length ≤ 1000 ∧ p.segs.length ≤ 1000 ∧ p.phones.length ≤ 1000 ∧ p.remarks.length ≤ 1000 ∧ p.seats.length ≤ 1000) := by
  have h := of_decide_eq_true h
  unfold Room
  omega

set_option maxHeartbeats 32000000 in
theorem codecUnlike_walk (v0 : Value) (p : PnrT) (v1 : Value) (q : PnrT) (v2 : Value) (d : EditT) (w : World) (h0 : PnrIn w v0 p) (h1 : PnrIn w v1 q) (h2 : EditIn w v2 d) :
    Calls Tryd.prog 3 #[v0, v1, v2] w fun e w' => e = .returned (.bool true) ∧ Below w.heap.size w w' := by
  obtain ⟨vn, vs, vp, vr, vx, rfl, hp⟩ := h0
  obtain ⟨un, us, up, ur, ux, rfl, hq⟩ := h1
  obtain ⟨h2', hd⟩ := h2
  subst h2'
  -- the three boxes
  have ha1 : Below w.heap.size w (w.alloc (.cells (pnrC p vn vs vp vr vx).toArray 29)) := (Below.refl _ _).alloc (Nat.le_refl _) _
  have hB0 := Blk.new w 29 (pnrC p vn vs vp vr vx)
  generalize hwa : w.alloc (.cells (pnrC p vn vs vp vr vx).toArray 29) = wa at ha1 hB0
  have ha2 : Below wa.heap.size wa (wa.alloc (.cells (pnrC q un us up ur ux).toArray 29)) := (Below.refl _ _).alloc (Nat.le_refl _) _
  have hB1 := Blk.new wa 29 (pnrC q un us up ur ux)
  generalize hwb : wa.alloc (.cells (pnrC q un us up ur ux).toArray 29) = wb at ha2 hB1
  have ha3 : Below wb.heap.size wb (wb.alloc (.cells (editC d).toArray 41)) := (Below.refl _ _).alloc (Nat.le_refl _) _
  have hB2 := Blk.new wb 41 (editC d)
  generalize hwc : wb.alloc (.cells (editC d).toArray 41) = w1 at ha3 hB2
  have hb01 : Below w.heap.size w w1 := bel_trans (bel_trans ha1 ha2) ha3
  have HB01 := Lib.hid hb01
  have HP0 := Lib.hid ((hB0.mono ha2).mono ha3)
  have HP1 := Lib.hid (hB1.mono ha3)
  have HP2 := Lib.hid hB2
  have HST0 : RowKit.Hid (∀ W, Below w1.heap.size w1 W → Below w.heap.size w W) := Lib.hid fun W h => below_w HB01.out h
  have HPI : RowKit.Hid (∀ W, Below w1.heap.size w1 W → PIn0 W p vn vs vp vr vx) := Lib.hid fun W h => by
    have hw := below_w HB01.out h
    exact ⟨hp.n.mono hw, hp.s.mono hw, hp.ph.mono hw, hp.rm.mono hw, hp.x.mono hw, hp.fit, hp.wf⟩
  have HQI : RowKit.Hid (∀ W, Below w1.heap.size w1 W → PIn0 W q un us up ur ux) := Lib.hid fun W h => by
    have hw := below_w HB01.out h
    exact ⟨hq.n.mono hw, hq.s.mono hw, hq.ph.mono hw, hq.rm.mono hw, hq.x.mono hw, hq.fit, hq.wf⟩
  have HSP : RowKit.Hid (∀ W, Below w1.heap.size w1 W → Calls Tryd.prog 14 #[.agg (pnrC p vn vs vp vr vx).toArray] W fun e w' => e = .returned (.bool (smlB p)) ∧ Below W.heap.size W w') := Lib.hid fun W h => smallC_any p _ _ _ _ _ W (HPI.out W h)
  have HSQ : RowKit.Hid (∀ W, Below w1.heap.size w1 W → Calls Tryd.prog 14 #[.agg (pnrC q un us up ur ux).toArray] W fun e w' => e = .returned (.bool (smlB q)) ∧ Below W.heap.size W w') := Lib.hid fun W h => smallC_any q _ _ _ _ _ W (HQI.out W h)
  have HAP : RowKit.Hid (smlB p = true → ∀ W, Below w1.heap.size w1 W → Calls Tryd.prog 15 #[.agg (pnrC p vn vs vp vr vx).toArray, .agg (editC d).toArray] W fun e w' => AppP p e w' ∧ Below W.heap.size W w') := Lib.hid fun h W hW => apply_any p _ _ _ _ _ d W (PIn.of0 (HPI.out W hW) (room_of h).2) (room_of h).1 hd
  have HUR : RowKit.Hid (smlB p = true → ∀ x xn xs xp xr xx W, Below w1.heap.size w1 W → PIn W x xn xs xp xr xx → Calls Tryd.prog 16 #[.agg (pnrC p vn vs vp vr vx).toArray, .agg (pnrC x xn xs xp xr xx).toArray] W fun e w' => e = .returned (.bool true) ∧ Below W.heap.size W w') := Lib.hid fun h x xn xs xp xr xx W hW hx => unlike_any p x _ _ _ _ _ _ _ _ _ _ W (PIn.of0 (HPI.out W hW) (room_of h).2) hx
  have HUQ : RowKit.Hid (smlB p = true → smlB q = true → ∀ W, Below w1.heap.size w1 W → Calls Tryd.prog 16 #[.agg (pnrC p vn vs vp vr vx).toArray, .agg (pnrC q un us up ur ux).toArray] W fun e w' => e = .returned (.bool true) ∧ Below W.heap.size W w') := Lib.hid fun h k W hW => unlike_any p q _ _ _ _ _ _ _ _ _ _ W (PIn.of0 (HPI.out W hW) (room_of h).2) (PIn.of0 (HQI.out W hW) (room_of k).2)
  have HAW := Lib.hid awake_any
  have HRR : RowKit.Hid (∀ W, Below w1.heap.size w1 W → W.rangeAt w.heap.size 0 (pnrC p vn vs vp vr vx) ∧ W.rangeAt wa.heap.size 0 (pnrC q un us up ur ux) ∧ W.rangeAt wb.heap.size 0 (editC d)) := Lib.hid fun W h => ⟨(HP0.out.mono h).range, (HP1.out.mono h).range, (HP2.out.mono h).range⟩
  have HLD : RowKit.Hid (∀ W, Below w1.heap.size w1 W → (loadVar 29 ⟨w.heap.size, 0, none⟩).run Tryd.prog W = .ok (.agg (pnrC p vn vs vp vr vx).toArray) W ∧ (loadVar 29 ⟨wa.heap.size, 0, none⟩).run Tryd.prog W = .ok (.agg (pnrC q un us up ur ux).toArray) W) := Lib.hid fun W h => ⟨pnr_load (HP0.out.mono h) rfl, pnr_load (HP1.out.mono h) rfl⟩
  clear hp hq hd ha1 hB0 ha2 hB1 ha3 hB2 hb01 HPI HQI HP0 HP1 HP2
  unfold pnrC at hwa hwb HSP HSQ HAP HUR HUQ HRR HLD ⊢
  unfold editC at hwc HAP HRR ⊢
  simp only [List.toArray] at hwa hwb hwc
  generalize smlB p = sp at *
  generalize smlB q = sq at *
  go_enter Tryd.func3, Tryd.ntmps3
  go_upto_region 1 with fail
  try rw [hwa, hwb, hwc]
  clear hwa hwb hwc
  generalize wa.heap.size = gq at *
  generalize wb.heap.size = ge at *
  cases sp with
  | false =>
    go_wp2_with (first
      | (go_at_call 13; (with_reducible refine (HAW.out _).mono ?_); rintro e w2 ⟨rfl, hb2⟩; obtain ⟨hr2, _, _⟩ := HRR.out w2 hb2)
      | (refine wpList_load_mid rfl 29 (.tmp 3) rfl w.heap.size 0 rfl _ _ hr2 Tryd.underlying29 rfl info_pnr ?_)
      | (go_at_call 14; (with_reducible refine (HSP.out _ hb2).mono ?_); rintro e w3 ⟨rfl, hb3⟩))
    go_ret
    exact ⟨rfl, HST0.out _ (bel_trans hb2 hb3)⟩
  | true =>
  cases sq with
  | false =>
    go_wp2_with (first
      | (go_at_call 13; (with_reducible refine (HAW.out _).mono ?_); rintro e w2 ⟨rfl, hb2⟩; obtain ⟨hr2, _, _⟩ := HRR.out w2 hb2)
      | (refine wpList_load_mid rfl 29 (.tmp 3) rfl w.heap.size 0 rfl _ _ hr2 Tryd.underlying29 rfl info_pnr ?_)
      | (go_at_call 14; (with_reducible refine (HSP.out _ hb2).mono ?_); rintro e w3 ⟨rfl, hb3⟩; obtain ⟨_, hl3⟩ := HLD.out _ (bel_trans hb2 hb3))
      | (refine wpList_load_yes 29 (.tmp 4) rfl (by rfl) ⟨gq, 0, none⟩ rfl _ hl3 ?_)
      | (go_at_call 14; (with_reducible refine (HSQ.out _ (bel_trans hb2 hb3)).mono ?_); rintro e w4 ⟨rfl, hb4⟩))
    go_ret
    exact ⟨rfl, HST0.out _ (bel_trans (bel_trans hb2 hb3) hb4)⟩
  | true =>
    have HAP2 := Lib.hid (HAP.out rfl)
    have HUR2 := Lib.hid (HUR.out rfl)
    have HUQ2 := Lib.hid (HUQ.out rfl rfl)
    clear HAP HUR HUQ
    go_upto_region 5 with (first
      | (go_at_call 13; (with_reducible refine (HAW.out _).mono ?_); rintro e w2 ⟨rfl, hb2⟩; obtain ⟨hr2, _, _⟩ := HRR.out w2 hb2)
      | (refine wpList_load_mid rfl 29 (.tmp 3) rfl w.heap.size 0 rfl _ _ hr2 Tryd.underlying29 rfl info_pnr ?_)
      | (go_at_call 14; (with_reducible refine (HSP.out _ hb2).mono ?_); rintro e w3 ⟨rfl, hb3⟩; obtain ⟨_, hl3⟩ := HLD.out _ (bel_trans hb2 hb3))
      | (refine wpList_load_yes 29 (.tmp 4) rfl (by rfl) ⟨gq, 0, none⟩ rfl _ hl3 ?_)
      | (go_at_call 14; (with_reducible refine (HSQ.out _ (bel_trans hb2 hb3)).mono ?_); rintro e w4 ⟨rfl, hb4⟩))
    have h4 := bel_trans (bel_trans hb2 hb3) hb4
    obtain ⟨hr4, _, hre4⟩ := HRR.out w4 h4
    have H4 := Lib.hid h4
    clear hb2 hb3 hb4 h4 hr2 hl3 HSP HSQ HAW
    go_upto_region 6 with (first
      | (refine wpList_load_mid rfl 29 (.tmp 3) rfl w.heap.size 0 rfl _ _ hr4 Tryd.underlying29 rfl info_pnr ?_)
      | (refine wpList_load_mid rfl 41 (.tmp 5) rfl ge 0 rfl _ _ hre4 Tryd.underlying41 rfl info_edit ?_)
      | (go_at_call 15; (with_reducible refine (HAP2.out _ H4.out).mono ?_); rintro e w5 ⟨⟨x, xn, xs, xp, xr, xx, z, rfl, hx, _⟩, hb5⟩; have hone := pin_one hx)
      | (refine wpList_store_blk rfl 29 (.tmp 7) (.tmp 23) rfl w5.heap.size 29 zeroC (pnrC x xn xs xp xr xx) rfl rfl (Blk.new w5 29 zeroC) rfl info_pnr hone ?_; intro w6 hb6 hl6 hg6))
    have hb56 : Below w5.heap.size w5 w6 := ((Below.refl _ _).alloc (Nat.le_refl _) (.cells zeroC.toArray 29)).trans hl6
    have hx6 := hx.mono hb56
    have h6 := bel_trans (bel_trans H4.out hb5) hb56
    have H6 := Lib.hid h6
    have hlp := (HLD.out _ h6).1
    obtain ⟨hr6, hrq6, _⟩ := HRR.out _ h6
    have hlx : (loadVar 29 ⟨w5.heap.size, 0, none⟩).run Tryd.prog w6 = .ok (.agg #[.string x.loc, .string x.off, xn, xs, xp, .int .i64 x.tk, .int .i64 x.td, .int .i64 x.tm, .string x.recv, xr, xx, .bool x.queued]) w6 := pnr_load hb6 rfl
    clear hr4 hre4 hb5 hl6 hg6 hb56 hx hb6 h6 hone
    by_cases hz : z = 0
    · subst hz
      go_wp2_with (first
        | (refine wpList_load_yes 29 (.tmp 3) rfl (by rfl) ⟨w.heap.size, 0, none⟩ rfl _ hlp ?_)
        | (refine wpList_load_yes 29 (.tmp 7) rfl (by rfl) ⟨w5.heap.size, 0, none⟩ rfl _ hlx ?_)
        | (go_at_call 16; (with_reducible refine (HUR2.out x xn xs xp xr xx _ H6.out hx6).mono ?_); rintro e w7 ⟨rfl, hb7⟩; have h7 := bel_trans H6.out hb7; obtain ⟨hr7, hrq7, _⟩ := HRR.out _ h7)
        | (refine wpList_load_mid rfl 29 (.tmp 3) rfl w.heap.size 0 rfl _ _ hr7 Tryd.underlying29 rfl info_pnr ?_)
        | (refine wpList_load_mid rfl 29 (.tmp 4) rfl gq 0 rfl _ _ hrq7 Tryd.underlying29 rfl info_pnr ?_)
        | (go_at_call 16; (with_reducible refine (HUQ2.out _ h7).mono ?_); rintro e w8 ⟨rfl, hb8⟩))
      go_ret
      exact ⟨rfl, HST0.out _ (bel_trans h7 hb8)⟩
    · have hzb : (z == 0) = false := by simp [hz]
      clear hz
      go_wp2_with (first
        | (refine wpList_load_mid rfl 29 (.tmp 3) rfl w.heap.size 0 rfl _ _ hr6 Tryd.underlying29 rfl info_pnr ?_)
        | (refine wpList_load_mid rfl 29 (.tmp 4) rfl gq 0 rfl _ _ hrq6 Tryd.underlying29 rfl info_pnr ?_)
        | (go_at_call 16; (with_reducible refine (HUQ2.out _ H6.out).mono ?_); rintro e w8 ⟨rfl, hb8⟩))
      go_ret
      exact ⟨rfl, HST0.out _ (bel_trans H6.out hb8)⟩
end Go.Proofs.YtjahkaidinahpaaDoor
