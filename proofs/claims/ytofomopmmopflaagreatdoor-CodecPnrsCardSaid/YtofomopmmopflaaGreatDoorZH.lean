/- The statement about the bytes of PNRs: its walk. Printed by tools/gen_zh.py. -/
import Derived.Test.YtofomopmmopflaaGreatDoorZG
import Derived.Test.YtofomopmmopflaaGreatDoorGV
import Derived.Test.YtofomopmmopflaaGreatDoorGX
namespace Go.Proofs.YtofomopmmopflaaGreatDoor
open Go.RowKit Go.ChangeMaps
set_option linter.unusedSimpArgs false
set_option linter.unusedVariables false
set_option maxRecDepth 20000

def pZ : PnrT := ⟨⟨#[]⟩, ⟨#[]⟩, [], [], [], 0, 0, 0, ⟨#[]⟩, [], [], false⟩
theorem pZ_in (w : World) : PIn w pZ (.slice none 0 0) (.slice none 0 0) (.slice none 0 0) (.slice none 0 0) (.slice none 0 0) :=
  ⟨HasE.nil w, HasE.nil w, HasL.nil w, HasL.nil w, HasE.nil w, ⟨Nat.zero_le _, Nat.zero_le _, by simp [pZ], by simp [pZ], by simp [pZ], Nat.zero_le _, by simp [pZ]⟩, by simp [pZ], by simp [pZ]⟩
theorem zeroC_pZ : zeroC = pnrC pZ (.slice none 0 0) (.slice none 0 0) (.slice none 0 0) (.slice none 0 0) (.slice none 0 0) := rfl
theorem pn_form {o : Option PnrT} {e : Ending} {w : World} (h : pnP o e w) : ∃ q an as' ap ar ax z, e = .returned (.tuple #[.agg (pnrC q an as' ap ar ax).toArray, .int .i64 z]) ∧ PIn w q an as' ap ar ax ∧ ((o = some q ∧ z = 0) ∨ (o = none ∧ q = pZ ∧ z = 4)) := by
  rcases h with ⟨p, vn, vs, vp, vr, vx, h1, h2, h3⟩ | ⟨h1, h2⟩
  · exact ⟨p, vn, vs, vp, vr, vx, 0, h2, h3, .inl ⟨h1, rfl⟩⟩
  · exact ⟨pZ, _, _, _, _, _, 4, by rw [h2, zeroC_pZ], pZ_in w, .inr ⟨h1, rfl, rfl⟩⟩
theorem rpn_form {o : Option PnrT} {e : Ending} {w : World} (h : rpnP o e w) : ∃ q an as' ap ar ax y, e = .returned (.tuple #[.agg (pnrC q an as' ap ar ax).toArray, .bool y]) ∧ PIn w q an as' ap ar ax ∧ ((o = some q ∧ y = true) ∨ (o = none ∧ q = pZ ∧ y = false)) := by
  rcases h with ⟨p, vn, vs, vp, vr, vx, h1, h2, h3⟩ | ⟨h1, h2⟩
  · exact ⟨p, vn, vs, vp, vr, vx, true, h2, h3, .inl ⟨h1, rfl⟩⟩
  · exact ⟨pZ, _, _, _, _, _, false, by rw [h2, zeroC_pZ], pZ_in w, .inr ⟨h1, rfl, rfl⟩⟩
theorem pin0_monoZ {w w' : World} {p : PnrT} {vn vs vp vr vx : Value} (h : PIn0 w p vn vs vp vr vx) (hb : Below w.heap.size w w') : PIn0 w' p vn vs vp vr vx :=
  ⟨h.n.mono hb, h.s.mono hb, h.ph.mono hb, h.rm.mono hb, h.x.mono hb, h.fit, h.wf⟩
theorem small_fewZ {p : PnrT} (h : smallB p = true) : p.names.length ≤ 1000 ∧ p.segs.length ≤ 1000 ∧ p.phones.length ≤ 1000 ∧ p.remarks.length ≤ 1000 ∧ p.seats.length ≤ 1000 := by
  have h := of_decide_eq_true h
  omega

set_option maxHeartbeats 16000000 in
theorem codecPnrs_walk (v : Value) (p : PnrT) (vb : Value) (b : List UInt8) (w : World) (h : PnrIn w v p) (hb : Bytes w vb b) :
    Calls Tryz.prog 3 #[v, vb] w fun e w' => e = .returned (.bool true) ∧ Below w.heap.size w w' := by
  obtain ⟨vn, vs, vp, vr, vx, rfl, h0⟩ := h
  obtain ⟨p3, c3, rfl⟩ := HasE.len hb
  have HBY : RowKit.Hid (HasE byteC w (.slice p3 b.length c3) b) := Lib.hid hb
  have hbk := Blk.new w 29 (pnrC p vn vs vp vr vx)
  have hb1 : Below w.heap.size w (w.alloc (.cells (pnrC p vn vs vp vr vx).toArray 29)) := (Below.refl _ _).alloc (Nat.le_refl _) _
  have HAW := Lib.hid awake_any
  have HSM : RowKit.Hid (∀ W, Below w.heap.size w W → Calls Tryz.prog 5 #[.agg (pnrC p vn vs vp vr vx).toArray] W fun e w' => e = .returned (.bool (smallB p)) ∧ Below W.heap.size W w') := Lib.hid fun W h => smallP_any p vn vs vp vr vx W (pin0_monoZ h0 h)
  have HLO : RowKit.Hid (∀ W, Calls Tryz.prog 6 #[.slice p3 b.length c3] W fun e w' => e = .returned (.bool (decide (20000 < b.length))) ∧ W = w') := Lib.hid fun W => long_any p3 b.length c3 W
  have HPI : RowKit.Hid (smallB p = true → ∀ W, Below w.heap.size w W → PIn W p vn vs vp vr vx) := Lib.hid fun hs W h => PIn.of0 (pin0_monoZ h0 h) (small_fewZ hs)
  have HCO : RowKit.Hid (smallB p = true → ∀ W, Below w.heap.size w W → Calls Tryz.prog 7 #[.agg (pnrC p vn vs vp vr vx).toArray] W fun e w' => (∃ un us up ur ux, e = .returned (.agg (pnrC p un us up ur ux).toArray) ∧ PIn w' p un us up ur ux) ∧ Below W.heap.size W w') := Lib.hid fun hs W h => copied_any p vn vs vp vr vx W (PIn.of0 (pin0_monoZ h0 h) (small_fewZ hs))
  have HRP : RowKit.Hid (smallB p = true → ∀ W, Below w.heap.size w W → Calls Tryz.prog 9 #[.agg (pnrC p vn vs vp vr vx).toArray] W fun e w' => stP (pnrF p) e ∧ Below W.heap.size W w') := Lib.hid fun hs W h => rpnr_any p vn vs vp vr vx W (PIn.of0 (pin0_monoZ h0 h) (small_fewZ hs))
  have HSA : RowKit.Hid (∀ (a : PnrT) an asg ap ar ax bn bs bp br bx W, PIn W a an asg ap ar ax → PIn W a bn bs bp br bx → Calls Tryz.prog 11 #[.agg (pnrC a an asg ap ar ax).toArray, .agg (pnrC a bn bs bp br bx).toArray] W fun e w' => e = .returned (.bool true) ∧ Below W.heap.size W w') := Lib.hid fun a an asg ap ar ax bn bs bp br bx W h1 h2 => by
    have := samePnr_any a a an asg ap ar ax bn bs bp br bx W h1 h2
    rw [sameS_yes rfl] at this
    exact this
  have HCP : RowKit.Hid (∀ an asg ap ar ax W, PIn W p an asg ap ar ax → Calls Tryz.prog 8 #[.agg (pnrC p an asg ap ar ax).toArray] W fun e w' => byP W.heap.size (pnrF p) e w' ∧ Below W.heap.size W w') := Lib.hid fun an asg ap ar ax W h => pnr_any p an asg ap ar ax W h
  obtain ⟨NB, hNB⟩ : ∃ n, b.length = n := ⟨_, rfl⟩
  have HRB : RowKit.Hid (NB ≤ 20000 → ∀ W, Below w.heap.size w W → Calls Tryz.prog 12 #[.slice p3 NB c3] W fun e w' => pnP (readPn b) e w' ∧ Below W.heap.size W w') := Lib.hid fun hl W h => by
    have := readPnr_any (.slice p3 b.length c3) b W (hb.mono h) (by omega)
    rw [hNB] at this
    exact this
  obtain ⟨SB, hSB⟩ : ∃ S : ByteArray, (⟨b.toArray⟩ : ByteArray) = S := ⟨_, rfl⟩
  have hSBL : toL SB = b := by rw [← hSB]; exact strA_toL b
  have HCV : RowKit.Hid (∀ W, Below w.heap.size w W → (convert 30 9 (.slice p3 NB c3)).run Tryz.prog W = .ok (.string SB) W) := Lib.hid fun W h => by
    have := conv_has (hb.mono h)
    rw [hNB, hSB] at this
    exact this
  have HRR : RowKit.Hid (NB ≤ 20000 → ∀ W, Calls Tryz.prog 13 #[.string SB] W fun e w' => rpnP (readPn b) e w' ∧ Below W.heap.size W w') := Lib.hid fun hl W => by
    have := rreadPnr_any SB W (by rw [← size_toL, hSBL]; omega)
    rw [hSBL] at this
    exact this
  rw [hNB] at HLO HBY ⊢
  clear hSB hSBL hNB hb
  unfold pnrC at hbk hb1 HSM HCO HRP ⊢
  simp only [List.toArray] at hbk hb1 HSM HCO HRP ⊢
  generalize hw1 : w.alloc (.cells #[.string p.loc, .string p.off, vn, vs, vp, .int .i64 p.tk, .int .i64 p.td, .int .i64 p.tm, .string p.recv, vr, vx, .bool p.queued] 29) = w1 at hbk hb1
  have HB := Lib.hid hb1
  have HK := Lib.hid hbk
  clear hbk hb1 h0
  generalize hsb : smallB p = sb at *
  clear hsb
  cases sb with
  | false =>
    go_enter Tryz.func3, Tryz.ntmps3
    go_upto_region 1 with fail
    try rw [hw1]
    clear hw1
    go_wp2_with (first
      | (go_at_call 4; (with_reducible refine (HAW.out _).mono ?_); rintro e w2 ⟨rfl, hb2⟩; have hr2 := (HK.out.mono hb2).range)
      | (refine wpList_load_mid rfl 29 (.tmp 2) rfl w.heap.size 0 rfl _ _ hr2 Tryz.underlying29 rfl info_pnr ?_)
      | (go_at_call 5; (with_reducible refine (HSM.out _ (bel_trans HB.out hb2)).mono ?_); rintro e w3 ⟨rfl, hb3⟩))
    go_ret
    exact ⟨rfl, bel_trans HB.out (bel_trans hb2 hb3)⟩
  | true =>
  by_cases hlo : 20000 < NB
  · have hd := decide_eq_true hlo
    rw [hd] at HLO
    clear hd hlo
    go_enter Tryz.func3, Tryz.ntmps3
    go_upto_region 1 with fail
    try rw [hw1]
    clear hw1
    go_wp2_with (first
      | (go_at_call 4; (with_reducible refine (HAW.out _).mono ?_); rintro e w2 ⟨rfl, hb2⟩; have hr2 := (HK.out.mono hb2).range)
      | (refine wpList_load_mid rfl 29 (.tmp 2) rfl w.heap.size 0 rfl _ _ hr2 Tryz.underlying29 rfl info_pnr ?_)
      | (go_at_call 5; (with_reducible refine (HSM.out _ (bel_trans HB.out hb2)).mono ?_); rintro e w3 ⟨rfl, hb3⟩)
      | (go_at_call 6; (with_reducible refine (HLO.out _).mono ?_); rintro e wl ⟨rfl, rfl⟩))
    go_ret
    exact ⟨rfl, bel_trans HB.out (bel_trans hb2 hb3)⟩
  have hd := decide_eq_false hlo
  rw [hd] at HLO
  have HCO2 := Lib.hid (HCO.out rfl)
  have HRP2 := Lib.hid (HRP.out rfl)
  have HPI2 := Lib.hid (HPI.out rfl)
  have HRB2 := Lib.hid (HRB.out (by omega))
  have HRR2 := Lib.hid (HRR.out (by omega))
  clear hd hlo HCO HRP HPI HRB HRR
  go_enter Tryz.func3, Tryz.ntmps3
  go_upto_region 1 with fail
  try rw [hw1]
  clear hw1
  go_upto_region 5 with (first
    | (go_at_call 4; (with_reducible refine (HAW.out _).mono ?_); rintro e w2 ⟨rfl, hb2⟩; have hr2 := (HK.out.mono hb2).range)
    | (refine wpList_load_mid rfl 29 (.tmp 2) rfl w.heap.size 0 rfl _ _ hr2 Tryz.underlying29 rfl info_pnr ?_)
    | (go_at_call 5; (with_reducible refine (HSM.out _ (bel_trans HB.out hb2)).mono ?_); rintro e w3 ⟨rfl, hb3⟩)
    | (go_at_call 6; (with_reducible refine (HLO.out _).mono ?_); rintro e wl ⟨rfl, rfl⟩))
  have HB3 := Lib.hid (bel_trans hb2 hb3)
  have hr3 := (HK.out.mono HB3.out).range
  clear hb2 hb3 hr2 HAW HSM HLO
  go_upto_region 6 with (first
    | (refine wpList_load_mid rfl 29 (.tmp 2) rfl w.heap.size 0 rfl _ _ hr3 Tryz.underlying29 rfl info_pnr ?_)
    | (go_at_call 7; (with_reducible refine (HCO2.out _ (bel_trans HB.out HB3.out)).mono ?_); rintro e w4 ⟨⟨un, us, up, ur, ux, rfl, hpi⟩, hb4⟩; obtain ⟨u1, uj1, rfl⟩ := hpi.n.len; obtain ⟨u2, uj2, rfl⟩ := hpi.s.len; obtain ⟨u3, uj3, rfl⟩ := own_len hpi.ph; obtain ⟨u4, uj4, rfl⟩ := own_len hpi.rm; obtain ⟨u5, uj5, rfl⟩ := hpi.x.len; (try unfold pnrC); (try simp only [List.toArray]); have HU4 := Lib.hid hpi; clear hpi)
    | (refine wpList_store_blk rfl 29 (.tmp 5) (.tmp 24) rfl w4.heap.size 29 zeroC (pnrC p (.slice u1 p.names.length uj1) (.slice u2 p.segs.length uj2) (.slice u3 p.phones.length uj3) (.slice u4 p.remarks.length uj4) (.slice u5 p.seats.length uj5)) rfl rfl (Blk.new w4 29 zeroC) rfl info_pnr (pnrC_one (x := p)) ?_; intro w5 ha5 hb5 hgr5))
  (try dsimp only [Act.put])
  have h45 : Below w4.heap.size w4 w5 := ((Below.refl _ _).alloc (Nat.le_refl _) _).trans hb5
  have HU5 := Lib.hid (HU4.out.mono h45)
  have HA5 := Lib.hid ha5
  have HB5 : RowKit.Hid (Below w1.heap.size w1 w5) := Lib.hid (bel_trans HB3.out (bel_trans hb4 h45))
  clear h45 hb4 hb5 ha5 hgr5 HU4 hr3 HB3
  generalize w4.heap.size = g5 at *
  have hr5 := HA5.out.range
  have HC6 := Lib.hid (HCP.out _ _ _ _ _ w5 HU5.out)
  unfold pnrC at hr5 HC6
  simp only [List.toArray] at hr5 HC6
  go_upto_region 8 with (first
    | (refine wpList_load_mid rfl 29 (.tmp 5) rfl g5 0 rfl _ _ hr5 Tryz.underlying29 rfl info_pnr ?_)
    | (go_at_call 8; (with_reducible refine HC6.out.mono ?_); rintro e6 w6 ⟨hby, hb6⟩; obtain ⟨v6, z6, rfl⟩ := byP_form hby; have HBYP := Lib.hid hby; clear hby; have hb16 := bel_trans HB5.out hb6; have hr6 := (HK.out.mono hb16).range)
    | (refine wpList_load_mid rfl 29 (.tmp 2) rfl w.heap.size 0 rfl _ _ hr6 Tryz.underlying29 rfl info_pnr ?_)
    | (go_at_call 9; (with_reducible refine (HRP2.out _ (bel_trans HB.out hb16)).mono ?_); rintro e7 w7 ⟨hst, hb7⟩; obtain ⟨v6', z6', t7, y7, e4c, rfl, hto⟩ := toldB HBYP.out hst; cases e4c; have HTO := Lib.hid (hto w7 hb7); clear hst hto))
  have HB7 := Lib.hid (bel_trans hb16 hb7)
  have HB57 := Lib.hid (bel_trans hb6 hb7)
  clear hb6 hb7 hb16 hr5 hr6 HC6 HBYP
  have hr5 := (HA5.out.mono HB57.out).range
  have hr2 := (HK.out.mono HB7.out).range
  have HS8 := Lib.hid (HSA.out p _ _ _ _ _ vn vs vp vr vx w7 (HU5.out.mono HB57.out) (HPI2.out w7 (bel_trans HB.out HB7.out)))
  unfold pnrC at hr5 HS8
  simp only [List.toArray] at hr5 HS8
  have hld5 := Lib.hid (run_loadVar_mid (P := Tryz.prog) w7 g5 0 29 _ _ hr5 Tryz.underlying29 rfl info_pnr)
  have hld2 := Lib.hid (run_loadVar_mid (P := Tryz.prog) w7 w.heap.size 0 29 _ _ hr2 Tryz.underlying29 rfl info_pnr)
  clear hr5 hr2
  go_upto_region 10 with (first
    | (go_at_call 10; (with_reducible refine HTO.out.mono ?_); rintro e w8 ⟨rfl, rfl⟩)
    | (refine wpList_load_yes 29 (.tmp 5) rfl (by rfl) ⟨g5, 0, none⟩ rfl _ hld5.out ?_)
    | (refine wpList_load_yes 29 (.tmp 2) rfl (by rfl) ⟨w.heap.size, 0, none⟩ rfl _ hld2.out ?_)
    | (go_at_call 11; (with_reducible refine HS8.out.mono ?_); rintro e w9 ⟨rfl, hb9⟩))
  have HB9 : RowKit.Hid (Below w1.heap.size w1 w9) := Lib.hid (bel_trans HB7.out hb9)
  clear hb9 hld5 hld2 HS8 HTO HB7 HB57 HU5 HA5 HB5
  go_upto_region 11 with (first
    | (go_at_call 12; (with_reducible refine (HRB2.out _ (bel_trans HB.out HB9.out)).mono ?_); rintro e w10 ⟨hpn, hb10⟩; obtain ⟨q, an, as', ap, ar, ax, z, rfl, hqi, hqz⟩ := pn_form hpn; obtain ⟨a1, aj1, rfl⟩ := hqi.n.len; obtain ⟨a2, aj2, rfl⟩ := hqi.s.len; obtain ⟨a3, aj3, rfl⟩ := own_len hqi.ph; obtain ⟨a4, aj4, rfl⟩ := own_len hqi.rm; obtain ⟨a5, aj5, rfl⟩ := hqi.x.len; (try unfold pnrC); (try simp only [List.toArray]); have HQ10 := Lib.hid hqi; have HQZ := Lib.hid hqz; clear hpn hqi hqz)
    | (refine wpList_store_blk rfl 29 (.tmp 10) (.tmp 50) rfl w10.heap.size 29 zeroC (pnrC q (.slice a1 q.names.length aj1) (.slice a2 q.segs.length aj2) (.slice a3 q.phones.length aj3) (.slice a4 q.remarks.length aj4) (.slice a5 q.seats.length aj5)) rfl rfl (Blk.new w10 29 zeroC) rfl info_pnr (pnrC_one (x := q)) ?_; intro w11 ha11 hb11 hgr11))
  (try dsimp only [Act.put])
  have h1011 : Below w10.heap.size w10 w11 := ((Below.refl _ _).alloc (Nat.le_refl _) _).trans hb11
  have HQ11 := Lib.hid (HQ10.out.mono h1011)
  have HA11 := Lib.hid ha11
  have HB11 : RowKit.Hid (Below w1.heap.size w1 w11) := Lib.hid (bel_trans HB9.out (bel_trans hb10 h1011))
  clear h1011 hb10 hb11 ha11 hgr11 HQ10 HB9
  generalize w10.heap.size = g10 at *
  have hcv := HCV.out w11 (bel_trans HB.out HB11.out)
  go_upto_region 12 with (first
    | (go_at_call 13; (with_reducible refine (HRR2.out _).mono ?_); rintro e w12 ⟨hpn, hb12⟩; obtain ⟨x, xn, xs', xp, xr, xx, y, rfl, hxi, hxz⟩ := rpn_form hpn; obtain ⟨x1, xj1, rfl⟩ := hxi.n.len; obtain ⟨x2, xj2, rfl⟩ := hxi.s.len; obtain ⟨x3, xj3, rfl⟩ := own_len hxi.ph; obtain ⟨x4, xj4, rfl⟩ := own_len hxi.rm; obtain ⟨x5, xj5, rfl⟩ := hxi.x.len; (try unfold pnrC); (try simp only [List.toArray]); have HX12 := Lib.hid hxi; have HXZ := Lib.hid hxz; have HB12 := Lib.hid hb12; clear hpn hxi hxz hb12)
    | (refine wpList_store_blk rfl 29 (.tmp 12) (.tmp 56) rfl w12.heap.size 29 zeroC (pnrC x (.slice x1 x.names.length xj1) (.slice x2 x.segs.length xj2) (.slice x3 x.phones.length xj3) (.slice x4 x.remarks.length xj4) (.slice x5 x.seats.length xj5)) rfl rfl (Blk.new w12 29 zeroC) rfl info_pnr (pnrC_one (x := x)) ?_; intro w13 ha13 hb13 hgr13))
  (try dsimp only [Act.put])
  have h1213 : Below w12.heap.size w12 w13 := ((Below.refl _ _).alloc (Nat.le_refl _) _).trans hb13
  have HX13 := Lib.hid (HX12.out.mono h1213)
  have HB1113 := Lib.hid (bel_trans HB12.out h1213)
  have HB13 : RowKit.Hid (Below w1.heap.size w1 w13) := Lib.hid (bel_trans HB11.out HB1113.out)
  have HQ13 := Lib.hid (HQ11.out.mono HB1113.out)
  have hr10 := (HA11.out.mono HB1113.out).range
  have hr12 := ha13.range
  clear h1213 hb13 ha13 hgr13 hcv HX12 HB12 HB11 HQ11 HA11
  generalize w12.heap.size = g12 at *
  have hqx : q = x ∧ ((z = 0 ∧ y = true) ∨ (z = 4 ∧ y = false)) := by
    rcases HQZ.out with ⟨k1, k2⟩ | ⟨k1, k2, k3⟩
    · rcases HXZ.out with ⟨m1, m2⟩ | ⟨m1, m2, m3⟩
      · rw [k1] at m1; injection m1 with m1; exact ⟨m1, .inl ⟨k2, m2⟩⟩
      · rw [k1] at m1; cases m1
    · rcases HXZ.out with ⟨m1, m2⟩ | ⟨m1, m2, m3⟩
      · rw [k1] at m1; cases m1
      · exact ⟨k2.trans m2.symm, .inr ⟨k3, m3⟩⟩
  obtain ⟨hqx, hzy⟩ := hqx
  subst hqx
  have HS13 := Lib.hid (HSA.out q _ _ _ _ _ _ _ _ _ _ w13 HQ13.out HX13.out)
  unfold pnrC at hr10 hr12 HS13
  simp only [List.toArray] at hr10 hr12 HS13
  clear HQZ HXZ HQ13 HX13
  rcases hzy with ⟨rfl, rfl⟩ | ⟨rfl, rfl⟩
  · go_wp2_with (first
      | (refine wpList_load_mid rfl 29 (.tmp 10) rfl g10 0 rfl _ _ hr10 Tryz.underlying29 rfl info_pnr ?_)
      | (refine wpList_load_mid rfl 29 (.tmp 12) rfl g12 0 rfl _ _ hr12 Tryz.underlying29 rfl info_pnr ?_)
      | (go_at_call 11; (with_reducible refine HS13.out.mono ?_); rintro e w14 ⟨rfl, hb14⟩))
    go_ret
    exact ⟨rfl, bel_trans HB.out (bel_trans HB13.out hb14)⟩
  · go_wp2_with (first
      | (refine wpList_load_mid rfl 29 (.tmp 10) rfl g10 0 rfl _ _ hr10 Tryz.underlying29 rfl info_pnr ?_)
      | (refine wpList_load_mid rfl 29 (.tmp 12) rfl g12 0 rfl _ _ hr12 Tryz.underlying29 rfl info_pnr ?_)
      | (go_at_call 11; (with_reducible refine HS13.out.mono ?_); rintro e w14 ⟨rfl, hb14⟩))
    go_ret
    exact ⟨rfl, bel_trans HB.out (bel_trans HB13.out hb14)⟩
end Go.Proofs.YtofomopmmopflaaGreatDoor
