/- The law PlanSeats: the walk. -/
import Derived.Test.YtpmmjccdogjncaaDoorPlnCh
namespace Go.Proofs.YtpmmjccdogjncaaDoor
open Go.RowKit Go.ChangeMaps
set_option linter.unusedSimpArgs false

theorem made_ok (p : Pl) (ve vb : Value) (l : List UInt8) (w : World) (he : HasE intC w ve p.exits) (hb : HasE stC w vb p.bks) (hf : fewP p = true) (hr : rightB p = true) (hl : letF p.lets.data.toList = some l) :
    Calls Tryd.prog 23 #[planV p ve vb] w fun e w' => ∃ g b vl, e = .returned (.tuple #[.pointer (some ⟨g, 0, none⟩), .bool true]) ∧ MapK w' g b vl p l ∧ Below w.heap.size w w' := by
  refine (made_any p ve vb w he hb hf).mono ?_
  rintro e w' ⟨v, rfl, h, hb⟩
  obtain ⟨l', hl', hm⟩ := h hr
  rw [hl] at hl'
  injection hl' with hl'
  subst hl'
  obtain ⟨g, b, vl, rfl, hk⟩ := hm.known
  exact ⟨g, b, vl, by rw [hr], hk, hb⟩

theorem made_no (p : Pl) (ve vb : Value) (w : World) (he : HasE intC w ve p.exits) (hb : HasE stC w vb p.bks) (hf : fewP p = true) (hr : rightB p = false) :
    Calls Tryd.prog 23 #[planV p ve vb] w fun e w' => ∃ v, e = .returned (.tuple #[v, .bool false]) ∧ Below w.heap.size w w' := by
  refine (made_any p ve vb w he hb hf).mono ?_
  rintro e w' ⟨v, rfl, _, hb⟩
  exact ⟨v, by rw [hr], hb⟩

theorem okP_few {p : Pl} (hf : fewP p = true) (hr : rightB p = true) : ∃ l, OkP p l ∧ rightP p l := by
  obtain ⟨f1, f2, f3⟩ := of_decide_eq_true hf
  obtain ⟨l, hl, hrp⟩ := rightB_some hr
  exact ⟨l, ⟨hl, by omega, hrp.1, hrp.2.2.1, by omega, by omega⟩, hrp⟩

theorem held_grown {w W W' : World} {v : Value} {base sz : Nat} {e : TypeId} {n : Nat} {xs : List Value} (h : Below w.heap.size w W) (hB : w.heap.size ≤ base) (hown : W.ownsRow base e sz v n xs) (hg : W.grownBy W' v.ownBlock) : Below w.heap.size w W' :=
  h.grown hg h.size fun k hk => Nat.le_trans hB (World.ownsRow.lt hown k hk).1

theorem push_has {w : World} {base gg cap : Nat} {P : List St} {s : St} (h : w.ownsRow base 23 2 (.slice (some ⟨gg, 0, none⟩) (P.length + 1) cap) (P.length + 1) (P.flatMap stC ++ seatC s.1 s.2)) : HasE stC w (.slice (some ⟨gg, 0, none⟩) (P.length + 1) cap) (P ++ [s]) := by
  refine HasE.own (st := 2) (base := base) (e := 23) ?_
  rw [List.length_append, List.flatMap_append]
  have e : [s].flatMap stC = seatC s.1 s.2 := by simp [stC]
  rw [e]
  exact h

theorem low_ad {w : World} {o : Obj} : w.heap.size ≤ (w.alloc o).drew.heap.size := by
  show w.heap.size ≤ (w.alloc o).heap.size
  simp

set_option maxRecDepth 20000 in
set_option maxHeartbeats 16000000 in
theorem planSeats_walk (v : Value) (p : Pl) (s : St) (hs : okRow s.1) (w : World) (h : PlanIn w v p) :
    Calls Tryd.prog 5 #[v, .agg #[.int .i64 s.1, .int .u8 s.2.toNat]] w fun e w' => e = .returned (.bool true) ∧ Below w.heap.size w w' := by
  obtain ⟨ve, vb, rfl, ⟨he, _⟩, ⟨hb, _⟩, _, _, _⟩ := h
  have HA : RowKit.Hid (∀ W, Calls Tryd.prog 14 #[] W fun e w' => e = .returned (.bool true) ∧ Below W.heap.size W w') := Lib.hid fun W => awakeP_any W
  have HF : RowKit.Hid (∀ W, HasE intC W ve p.exits → HasE stC W vb p.bks → Calls Tryd.prog 19 #[planV p ve vb] W fun e w' => e = .returned (.bool (fewP p)) ∧ Below W.heap.size W w') := Lib.hid fun W h1 h2 => fewP_any p ve vb W h1 h2
  have HBL := Lib.hid (planC_blk w p ve vb)
  obtain ⟨r, c⟩ := s
  cases hf : fewP p with
  | false =>
    rw [hf] at HF
    obtain ⟨a, b, q, x, bk⟩ := p
    obtain ⟨pe, ce, rfl⟩ := he.len
    obtain ⟨pb, cb, rfl⟩ := hb.len
    simp only at he hb HF ⊢
    obtain ⟨w1, e1, a0, a1, a2, a3, a4, hb1, hz1⟩ := plan_boxed w a b q (.slice pe x.length ce) (.slice pb bk.length cb)
    unfold planC at HBL
    simp only at HBL
    rw [e1] at HBL
    obtain ⟨w2, e2, c0, c1, hb12, _⟩ := seat_boxed w1 r c
    have HB2 := Lib.hid (HBL.out.mono hb12)
    have HE := Lib.hid (he.mono (bel_trans hb1 hb12))
    have HS := Lib.hid (hb.mono (bel_trans hb1 hb12))
    have HB := Lib.hid (bel_trans hb1 hb12)
    unfold planV at HF ⊢
    clear he hb hb1 hz1 hf a0 a1 a2 a3 a4 c0 c1 hb12
    go_enter Tryd.func5, Tryd.ntmps5
    go_wp2_with (first
      | (go_at_call 14; (with_reducible refine (HA.out _).mono ?_); rintro e w3 ⟨rfl, hb3⟩)
      | (refine wpList_load_mid rfl 32 (.tmp 2) rfl w.heap.size 0 rfl _ _ (HB2.out.mono hb3).range Tryd.underlying32 rfl info_plan ?_)
      | (go_at_call 19; (with_reducible refine (HF.out _ (HE.out.mono hb3) (HS.out.mono hb3)).mono ?_); rintro e w4 ⟨rfl, hb4⟩))
    go_ret
    exact ⟨rfl, bel_trans HB.out (bel_trans hb3 hb4)⟩
  | true =>
    obtain ⟨f1, f2, f3⟩ := of_decide_eq_true hf
    rw [hf] at HF
    cases hr : rightB p with
    | false =>
      have HM : RowKit.Hid (∀ W, HasE intC W ve p.exits → HasE stC W vb p.bks → Calls Tryd.prog 23 #[planV p ve vb] W fun e w' => ∃ v, e = .returned (.tuple #[v, .bool false]) ∧ Below W.heap.size W w') := Lib.hid fun W h1 h2 => made_no p ve vb W h1 h2 hf hr
      have HR : RowKit.Hid (∀ W, HasE intC W ve p.exits → HasE stC W vb p.bks → Calls Tryd.prog 20 #[planV p ve vb] W fun e w' => e = .returned (.bool false) ∧ Below W.heap.size W w') := Lib.hid fun W h1 h2 => by
        have := right_any p ve vb W h1 h2 (by unfold maxLen; omega) (by omega)
        rw [hr] at this
        exact this
      obtain ⟨a, b, q, x, bk⟩ := p
      obtain ⟨pe, ce, rfl⟩ := he.len
      obtain ⟨pb, cb, rfl⟩ := hb.len
      simp only at he hb HF HM HR ⊢
      obtain ⟨w1, e1, a0, a1, a2, a3, a4, hb1, hz1⟩ := plan_boxed w a b q (.slice pe x.length ce) (.slice pb bk.length cb)
      unfold planC at HBL
      simp only at HBL
      rw [e1] at HBL
      obtain ⟨w2, e2, c0, c1, hb12, _⟩ := seat_boxed w1 r c
      have HB2 := Lib.hid (HBL.out.mono hb12)
      have HE := Lib.hid (he.mono (bel_trans hb1 hb12))
      have HS := Lib.hid (hb.mono (bel_trans hb1 hb12))
      have HB := Lib.hid (bel_trans hb1 hb12)
      unfold planV at HF HM HR ⊢
      clear he hb hb1 hz1 hf a0 a1 a2 a3 a4 c0 c1 hb12 hr f1 f2 f3
      go_enter Tryd.func5, Tryd.ntmps5
      go_wp2_with (first
        | (go_at_call 14; (with_reducible refine (HA.out _).mono ?_); rintro e w3 ⟨rfl, hb3⟩)
        | (refine wpList_load_mid rfl 32 (.tmp 2) rfl w.heap.size 0 rfl _ _ (HB2.out.mono hb3).range Tryd.underlying32 rfl info_plan ?_)
        | (go_at_call 19; (with_reducible refine (HF.out _ (HE.out.mono hb3) (HS.out.mono hb3)).mono ?_); rintro e w4 ⟨rfl, hb4⟩; have hb24 := bel_trans hb3 hb4; clear hb3 hb4)
        | (refine wpList_load_mid rfl 32 (.tmp 2) rfl w.heap.size 0 rfl _ _ (HB2.out.mono hb24).range Tryd.underlying32 rfl info_plan ?_)
        | (go_at_call 23; (with_reducible refine (HM.out _ (HE.out.mono hb24) (HS.out.mono hb24)).mono ?_); rintro e w5 ⟨v5, rfl, hb5⟩; have hb25 := bel_trans hb24 hb5; clear hb24 hb5)
        | (refine wpList_load_mid rfl 32 (.tmp 2) rfl w.heap.size 0 rfl _ _ (HB2.out.mono hb25).range Tryd.underlying32 rfl info_plan ?_)
        | (go_at_call 20; (with_reducible refine (HR.out _ (HE.out.mono hb25) (HS.out.mono hb25)).mono ?_); rintro e w6 ⟨rfl, hb6⟩))
      go_ret
      exact ⟨rfl, bel_trans HB.out (bel_trans hb25 hb6)⟩
    | true =>
      obtain ⟨l, hk, hrp⟩ := okP_few hf hr
      have HM : RowKit.Hid (∀ W, HasE intC W ve p.exits → HasE stC W vb p.bks → Calls Tryd.prog 23 #[planV p ve vb] W fun e w' => ∃ g b vl, e = .returned (.tuple #[.pointer (some ⟨g, 0, none⟩), .bool true]) ∧ MapK w' g b vl p l ∧ Below W.heap.size W w') := Lib.hid fun W h1 h2 => made_ok p ve vb l W h1 h2 hf hr hk.hl
      have HRS : RowKit.Hid (∀ W, HasE stC W vb p.bks → Calls Tryd.prog 26 #[planV p ve vb] W fun e w' => ∃ v, e = .returned v ∧ OwnS w' W.heap.size v ((placesL p.first p.last l).filter fun s => !decide (s ∈ p.bks)) ∧ Below W.heap.size W w') := Lib.hid fun W h => rseats_any p ve vb l W hk h
      have HPL : RowKit.Hid (∀ W, Calls Tryd.prog 27 #[planV p ve vb] W fun e w' => ∃ v, e = .returned v ∧ OwnS w' W.heap.size v (placesL p.first p.last l) ∧ Below W.heap.size W w') := Lib.hid fun W => places_any p ve vb l W hk.hl hk.szm hk.h1 hk.h2
      have HRH : RowKit.Hid (∀ W s, HasE stC W vb p.bks → Calls Tryd.prog 29 #[planV p ve vb, .agg #[.int .i64 s.1, .int .u8 s.2.toNat]] W fun e w' => e = .returned (.bool (hasB p l s)) ∧ Below W.heap.size W w') := Lib.hid fun W s h => rhas_any p ve vb s l W hk h
      have HRM : RowKit.Hid (∀ W s, HasE intC W ve p.exits → HasE stC W vb p.bks → Calls Tryd.prog 33 #[planV p ve vb, .agg #[.int .i64 s.1, .int .u8 s.2.toNat]] W fun e w' => e = .returned (.string (mksT p l s)) ∧ Below W.heap.size W w') := Lib.hid fun W s h1 h2 => rmarks_any p ve vb s l W hk h1 h2
      have hlen := hk.len
      have HSA : RowKit.Hid (∀ (L : List St) W va vb, L.length ≤ 600 → HasE stC W va L → HasE stC W vb L → Calls Tryd.prog 24 #[va, vb] W fun e w' => e = .returned (.bool true) ∧ Below W.heap.size W w') := Lib.hid fun L W va vb h0 h1 h2 => by
        have := sameS_any L L va vb W h1 h2 (by omega)
        rw [decide_eq_true rfl] at this
        exact this
      obtain ⟨i0, hi0, hz0, hsz0, hby0⟩ := seat_info
      have HFI : RowKit.Hid (((placesL p.first p.last l).filter fun s => !decide (s ∈ p.bks)).length ≤ 600) := Lib.hid (Nat.le_trans (List.length_filter_le _ _) hlen)
      have HCH : RowKit.Hid (∀ W g b vl s, MapK W g b vl p l → okRow s.1 → Calls Tryd.prog 28 #[.pointer (some ⟨g, 0, none⟩), .agg #[.int .i64 s.1, .int .u8 s.2.toNat]] W fun e w' => e = .returned (.bool (hasB p l s)) ∧ Below W.heap.size W w') := Lib.hid fun W g b vl s h h1 => h.callHas s h1
      have HCN : RowKit.Hid (∀ W g b vl s, MapK W g b vl p l → okRow s.1 → Calls Tryd.prog 30 #[.pointer (some ⟨g, 0, none⟩), .agg #[.int .i64 s.1, .int .u8 s.2.toNat]] W fun e w' => e = .returned (.int .i64 (atL (placesL p.first p.last l) s)) ∧ Below W.heap.size W w') := Lib.hid fun W g b vl s h h1 => h.callNumber s h1
      have HCM : RowKit.Hid (∀ W g b vl s, MapK W g b vl p l → okRow s.1 → Calls Tryd.prog 32 #[.pointer (some ⟨g, 0, none⟩), .agg #[.int .i64 s.1, .int .u8 s.2.toNat]] W fun e w' => e = .returned (.string (mksT p l s)) ∧ Below W.heap.size W w') := Lib.hid fun W g b vl s h h1 => h.callMarks s h1
      have HCS : RowKit.Hid (∀ W g b vl, MapK W g b vl p l → Calls Tryd.prog 25 #[.pointer (some ⟨g, 0, none⟩)] W fun e w' => ∃ v, e = .returned v ∧ OwnS w' W.heap.size v ((placesL p.first p.last l).filter fun s => !decide (s ∈ p.bks)) ∧ Below W.heap.size W w') := Lib.hid fun W g b vl h => h.callSeats (by omega)
      have HRW : RowKit.Hid (∀ W g b vl, MapK W g b vl p l → ∀ s ∈ placesL p.first p.last l, okRow s.1) := Lib.hid fun W g b vl h => h.ob.map.2.2
      have HMO : RowKit.Hid (∀ W W' g b vl, MapK W g b vl p l → Below W.heap.size W W' → MapK W' g b vl p l) := Lib.hid fun W W' g b vl h hb => h.mono hb
      obtain ⟨pe, ce, rfl⟩ := he.len
      obtain ⟨pb, cb, rfl⟩ := hb.len
      obtain ⟨w1, e1, a0, a1, a2, a3, a4, hb1, hz1⟩ := plan_boxed w p.first p.last p.lets (.slice pe p.exits.length ce) (.slice pb p.bks.length cb)
      unfold planC at HBL
      rw [e1] at HBL
      obtain ⟨w2, e2, c0, c1, hb12, hz2⟩ := seat_boxed w1 r c
      rw [hz1] at c0 c1
      have HB2 := Lib.hid (HBL.out.mono hb12)
      have HE := Lib.hid (he.mono (bel_trans hb1 hb12))
      have HS := Lib.hid (hb.mono (bel_trans hb1 hb12))
      have HB := Lib.hid (bel_trans hb1 hb12)
      have b0 := cell_bel hb12 a0
      have b1 := cell_bel hb12 a1
      have b2 := cell_bel hb12 a2
      have b3 := cell_bel hb12 a3
      have b4 := cell_bel hb12 a4
      unfold planV at HF HM HRS HPL HRH HRM ⊢
      have HOKS := Lib.hid hs
      clear he hb hb1 hf a0 a1 a2 a3 a4 hb12 hr f1 f2 f3 hrp hk hs
      generalize hFL : ((placesL p.first p.last l).filter fun s => !decide (s ∈ p.bks)) = FL at *
      clear hFL
      generalize hPP : placesL p.first p.last l = P at *
      clear hPP
      generalize hbF : hasB p l = hbf at *
      clear hbF
      generalize hmF : mksT p l = mtf at *
      clear hmF
      go_enter Tryd.func5, Tryd.ntmps5
      go_upto_region 8 with (first
        | (go_at_call 14; (with_reducible refine (HA.out _).mono ?_); rintro e w3 ⟨rfl, hb3⟩)
        | (refine wpList_load_mid rfl 32 (.tmp 2) rfl w.heap.size 0 rfl _ _ (HB2.out.mono hb3).range Tryd.underlying32 rfl info_plan ?_)
        | (go_at_call 19; (with_reducible refine (HF.out _ (HE.out.mono hb3) (HS.out.mono hb3)).mono ?_); rintro e w4 ⟨rfl, hb4⟩; have hb24 := bel_trans hb3 hb4; clear hb3 hb4)
        | (refine wpList_load_mid rfl 32 (.tmp 2) rfl w.heap.size 0 rfl _ _ (HB2.out.mono hb24).range Tryd.underlying32 rfl info_plan ?_)
        | (go_at_call 23; (with_reducible refine (HM.out _ (HE.out.mono hb24) (HS.out.mono hb24)).mono ?_); rintro e w5 ⟨g, bm, vl, rfl, hmk, hb5⟩; have hb25 := bel_trans hb24 hb5; clear hb24 hb5))
      have HMK := Lib.hid hmk
      -- what holds in each world from here on
      have HST : RowKit.Hid (∀ W, Below w5.heap.size w5 W → W.cell? ⟨w.heap.size, 0, none⟩ = some (.int .i64 p.first) ∧ W.cell? ⟨w.heap.size, 1, none⟩ = some (.int .i64 p.last) ∧ W.cell? ⟨w.heap.size, 2, none⟩ = some (.string p.lets) ∧ W.cell? ⟨w.heap.size, 3, none⟩ = some (.slice pe p.exits.length ce) ∧ W.cell? ⟨w.heap.size, 4, none⟩ = some (.slice pb p.bks.length cb) ∧ W.cell? ⟨w.heap.size + 1, 0, none⟩ = some (.int .i64 r) ∧ W.cell? ⟨w.heap.size + 1, 1, none⟩ = some (.int .u8 c.toNat) ∧ Below w5.heap.size w5 W) := Lib.hid fun W h => by
        have h2 := bel_trans hb25 h
        exact ⟨cell_bel h2 b0, cell_bel h2 b1, cell_bel h2 b2, cell_bel h2 b3, cell_bel h2 b4, cell_bel h2 c0, cell_bel h2 c1, h⟩
      have HBZ := Lib.hid (bel_trans HB.out hb25)
      have HE5 := Lib.hid (HE.out.mono hb25)
      have HS5 := Lib.hid (HS.out.mono hb25)
      have hS0 := HST.out w5.drew (Below.refl _ _).drew
      clear hmk hb25 b0 b1 b2 b3 b4 c0 c1 HM HF HA HB2 HBL HB HE HS e1 e2
      go_region_held3 (fun W => W.cell? ⟨w.heap.size, 0, none⟩ = some (.int .i64 p.first) ∧ W.cell? ⟨w.heap.size, 1, none⟩ = some (.int .i64 p.last) ∧ W.cell? ⟨w.heap.size, 2, none⟩ = some (.string p.lets) ∧ W.cell? ⟨w.heap.size, 3, none⟩ = some (.slice pe p.exits.length ce) ∧ W.cell? ⟨w.heap.size, 4, none⟩ = some (.slice pb p.bks.length cb) ∧ W.cell? ⟨w.heap.size + 1, 0, none⟩ = some (.int .i64 r) ∧ W.cell? ⟨w.heap.size + 1, 1, none⟩ = some (.int .u8 c.toNat) ∧ Below w5.heap.size w5 W)
        (first
          | exact hS0
          | assumption
          | exact HST.out _ (bel_trans (show _ ∧ _ ∧ _ ∧ _ ∧ _ ∧ _ ∧ _ ∧ Below w5.heap.size w5 _ by assumption).2.2.2.2.2.2.2 hb6)
          | exact HST.out _ (bel_trans (show _ ∧ _ ∧ _ ∧ _ ∧ _ ∧ _ ∧ _ ∧ Below w5.heap.size w5 _ by assumption).2.2.2.2.2.2.2 hb7)
          | exact HST.out _ (bel_trans (show _ ∧ _ ∧ _ ∧ _ ∧ _ ∧ _ ∧ _ ∧ Below w5.heap.size w5 _ by assumption).2.2.2.2.2.2.2 hb8))
        (first
          | (go_at_call 25; (with_reducible refine (HCS.out _ _ _ _ (HMK.out.mono (show _ ∧ _ ∧ _ ∧ _ ∧ _ ∧ _ ∧ _ ∧ Below w5.heap.size w5 _ by assumption).2.2.2.2.2.2.2)).mono ?_); rintro e w6 ⟨v6, rfl, ho6, hb6⟩)
          | (go_at_call 26; (with_reducible refine (HRS.out _ (HS5.out.mono (show _ ∧ _ ∧ _ ∧ _ ∧ _ ∧ _ ∧ _ ∧ Below w5.heap.size w5 _ by assumption).2.2.2.2.2.2.2)).mono ?_); rintro e w7 ⟨v7, rfl, ho7, hb7⟩)
          | (go_at_call 24; (with_reducible refine (HSA.out FL _ _ _ HFI.out (ho6.has.mono hb7) ho7.has).mono ?_); rintro e w8 ⟨rfl, hb8⟩))
      have hb58 : Below w5.heap.size w5 w8 := (show _ ∧ _ ∧ _ ∧ _ ∧ _ ∧ _ ∧ _ ∧ Below w5.heap.size w5 w8 by assumption).2.2.2.2.2.2.2
      clear hS0 hb6 hb7 hb8 ho6 ho7 HCS HRS HSA HFI
      go_upto_region 10 with fail
      have hS0 := HST.out w8.drew hb58.drew
      go_region_held3 (fun W => W.cell? ⟨w.heap.size, 0, none⟩ = some (.int .i64 p.first) ∧ W.cell? ⟨w.heap.size, 1, none⟩ = some (.int .i64 p.last) ∧ W.cell? ⟨w.heap.size, 2, none⟩ = some (.string p.lets) ∧ W.cell? ⟨w.heap.size, 3, none⟩ = some (.slice pe p.exits.length ce) ∧ W.cell? ⟨w.heap.size, 4, none⟩ = some (.slice pb p.bks.length cb) ∧ W.cell? ⟨w.heap.size + 1, 0, none⟩ = some (.int .i64 r) ∧ W.cell? ⟨w.heap.size + 1, 1, none⟩ = some (.int .u8 c.toNat) ∧ Below w5.heap.size w5 W)
        (first
          | exact hS0
          | assumption
          | exact HST.out _ (bel_trans (show _ ∧ _ ∧ _ ∧ _ ∧ _ ∧ _ ∧ _ ∧ Below w5.heap.size w5 _ by assumption).2.2.2.2.2.2.2 hb9)
          | exact HST.out _ (bel_trans (show _ ∧ _ ∧ _ ∧ _ ∧ _ ∧ _ ∧ _ ∧ Below w5.heap.size w5 _ by assumption).2.2.2.2.2.2.2 ((Below.refl _ _).alloc (Nat.le_refl _) _))
          | exact HST.out _ (held_grown (show _ ∧ _ ∧ _ ∧ _ ∧ _ ∧ _ ∧ _ ∧ Below w5.heap.size w5 _ by assumption).2.2.2.2.2.2.2 hb58.size (World.ownsRow.alloc ho9 _) hgrow)
          | exact HST.out _ (held_grown (show _ ∧ _ ∧ _ ∧ _ ∧ _ ∧ _ ∧ _ ∧ Below w5.heap.size w5 _ by assumption).2.2.2.2.2.2.2 (Nat.le_trans hb58.size low_ad) ho9 hgrow))
        (first
          | (go_at_call 27; (with_reducible refine (HPL.out _).mono ?_); rintro e w9 ⟨v9, rfl, ho9, hb9⟩; obtain ⟨p9, c9, rfl⟩ := ho9.has.len)
          | (refine step_append_lies _ (by rfl) _ _ _ (by rfl) _ 23 i0 _ 2 16 Tryd.underlying30 hi0 hz0 hsz0 hby0 rfl (by decide) (.slice p9 P.length c9) P.length (P.flatMap stC) (by rfl) (World.ownsRow.alloc ho9 _) ⟨w9.heap.size, 0, none⟩ 1 1 (seatC r c) (by rfl) (by rfl) (World.news_of_block (cs := #[.int .i64 r, .int .u8 c.toNat]) (t := 23) (fr := (0, 0)) (heap_alloc_new w9 _)) seatC_one (by decide) (by unfold maxLen; omega) (by omega) (by have := hb9.size; simp at this ⊢; omega) (w9.heap.size + 1) (by simp) ?_; intro gg cap wa hown1 hgrow hat hlt)
          | (refine step_append_lies _ (by rfl) _ _ _ (by rfl) _ 23 i0 _ 2 16 Tryd.underlying30 hi0 hz0 hsz0 hby0 rfl (by decide) (.slice p9 P.length c9) P.length (P.flatMap stC) (by rfl) ho9 ⟨w8.heap.size, 0, none⟩ 1 1 (seatC r c) (by rfl) (by rfl) (World.news_of_block (cs := #[.int .i64 r, .int .u8 c.toNat]) (t := 23) (fr := (0, 0)) ((hb9.block w8.heap.size (by simp)).trans (heap_alloc_new w8 _))) seatC_one (by decide) (by unfold maxLen; omega) (by omega) (by have := hb9.size; simp at this ⊢; omega) w9.heap.size rfl ?_; intro gg cap wa hown1 hgrow hat hlt))
      all_goals
        have HL := Lib.hid (push_has (s := (r, c)) hown1)
        have hb5a : Below w5.heap.size w5 wa := (show _ ∧ _ ∧ _ ∧ _ ∧ _ ∧ _ ∧ _ ∧ Below w5.heap.size w5 wa by assumption).2.2.2.2.2.2.2
        clear hS0 hown1 hgrow hat hlt ho9 hb9 hb58
        have HLL : RowKit.Hid ((P ++ [((r, c) : St)]).length = P.length + 1) := Lib.hid (by rw [List.length_append]; rfl)
        have HROW : RowKit.Hid (∀ t ∈ P ++ [((r, c) : St)], okRow t.1) := Lib.hid fun t ht => by
          rcases List.mem_append.1 ht with h1 | h1
          · exact HRW.out _ _ _ _ HMK.out t h1
          · rw [List.mem_singleton.1 h1]; exact HOKS.out
        have HPL6 := Lib.hid hlen
        generalize P ++ [((r, c) : St)] = L at *
        generalize hM : P.length + 1 = M at *
        have hM1 : M ≤ 601 := by omega
        clear hlen hM
        go_wp2
        go_loopg [8] M (fun g0 i wr => ∃ (k : Nat), k ≤ M ∧ g0 = M - k ∧ i = .int .i64 (k : Int) ∧ Below wa.heap.size wa wr)
        case atStart => exact ⟨0, Nat.zero_le _, rfl, rfl, Below.refl _ _⟩
        case round =>
          obtain ⟨k, hkM, rfl, rfl, hb4⟩ := hrel
          have hb5r := bel_trans hb5a hb4
          by_cases hlt : k < M
          · have hki : (k : Int) < (M : Int) := by omega
            have hk0 : (0 : Int) ≤ (k : Int) := by omega
            obtain ⟨bb, off, eb, _, g0, g1⟩ := st_at (HL.out.mono hb4) (i := k) (by rw [HLL.out]; exact hlt)
            simp at eb
            obtain ⟨rfl, rfl⟩ := eb
            rw [Nat.zero_add] at g0 g1
            have hrow : okRow (L.getD k st0).1 := HROW.out _ (by
              rw [List.getD_eq_getElem?_getD, List.getElem?_eq_getElem (by rw [HLL.out]; exact hlt)]
              exact List.getElem_mem _)
            generalize L.getD k st0 = t at *
            have HMKr := Lib.hid (HMK.out.mono hb5r)
            obtain ⟨b0, b1, b2, b3, b4, _⟩ := HST.out wr hb5r
            have hbr : ∀ W, Below wr.heap.size wr W → Below w5.heap.size w5 W := fun W h => bel_trans hb5r h
            have HBR := Lib.hid hbr
            clear hbr
            have C1 : RowKit.Hid (∀ W, Below wr.heap.size wr W → Calls Tryd.prog 28 #[.pointer (some ⟨g, 0, none⟩), .agg #[.int .i64 t.1, .int .u8 t.2.toNat]] W fun e w' => e = .returned (.bool (hbf t)) ∧ Below W.heap.size W w') := Lib.hid fun W h => HCH.out W g bm vl t (HMKr.out.mono h) hrow
            have C2 : RowKit.Hid (∀ W, Below wr.heap.size wr W → Calls Tryd.prog 29 #[.agg #[.int .i64 p.first, .int .i64 p.last, .string p.lets, .slice pe p.exits.length ce, .slice pb p.bks.length cb], .agg #[.int .i64 t.1, .int .u8 t.2.toNat]] W fun e w' => e = .returned (.bool (hbf t)) ∧ Below W.heap.size W w') := Lib.hid fun W h => HRH.out W t (HS5.out.mono (HBR.out W h))
            have C3 : RowKit.Hid (∀ W, Below wr.heap.size wr W → Calls Tryd.prog 30 #[.pointer (some ⟨g, 0, none⟩), .agg #[.int .i64 t.1, .int .u8 t.2.toNat]] W fun e w' => e = .returned (.int .i64 (atL P t)) ∧ Below W.heap.size W w') := Lib.hid fun W h => HCN.out W g bm vl t (HMKr.out.mono h) hrow
            have C5 : RowKit.Hid (∀ W v, HasE stC W v P → Calls Tryd.prog 31 #[v, .agg #[.int .i64 t.1, .int .u8 t.2.toNat]] W fun e w' => e = .returned (.int .i64 (atL P t)) ∧ Below W.heap.size W w') := Lib.hid fun W v h => at_any P v t W h (by have := HPL6.out; omega)
            have C6 : RowKit.Hid (∀ W, Below wr.heap.size wr W → Calls Tryd.prog 32 #[.pointer (some ⟨g, 0, none⟩), .agg #[.int .i64 t.1, .int .u8 t.2.toNat]] W fun e w' => e = .returned (.string (mtf t)) ∧ Below W.heap.size W w') := Lib.hid fun W h => HCM.out W g bm vl t (HMKr.out.mono h) hrow
            have C7 : RowKit.Hid (∀ W, Below wr.heap.size wr W → Calls Tryd.prog 33 #[.agg #[.int .i64 p.first, .int .i64 p.last, .string p.lets, .slice pe p.exits.length ce, .slice pb p.bks.length cb], .agg #[.int .i64 t.1, .int .u8 t.2.toNat]] W fun e w' => e = .returned (.string (mtf t)) ∧ Below W.heap.size W w') := Lib.hid fun W h => HRM.out W t (HE5.out.mono (HBR.out W h)) (HS5.out.mono (HBR.out W h))
            have HSR : RowKit.Hid (∀ W, Below wr.heap.size wr W → W.cell? ⟨w.heap.size, 0, none⟩ = some (.int .i64 p.first) ∧ W.cell? ⟨w.heap.size, 1, none⟩ = some (.int .i64 p.last) ∧ W.cell? ⟨w.heap.size, 2, none⟩ = some (.string p.lets) ∧ W.cell? ⟨w.heap.size, 3, none⟩ = some (.slice pe p.exits.length ce) ∧ W.cell? ⟨w.heap.size, 4, none⟩ = some (.slice pb p.bks.length cb) ∧ W.cell? ⟨gg, k * 2, none⟩ = some (.int .i64 t.1) ∧ W.cell? ⟨gg, k * 2 + 1, none⟩ = some (.int .u8 t.2.toNat) ∧ Below wr.heap.size wr W) := Lib.hid fun W h2 =>
              ⟨cell_bel h2 b0, cell_bel h2 b1, cell_bel h2 b2, cell_bel h2 b3, cell_bel h2 b4, cell_bel h2 g0, cell_bel h2 g1, h2⟩
            have hS0 := HSR.out wr.drew (Below.refl _ _).drew
            clear b0 b1 b2 b3 b4 g0 g1 hrow
            generalize hbf t = x1 at *
            generalize mtf t = x3 at *
            generalize atL P t = x2 at *
            obtain ⟨tr, tc⟩ := t
            simp only at hS0 HSR C1 C2 C3 C5 C6 C7
            go_upto_region 14 with fail
            go_region_held3 (fun W => W.cell? ⟨w.heap.size, 0, none⟩ = some (.int .i64 p.first) ∧ W.cell? ⟨w.heap.size, 1, none⟩ = some (.int .i64 p.last) ∧ W.cell? ⟨w.heap.size, 2, none⟩ = some (.string p.lets) ∧ W.cell? ⟨w.heap.size, 3, none⟩ = some (.slice pe p.exits.length ce) ∧ W.cell? ⟨w.heap.size, 4, none⟩ = some (.slice pb p.bks.length cb) ∧ W.cell? ⟨gg, k * 2, none⟩ = some (.int .i64 tr) ∧ W.cell? ⟨gg, k * 2 + 1, none⟩ = some (.int .u8 tc.toNat) ∧ Below wr.heap.size wr W)
              (first
                | exact hS0
                | assumption
                | exact HSR.out _ (bel_trans (show _ ∧ _ ∧ _ ∧ _ ∧ _ ∧ _ ∧ _ ∧ Below wr.heap.size wr _ by assumption).2.2.2.2.2.2.2 hc1)
                | exact HSR.out _ (bel_trans (show _ ∧ _ ∧ _ ∧ _ ∧ _ ∧ _ ∧ _ ∧ Below wr.heap.size wr _ by assumption).2.2.2.2.2.2.2 hc2)
                | exact HSR.out _ (bel_trans (show _ ∧ _ ∧ _ ∧ _ ∧ _ ∧ _ ∧ _ ∧ Below wr.heap.size wr _ by assumption).2.2.2.2.2.2.2 hc3)
                | exact HSR.out _ (bel_trans (show _ ∧ _ ∧ _ ∧ _ ∧ _ ∧ _ ∧ _ ∧ Below wr.heap.size wr _ by assumption).2.2.2.2.2.2.2 hc4)
                | exact HSR.out _ (bel_trans (show _ ∧ _ ∧ _ ∧ _ ∧ _ ∧ _ ∧ _ ∧ Below wr.heap.size wr _ by assumption).2.2.2.2.2.2.2 hc5)
                | exact HSR.out _ (bel_trans (show _ ∧ _ ∧ _ ∧ _ ∧ _ ∧ _ ∧ _ ∧ Below wr.heap.size wr _ by assumption).2.2.2.2.2.2.2 hc6)
                | exact HSR.out _ (bel_trans (show _ ∧ _ ∧ _ ∧ _ ∧ _ ∧ _ ∧ _ ∧ Below wr.heap.size wr _ by assumption).2.2.2.2.2.2.2 hc7))
              (first
                | (go_at_call 28; (with_reducible refine (C1.out _ (show _ ∧ _ ∧ _ ∧ _ ∧ _ ∧ _ ∧ _ ∧ Below wr.heap.size wr _ by assumption).2.2.2.2.2.2.2).mono ?_); rintro e y1 ⟨rfl, hc1⟩)
                | (go_at_call 29; (with_reducible refine (C2.out _ (show _ ∧ _ ∧ _ ∧ _ ∧ _ ∧ _ ∧ _ ∧ Below wr.heap.size wr _ by assumption).2.2.2.2.2.2.2).mono ?_); rintro e y2 ⟨rfl, hc2⟩)
                | (go_at_call 30; (with_reducible refine (C3.out _ (show _ ∧ _ ∧ _ ∧ _ ∧ _ ∧ _ ∧ _ ∧ Below wr.heap.size wr _ by assumption).2.2.2.2.2.2.2).mono ?_); rintro e y3 ⟨rfl, hc3⟩)
                | (go_at_call 27; (with_reducible refine (HPL.out _).mono ?_); rintro e y4 ⟨v4, rfl, ho4, hc4⟩)
                | (go_at_call 31; (with_reducible refine (C5.out _ _ ho4.has).mono ?_); rintro e y5 ⟨rfl, hc5⟩)
                | (go_at_call 32; (with_reducible refine (C6.out _ (show _ ∧ _ ∧ _ ∧ _ ∧ _ ∧ _ ∧ _ ∧ Below wr.heap.size wr _ by assumption).2.2.2.2.2.2.2).mono ?_); rintro e y6 ⟨rfl, hc6⟩)
                | (go_at_call 33; (with_reducible refine (C7.out _ (show _ ∧ _ ∧ _ ∧ _ ∧ _ ∧ _ ∧ _ ∧ Below wr.heap.size wr _ by assumption).2.2.2.2.2.2.2).mono ?_); rintro e y7 ⟨rfl, hc7⟩))
            have hy7 : Below wr.heap.size wr y7 := (show _ ∧ _ ∧ _ ∧ _ ∧ _ ∧ _ ∧ _ ∧ Below wr.heap.size wr y7 by assumption).2.2.2.2.2.2.2
            have hb7 := bel_trans hb4 hy7
            clear hS0 hc1 hc2 hc3 hc4 hc5 hc6 hc7 ho4
            go_wp2
            go_roundg (M - (k + 1))
            case measure => omega
            case rel => exact ⟨k + 1, by omega, rfl, by go_num, hb7⟩
          · have hke : k = M := by omega
            subst hke
            have hki : ¬ (k : Int) < (k : Int) := by omega
            go_wp2
            go_ret
            exact ⟨rfl, bel_trans HBZ.out hb5r⟩
end Go.Proofs.YtpmmjccdogjncaaDoor
