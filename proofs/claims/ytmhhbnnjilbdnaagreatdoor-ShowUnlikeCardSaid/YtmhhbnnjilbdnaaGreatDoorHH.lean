/- An edit that seats a passenger (the reference). -/
import Derived.Test.YtmhhbnnjilbdnaaGreatDoorKA
import Derived.Test.YtmhhbnnjilbdnaaGreatDoorKB
import Derived.Test.YtmhhbnnjilbdnaaGreatDoorKF
import Derived.Test.YtmhhbnnjilbdnaaGreatDoorPlnP
import Derived.Test.YtmhhbnnjilbdnaaGreatDoorKG
import Derived.Test.YtmhhbnnjilbdnaaGreatDoorSD
import Derived.Test.YtmhhbnnjilbdnaaGreatDoorKH
import Derived.Test.YtmhhbnnjilbdnaaGreatDoorKJ
import Derived.Test.YtmhhbnnjilbdnaaGreatDoorKL
import Derived.Test.YtmhhbnnjilbdnaaGreatDoorLA
import Derived.Test.YtmhhbnnjilbdnaaGreatDoorLC
import Derived.Test.YtmhhbnnjilbdnaaGreatDoorLB
import Derived.Test.YtmhhbnnjilbdnaaGreatDoorLD
import Derived.Test.YtmhhbnnjilbdnaaGreatDoorRows
import Derived.WalkKit
import Derived.WalkSpells
import Derived.WalkLawsBesides
import Derived.Lib.ConvBytes
import Derived.Lib.Hide
import Derived.Lib.SliceRun
import Derived.IntWalk
import Derived.BigQuiet
import Derived.Deep.QuietTactic
import Derived.Deep.RegionWith
import Derived.Deep.RegionHeld3
import Derived.Deep.LoopGhost
import Derived.Deep.CutRange
import Derived.Deep.CutBlock
import Derived.Deep.MidRow
import Derived.Laws.OwnMore
import Derived.OwnWalk
import Derived.Laws.AppendOwnNone
import Derived.Laws.Rows
import Derived.Laws.MakeOwn
import Derived.Laws.CopyOwn
import Derived.Laws.BitsAllLaws
import Derived.DeepKeys5
import Derived.Maps.OwnOps
import Derived.Handy
import Derived.Lib.AppendStr
import Derived.StillTailTactics
import Derived.Deep.AppendLies
import Derived.WideKeyEntry
namespace Go.Proofs.YtmhhbnnjilbdnaaGreatDoor
open Go.RowKit Go.ChangeMaps
set_option linter.unusedSimpArgs false
set_option linter.unusedVariables false
set_option maxRecDepth 20000

set_option maxHeartbeats 32000000 in
theorem seat_any (lo : Nat) (p : PnrT) (vn vs vp vr vx : Value) (d : EditT) (w : World) (h : LowP lo w p vn vs vp vr vx) (hf : Room p) (hd : EditOk d) :
    Calls Tryz.prog 66 #[.agg (pnrC p vn vs vp vr vx).toArray, .agg (editC d).toArray] w fun e w' => ChgP lo w.heap.size p e w' ∧ Below w.heap.size w w' := by
  have hlow := h
  replace h := h.pin
  have HPL := Lib.hid hlow
  obtain ⟨pn, cn, rfl⟩ := h.n.len
  obtain ⟨ps, cs, rfl⟩ := h.s.len
  obtain ⟨pp, cp, rfl⟩ := own_len h.ph
  obtain ⟨pr, cr, rfl⟩ := own_len h.rm
  obtain ⟨px, cx, rfl⟩ := h.x.len
  obtain ⟨w3, e3, b0, b1, b2, hb3, hz3⟩ := boxes3 w (pnrC p (.slice pn p.names.length cn) (.slice ps p.segs.length cs) (.slice pp p.phones.length cp) (.slice pr p.remarks.length cr) (.slice px p.seats.length cx)) (editC d)
  have HPI := Lib.hid h
  have HDN := Lib.hid hd.n
  have HDP := Lib.hid hd.pax
  have HB := Lib.hid hb3
  have HF := Lib.hid hf
  have HWH : RowKit.Hid (∀ W, Below w3.heap.size w3 W → Calls Tryz.prog 67 #[.agg (pnrC p (.slice pn p.names.length cn) (.slice ps p.segs.length cs) (.slice pp p.phones.length cp) (.slice pr p.remarks.length cr) (.slice px p.seats.length cx)).toArray, .agg (editC d).toArray] W fun e w' => (∃ f : Int, e = .returned (.int .i64 f)) ∧ Below W.heap.size W w') := Lib.hid fun W hW => whose_any p _ _ _ _ _ d W ((h.mono (bel_trans hb3 hW)).n) ((h.mono (bel_trans hb3 hW)).s) h.few.2.1 hd
  have HOLD : RowKit.Hid (∀ W, Below w.heap.size w W → ∃ x vn vs vp vr vx, pnrC p (.slice pn p.names.length cn) (.slice ps p.segs.length cs) (.slice pp p.phones.length cp) (.slice pr p.remarks.length cr) (.slice px p.seats.length cx) = pnrC x vn vs vp vr vx ∧ (∀ V, Agr lo w.heap.size W V → PIn V x vn vs vp vr vx) ∧ Kept p x) := Lib.hid fun W hW => ⟨_, _, _, _, _, _, rfl, fun V hA => (hlow.mono hW).agr hA, Kept.refl p⟩
  have HO1 : RowKit.Hid (∀ v ∈ pnrC p (.slice pn p.names.length cn) (.slice ps p.segs.length cs) (.slice pp p.phones.length cp) (.slice pr p.remarks.length cr) (.slice px p.seats.length cx), v.oneCell' = true) := Lib.hid pnrC_one
  clear h hd hf hb3 hlow
  obtain ⟨loc, off, names, segs, phones, tk, td, tm, recv, remarks, seats, queued⟩ := p
  obtain ⟨kd, ⟨nl, nf⟩, ⟨car, num, day, cls, live⟩, ek, ed, em, tx, n, pax, row, c⟩ := d
  have HTX : RowKit.Hid (∀ W, Calls Tryz.prog 54 #[.agg #[.int .i64 row, .int .u8 c.toNat]] W fun e w' => e = .returned (.string (seatT row c)) ∧ Below W.heap.size W w') := Lib.hid fun W => refText_any row c W
  have HSO : RowKit.Hid (((seatT row c).toList == []) = false → 1 ≤ row ∧ row ≤ 99 ∧ bL c = true) := Lib.hid seatT_some
  unfold pnrC at b0 e3 HOLD HO1 HWH ⊢
  unfold editC at b1 e3 HWH ⊢
  unfold zeroC at e3
  simp only at b0 b1 e3 HOLD HO1 HWH HDN HDP ⊢
  generalize seatT row c = st at *
  have HB0 := Lib.hid b0
  have HB1 := Lib.hid b1
  have HB2 := Lib.hid b2
  have HRG : RowKit.Hid (∀ W, Below w3.heap.size w3 W → W.rangeAt w.heap.size 0 [.string loc, .string off, .slice pn names.length cn, .slice ps segs.length cs, .slice pp phones.length cp, .int .i64 tk, .int .i64 td, .int .i64 tm, .string recv, .slice pr remarks.length cr, .slice px seats.length cx, .bool queued] ∧ W.rangeAt (w.heap.size + 1) 0 [.int .i64 kd, .string nl, .string nf, .string car, .int .i64 num, .int .i64 day, .int .u8 cls.toNat, .bool live, .int .i64 ek, .int .i64 ed, .int .i64 em, .string tx, .int .i64 n, .int .i64 pax, .int .i64 row, .int .u8 c.toNat] ∧ W.rangeAt (w.heap.size + 1) 14 [.int .i64 row, .int .u8 c.toNat]) := Lib.hid fun W hW => ⟨(HB0.out.mono hW).range, (HB1.out.mono hW).range, Blk.sub (HB1.out.mono hW) 14 _ (fun j u hj => by
    match j, hj with
    | 0, hj => exact hj
    | 1, hj => exact hj)⟩
  obtain ⟨_, _, hrs⟩ := HRG.out w3 (Below.refl _ _)
  clear b0 b1 b2
  go_enter Tryz.func66, Tryz.ntmps66
  go_upto_region 1 with fail
  try rw [e3]
  clear e3
  rw [show w.heap.size + 1 + 1 = w.heap.size + 2 from rfl]
  cases hst : (st.toList == []) with
  | true =>
    go_upto_region 2 with (first
      | (refine wpList_load_mid rfl 46 _ rfl (w.heap.size + 1) 14 rfl _ _ hrs Tryz.underlying46 rfl info_seat2 ?_)
      | (go_at_call 54; (with_reducible refine (HTX.out _).mono ?_); rintro e w4 ⟨rfl, hb4⟩; obtain ⟨hrp, hre, hrs4⟩ := HRG.out _ hb4))
    have hrb := (HB0.out.mono hb4).range
    have hbb2 := HB2.out.mono hb4
    go_wp2_with (first
      | (refine wpList_load_mid rfl 29 (.tmp 2) rfl w.heap.size 0 rfl _ _ hrb Tryz.underlying29 rfl info_pnr ?_)
      | (refine wpList_store_blk rfl 29 (.tmp 4) (.tmp 16) rfl (w.heap.size + 2) 29 zeroC [.string loc, .string off, .slice pn names.length cn, .slice ps segs.length cs, .slice pp phones.length cp, .int .i64 tk, .int .i64 td, .int .i64 tm, .string recv, .slice pr remarks.length cr, .slice px seats.length cx, .bool queued] rfl rfl hbb2 rfl info_pnr HO1.out ?_; intro w8 hb8 hl8 hg8))
    have hW := (bel_trans HB.out hb4).trans (below_le hl8 (by omega))
    exact chg_back rfl rfl rfl rfl hb8 rfl hW (HOLD.out _ hW)
  | false =>
    have HSE := Lib.hid (HSO.out hst)
    go_upto_region 4 with (first
      | (refine wpList_load_mid rfl 46 _ rfl (w.heap.size + 1) 14 rfl _ _ hrs Tryz.underlying46 rfl info_seat2 ?_)
      | (refine wpList_load_mid rfl 29 (.tmp 2) rfl w.heap.size 0 rfl _ _ hrp Tryz.underlying29 rfl info_pnr ?_)
      | (refine wpList_load_mid rfl 48 (.tmp 3) rfl (w.heap.size + 1) 0 rfl _ _ hre Tryz.underlying48 rfl info_edit ?_)
      | (go_at_call 54; (with_reducible refine (HTX.out _).mono ?_); rintro e w4 ⟨rfl, hb4⟩; obtain ⟨hrp, hre, hrs4⟩ := HRG.out _ hb4)
      | (go_at_call 67; (with_reducible refine (HWH.out _ hb4).mono ?_); rintro e w5 ⟨⟨f, rfl⟩, hb5⟩))
    have hb45 := bel_trans hb4 hb5
    have HB5 := Lib.hid hb45
    clear hrp hre hrs4 hrs hb4 hb5 hb45 hst
    by_cases hf0 : f = 0
    rotate_left
    · have hfb : (f != 0) = true := by simp [hf0]
      clear hf0
      have hrb := (HB0.out.mono HB5.out).range
      have hbb2 := HB2.out.mono HB5.out
      go_wp2_with (first
        | (refine wpList_load_mid rfl 29 (.tmp 2) rfl w.heap.size 0 rfl _ _ hrb Tryz.underlying29 rfl info_pnr ?_)
        | (refine wpList_store_blk rfl 29 (.tmp 4) (.tmp 22) rfl (w.heap.size + 2) 29 zeroC [.string loc, .string off, .slice pn names.length cn, .slice ps segs.length cs, .slice pp phones.length cp, .int .i64 tk, .int .i64 td, .int .i64 tm, .string recv, .slice pr remarks.length cr, .slice px seats.length cx, .bool queued] rfl rfl hbb2 rfl info_pnr HO1.out ?_; intro w8 hb8 hl8 hg8))
      have hW := (bel_trans HB.out HB5.out).trans (below_le hl8 (by omega))
      exact chg_back rfl rfl rfl rfl hb8 rfl hW (HOLD.out _ hW)
    subst hf0
    clear HTX HSO HWH
    have HCK : RowKit.Hid (∀ W, Below w5.heap.size w5 W → HasE placeC W (.slice px seats.length cx) seats ∧ W.cell? ⟨w.heap.size, 10, none⟩ = some (.slice px seats.length cx) ∧ W.cell? ⟨w.heap.size + 1, 12, none⟩ = some (.int .i64 n) ∧ W.cell? ⟨w.heap.size + 1, 13, none⟩ = some (.int .i64 pax) ∧ W.cell? ⟨w.heap.size + 1, 14, none⟩ = some (.int .i64 row) ∧ W.cell? ⟨w.heap.size + 1, 15, none⟩ = some (.int .u8 c.toNat)) := Lib.hid fun W hW => ⟨((HPI.out.mono HB.out).x.mono (bel_trans HB5.out hW)), ((HB0.out.mono (bel_trans HB5.out hW)).cell 10).trans rfl, ((HB1.out.mono (bel_trans HB5.out hW)).cell 12).trans rfl, ((HB1.out.mono (bel_trans HB5.out hW)).cell 13).trans rfl, ((HB1.out.mono (bel_trans HB5.out hW)).cell 14).trans rfl, ((HB1.out.mono (bel_trans HB5.out hW)).cell 15).trans rfl⟩
    have HNSb : RowKit.Hid (seats.length ≤ 900) := Lib.hid (by
      have := HF.out
      unfold Room at this
      simp only at this
      omega)
    generalize hNS : seats.length = NS at *
    have HNS := Lib.hid hNS
    clear hNS
    have hNSb := HNSb.out
    go_wp2
    go_loopg [7] NS (fun g0 s7 wr => ∃ i : Nat, i ≤ NS ∧ g0 = NS - i ∧ s7 = .int .i64 (i : Int) ∧ Below w5.heap.size w5 wr)
    case atStart => exact ⟨0, Nat.zero_le _, rfl, rfl, Below.refl _ _⟩
    case round =>
      obtain ⟨i, hi, rfl, rfl, hbx⟩ := hrel
      have HBX := Lib.hid hbx
      obtain ⟨hsg, p10, e12, e13, e14, e15⟩ := HCK.out _ hbx
      by_cases hlt : i < NS
      · have hii : (i : Int) < (NS : Int) := by omega
        have hi0 : (0 : Int) ≤ (i : Int) := by omega
        have hiN2 : i < seats.length := by rw [HNS.out]; exact hlt
        rw [← HNS.out] at hsg
        obtain ⟨bb, of2, rfl, hr, g0, g1, g2, g3⟩ := place_at hsg hiN2
        rw [HNS.out] at hsg
        generalize seats.getD i pl0 = y at *
        obtain ⟨sg', pa', row', c'⟩ := y
        simp only at g0 g1 g2 g3
        clear hr hbx hsg
        by_cases e1 : sg' = n
        rotate_left
        · have q1 : (sg' == n) = false := by rw [beq_eq_false_iff_ne]; exact e1
          clear e1
          go_upto_region 9 with fail
          go_quiet (fail)
          go_wp2
          go_roundg (NS - (i + 1))
          case measure => omega
          case rel => exact ⟨i + 1, by omega, rfl, by go_num, below_drewN HBX.out _⟩
        have q1 : (sg' == n) = true := by rw [beq_iff_eq]; exact e1
        clear e1
        by_cases e2 : row' = row
        rotate_left
        · have q2 : (row' == row) = false := by rw [beq_eq_false_iff_ne]; exact e2
          clear e2
          go_upto_region 9 with fail
          go_quiet (fail)
          go_wp2
          go_roundg (NS - (i + 1))
          case measure => omega
          case rel => exact ⟨i + 1, by omega, rfl, by go_num, below_drewN HBX.out _⟩
        have q2 : (row' == row) = true := by rw [beq_iff_eq]; exact e2
        clear e2
        by_cases e3 : c' = c
        rotate_left
        · have q3 : ((c'.toNat : Int) == (c.toNat : Int)) = false := by
            rw [beq_eq_false_iff_ne]
            exact fun h => e3 (UInt8.toNat_inj.1 (by omega))
          clear e3
          go_upto_region 9 with fail
          go_quiet (fail)
          go_wp2
          go_roundg (NS - (i + 1))
          case measure => omega
          case rel => exact ⟨i + 1, by omega, rfl, by go_num, below_drewN HBX.out _⟩
        have q3 : ((c'.toNat : Int) == (c.toNat : Int)) = true := by rw [e3, beq_iff_eq]
        clear e3
        by_cases e4 : pa' = pax
        · have q4 : (pa' != pax) = false := by simp [e4]
          clear e4
          go_upto_region 9 with fail
          go_quiet (fail)
          go_wp2
          go_roundg (NS - (i + 1))
          case measure => omega
          case rel => exact ⟨i + 1, by omega, rfl, by go_num, below_drewN HBX.out _⟩
        have q4 : (pa' != pax) = true := by simp [e4]
        clear e4
        go_upto_region 9 with fail
        go_quiet (fail)
        rename Nat => nq
        have hbq := bel_trans HB5.out (below_drewN HBX.out nq)
        generalize wr.drewN nq = wq at *
        have hrb := (HB0.out.mono hbq).range
        have hbb2 := HB2.out.mono hbq
        go_wp2_with (first
          | (refine wpList_load_mid rfl 29 (.tmp 2) rfl w.heap.size 0 rfl _ _ hrb Tryz.underlying29 rfl info_pnr ?_)
          | (refine wpList_store_blk rfl 29 (.tmp 4) (.tmp 62) rfl (w.heap.size + 2) 29 zeroC [.string loc, .string off, .slice pn names.length cn, .slice ps segs.length cs, .slice pp phones.length cp, .int .i64 tk, .int .i64 td, .int .i64 tm, .string recv, .slice pr remarks.length cr, .slice (some ⟨bb, of2, none⟩) NS cx, .bool queued] rfl rfl hbb2 rfl info_pnr HO1.out ?_; intro w8 hb8 hl8 hg8))
        have hW := (bel_trans HB.out hbq).trans (below_le hl8 (by omega))
        exact chg_back rfl rfl rfl rfl hb8 rfl hW (HOLD.out _ hW)
      · have hn : i = NS := by omega
        subst hn
        have hbr := bel_trans HB5.out hbx
        have HBR := Lib.hid (bel_trans HB.out hbr)
        have R0 := Lib.hid (HB0.out.mono hbr)
        have R1 := Lib.hid (HB1.out.mono hbr)
        have R2 := Lib.hid (HB2.out.mono hbr)
        have hzr : w.heap.size + 3 ≤ wr.heap.size := by have := HB5.out.size; have := hbx.size; omega
        have hNS := HNS.out
        subst hNS
        have HPL := Lib.hid (places_any (.slice px seats.length cx) seats n pax wr hsg (by omega))
        have hsg2 := hsg
        clear hbx HBX hbr hsg
        go_upto_region 12 with (first
          | (go_at_call 65; (with_reducible refine HPL.out.mono ?_); rintro e w6 ⟨⟨vq, rest, rfl, hq, hql, hqm⟩, hb6⟩))
        obtain ⟨p6, c6, rfl⟩ := (HasE.own hq).len
        have hrs6 : w6.rangeAt (w.heap.size + 1) 14 [.int .i64 row, .int .u8 c.toNat] := Blk.sub (R1.out.mono hb6) 14 _ (fun j u hj => by
          match j, hj with
          | 0, hj => exact hj
          | 1, hj => exact hj)
        have t12 : w6.cell? ⟨w.heap.size + 1, 12, none⟩ = some (.int .i64 n) := ((R1.out.mono hb6).cell 12).trans rfl
        have t13 : w6.cell? ⟨w.heap.size + 1, 13, none⟩ = some (.int .i64 pax) := ((R1.out.mono hb6).cell 13).trans rfl
        have HQM := Lib.hid hqm
        have HQ := Lib.hid hq
        have HB6 := Lib.hid hb6
        clear p10 e12 e13 e14 e15 hqm hq hb6 HCK HPL hsg2
        go_upto_region 13 with (first
          | (refine wpList_load_mid rfl 46 _ rfl (w.heap.size + 1) 14 rfl _ _ hrs6 Tryz.underlying46 rfl info_seat2 ?_)
          | (refine wpList_store_blk rfl 72 (.tmp 9) (.tmp 76) rfl w6.heap.size 72 (placeC pl0) (placeC ⟨n, pax, row, c⟩) rfl rfl (Blk.new w6 72 (placeC pl0)) rfl info_place (placeC_one _) ?_; intro w7 ha7 hb7 hg7))
        dsimp only [Act.put]
        have hb67 : Below w6.heap.size w6 w7 := ((Below.refl _ _).alloc (Nat.le_refl _) (.cells (placeC pl0).toArray 72)).trans hb7
        have hbr7 := bel_trans HB6.out hb67
        have hgm : w.heap.size + 3 ≤ w6.heap.size := by have := HB6.out.size; omega
        have hsl := SL.start (csf := (fun u => [.string loc, .string off, .slice pn names.length cn, .slice ps segs.length cs, .slice pp phones.length cp, .int .i64 tk, .int .i64 td, .int .i64 tm, .string recv, .slice pr remarks.length cr, u, .bool queued])) (dc := [.int .i64 kd, .string nl, .string nf, .string car, .int .i64 num, .int .i64 day, .int .u8 cls.toNat, .bool live, .int .i64 ek, .int .i64 ed, .int .i64 em, .string tx, .int .i64 n, .int .i64 pax, .int .i64 row, .int .u8 c.toNat]) (R0.out.mono hbr7) rfl (R1.out.mono hbr7) (R2.out.mono hbr7) ha7 hgm (own_mono (own_low (base' := w.heap.size + 3) HQ.out hzr) hb67) (fun k hk => (World.ownsRow.lt HQ.out k hk).2) (bel_trans HBR.out hbr7)
        have x10 : w7.cell? ⟨w.heap.size, 10, none⟩ = some (.slice px seats.length cx) := ((R0.out.mono hbr7).cell 10).trans rfl
        have x11 : w7.frozen? ⟨w.heap.size, 10, none⟩ = false := (R0.out.mono hbr7).frozen 10
        have HSL0 := Lib.hid hsl
        clear hsl hrs6 t12 t13 ha7 hb7 hg7 hb67 hbr7 R0 R1 R2 HBR HQ HB6 HB0 HB1 HB2
        generalize w6.heap.size = gm at *
        have hM2 : rest.length ≤ 900 := by omega
        have HM2S : RowKit.Hid (rest.length ≤ seats.length) := Lib.hid (by omega)
        generalize hR : rest.length = M2 at *
        have HR := Lib.hid hR
        clear hR
        go_wp2
        clear x10 x11
        go_loopg [10, 11] M2 (fun g0 s10 s11 wr2 => ∃ (i : Nat) (dn : Bool) (r : List PlaceT) (p3 : Option Addr) (n3 c3 : Nat), i ≤ M2 ∧ g0 = M2 - i ∧ s10 = .bool dn ∧ s11 = .int .i64 (i : Int) ∧ SL w wr2 gm (fun u => [.string loc, .string off, .slice pn names.length cn, .slice ps segs.length cs, .slice pp phones.length cp, .int .i64 tk, .int .i64 td, .int .i64 tm, .string recv, .slice pr remarks.length cr, u, .bool queued]) [.int .i64 kd, .string nl, .string nf, .string car, .int .i64 num, .int .i64 day, .int .u8 cls.toNat, .bool live, .int .i64 ek, .int .i64 ed, .int .i64 em, .string tx, .int .i64 n, .int .i64 pax, .int .i64 row, .int .u8 c.toNat] ⟨n, pax, row, c⟩ (.slice p6 M2 c6) rest r (.slice p3 n3 c3) ∧ r.length ≤ i + dn.toNat ∧ ∀ x ∈ r, x ∈ seats ∨ x = ⟨n, pax, row, c⟩)
        case atStart => exact ⟨0, false, [], none, 0, 0, Nat.zero_le _, rfl, rfl, rfl, HSL0.out, Nat.zero_le _, fun x h => by cases h⟩
        case round =>
          rename World => wr2
          obtain ⟨i, dn, r, p3, n3, c3, hiM, rfl, rfl, rfl, hsl, hrl, hmem⟩ := hrel
          have HSL := Lib.hid hsl
          have HMEM := Lib.hid hmem
          clear hsl hmem HSL0
          by_cases hlt : i < M2
          · have hii : (i : Int) < (M2 : Int) := by omega
            have hi0 : (0 : Int) ≤ (i : Int) := by omega
            have hiR : i < rest.length := by rw [HR.out]; exact hlt
            obtain ⟨bb, of2, rfl, hr, g0, g1, g2, g3⟩ := place_at (HasE.own HSL.out.q) hiR
            have HXM := Lib.hid (HQM.out _ (List.mem_of_getElem? (getD_at pl0 hiR)))
            have e12 : wr2.cell? ⟨w.heap.size + 1, 12, none⟩ = some (.int .i64 n) := (HSL.out.b1.cell 12).trans rfl
            have e13 : wr2.cell? ⟨w.heap.size + 1, 13, none⟩ = some (.int .i64 pax) := (HSL.out.b1.cell 13).trans rfl
            clear hr
            generalize hy : rest.getD i pl0 = y at *
            obtain ⟨sg', pa', row', c'⟩ := y
            simp only at g0 g1 g2 g3
            cases dn with
            | true =>
              have hrl1 : r.length ≤ i + 1 := hrl
              clear hrl
              go_upto_region 18 with fail
              go_quiet (fail)
              rename Nat => nq
              have hslq := HSL.out.mono (below_drewN (Below.refl _ _) nq)
              clear HSL g0 g1 g2 g3 e12 e13
              generalize wr2.drewN nq = wq at *
              have HSQ := Lib.hid hslq
              clear hslq
              go_upto_region 21 with fail
              obtain ⟨i0, hi0, hz0, hsz0, hby0⟩ := place_tinfo
              have HSA := Lib.hid (HSQ.out.mono ((Below.refl _ _).alloc (Nat.le_refl _) (.cells #[.int .i64 sg', .int .i64 pa', .int .i64 row', .int .u8 c'.toNat] 72)).drew)
              have hnews : ∀ (j : Nat) (u : Value), (placeC ⟨sg', pa', row', c'⟩)[j]? = some u → (wq.alloc (.cells #[.int .i64 sg', .int .i64 pa', .int .i64 row', .int .u8 c'.toNat] 72)).drew.cell? (Addr.add ⟨wq.heap.size, 0, none⟩ j) = some u := World.news_of_block (cs := #[.int .i64 sg', .int .i64 pa', .int .i64 row', .int .u8 c'.toNat]) (t := 72) (fr := (0, 0)) (heap_alloc_new wq _)
              have hoa := HSA.out.own
              have hsz21 : (wq.alloc (.cells #[.int .i64 sg', .int .i64 pa', .int .i64 row', .int .u8 c'.toNat] 72)).drew.heap.size = wq.heap.size + 1 := by simp
              have hba : gm + 1 ≤ (wq.alloc (.cells #[.int .i64 sg', .int .i64 pa', .int .i64 row', .int .u8 c'.toNat] 72)).drew.heap.size := HSA.out.bm.lt
              have z10 : wq.cell? ⟨w.heap.size, 10, none⟩ = some (.slice p3 n3 c3) := (HSQ.out.b0.cell 10).trans rfl
              have z10a : (wq.alloc (.cells #[.int .i64 sg', .int .i64 pa', .int .i64 row', .int .u8 c'.toNat] 72)).cell? ⟨w.heap.size, 10, none⟩ = some (.slice p3 n3 c3) := ((HSQ.out.b0.alloc _).cell 10).trans rfl
              obtain ⟨bb2, off2, ee, hr2, y0, y1, y2, y3⟩ := place_at (HasE.own HSQ.out.q) hiR
              injection ee with ee
              injection ee with ee1 ee2 ee3
              subst ee1 ee2
              rw [hy] at hr2 y0 y1 y2 y3
              simp only at y0 y1 y2 y3
              have hm1 : r.length + 1 ≤ maxLen := by unfold maxLen; omega
              have hm2 : (r.length + 1) * 32 ≤ 140737488355328 := by omega
              have HY := Lib.hid hy
              clear hy
              go_region_law (first
                | (refine step_append_lies _ (by rfl) _ _ _ (by rfl) (gm + 1) 72 i0 _ 4 32 Tryz.underlying27 hi0 hz0 hsz0 hby0 rfl (by decide) (.slice p3 n3 c3) r.length (r.flatMap placeC) (by rfl) hoa ⟨wq.heap.size, 0, none⟩ 1 1 (placeC ⟨sg', pa', row', c'⟩) (by rfl) (by rfl) hnews (placeC_one _) (by decide) hm1 hm2 hba (wq.heap.size + 1) hsz21 ?_; intro gq cq w9 ho9 hg9 hat9 hlt9; have hne9 := (own_row_ne hoa (show w.heap.size < gm + 1 by have := HSA.out.hm; omega)).symm; have hx9 := HSA.out.b0.far hg9 hne9; have y10 := (hx9.cell 10).trans rfl; have y11 := hx9.frozen 10))
              all_goals (
                have hs9 := HSA.out.push (x := ⟨sg', pa', row', c'⟩) rfl hg9 ho9
                have hmem9 : ∀ x ∈ r ++ [(⟨sg', pa', row', c'⟩ : PlaceT)], x ∈ seats ∨ x = ⟨n, pax, row, c⟩ := all_snoc HMEM.out (.inl HXM.out)
                have hl9 : (r ++ [(⟨sg', pa', row', c'⟩ : PlaceT)]).length ≤ i + 1 + 1 := by rw [List.length_append, List.length_singleton]; omega
                have HS9 := Lib.hid hs9
                have HM9 := Lib.hid hmem9
                clear hs9 hmem9
                go_wp2
                go_roundg (M2 - (i + 1))
                case measure => omega
                case rel => exact ⟨i + 1, true, _, _, _, _, by omega, rfl, rfl, by go_num, HS9.out, hl9, HM9.out⟩)
            | false =>
              have hrl1 : r.length ≤ i := hrl
              clear hrl
              by_cases hA : n < sg'
              · have hAd : decide (n < sg') = true := decide_eq_true hA
                go_upto_region 18 with fail
                go_quiet (fail)
                rename Nat => nq
                have hslq := HSL.out.mono (below_drewN (Below.refl _ _) nq)
                clear HSL g0 g1 g2 g3 e12 e13
                generalize wr2.drewN nq = wq at *
                have HSQ := Lib.hid hslq
                clear hslq
                have HCX : RowKit.Hid (∀ W, Below (gm + 1) wq W → W.cell? ⟨w.heap.size, 10, none⟩ = some (.slice p3 n3 c3) ∧ W.frozen? ⟨w.heap.size, 10, none⟩ = false) := Lib.hid fun W hW => ⟨((HSQ.out.b0.keep hW (by have := HSQ.out.hm; omega)).cell 10).trans rfl, (HSQ.out.b0.keep hW (by have := HSQ.out.hm; omega)).frozen 10⟩
                obtain ⟨z10, z11⟩ := HCX.out wq (Below.refl _ _)
                have hrm : wq.rangeAt gm 0 [.int .i64 n, .int .i64 pax, .int .i64 row, .int .u8 c.toNat] := HSQ.out.bm.range
                have hBs : gm + 1 ≤ wq.heap.size := HSQ.out.bm.lt
                obtain ⟨i0, hi0, hz0, hsz0, hby0⟩ := place_tinfo
                have hm1 : r.length + 1 ≤ maxLen := by unfold maxLen; omega
                have hm2 : (r.length + 1) * 32 ≤ 140737488355328 := by omega
                go_upto_region 20 with (first
                  | (refine wpList_load_mid rfl 72 (.tmp 9) rfl gm 0 rfl _ _ hrm Tryz.underlying72 rfl info_place ?_)
                  | (at_builtin; refine wpList_pushC rfl _ _ 27 rfl (gm + 1) 72 i0 _ 4 32 Tryz.underlying27 hi0 hz0 hsz0 hby0 rfl (by decide) _ r.length _ rfl HSQ.out.own (placeC ⟨n, pax, row, c⟩) rfl rfl (placeC_one _) hm1 hm2 hBs ?_; intro v4 w4 ho4 hb4 hg4; obtain ⟨p4, n4, c4, rfl⟩ := own_slice ho4; obtain ⟨z0, z1⟩ := HCX.out _ hb4))
                try dsimp only [Act.put]
                have hs2 := (HSQ.out.mono ((Below.refl _ _).alloc (Nat.le_refl _) (.cells #[.int .i64 n, .int .i64 pax, .int .i64 row, .int .u8 c.toNat] 72))).push (x := ⟨n, pax, row, c⟩) rfl hg4 ho4
                have HMEM2 : RowKit.Hid (∀ x ∈ r ++ [(⟨n, pax, row, c⟩ : PlaceT)], x ∈ seats ∨ x = ⟨n, pax, row, c⟩) := Lib.hid (all_snoc HMEM.out (.inr rfl))
                have hrl2 : (r ++ [(⟨n, pax, row, c⟩ : PlaceT)]).length ≤ i + 1 := by rw [List.length_append, List.length_singleton]; omega
                clear z10 z11 z0 z1 hrm hBs HCX hg4 ho4 hb4 hm1 hm2
                generalize w4.setCell ⟨w.heap.size, 10, none⟩ (.slice p4 n4 c4) = wB at *
                generalize r ++ [(⟨n, pax, row, c⟩ : PlaceT)] = r2 at *
                have HS2 := Lib.hid hs2
                clear hs2
                go_upto_region 21 with fail
                obtain ⟨i0, hi0, hz0, hsz0, hby0⟩ := place_tinfo
                have HSA := Lib.hid (HS2.out.mono ((Below.refl _ _).alloc (Nat.le_refl _) (.cells #[.int .i64 sg', .int .i64 pa', .int .i64 row', .int .u8 c'.toNat] 72)).drew)
                have hnews : ∀ (j : Nat) (u : Value), (placeC ⟨sg', pa', row', c'⟩)[j]? = some u → (wB.alloc (.cells #[.int .i64 sg', .int .i64 pa', .int .i64 row', .int .u8 c'.toNat] 72)).drew.cell? (Addr.add ⟨wB.heap.size, 0, none⟩ j) = some u := World.news_of_block (cs := #[.int .i64 sg', .int .i64 pa', .int .i64 row', .int .u8 c'.toNat]) (t := 72) (fr := (0, 0)) (heap_alloc_new wB _)
                have hoa := HSA.out.own
                have hsz21 : (wB.alloc (.cells #[.int .i64 sg', .int .i64 pa', .int .i64 row', .int .u8 c'.toNat] 72)).drew.heap.size = wB.heap.size + 1 := by simp
                have hba : gm + 1 ≤ (wB.alloc (.cells #[.int .i64 sg', .int .i64 pa', .int .i64 row', .int .u8 c'.toNat] 72)).drew.heap.size := HSA.out.bm.lt
                have z10 : wB.cell? ⟨w.heap.size, 10, none⟩ = some (.slice p4 n4 c4) := (HS2.out.b0.cell 10).trans rfl
                have z10a : (wB.alloc (.cells #[.int .i64 sg', .int .i64 pa', .int .i64 row', .int .u8 c'.toNat] 72)).cell? ⟨w.heap.size, 10, none⟩ = some (.slice p4 n4 c4) := ((HS2.out.b0.alloc _).cell 10).trans rfl
                obtain ⟨bb2, off2, ee, hr2, y0, y1, y2, y3⟩ := place_at (HasE.own HS2.out.q) hiR
                injection ee with ee
                injection ee with ee1 ee2 ee3
                subst ee1 ee2
                rw [hy] at hr2 y0 y1 y2 y3
                simp only at y0 y1 y2 y3
                have hm1 : r2.length + 1 ≤ maxLen := by unfold maxLen; omega
                have hm2 : (r2.length + 1) * 32 ≤ 140737488355328 := by omega
                have HY := Lib.hid hy
                clear hy
                go_region_law (first
                  | (refine step_append_lies _ (by rfl) _ _ _ (by rfl) (gm + 1) 72 i0 _ 4 32 Tryz.underlying27 hi0 hz0 hsz0 hby0 rfl (by decide) (.slice p4 n4 c4) r2.length (r2.flatMap placeC) (by rfl) hoa ⟨wB.heap.size, 0, none⟩ 1 1 (placeC ⟨sg', pa', row', c'⟩) (by rfl) (by rfl) hnews (placeC_one _) (by decide) hm1 hm2 hba (wB.heap.size + 1) hsz21 ?_; intro gq cq w9 ho9 hg9 hat9 hlt9; have hne9 := (own_row_ne hoa (show w.heap.size < gm + 1 by have := HSA.out.hm; omega)).symm; have hx9 := HSA.out.b0.far hg9 hne9; have y10 := (hx9.cell 10).trans rfl; have y11 := hx9.frozen 10))
                all_goals (
                  have hs9 := HSA.out.push (x := ⟨sg', pa', row', c'⟩) rfl hg9 ho9
                  have hmem9 : ∀ x ∈ r2 ++ [(⟨sg', pa', row', c'⟩ : PlaceT)], x ∈ seats ∨ x = ⟨n, pax, row, c⟩ := all_snoc HMEM2.out (.inl HXM.out)
                  have hl9 : (r2 ++ [(⟨sg', pa', row', c'⟩ : PlaceT)]).length ≤ i + 1 + 1 := by rw [List.length_append, List.length_singleton]; omega
                  have HS9 := Lib.hid hs9
                  have HM9 := Lib.hid hmem9
                  clear hs9 hmem9
                  go_wp2
                  go_roundg (M2 - (i + 1))
                  case measure => omega
                  case rel => exact ⟨i + 1, true, _, _, _, _, by omega, rfl, rfl, by go_num, HS9.out, hl9, HM9.out⟩)
              have hAd : decide (n < sg') = false := decide_eq_false hA
              by_cases hE : sg' = n
              · have hEb : (sg' == n) = true := by rw [beq_iff_eq]; exact hE
                by_cases hP : pax < pa'
                · have hPd : decide (pax < pa') = true := decide_eq_true hP
                  clear hE
                  go_upto_region 18 with fail
                  go_quiet (fail)
                  rename Nat => nq
                  have hslq := HSL.out.mono (below_drewN (Below.refl _ _) nq)
                  clear HSL g0 g1 g2 g3 e12 e13
                  generalize wr2.drewN nq = wq at *
                  have HSQ := Lib.hid hslq
                  clear hslq
                  have HCX : RowKit.Hid (∀ W, Below (gm + 1) wq W → W.cell? ⟨w.heap.size, 10, none⟩ = some (.slice p3 n3 c3) ∧ W.frozen? ⟨w.heap.size, 10, none⟩ = false) := Lib.hid fun W hW => ⟨((HSQ.out.b0.keep hW (by have := HSQ.out.hm; omega)).cell 10).trans rfl, (HSQ.out.b0.keep hW (by have := HSQ.out.hm; omega)).frozen 10⟩
                  obtain ⟨z10, z11⟩ := HCX.out wq (Below.refl _ _)
                  have hrm : wq.rangeAt gm 0 [.int .i64 n, .int .i64 pax, .int .i64 row, .int .u8 c.toNat] := HSQ.out.bm.range
                  have hBs : gm + 1 ≤ wq.heap.size := HSQ.out.bm.lt
                  obtain ⟨i0, hi0, hz0, hsz0, hby0⟩ := place_tinfo
                  have hm1 : r.length + 1 ≤ maxLen := by unfold maxLen; omega
                  have hm2 : (r.length + 1) * 32 ≤ 140737488355328 := by omega
                  go_upto_region 20 with (first
                    | (refine wpList_load_mid rfl 72 (.tmp 9) rfl gm 0 rfl _ _ hrm Tryz.underlying72 rfl info_place ?_)
                    | (at_builtin; refine wpList_pushC rfl _ _ 27 rfl (gm + 1) 72 i0 _ 4 32 Tryz.underlying27 hi0 hz0 hsz0 hby0 rfl (by decide) _ r.length _ rfl HSQ.out.own (placeC ⟨n, pax, row, c⟩) rfl rfl (placeC_one _) hm1 hm2 hBs ?_; intro v4 w4 ho4 hb4 hg4; obtain ⟨p4, n4, c4, rfl⟩ := own_slice ho4; obtain ⟨z0, z1⟩ := HCX.out _ hb4))
                  try dsimp only [Act.put]
                  have hs2 := (HSQ.out.mono ((Below.refl _ _).alloc (Nat.le_refl _) (.cells #[.int .i64 n, .int .i64 pax, .int .i64 row, .int .u8 c.toNat] 72))).push (x := ⟨n, pax, row, c⟩) rfl hg4 ho4
                  have HMEM2 : RowKit.Hid (∀ x ∈ r ++ [(⟨n, pax, row, c⟩ : PlaceT)], x ∈ seats ∨ x = ⟨n, pax, row, c⟩) := Lib.hid (all_snoc HMEM.out (.inr rfl))
                  have hrl2 : (r ++ [(⟨n, pax, row, c⟩ : PlaceT)]).length ≤ i + 1 := by rw [List.length_append, List.length_singleton]; omega
                  clear z10 z11 z0 z1 hrm hBs HCX hg4 ho4 hb4 hm1 hm2
                  generalize w4.setCell ⟨w.heap.size, 10, none⟩ (.slice p4 n4 c4) = wB at *
                  generalize r ++ [(⟨n, pax, row, c⟩ : PlaceT)] = r2 at *
                  have HS2 := Lib.hid hs2
                  clear hs2
                  go_upto_region 21 with fail
                  obtain ⟨i0, hi0, hz0, hsz0, hby0⟩ := place_tinfo
                  have HSA := Lib.hid (HS2.out.mono ((Below.refl _ _).alloc (Nat.le_refl _) (.cells #[.int .i64 sg', .int .i64 pa', .int .i64 row', .int .u8 c'.toNat] 72)).drew)
                  have hnews : ∀ (j : Nat) (u : Value), (placeC ⟨sg', pa', row', c'⟩)[j]? = some u → (wB.alloc (.cells #[.int .i64 sg', .int .i64 pa', .int .i64 row', .int .u8 c'.toNat] 72)).drew.cell? (Addr.add ⟨wB.heap.size, 0, none⟩ j) = some u := World.news_of_block (cs := #[.int .i64 sg', .int .i64 pa', .int .i64 row', .int .u8 c'.toNat]) (t := 72) (fr := (0, 0)) (heap_alloc_new wB _)
                  have hoa := HSA.out.own
                  have hsz21 : (wB.alloc (.cells #[.int .i64 sg', .int .i64 pa', .int .i64 row', .int .u8 c'.toNat] 72)).drew.heap.size = wB.heap.size + 1 := by simp
                  have hba : gm + 1 ≤ (wB.alloc (.cells #[.int .i64 sg', .int .i64 pa', .int .i64 row', .int .u8 c'.toNat] 72)).drew.heap.size := HSA.out.bm.lt
                  have z10 : wB.cell? ⟨w.heap.size, 10, none⟩ = some (.slice p4 n4 c4) := (HS2.out.b0.cell 10).trans rfl
                  have z10a : (wB.alloc (.cells #[.int .i64 sg', .int .i64 pa', .int .i64 row', .int .u8 c'.toNat] 72)).cell? ⟨w.heap.size, 10, none⟩ = some (.slice p4 n4 c4) := ((HS2.out.b0.alloc _).cell 10).trans rfl
                  obtain ⟨bb2, off2, ee, hr2, y0, y1, y2, y3⟩ := place_at (HasE.own HS2.out.q) hiR
                  injection ee with ee
                  injection ee with ee1 ee2 ee3
                  subst ee1 ee2
                  rw [hy] at hr2 y0 y1 y2 y3
                  simp only at y0 y1 y2 y3
                  have hm1 : r2.length + 1 ≤ maxLen := by unfold maxLen; omega
                  have hm2 : (r2.length + 1) * 32 ≤ 140737488355328 := by omega
                  have HY := Lib.hid hy
                  clear hy
                  go_region_law (first
                    | (refine step_append_lies _ (by rfl) _ _ _ (by rfl) (gm + 1) 72 i0 _ 4 32 Tryz.underlying27 hi0 hz0 hsz0 hby0 rfl (by decide) (.slice p4 n4 c4) r2.length (r2.flatMap placeC) (by rfl) hoa ⟨wB.heap.size, 0, none⟩ 1 1 (placeC ⟨sg', pa', row', c'⟩) (by rfl) (by rfl) hnews (placeC_one _) (by decide) hm1 hm2 hba (wB.heap.size + 1) hsz21 ?_; intro gq cq w9 ho9 hg9 hat9 hlt9; have hne9 := (own_row_ne hoa (show w.heap.size < gm + 1 by have := HSA.out.hm; omega)).symm; have hx9 := HSA.out.b0.far hg9 hne9; have y10 := (hx9.cell 10).trans rfl; have y11 := hx9.frozen 10))
                  all_goals (
                    have hs9 := HSA.out.push (x := ⟨sg', pa', row', c'⟩) rfl hg9 ho9
                    have hmem9 : ∀ x ∈ r2 ++ [(⟨sg', pa', row', c'⟩ : PlaceT)], x ∈ seats ∨ x = ⟨n, pax, row, c⟩ := all_snoc HMEM2.out (.inl HXM.out)
                    have hl9 : (r2 ++ [(⟨sg', pa', row', c'⟩ : PlaceT)]).length ≤ i + 1 + 1 := by rw [List.length_append, List.length_singleton]; omega
                    have HS9 := Lib.hid hs9
                    have HM9 := Lib.hid hmem9
                    clear hs9 hmem9
                    go_wp2
                    go_roundg (M2 - (i + 1))
                    case measure => omega
                    case rel => exact ⟨i + 1, true, _, _, _, _, by omega, rfl, rfl, by go_num, HS9.out, hl9, HM9.out⟩)
                · have hPd : decide (pax < pa') = false := decide_eq_false hP
                  clear hE
                  go_upto_region 18 with fail
                  go_quiet (fail)
                  rename Nat => nq
                  have hslq := HSL.out.mono (below_drewN (Below.refl _ _) nq)
                  clear HSL g0 g1 g2 g3 e12 e13
                  generalize wr2.drewN nq = wq at *
                  have HSQ := Lib.hid hslq
                  clear hslq
                  go_upto_region 21 with fail
                  obtain ⟨i0, hi0, hz0, hsz0, hby0⟩ := place_tinfo
                  have HSA := Lib.hid (HSQ.out.mono ((Below.refl _ _).alloc (Nat.le_refl _) (.cells #[.int .i64 sg', .int .i64 pa', .int .i64 row', .int .u8 c'.toNat] 72)).drew)
                  have hnews : ∀ (j : Nat) (u : Value), (placeC ⟨sg', pa', row', c'⟩)[j]? = some u → (wq.alloc (.cells #[.int .i64 sg', .int .i64 pa', .int .i64 row', .int .u8 c'.toNat] 72)).drew.cell? (Addr.add ⟨wq.heap.size, 0, none⟩ j) = some u := World.news_of_block (cs := #[.int .i64 sg', .int .i64 pa', .int .i64 row', .int .u8 c'.toNat]) (t := 72) (fr := (0, 0)) (heap_alloc_new wq _)
                  have hoa := HSA.out.own
                  have hsz21 : (wq.alloc (.cells #[.int .i64 sg', .int .i64 pa', .int .i64 row', .int .u8 c'.toNat] 72)).drew.heap.size = wq.heap.size + 1 := by simp
                  have hba : gm + 1 ≤ (wq.alloc (.cells #[.int .i64 sg', .int .i64 pa', .int .i64 row', .int .u8 c'.toNat] 72)).drew.heap.size := HSA.out.bm.lt
                  have z10 : wq.cell? ⟨w.heap.size, 10, none⟩ = some (.slice p3 n3 c3) := (HSQ.out.b0.cell 10).trans rfl
                  have z10a : (wq.alloc (.cells #[.int .i64 sg', .int .i64 pa', .int .i64 row', .int .u8 c'.toNat] 72)).cell? ⟨w.heap.size, 10, none⟩ = some (.slice p3 n3 c3) := ((HSQ.out.b0.alloc _).cell 10).trans rfl
                  obtain ⟨bb2, off2, ee, hr2, y0, y1, y2, y3⟩ := place_at (HasE.own HSQ.out.q) hiR
                  injection ee with ee
                  injection ee with ee1 ee2 ee3
                  subst ee1 ee2
                  rw [hy] at hr2 y0 y1 y2 y3
                  simp only at y0 y1 y2 y3
                  have hm1 : r.length + 1 ≤ maxLen := by unfold maxLen; omega
                  have hm2 : (r.length + 1) * 32 ≤ 140737488355328 := by omega
                  have HY := Lib.hid hy
                  clear hy
                  go_region_law (first
                    | (refine step_append_lies _ (by rfl) _ _ _ (by rfl) (gm + 1) 72 i0 _ 4 32 Tryz.underlying27 hi0 hz0 hsz0 hby0 rfl (by decide) (.slice p3 n3 c3) r.length (r.flatMap placeC) (by rfl) hoa ⟨wq.heap.size, 0, none⟩ 1 1 (placeC ⟨sg', pa', row', c'⟩) (by rfl) (by rfl) hnews (placeC_one _) (by decide) hm1 hm2 hba (wq.heap.size + 1) hsz21 ?_; intro gq cq w9 ho9 hg9 hat9 hlt9; have hne9 := (own_row_ne hoa (show w.heap.size < gm + 1 by have := HSA.out.hm; omega)).symm; have hx9 := HSA.out.b0.far hg9 hne9; have y10 := (hx9.cell 10).trans rfl; have y11 := hx9.frozen 10))
                  all_goals (
                    have hs9 := HSA.out.push (x := ⟨sg', pa', row', c'⟩) rfl hg9 ho9
                    have hmem9 : ∀ x ∈ r ++ [(⟨sg', pa', row', c'⟩ : PlaceT)], x ∈ seats ∨ x = ⟨n, pax, row, c⟩ := all_snoc HMEM.out (.inl HXM.out)
                    have hl9 : (r ++ [(⟨sg', pa', row', c'⟩ : PlaceT)]).length ≤ i + 1 + 0 := by rw [List.length_append, List.length_singleton]; omega
                    have HS9 := Lib.hid hs9
                    have HM9 := Lib.hid hmem9
                    clear hs9 hmem9
                    go_wp2
                    go_roundg (M2 - (i + 1))
                    case measure => omega
                    case rel => exact ⟨i + 1, false, _, _, _, _, by omega, rfl, rfl, by go_num, HS9.out, hl9, HM9.out⟩)
              · have hEb : (sg' == n) = false := by rw [beq_eq_false_iff_ne]; exact hE
                clear hE
                go_upto_region 18 with fail
                go_quiet (fail)
                rename Nat => nq
                have hslq := HSL.out.mono (below_drewN (Below.refl _ _) nq)
                clear HSL g0 g1 g2 g3 e12 e13
                generalize wr2.drewN nq = wq at *
                have HSQ := Lib.hid hslq
                clear hslq
                go_upto_region 21 with fail
                obtain ⟨i0, hi0, hz0, hsz0, hby0⟩ := place_tinfo
                have HSA := Lib.hid (HSQ.out.mono ((Below.refl _ _).alloc (Nat.le_refl _) (.cells #[.int .i64 sg', .int .i64 pa', .int .i64 row', .int .u8 c'.toNat] 72)).drew)
                have hnews : ∀ (j : Nat) (u : Value), (placeC ⟨sg', pa', row', c'⟩)[j]? = some u → (wq.alloc (.cells #[.int .i64 sg', .int .i64 pa', .int .i64 row', .int .u8 c'.toNat] 72)).drew.cell? (Addr.add ⟨wq.heap.size, 0, none⟩ j) = some u := World.news_of_block (cs := #[.int .i64 sg', .int .i64 pa', .int .i64 row', .int .u8 c'.toNat]) (t := 72) (fr := (0, 0)) (heap_alloc_new wq _)
                have hoa := HSA.out.own
                have hsz21 : (wq.alloc (.cells #[.int .i64 sg', .int .i64 pa', .int .i64 row', .int .u8 c'.toNat] 72)).drew.heap.size = wq.heap.size + 1 := by simp
                have hba : gm + 1 ≤ (wq.alloc (.cells #[.int .i64 sg', .int .i64 pa', .int .i64 row', .int .u8 c'.toNat] 72)).drew.heap.size := HSA.out.bm.lt
                have z10 : wq.cell? ⟨w.heap.size, 10, none⟩ = some (.slice p3 n3 c3) := (HSQ.out.b0.cell 10).trans rfl
                have z10a : (wq.alloc (.cells #[.int .i64 sg', .int .i64 pa', .int .i64 row', .int .u8 c'.toNat] 72)).cell? ⟨w.heap.size, 10, none⟩ = some (.slice p3 n3 c3) := ((HSQ.out.b0.alloc _).cell 10).trans rfl
                obtain ⟨bb2, off2, ee, hr2, y0, y1, y2, y3⟩ := place_at (HasE.own HSQ.out.q) hiR
                injection ee with ee
                injection ee with ee1 ee2 ee3
                subst ee1 ee2
                rw [hy] at hr2 y0 y1 y2 y3
                simp only at y0 y1 y2 y3
                have hm1 : r.length + 1 ≤ maxLen := by unfold maxLen; omega
                have hm2 : (r.length + 1) * 32 ≤ 140737488355328 := by omega
                have HY := Lib.hid hy
                clear hy
                go_region_law (first
                  | (refine step_append_lies _ (by rfl) _ _ _ (by rfl) (gm + 1) 72 i0 _ 4 32 Tryz.underlying27 hi0 hz0 hsz0 hby0 rfl (by decide) (.slice p3 n3 c3) r.length (r.flatMap placeC) (by rfl) hoa ⟨wq.heap.size, 0, none⟩ 1 1 (placeC ⟨sg', pa', row', c'⟩) (by rfl) (by rfl) hnews (placeC_one _) (by decide) hm1 hm2 hba (wq.heap.size + 1) hsz21 ?_; intro gq cq w9 ho9 hg9 hat9 hlt9; have hne9 := (own_row_ne hoa (show w.heap.size < gm + 1 by have := HSA.out.hm; omega)).symm; have hx9 := HSA.out.b0.far hg9 hne9; have y10 := (hx9.cell 10).trans rfl; have y11 := hx9.frozen 10))
                all_goals (
                  have hs9 := HSA.out.push (x := ⟨sg', pa', row', c'⟩) rfl hg9 ho9
                  have hmem9 : ∀ x ∈ r ++ [(⟨sg', pa', row', c'⟩ : PlaceT)], x ∈ seats ∨ x = ⟨n, pax, row, c⟩ := all_snoc HMEM.out (.inl HXM.out)
                  have hl9 : (r ++ [(⟨sg', pa', row', c'⟩ : PlaceT)]).length ≤ i + 1 + 0 := by rw [List.length_append, List.length_singleton]; omega
                  have HS9 := Lib.hid hs9
                  have HM9 := Lib.hid hmem9
                  clear hs9 hmem9
                  go_wp2
                  go_roundg (M2 - (i + 1))
                  case measure => omega
                  case rel => exact ⟨i + 1, false, _, _, _, _, by omega, rfl, rfl, by go_num, HS9.out, hl9, HM9.out⟩)
          · have hie : i = M2 := by omega
            subst hie
            have hii : ¬ (i : Int) < (i : Int) := by omega
            cases dn with
            | true =>
              have hrl1 : r.length ≤ i + 1 := hrl
              clear hrl
              have HMEM2 := HMEM
              have hzz := HSL.out.bel.size
              go_upto_region 24 with fail
              have hrz := HSL.out.b0.range
              have hbz := HSL.out.b2
              have HN1 := Lib.hid (pnrC_one (x := ⟨loc, off, names, segs, phones, tk, td, tm, recv, remarks, seats, queued⟩) (p1 := pn) (n1 := names.length) (c1 := cn) (p2 := ps) (n2 := segs.length) (c2 := cs) (p3 := pp) (n3 := phones.length) (c3 := cp) (p4 := pr) (n4 := remarks.length) (c4 := cr) (p5 := p3) (n5 := n3) (c5 := c3))
              go_wp2_with (first
                | (refine wpList_load_mid rfl 29 (.tmp 2) rfl w.heap.size 0 rfl _ _ hrz Tryz.underlying29 rfl info_pnr ?_)
                | (refine wpList_store_blk rfl 29 (.tmp 4) (.tmp 139) rfl (w.heap.size + 2) 29 zeroC [.string loc, .string off, .slice pn names.length cn, .slice ps segs.length cs, .slice pp phones.length cp, .int .i64 tk, .int .i64 td, .int .i64 tm, .string recv, .slice pr remarks.length cr, .slice p3 n3 c3, .bool queued] rfl rfl hbz rfl info_pnr HN1.out ?_; intro w8 hb8 hl8 hg8))
              have hW := HSL.out.bel.trans (below_le hl8 (by omega))
              have hown8 := World.ownsRow.kept HSL.out.own hg8 (own_ne HSL.out.own (by have := HSL.out.hm; omega))
              have hgq := HSL.out.hm
              exact chg_back rfl rfl rfl rfl hb8 rfl hW ⟨⟨loc, off, names, segs, phones, tk, td, tm, recv, remarks, r, queued⟩, _, _, _, _, _, rfl, fun V hA => seats_pin (mine := ⟨n, pax, row, c⟩) ((HPL.out.mono hW).agr hA) (own_agr hown8 (by omega) hA) (by omega) HMEM.out HDN.out, seats_kept (p := ⟨loc, off, names, segs, phones, tk, td, tm, recv, remarks, seats, queued⟩) (mine := ⟨n, pax, row, c⟩) (by have hk9 := HM2S.out; show _ ≤ seats.length + 1; omega) HMEM.out ⟨HSE.out, HDP.out⟩⟩
            | false =>
              have hrl1 : r.length ≤ i := hrl
              clear hrl
              have HCX : RowKit.Hid (∀ W, Below (gm + 1) wr2 W → W.cell? ⟨w.heap.size, 10, none⟩ = some (.slice p3 n3 c3) ∧ W.frozen? ⟨w.heap.size, 10, none⟩ = false) := Lib.hid fun W hW => ⟨((HSL.out.b0.keep hW (by have := HSL.out.hm; omega)).cell 10).trans rfl, (HSL.out.b0.keep hW (by have := HSL.out.hm; omega)).frozen 10⟩
              obtain ⟨z10, z11⟩ := HCX.out wr2 (Below.refl _ _)
              have hrm : wr2.rangeAt gm 0 [.int .i64 n, .int .i64 pax, .int .i64 row, .int .u8 c.toNat] := HSL.out.bm.range
              have hBs : gm + 1 ≤ wr2.heap.size := HSL.out.bm.lt
              obtain ⟨i0, hi0, hz0, hsz0, hby0⟩ := place_tinfo
              have hm1 : r.length + 1 ≤ maxLen := by unfold maxLen; omega
              have hm2 : (r.length + 1) * 32 ≤ 140737488355328 := by omega
              go_upto_region 24 with (first
                | (refine wpList_load_mid rfl 72 (.tmp 9) rfl gm 0 rfl _ _ hrm Tryz.underlying72 rfl info_place ?_)
                | (at_builtin; refine wpList_pushC rfl _ _ 27 rfl (gm + 1) 72 i0 _ 4 32 Tryz.underlying27 hi0 hz0 hsz0 hby0 rfl (by decide) _ r.length _ rfl HSL.out.own (placeC ⟨n, pax, row, c⟩) rfl rfl (placeC_one _) hm1 hm2 hBs ?_; intro v4 w4 ho4 hb4 hg4; obtain ⟨p4, n4, c4, rfl⟩ := own_slice ho4; obtain ⟨z0, z1⟩ := HCX.out _ hb4))
              try dsimp only [Act.put]
              have hs2 := (HSL.out.mono ((Below.refl _ _).alloc (Nat.le_refl _) (.cells #[.int .i64 n, .int .i64 pax, .int .i64 row, .int .u8 c.toNat] 72))).push (x := ⟨n, pax, row, c⟩) rfl hg4 ho4
              have HMEM2 : RowKit.Hid (∀ x ∈ r ++ [(⟨n, pax, row, c⟩ : PlaceT)], x ∈ seats ∨ x = ⟨n, pax, row, c⟩) := Lib.hid (all_snoc HMEM.out (.inr rfl))
              have hrl2 : (r ++ [(⟨n, pax, row, c⟩ : PlaceT)]).length ≤ i + 1 := by rw [List.length_append, List.length_singleton]; omega
              clear z10 z11 z0 z1 hrm hBs HCX hg4 ho4 hb4 hm1 hm2
              generalize w4.setCell ⟨w.heap.size, 10, none⟩ (.slice p4 n4 c4) = wB at *
              generalize r ++ [(⟨n, pax, row, c⟩ : PlaceT)] = r2 at *
              have HS2 := Lib.hid hs2
              clear hs2
              have hrz := HS2.out.b0.range
              have hbz := HS2.out.b2
              have HN1 := Lib.hid (pnrC_one (x := ⟨loc, off, names, segs, phones, tk, td, tm, recv, remarks, seats, queued⟩) (p1 := pn) (n1 := names.length) (c1 := cn) (p2 := ps) (n2 := segs.length) (c2 := cs) (p3 := pp) (n3 := phones.length) (c3 := cp) (p4 := pr) (n4 := remarks.length) (c4 := cr) (p5 := p4) (n5 := n4) (c5 := c4))
              go_wp2_with (first
                | (refine wpList_load_mid rfl 29 (.tmp 2) rfl w.heap.size 0 rfl _ _ hrz Tryz.underlying29 rfl info_pnr ?_)
                | (refine wpList_store_blk rfl 29 (.tmp 4) (.tmp 139) rfl (w.heap.size + 2) 29 zeroC [.string loc, .string off, .slice pn names.length cn, .slice ps segs.length cs, .slice pp phones.length cp, .int .i64 tk, .int .i64 td, .int .i64 tm, .string recv, .slice pr remarks.length cr, .slice p4 n4 c4, .bool queued] rfl rfl hbz rfl info_pnr HN1.out ?_; intro w8 hb8 hl8 hg8))
              have hW := HS2.out.bel.trans (below_le hl8 (by omega))
              have hown8 := World.ownsRow.kept HS2.out.own hg8 (own_ne HS2.out.own (by have := HS2.out.hm; omega))
              have hgq := HS2.out.hm
              exact chg_back rfl rfl rfl rfl hb8 rfl hW ⟨⟨loc, off, names, segs, phones, tk, td, tm, recv, remarks, r2, queued⟩, _, _, _, _, _, rfl, fun V hA => seats_pin (mine := ⟨n, pax, row, c⟩) ((HPL.out.mono hW).agr hA) (own_agr hown8 (by omega) hA) (by omega) HMEM2.out HDN.out, seats_kept (p := ⟨loc, off, names, segs, phones, tk, td, tm, recv, remarks, seats, queued⟩) (mine := ⟨n, pax, row, c⟩) (by have hk9 := HM2S.out; show _ ≤ seats.length + 1; omega) HMEM2.out ⟨HSE.out, HDP.out⟩⟩
end Go.Proofs.YtmhhbnnjilbdnaaGreatDoor
