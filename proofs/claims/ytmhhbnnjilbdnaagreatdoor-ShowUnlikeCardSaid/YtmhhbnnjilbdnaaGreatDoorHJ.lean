/- An edit (the reference): change. -/
import Derived.Test.YtmhhbnnjilbdnaaGreatDoorKA
import Derived.Test.YtmhhbnnjilbdnaaGreatDoorKB
import Derived.Test.YtmhhbnnjilbdnaaGreatDoorKF
import Derived.Test.YtmhhbnnjilbdnaaGreatDoorPlnP
import Derived.Test.YtmhhbnnjilbdnaaGreatDoorKG
import Derived.Test.YtmhhbnnjilbdnaaGreatDoorKH
import Derived.Test.YtmhhbnnjilbdnaaGreatDoorKJ
import Derived.Test.YtmhhbnnjilbdnaaGreatDoorKL
import Derived.Test.YtmhhbnnjilbdnaaGreatDoorLA
import Derived.Test.YtmhhbnnjilbdnaaGreatDoorLB
import Derived.Test.YtmhhbnnjilbdnaaGreatDoorLC
import Derived.Test.YtmhhbnnjilbdnaaGreatDoorLD
import Derived.Test.YtmhhbnnjilbdnaaGreatDoorHF
import Derived.Test.YtmhhbnnjilbdnaaGreatDoorHH
import Derived.Test.YtmhhbnnjilbdnaaGreatDoorRows
import Derived.WalkKit
import Derived.WalkSpells
import Derived.WalkLawsBesides
import Derived.Lib.ConvBytes
import Derived.Lib.Hide
import Derived.Lib.SliceRun
import Derived.IntWalk
import Derived.BigQuiet
import Derived.Deep.QuietTactic
import Derived.Deep.RegionWith
import Derived.Deep.RegionHeld3
import Derived.Deep.LoopGhost
import Derived.Deep.CutRange
import Derived.Deep.CutBlock
import Derived.Deep.MidRow
import Derived.Laws.OwnMore
import Derived.OwnWalk
import Derived.Laws.AppendOwnNone
import Derived.Laws.Rows
import Derived.Laws.MakeOwn
import Derived.Laws.CopyOwn
import Derived.Laws.BitsAllLaws
import Derived.DeepKeys5
import Derived.Maps.OwnOps
import Derived.Handy
import Derived.Lib.AppendStr
import Derived.StillTailTactics
import Derived.Deep.AppendLies
import Derived.WideKeyEntry
namespace Go.Proofs.YtmhhbnnjilbdnaaGreatDoor
open Go.RowKit Go.ChangeMaps
set_option linter.unusedSimpArgs false
set_option linter.unusedVariables false
set_option maxRecDepth 20000

theorem liveS_at {l : List SegT} {n : Int} (h : liveS l n = true) : liveAt l n := by
  by_cases k : liveAt l n
  · exact k
  · rw [liveS_no k] at h; cases h

set_option maxHeartbeats 16000000 in
theorem change_k1 (lo : Nat) (p : PnrT) (vn vs vp vr vx : Value) (d : EditT) (w : World) (hlo : lo ≤ w.heap.size) (h : LowP lo w p vn vs vp vr vx) (hf : Room p) (hd : EditOk d) (hk : d.kind = 1) :
    Calls Tryz.prog 37 #[.agg (pnrC p vn vs vp vr vx).toArray, .agg (editC d).toArray] w fun e w' => ChgP lo w.heap.size p e w' ∧ Below w.heap.size w w' := by
  have hlow := h
  replace h := h.pin
  have HPL := Lib.hid hlow
  obtain ⟨pn, cn, rfl⟩ := h.n.len
  obtain ⟨ps, cs, rfl⟩ := h.s.len
  obtain ⟨pp, cp, rfl⟩ := own_len h.ph
  obtain ⟨pr, cr, rfl⟩ := own_len h.rm
  obtain ⟨px, cx, rfl⟩ := h.x.len
  obtain ⟨w3, e3, b0, b1, b2, hb3, hz3⟩ := boxes3 w (pnrC p (.slice pn p.names.length cn) (.slice ps p.segs.length cs) (.slice pp p.phones.length cp) (.slice pr p.remarks.length cr) (.slice px p.seats.length cx)) (editC d)
  have HPI := Lib.hid h
  have HLO2 : RowKit.Hid (lo ≤ w.heap.size + 2) := Lib.hid (by omega)
  have HLT2 : RowKit.Hid (w.heap.size + 2 < w3.heap.size) := Lib.hid (by omega)
  have HLE2 : RowKit.Hid (w.heap.size ≤ w3.heap.size) := Lib.hid (by omega)
  have hl3 := hlow.mono hb3
  have HADD : RowKit.Hid (Calls Tryz.prog 62 #[.agg (pnrC p (.slice pn p.names.length cn) (.slice ps p.segs.length cs) (.slice pp p.phones.length cp) (.slice pr p.remarks.length cr) (.slice px p.seats.length cx)).toArray, .agg (editC d).toArray] w3 fun e w' => ChgP lo w3.heap.size p e w' ∧ Below w3.heap.size w3 w') := Lib.hid (add_any lo p _ _ _ _ _ d w3 hl3 hf hd)
  have HB := Lib.hid hb3
  have HF := Lib.hid hf
  have HOLD : RowKit.Hid (∀ W, Below w.heap.size w W → ∃ x vn vs vp vr vx, pnrC p (.slice pn p.names.length cn) (.slice ps p.segs.length cs) (.slice pp p.phones.length cp) (.slice pr p.remarks.length cr) (.slice px p.seats.length cx) = pnrC x vn vs vp vr vx ∧ (∀ V, Agr lo w.heap.size W V → PIn V x vn vs vp vr vx) ∧ Kept p x) := Lib.hid fun W hW => ⟨_, _, _, _, _, _, rfl, fun V hA => (hlow.mono hW).agr hA, Kept.refl p⟩
  have HO1 : RowKit.Hid (∀ v ∈ pnrC p (.slice pn p.names.length cn) (.slice ps p.segs.length cs) (.slice pp p.phones.length cp) (.slice pr p.remarks.length cr) (.slice px p.seats.length cx), v.oneCell' = true) := Lib.hid pnrC_one
  clear h hd hf hb3 hlow hl3
  obtain ⟨loc, off, names, segs, phones, tk, td, tm, recv, remarks, seats, queued⟩ := p
  obtain ⟨kd, ⟨nl, nf⟩, ⟨car, num, day, cls, live⟩, ek, ed, em, tx, n, pax, row, c⟩ := d
  unfold pnrC at b0 e3 HOLD HO1 HADD ⊢
  unfold editC at b1 e3 HADD ⊢
  unfold zeroC at e3
  simp only at b0 b1 e3 HOLD HO1 HADD hk ⊢
  have hr0 := b0.range
  have hr1 := b1.range
  have HB0 := Lib.hid b0
  have HB1 := Lib.hid b1
  have HB2 := Lib.hid b2
  have d0 : w3.cell? ⟨w.heap.size + 1, 0, none⟩ = some (.int .i64 kd) := (b1.cell 0).trans rfl
  clear b0 b1 b2
  subst hk
  go_enter Tryz.func37, Tryz.ntmps37
  go_upto_region 1 with fail
  try rw [e3]
  clear e3
  rw [show w.heap.size + 1 + 1 = w.heap.size + 2 from rfl]
  go_wp2_with (first
    | (refine wpList_load_mid rfl 29 (.tmp 2) rfl w.heap.size 0 rfl _ _ hr0 Tryz.underlying29 rfl info_pnr ?_)
    | (refine wpList_load_mid rfl 48 (.tmp 3) rfl (w.heap.size + 1) 0 rfl _ _ hr1 Tryz.underlying48 rfl info_edit ?_)
    | (go_at_call 62; (with_reducible refine (HADD.out).mono ?_); rintro e w4 ⟨⟨x, xn, xs, xp, xr, xx, z, rfl, hx, hk⟩, hb4⟩; have hb24 := HB2.out.mono hb4; have hone := pin_one (hx w4 (Agr.refl _ _ _)))
    | (refine wpList_store_blk rfl 29 (.tmp 4) (.tmp 16) rfl (w.heap.size + 2) 29 zeroC (pnrC x xn xs xp xr xx) rfl rfl hb24 rfl info_pnr hone ?_; intro w8 hb8 hl8 hg8))
  exact chg_back rfl rfl rfl rfl hb8 rfl ((bel_trans HB.out hb4).trans (below_le hl8 (by omega))) ⟨x, xn, xs, xp, xr, xx, rfl, fun V hA => hx V (agr_store hg8 HLO2.out HLT2.out HLE2.out hA), hk⟩

set_option maxHeartbeats 16000000 in
theorem change_k2 (lo : Nat) (p : PnrT) (vn vs vp vr vx : Value) (d : EditT) (w : World) (hlo : lo ≤ w.heap.size) (h : LowP lo w p vn vs vp vr vx) (hf : Room p) (hd : EditOk d) (hk : d.kind = 2) :
    Calls Tryz.prog 37 #[.agg (pnrC p vn vs vp vr vx).toArray, .agg (editC d).toArray] w fun e w' => ChgP lo w.heap.size p e w' ∧ Below w.heap.size w w' := by
  have hlow := h
  replace h := h.pin
  have HPL := Lib.hid hlow
  obtain ⟨pn, cn, rfl⟩ := h.n.len
  obtain ⟨ps, cs, rfl⟩ := h.s.len
  obtain ⟨pp, cp, rfl⟩ := own_len h.ph
  obtain ⟨pr, cr, rfl⟩ := own_len h.rm
  obtain ⟨px, cx, rfl⟩ := h.x.len
  obtain ⟨w3, e3, b0, b1, b2, hb3, hz3⟩ := boxes3 w (pnrC p (.slice pn p.names.length cn) (.slice ps p.segs.length cs) (.slice pp p.phones.length cp) (.slice pr p.remarks.length cr) (.slice px p.seats.length cx)) (editC d)
  have HPI := Lib.hid h
  have HLO2 : RowKit.Hid (lo ≤ w.heap.size + 2) := Lib.hid (by omega)
  have HLT2 : RowKit.Hid (w.heap.size + 2 < w3.heap.size) := Lib.hid (by omega)
  have HLE2 : RowKit.Hid (w.heap.size ≤ w3.heap.size) := Lib.hid (by omega)
  have hl3 := hlow.mono hb3
  have HADD : RowKit.Hid (Calls Tryz.prog 62 #[.agg (pnrC p (.slice pn p.names.length cn) (.slice ps p.segs.length cs) (.slice pp p.phones.length cp) (.slice pr p.remarks.length cr) (.slice px p.seats.length cx)).toArray, .agg (editC d).toArray] w3 fun e w' => ChgP lo w3.heap.size p e w' ∧ Below w3.heap.size w3 w') := Lib.hid (add_any lo p _ _ _ _ _ d w3 hl3 hf hd)
  have HB := Lib.hid hb3
  have HF := Lib.hid hf
  have HOLD : RowKit.Hid (∀ W, Below w.heap.size w W → ∃ x vn vs vp vr vx, pnrC p (.slice pn p.names.length cn) (.slice ps p.segs.length cs) (.slice pp p.phones.length cp) (.slice pr p.remarks.length cr) (.slice px p.seats.length cx) = pnrC x vn vs vp vr vx ∧ (∀ V, Agr lo w.heap.size W V → PIn V x vn vs vp vr vx) ∧ Kept p x) := Lib.hid fun W hW => ⟨_, _, _, _, _, _, rfl, fun V hA => (hlow.mono hW).agr hA, Kept.refl p⟩
  have HO1 : RowKit.Hid (∀ v ∈ pnrC p (.slice pn p.names.length cn) (.slice ps p.segs.length cs) (.slice pp p.phones.length cp) (.slice pr p.remarks.length cr) (.slice px p.seats.length cx), v.oneCell' = true) := Lib.hid pnrC_one
  clear h hd hf hb3 hlow hl3
  obtain ⟨loc, off, names, segs, phones, tk, td, tm, recv, remarks, seats, queued⟩ := p
  obtain ⟨kd, ⟨nl, nf⟩, ⟨car, num, day, cls, live⟩, ek, ed, em, tx, n, pax, row, c⟩ := d
  unfold pnrC at b0 e3 HOLD HO1 HADD ⊢
  unfold editC at b1 e3 HADD ⊢
  unfold zeroC at e3
  simp only at b0 b1 e3 HOLD HO1 HADD hk ⊢
  have hr0 := b0.range
  have hr1 := b1.range
  have HB0 := Lib.hid b0
  have HB1 := Lib.hid b1
  have HB2 := Lib.hid b2
  have d0 : w3.cell? ⟨w.heap.size + 1, 0, none⟩ = some (.int .i64 kd) := (b1.cell 0).trans rfl
  clear b0 b1 b2
  subst hk
  go_enter Tryz.func37, Tryz.ntmps37
  go_upto_region 1 with fail
  try rw [e3]
  clear e3
  rw [show w.heap.size + 1 + 1 = w.heap.size + 2 from rfl]
  go_wp2_with (first
    | (refine wpList_load_mid rfl 29 (.tmp 2) rfl w.heap.size 0 rfl _ _ hr0 Tryz.underlying29 rfl info_pnr ?_)
    | (refine wpList_load_mid rfl 48 (.tmp 3) rfl (w.heap.size + 1) 0 rfl _ _ hr1 Tryz.underlying48 rfl info_edit ?_)
    | (go_at_call 62; (with_reducible refine (HADD.out).mono ?_); rintro e w4 ⟨⟨x, xn, xs, xp, xr, xx, z, rfl, hx, hk⟩, hb4⟩; have hb24 := HB2.out.mono hb4; have hone := pin_one (hx w4 (Agr.refl _ _ _)))
    | (refine wpList_store_blk rfl 29 (.tmp 4) (.tmp 16) rfl (w.heap.size + 2) 29 zeroC (pnrC x xn xs xp xr xx) rfl rfl hb24 rfl info_pnr hone ?_; intro w8 hb8 hl8 hg8))
  exact chg_back rfl rfl rfl rfl hb8 rfl ((bel_trans HB.out hb4).trans (below_le hl8 (by omega))) ⟨x, xn, xs, xp, xr, xx, rfl, fun V hA => hx V (agr_store hg8 HLO2.out HLT2.out HLE2.out hA), hk⟩

set_option maxHeartbeats 16000000 in
theorem change_k3 (lo : Nat) (p : PnrT) (vn vs vp vr vx : Value) (d : EditT) (w : World) (hlo : lo ≤ w.heap.size) (h : LowP lo w p vn vs vp vr vx) (hf : Room p) (hd : EditOk d) (hk : d.kind = 3) :
    Calls Tryz.prog 37 #[.agg (pnrC p vn vs vp vr vx).toArray, .agg (editC d).toArray] w fun e w' => ChgP lo w.heap.size p e w' ∧ Below w.heap.size w w' := by
  have hlow := h
  replace h := h.pin
  have HPL := Lib.hid hlow
  obtain ⟨pn, cn, rfl⟩ := h.n.len
  obtain ⟨ps, cs, rfl⟩ := h.s.len
  obtain ⟨pp, cp, rfl⟩ := own_len h.ph
  obtain ⟨pr, cr, rfl⟩ := own_len h.rm
  obtain ⟨px, cx, rfl⟩ := h.x.len
  obtain ⟨w3, e3, b0, b1, b2, hb3, hz3⟩ := boxes3 w (pnrC p (.slice pn p.names.length cn) (.slice ps p.segs.length cs) (.slice pp p.phones.length cp) (.slice pr p.remarks.length cr) (.slice px p.seats.length cx)) (editC d)
  have HPI := Lib.hid h
  have HLO2 : RowKit.Hid (lo ≤ w.heap.size + 2) := Lib.hid (by omega)
  have HLT2 : RowKit.Hid (w.heap.size + 2 < w3.heap.size) := Lib.hid (by omega)
  have HLE2 : RowKit.Hid (w.heap.size ≤ w3.heap.size) := Lib.hid (by omega)
  have hl3 := hlow.mono hb3
  have HWRT : RowKit.Hid (Calls Tryz.prog 63 #[.agg (pnrC p (.slice pn p.names.length cn) (.slice ps p.segs.length cs) (.slice pp p.phones.length cp) (.slice pr p.remarks.length cr) (.slice px p.seats.length cx)).toArray, .agg (editC d).toArray] w3 fun e w' => ChgP lo w3.heap.size p e w' ∧ Below w3.heap.size w3 w') := Lib.hid (write_any lo p _ _ _ _ _ d w3 hl3 hf hd)
  have HB := Lib.hid hb3
  have HF := Lib.hid hf
  have HOLD : RowKit.Hid (∀ W, Below w.heap.size w W → ∃ x vn vs vp vr vx, pnrC p (.slice pn p.names.length cn) (.slice ps p.segs.length cs) (.slice pp p.phones.length cp) (.slice pr p.remarks.length cr) (.slice px p.seats.length cx) = pnrC x vn vs vp vr vx ∧ (∀ V, Agr lo w.heap.size W V → PIn V x vn vs vp vr vx) ∧ Kept p x) := Lib.hid fun W hW => ⟨_, _, _, _, _, _, rfl, fun V hA => (hlow.mono hW).agr hA, Kept.refl p⟩
  have HO1 : RowKit.Hid (∀ v ∈ pnrC p (.slice pn p.names.length cn) (.slice ps p.segs.length cs) (.slice pp p.phones.length cp) (.slice pr p.remarks.length cr) (.slice px p.seats.length cx), v.oneCell' = true) := Lib.hid pnrC_one
  clear h hd hf hb3 hlow hl3
  obtain ⟨loc, off, names, segs, phones, tk, td, tm, recv, remarks, seats, queued⟩ := p
  obtain ⟨kd, ⟨nl, nf⟩, ⟨car, num, day, cls, live⟩, ek, ed, em, tx, n, pax, row, c⟩ := d
  unfold pnrC at b0 e3 HOLD HO1 HWRT ⊢
  unfold editC at b1 e3 HWRT ⊢
  unfold zeroC at e3
  simp only at b0 b1 e3 HOLD HO1 HWRT hk ⊢
  have hr0 := b0.range
  have hr1 := b1.range
  have HB0 := Lib.hid b0
  have HB1 := Lib.hid b1
  have HB2 := Lib.hid b2
  have d0 : w3.cell? ⟨w.heap.size + 1, 0, none⟩ = some (.int .i64 kd) := (b1.cell 0).trans rfl
  clear b0 b1 b2
  subst hk
  go_enter Tryz.func37, Tryz.ntmps37
  go_upto_region 1 with fail
  try rw [e3]
  clear e3
  rw [show w.heap.size + 1 + 1 = w.heap.size + 2 from rfl]
  go_wp2_with (first
    | (refine wpList_load_mid rfl 29 (.tmp 2) rfl w.heap.size 0 rfl _ _ hr0 Tryz.underlying29 rfl info_pnr ?_)
    | (refine wpList_load_mid rfl 48 (.tmp 3) rfl (w.heap.size + 1) 0 rfl _ _ hr1 Tryz.underlying48 rfl info_edit ?_)
    | (go_at_call 63; (with_reducible refine (HWRT.out).mono ?_); rintro e w4 ⟨⟨x, xn, xs, xp, xr, xx, z, rfl, hx, hk⟩, hb4⟩; have hb24 := HB2.out.mono hb4; have hone := pin_one (hx w4 (Agr.refl _ _ _)))
    | (refine wpList_store_blk rfl 29 (.tmp 4) (.tmp 25) rfl (w.heap.size + 2) 29 zeroC (pnrC x xn xs xp xr xx) rfl rfl hb24 rfl info_pnr hone ?_; intro w8 hb8 hl8 hg8))
  exact chg_back rfl rfl rfl rfl hb8 rfl ((bel_trans HB.out hb4).trans (below_le hl8 (by omega))) ⟨x, xn, xs, xp, xr, xx, rfl, fun V hA => hx V (agr_store hg8 HLO2.out HLT2.out HLE2.out hA), hk⟩

set_option maxHeartbeats 16000000 in
theorem change_k5 (lo : Nat) (p : PnrT) (vn vs vp vr vx : Value) (d : EditT) (w : World) (hlo : lo ≤ w.heap.size) (h : LowP lo w p vn vs vp vr vx) (hf : Room p) (hd : EditOk d) (hk : d.kind = 5) :
    Calls Tryz.prog 37 #[.agg (pnrC p vn vs vp vr vx).toArray, .agg (editC d).toArray] w fun e w' => ChgP lo w.heap.size p e w' ∧ Below w.heap.size w w' := by
  have hlow := h
  replace h := h.pin
  have HPL := Lib.hid hlow
  obtain ⟨pn, cn, rfl⟩ := h.n.len
  obtain ⟨ps, cs, rfl⟩ := h.s.len
  obtain ⟨pp, cp, rfl⟩ := own_len h.ph
  obtain ⟨pr, cr, rfl⟩ := own_len h.rm
  obtain ⟨px, cx, rfl⟩ := h.x.len
  obtain ⟨w3, e3, b0, b1, b2, hb3, hz3⟩ := boxes3 w (pnrC p (.slice pn p.names.length cn) (.slice ps p.segs.length cs) (.slice pp p.phones.length cp) (.slice pr p.remarks.length cr) (.slice px p.seats.length cx)) (editC d)
  have HPI := Lib.hid h
  have HLO2 : RowKit.Hid (lo ≤ w.heap.size + 2) := Lib.hid (by omega)
  have HLT2 : RowKit.Hid (w.heap.size + 2 < w3.heap.size) := Lib.hid (by omega)
  have HLE2 : RowKit.Hid (w.heap.size ≤ w3.heap.size) := Lib.hid (by omega)
  have hl3 := hlow.mono hb3
  have HWRT : RowKit.Hid (Calls Tryz.prog 63 #[.agg (pnrC p (.slice pn p.names.length cn) (.slice ps p.segs.length cs) (.slice pp p.phones.length cp) (.slice pr p.remarks.length cr) (.slice px p.seats.length cx)).toArray, .agg (editC d).toArray] w3 fun e w' => ChgP lo w3.heap.size p e w' ∧ Below w3.heap.size w3 w') := Lib.hid (write_any lo p _ _ _ _ _ d w3 hl3 hf hd)
  have HB := Lib.hid hb3
  have HF := Lib.hid hf
  have HOLD : RowKit.Hid (∀ W, Below w.heap.size w W → ∃ x vn vs vp vr vx, pnrC p (.slice pn p.names.length cn) (.slice ps p.segs.length cs) (.slice pp p.phones.length cp) (.slice pr p.remarks.length cr) (.slice px p.seats.length cx) = pnrC x vn vs vp vr vx ∧ (∀ V, Agr lo w.heap.size W V → PIn V x vn vs vp vr vx) ∧ Kept p x) := Lib.hid fun W hW => ⟨_, _, _, _, _, _, rfl, fun V hA => (hlow.mono hW).agr hA, Kept.refl p⟩
  have HO1 : RowKit.Hid (∀ v ∈ pnrC p (.slice pn p.names.length cn) (.slice ps p.segs.length cs) (.slice pp p.phones.length cp) (.slice pr p.remarks.length cr) (.slice px p.seats.length cx), v.oneCell' = true) := Lib.hid pnrC_one
  clear h hd hf hb3 hlow hl3
  obtain ⟨loc, off, names, segs, phones, tk, td, tm, recv, remarks, seats, queued⟩ := p
  obtain ⟨kd, ⟨nl, nf⟩, ⟨car, num, day, cls, live⟩, ek, ed, em, tx, n, pax, row, c⟩ := d
  unfold pnrC at b0 e3 HOLD HO1 HWRT ⊢
  unfold editC at b1 e3 HWRT ⊢
  unfold zeroC at e3
  simp only at b0 b1 e3 HOLD HO1 HWRT hk ⊢
  have hr0 := b0.range
  have hr1 := b1.range
  have HB0 := Lib.hid b0
  have HB1 := Lib.hid b1
  have HB2 := Lib.hid b2
  have d0 : w3.cell? ⟨w.heap.size + 1, 0, none⟩ = some (.int .i64 kd) := (b1.cell 0).trans rfl
  clear b0 b1 b2
  subst hk
  go_enter Tryz.func37, Tryz.ntmps37
  go_upto_region 1 with fail
  try rw [e3]
  clear e3
  rw [show w.heap.size + 1 + 1 = w.heap.size + 2 from rfl]
  go_wp2_with (first
    | (refine wpList_load_mid rfl 29 (.tmp 2) rfl w.heap.size 0 rfl _ _ hr0 Tryz.underlying29 rfl info_pnr ?_)
    | (refine wpList_load_mid rfl 48 (.tmp 3) rfl (w.heap.size + 1) 0 rfl _ _ hr1 Tryz.underlying48 rfl info_edit ?_)
    | (go_at_call 63; (with_reducible refine (HWRT.out).mono ?_); rintro e w4 ⟨⟨x, xn, xs, xp, xr, xx, z, rfl, hx, hk⟩, hb4⟩; have hb24 := HB2.out.mono hb4; have hone := pin_one (hx w4 (Agr.refl _ _ _)))
    | (refine wpList_store_blk rfl 29 (.tmp 4) (.tmp 25) rfl (w.heap.size + 2) 29 zeroC (pnrC x xn xs xp xr xx) rfl rfl hb24 rfl info_pnr hone ?_; intro w8 hb8 hl8 hg8))
  exact chg_back rfl rfl rfl rfl hb8 rfl ((bel_trans HB.out hb4).trans (below_le hl8 (by omega))) ⟨x, xn, xs, xp, xr, xx, rfl, fun V hA => hx V (agr_store hg8 HLO2.out HLT2.out HLE2.out hA), hk⟩

set_option maxHeartbeats 16000000 in
theorem change_k6 (lo : Nat) (p : PnrT) (vn vs vp vr vx : Value) (d : EditT) (w : World) (hlo : lo ≤ w.heap.size) (h : LowP lo w p vn vs vp vr vx) (hf : Room p) (hd : EditOk d) (hk : d.kind = 6) :
    Calls Tryz.prog 37 #[.agg (pnrC p vn vs vp vr vx).toArray, .agg (editC d).toArray] w fun e w' => ChgP lo w.heap.size p e w' ∧ Below w.heap.size w w' := by
  have hlow := h
  replace h := h.pin
  have HPL := Lib.hid hlow
  obtain ⟨pn, cn, rfl⟩ := h.n.len
  obtain ⟨ps, cs, rfl⟩ := h.s.len
  obtain ⟨pp, cp, rfl⟩ := own_len h.ph
  obtain ⟨pr, cr, rfl⟩ := own_len h.rm
  obtain ⟨px, cx, rfl⟩ := h.x.len
  obtain ⟨w3, e3, b0, b1, b2, hb3, hz3⟩ := boxes3 w (pnrC p (.slice pn p.names.length cn) (.slice ps p.segs.length cs) (.slice pp p.phones.length cp) (.slice pr p.remarks.length cr) (.slice px p.seats.length cx)) (editC d)
  have HPI := Lib.hid h
  have HLO2 : RowKit.Hid (lo ≤ w.heap.size + 2) := Lib.hid (by omega)
  have HLT2 : RowKit.Hid (w.heap.size + 2 < w3.heap.size) := Lib.hid (by omega)
  have HLE2 : RowKit.Hid (w.heap.size ≤ w3.heap.size) := Lib.hid (by omega)
  have hl3 := hlow.mono hb3
  have HWRT : RowKit.Hid (Calls Tryz.prog 63 #[.agg (pnrC p (.slice pn p.names.length cn) (.slice ps p.segs.length cs) (.slice pp p.phones.length cp) (.slice pr p.remarks.length cr) (.slice px p.seats.length cx)).toArray, .agg (editC d).toArray] w3 fun e w' => ChgP lo w3.heap.size p e w' ∧ Below w3.heap.size w3 w') := Lib.hid (write_any lo p _ _ _ _ _ d w3 hl3 hf hd)
  have HB := Lib.hid hb3
  have HF := Lib.hid hf
  have HOLD : RowKit.Hid (∀ W, Below w.heap.size w W → ∃ x vn vs vp vr vx, pnrC p (.slice pn p.names.length cn) (.slice ps p.segs.length cs) (.slice pp p.phones.length cp) (.slice pr p.remarks.length cr) (.slice px p.seats.length cx) = pnrC x vn vs vp vr vx ∧ (∀ V, Agr lo w.heap.size W V → PIn V x vn vs vp vr vx) ∧ Kept p x) := Lib.hid fun W hW => ⟨_, _, _, _, _, _, rfl, fun V hA => (hlow.mono hW).agr hA, Kept.refl p⟩
  have HO1 : RowKit.Hid (∀ v ∈ pnrC p (.slice pn p.names.length cn) (.slice ps p.segs.length cs) (.slice pp p.phones.length cp) (.slice pr p.remarks.length cr) (.slice px p.seats.length cx), v.oneCell' = true) := Lib.hid pnrC_one
  clear h hd hf hb3 hlow hl3
  obtain ⟨loc, off, names, segs, phones, tk, td, tm, recv, remarks, seats, queued⟩ := p
  obtain ⟨kd, ⟨nl, nf⟩, ⟨car, num, day, cls, live⟩, ek, ed, em, tx, n, pax, row, c⟩ := d
  unfold pnrC at b0 e3 HOLD HO1 HWRT ⊢
  unfold editC at b1 e3 HWRT ⊢
  unfold zeroC at e3
  simp only at b0 b1 e3 HOLD HO1 HWRT hk ⊢
  have hr0 := b0.range
  have hr1 := b1.range
  have HB0 := Lib.hid b0
  have HB1 := Lib.hid b1
  have HB2 := Lib.hid b2
  have d0 : w3.cell? ⟨w.heap.size + 1, 0, none⟩ = some (.int .i64 kd) := (b1.cell 0).trans rfl
  clear b0 b1 b2
  subst hk
  go_enter Tryz.func37, Tryz.ntmps37
  go_upto_region 1 with fail
  try rw [e3]
  clear e3
  rw [show w.heap.size + 1 + 1 = w.heap.size + 2 from rfl]
  go_wp2_with (first
    | (refine wpList_load_mid rfl 29 (.tmp 2) rfl w.heap.size 0 rfl _ _ hr0 Tryz.underlying29 rfl info_pnr ?_)
    | (refine wpList_load_mid rfl 48 (.tmp 3) rfl (w.heap.size + 1) 0 rfl _ _ hr1 Tryz.underlying48 rfl info_edit ?_)
    | (go_at_call 63; (with_reducible refine (HWRT.out).mono ?_); rintro e w4 ⟨⟨x, xn, xs, xp, xr, xx, z, rfl, hx, hk⟩, hb4⟩; have hb24 := HB2.out.mono hb4; have hone := pin_one (hx w4 (Agr.refl _ _ _)))
    | (refine wpList_store_blk rfl 29 (.tmp 4) (.tmp 25) rfl (w.heap.size + 2) 29 zeroC (pnrC x xn xs xp xr xx) rfl rfl hb24 rfl info_pnr hone ?_; intro w8 hb8 hl8 hg8))
  exact chg_back rfl rfl rfl rfl hb8 rfl ((bel_trans HB.out hb4).trans (below_le hl8 (by omega))) ⟨x, xn, xs, xp, xr, xx, rfl, fun V hA => hx V (agr_store hg8 HLO2.out HLT2.out HLE2.out hA), hk⟩

set_option maxHeartbeats 16000000 in
theorem change_k4 (lo : Nat) (p : PnrT) (vn vs vp vr vx : Value) (d : EditT) (w : World) (hlo : lo ≤ w.heap.size) (h : LowP lo w p vn vs vp vr vx) (hf : Room p) (hd : EditOk d) (hk : d.kind = 4) :
    Calls Tryz.prog 37 #[.agg (pnrC p vn vs vp vr vx).toArray, .agg (editC d).toArray] w fun e w' => ChgP lo w.heap.size p e w' ∧ Below w.heap.size w w' := by
  have hlow := h
  replace h := h.pin
  have HPL := Lib.hid hlow
  obtain ⟨pn, cn, rfl⟩ := h.n.len
  obtain ⟨ps, cs, rfl⟩ := h.s.len
  obtain ⟨pp, cp, rfl⟩ := own_len h.ph
  obtain ⟨pr, cr, rfl⟩ := own_len h.rm
  obtain ⟨px, cx, rfl⟩ := h.x.len
  obtain ⟨w3, e3, b0, b1, b2, hb3, hz3⟩ := boxes3 w (pnrC p (.slice pn p.names.length cn) (.slice ps p.segs.length cs) (.slice pp p.phones.length cp) (.slice pr p.remarks.length cr) (.slice px p.seats.length cx)) (editC d)
  have HPI := Lib.hid h
  have HLO2 : RowKit.Hid (lo ≤ w.heap.size + 2) := Lib.hid (by omega)
  have HLT2 : RowKit.Hid (w.heap.size + 2 < w3.heap.size) := Lib.hid (by omega)
  have HLE2 : RowKit.Hid (w.heap.size ≤ w3.heap.size) := Lib.hid (by omega)
  have hl3 := hlow.mono hb3
  have HTF : RowKit.Hid (∀ W, Calls Tryz.prog 22 #[.agg #[.int .i64 d.tk, .int .i64 d.td, .int .i64 d.tm]] W fun e w' => e = .returned (.bool (tfS d.tk d.td d.tm)) ∧ Below W.heap.size W w') := Lib.hid fun W => ticketFormed_any _ _ _ W
  have HB := Lib.hid hb3
  have HF := Lib.hid hf
  have HOLD : RowKit.Hid (∀ W, Below w.heap.size w W → ∃ x vn vs vp vr vx, pnrC p (.slice pn p.names.length cn) (.slice ps p.segs.length cs) (.slice pp p.phones.length cp) (.slice pr p.remarks.length cr) (.slice px p.seats.length cx) = pnrC x vn vs vp vr vx ∧ (∀ V, Agr lo w.heap.size W V → PIn V x vn vs vp vr vx) ∧ Kept p x) := Lib.hid fun W hW => ⟨_, _, _, _, _, _, rfl, fun V hA => (hlow.mono hW).agr hA, Kept.refl p⟩
  have HO1 : RowKit.Hid (∀ v ∈ pnrC p (.slice pn p.names.length cn) (.slice ps p.segs.length cs) (.slice pp p.phones.length cp) (.slice pr p.remarks.length cr) (.slice px p.seats.length cx), v.oneCell' = true) := Lib.hid pnrC_one
  clear h hd hf hb3 hlow hl3
  obtain ⟨loc, off, names, segs, phones, tk, td, tm, recv, remarks, seats, queued⟩ := p
  obtain ⟨kd, ⟨nl, nf⟩, ⟨car, num, day, cls, live⟩, ek, ed, em, tx, n, pax, row, c⟩ := d
  unfold pnrC at b0 e3 HOLD HO1  ⊢
  unfold editC at b1 e3  ⊢
  unfold zeroC at e3
  simp only at b0 b1 e3 HOLD HO1 HTF hk ⊢
  have hr0 := b0.range
  have hr1 := b1.range
  have HB0 := Lib.hid b0
  have HB1 := Lib.hid b1
  have HB2 := Lib.hid b2
  have d0 : w3.cell? ⟨w.heap.size + 1, 0, none⟩ = some (.int .i64 kd) := (b1.cell 0).trans rfl
  have HRT : RowKit.Hid (∀ W, Below w3.heap.size w3 W → W.rangeAt (w.heap.size + 1) 8 [.int .i64 ek, .int .i64 ed, .int .i64 em]) := Lib.hid fun W hW => Blk.sub (HB1.out.mono hW) 8 _ (fun j u hj => by
    match j, hj with
    | 0, hj => exact hj
    | 1, hj => exact hj
    | 2, hj => exact hj)
  have hrt0 := HRT.out w3 (Below.refl _ _)
  clear b0 b1 b2
  subst hk
  go_enter Tryz.func37, Tryz.ntmps37
  go_upto_region 1 with fail
  try rw [e3]
  clear e3
  rw [show w.heap.size + 1 + 1 = w.heap.size + 2 from rfl]
  have hrt := hrt0
  cases htf : tfS ek ed em with
  | false =>
    rw [htf] at HTF
    go_upto_region 11 with (first
      | (refine wpList_load_mid rfl 26 _ rfl (w.heap.size + 1) 8 rfl [.int .i64 ek, .int .i64 ed, .int .i64 em] _ hrt Tryz.underlying26 rfl info_ticket ?_)
      | (go_at_call 22; (with_reducible refine (HTF.out _).mono ?_); rintro e w5 ⟨rfl, hb5⟩))
    have hrb := (HB0.out.mono hb5).range
    have hbb2 := HB2.out.mono hb5
    go_wp2_with (first
      | (refine wpList_load_mid rfl 29 (.tmp 2) rfl w.heap.size 0 rfl _ _ hrb Tryz.underlying29 rfl info_pnr ?_)
      | (refine wpList_store_blk rfl 29 (.tmp 4) (.tmp 33) rfl (w.heap.size + 2) 29 zeroC [.string loc, .string off, .slice pn names.length cn, .slice ps segs.length cs, .slice pp phones.length cp, .int .i64 tk, .int .i64 td, .int .i64 tm, .string recv, .slice pr remarks.length cr, .slice px seats.length cx, .bool queued] rfl rfl hbb2 rfl info_pnr HO1.out ?_; intro w8 hb8 hl8 hg8))
    have hW := (bel_trans HB.out hb5).trans (below_le hl8 (by omega))
    exact chg_back rfl rfl rfl rfl hb8 rfl hW (HOLD.out _ hW)
  | true =>
    have HTE := Lib.hid (tf_ok htf)
    rw [htf] at HTF
    clear htf
    go_upto_region 12 with (first
      | (refine wpList_load_mid rfl 26 _ rfl (w.heap.size + 1) 8 rfl [.int .i64 ek, .int .i64 ed, .int .i64 em] _ hrt Tryz.underlying26 rfl info_ticket ?_)
      | (go_at_call 22; (with_reducible refine (HTF.out _).mono ?_); rintro e w5 ⟨rfl, hb5⟩))
    have hrt5 := HRT.out _ hb5
    have h05 := HB0.out.mono hb5
    clear hrt
    go_upto_region 13 with (first
      | (refine wpList_load_mid rfl 26 _ rfl (w.heap.size + 1) 8 rfl [.int .i64 ek, .int .i64 ed, .int .i64 em] _ hrt5 Tryz.underlying26 rfl info_ticket ?_)
      | (refine wpList_store_part rfl 26 (.tmp 36) (.tmp 35) rfl w.heap.size 5 29 [.string loc, .string off, .slice pn names.length cn, .slice ps segs.length cs, .slice pp phones.length cp, .int .i64 tk, .int .i64 td, .int .i64 tm, .string recv, .slice pr remarks.length cr, .slice px seats.length cx, .bool queued] [.int .i64 ek, .int .i64 ed, .int .i64 em] rfl rfl h05 (show (5 : Nat) + 3 ≤ 12 by decide) info_ticket tick3' ?_; intro w6 hbx6 hb6 hg6))
    dsimp only [Act.put]
    have h06 : Blk w6 w.heap.size 29 [.string loc, .string off, .slice pn names.length cn, .slice ps segs.length cs, .slice pp phones.length cp, .int .i64 ek, .int .i64 ed, .int .i64 em, .string recv, .slice pr remarks.length cr, .slice px seats.length cx, .bool queued] := hbx6
    have h26 := (HB2.out.mono hb5).far hg6 (by intro e; injection e with e; omega)
    have q11 : w6.cell? ⟨w.heap.size, 11, none⟩ = some (.bool queued) := (h06.cell 11).trans rfl
    have q12 := h06.frozen 11
    have h07 : Blk (w6.setCell ⟨w.heap.size, 11, none⟩ (.bool false)) w.heap.size 29 [.string loc, .string off, .slice pn names.length cn, .slice ps segs.length cs, .slice pp phones.length cp, .int .i64 ek, .int .i64 ed, .int .i64 em, .string recv, .slice pr remarks.length cr, .slice px seats.length cx, .bool false] := h06.set 11 (.bool false)
    have hg7 : w6.grownBy (w6.setCell ⟨w.heap.size, 11, none⟩ (.bool false)) (some w.heap.size) := gr_setCell1 (World.grownBy.refl _ _) 11 _
    have h27 := h26.far hg7 (by intro e; injection e with e; omega)
    have hb5w := bel_trans HB.out hb5
    have hb6w := hb5w.grown hg6 hb5w.size (fun k hk => by injection hk with hk; omega)
    have HB7 := Lib.hid (hb6w.grown hg7 hb6w.size (fun k hk => by injection hk with hk; omega))
    have HR7 := Lib.hid h07
    have HR27 := Lib.hid h27
    clear h06 h07 h26 h27 hg7 hb6w hb5w hg6 hb6 hbx6 h05 hrt5
    go_upto_region 14 with fail
    clear q11 q12
    generalize w6.setCell ⟨w.heap.size, 11, none⟩ (.bool false) = w7 at *
    have hr7 := HR7.out.range
    have HN1 := Lib.hid (pnrC_one (x := ⟨loc, off, names, segs, phones, ek, ed, em, recv, remarks, seats, false⟩) (p1 := pn) (n1 := names.length) (c1 := cn) (p2 := ps) (n2 := segs.length) (c2 := cs) (p3 := pp) (n3 := phones.length) (c3 := cp) (p4 := pr) (n4 := remarks.length) (c4 := cr) (p5 := px) (n5 := seats.length) (c5 := cx))
    go_wp2_with (first
      | (refine wpList_load_mid rfl 29 (.tmp 2) rfl w.heap.size 0 rfl _ _ hr7 Tryz.underlying29 rfl info_pnr ?_)
      | (refine wpList_store_blk rfl 29 (.tmp 4) (.tmp 38) rfl (w.heap.size + 2) 29 zeroC [.string loc, .string off, .slice pn names.length cn, .slice ps segs.length cs, .slice pp phones.length cp, .int .i64 ek, .int .i64 ed, .int .i64 em, .string recv, .slice pr remarks.length cr, .slice px seats.length cx, .bool false] rfl rfl HR27.out rfl info_pnr HN1.out ?_; intro w8 hb8 hl8 hg8))
    have hW := HB7.out.trans (below_le hl8 (by omega))
    exact chg_back rfl rfl rfl rfl hb8 rfl hW ⟨⟨loc, off, names, segs, phones, ek, ed, em, recv, remarks, seats, false⟩, _, _, _, _, _, rfl, (fun V hA => have k := (HPL.out.mono hW).agr hA; ⟨k.n, k.s, k.ph, k.rm, k.x, k.fit, k.wf, k.few⟩), rfl, rfl, Nat.le_succ _, fun f => ⟨f.nm, f.sg, f.ph, f.rm, f.rc, HTE.out, f.st⟩⟩

set_option maxHeartbeats 16000000 in
theorem change_k7 (lo : Nat) (p : PnrT) (vn vs vp vr vx : Value) (d : EditT) (w : World) (hlo : lo ≤ w.heap.size) (h : LowP lo w p vn vs vp vr vx) (hf : Room p) (hd : EditOk d) (hk : d.kind = 7) :
    Calls Tryz.prog 37 #[.agg (pnrC p vn vs vp vr vx).toArray, .agg (editC d).toArray] w fun e w' => ChgP lo w.heap.size p e w' ∧ Below w.heap.size w w' := by
  have hlow := h
  replace h := h.pin
  have HPL := Lib.hid hlow
  obtain ⟨pn, cn, rfl⟩ := h.n.len
  obtain ⟨ps, cs, rfl⟩ := h.s.len
  obtain ⟨pp, cp, rfl⟩ := own_len h.ph
  obtain ⟨pr, cr, rfl⟩ := own_len h.rm
  obtain ⟨px, cx, rfl⟩ := h.x.len
  obtain ⟨w3, e3, b0, b1, b2, hb3, hz3⟩ := boxes3 w (pnrC p (.slice pn p.names.length cn) (.slice ps p.segs.length cs) (.slice pp p.phones.length cp) (.slice pr p.remarks.length cr) (.slice px p.seats.length cx)) (editC d)
  have HPI := Lib.hid h
  have HLO2 : RowKit.Hid (lo ≤ w.heap.size + 2) := Lib.hid (by omega)
  have HLT2 : RowKit.Hid (w.heap.size + 2 < w3.heap.size) := Lib.hid (by omega)
  have HLE2 : RowKit.Hid (w.heap.size ≤ w3.heap.size) := Lib.hid (by omega)
  have hl3 := hlow.mono hb3
  have HIL : RowKit.Hid (∀ W, Below w3.heap.size w3 W → Calls Tryz.prog 53 #[.agg (pnrC p (.slice pn p.names.length cn) (.slice ps p.segs.length cs) (.slice pp p.phones.length cp) (.slice pr p.remarks.length cr) (.slice px p.seats.length cx)).toArray, .int .i64 d.n] W fun e w' => e = .returned (.bool (liveS p.segs d.n)) ∧ Below W.heap.size W w') := Lib.hid fun W hW => isLive_any p _ _ _ _ _ d.n W hd.n ((h.mono (bel_trans hb3 hW)).s) h.few.2.1
  have HB := Lib.hid hb3
  have HF := Lib.hid hf
  have HOLD : RowKit.Hid (∀ W, Below w.heap.size w W → ∃ x vn vs vp vr vx, pnrC p (.slice pn p.names.length cn) (.slice ps p.segs.length cs) (.slice pp p.phones.length cp) (.slice pr p.remarks.length cr) (.slice px p.seats.length cx) = pnrC x vn vs vp vr vx ∧ (∀ V, Agr lo w.heap.size W V → PIn V x vn vs vp vr vx) ∧ Kept p x) := Lib.hid fun W hW => ⟨_, _, _, _, _, _, rfl, fun V hA => (hlow.mono hW).agr hA, Kept.refl p⟩
  have HO1 : RowKit.Hid (∀ v ∈ pnrC p (.slice pn p.names.length cn) (.slice ps p.segs.length cs) (.slice pp p.phones.length cp) (.slice pr p.remarks.length cr) (.slice px p.seats.length cx), v.oneCell' = true) := Lib.hid pnrC_one
  clear h hd hf hb3 hlow hl3
  obtain ⟨loc, off, names, segs, phones, tk, td, tm, recv, remarks, seats, queued⟩ := p
  obtain ⟨kd, ⟨nl, nf⟩, ⟨car, num, day, cls, live⟩, ek, ed, em, tx, n, pax, row, c⟩ := d
  unfold pnrC at b0 e3 HOLD HO1 HIL ⊢
  unfold editC at b1 e3  ⊢
  unfold zeroC at e3
  simp only at b0 b1 e3 HOLD HO1 HIL hk ⊢
  have hr0 := b0.range
  have hr1 := b1.range
  have HB0 := Lib.hid b0
  have HB1 := Lib.hid b1
  have HB2 := Lib.hid b2
  have d0 : w3.cell? ⟨w.heap.size + 1, 0, none⟩ = some (.int .i64 kd) := (b1.cell 0).trans rfl
  have d12 : w3.cell? ⟨w.heap.size + 1, 12, none⟩ = some (.int .i64 n) := (b1.cell 12).trans rfl
  clear b0 b1 b2
  subst hk
  go_enter Tryz.func37, Tryz.ntmps37
  go_upto_region 1 with fail
  try rw [e3]
  clear e3
  rw [show w.heap.size + 1 + 1 = w.heap.size + 2 from rfl]
  cases hlv : liveS segs n with
  | false =>
    rw [hlv] at HIL
    clear hlv
    go_upto_region 17 with (first
      | (refine wpList_load_mid rfl 29 (.tmp 2) rfl w.heap.size 0 rfl _ _ hr0 Tryz.underlying29 rfl info_pnr ?_)
      | (go_at_call 53; (with_reducible refine (HIL.out _ (Below.refl _ _)).mono ?_); rintro e w5 ⟨rfl, hb5⟩))
    have hrb := (HB0.out.mono hb5).range
    have hbb2 := HB2.out.mono hb5
    go_wp2_with (first
      | (refine wpList_load_mid rfl 29 (.tmp 2) rfl w.heap.size 0 rfl _ _ hrb Tryz.underlying29 rfl info_pnr ?_)
      | (refine wpList_store_blk rfl 29 (.tmp 4) (.tmp 46) rfl (w.heap.size + 2) 29 zeroC [.string loc, .string off, .slice pn names.length cn, .slice ps segs.length cs, .slice pp phones.length cp, .int .i64 tk, .int .i64 td, .int .i64 tm, .string recv, .slice pr remarks.length cr, .slice px seats.length cx, .bool queued] rfl rfl hbb2 rfl info_pnr HO1.out ?_; intro w8 hb8 hl8 hg8))
    have hW := (bel_trans HB.out hb5).trans (below_le hl8 (by omega))
    exact chg_back rfl rfl rfl rfl hb8 rfl hW (HOLD.out _ hW)
  | true =>
    have hla := liveS_at hlv
    rw [hlv] at HIL
    clear hlv
    obtain ⟨hn1, s, hs1, hs2⟩ := hla
    obtain ⟨k, rfl⟩ : ∃ k : Nat, n = (k : Int) + 1 := ⟨(n - 1).toNat, by omega⟩
    rw [show ((k : Int) + 1 - 1).toNat = k by omega] at hs1
    have hkl : k < segs.length := (List.getElem?_eq_some_iff.1 hs1).1
    have HKL := Lib.hid hkl
    have hkb : k < 900 := by
      have := HF.out
      unfold Room at this
      simp only at this
      omega
    have hkn : (k : Int) < (segs.length : Int) := by omega
    have hk0 : (0 : Int) ≤ (k : Int) := by omega
    have HLV : RowKit.Hid ((segs.flatMap segC)[k * 5 + 4]? = some (.bool true)) := Lib.hid (by
      rw [segs_at segs k hkl, List.getD, hs1]
      simp [hs2])
    have hpos6 : 0 < segs.length := by omega
    have hsl9 : segs.length ≤ 1000 := HPI.out.few.2.1
    have hxl9 : seats.length ≤ 1000 := HPI.out.few.2.2.2.2
    clear hn1 hs1 hs2 s
    go_upto_region 18 with (first
      | (refine wpList_load_mid rfl 29 (.tmp 2) rfl w.heap.size 0 rfl _ _ hr0 Tryz.underlying29 rfl info_pnr ?_)
      | (go_at_call 53; (with_reducible refine (HIL.out _ (Below.refl _ _)).mono ?_); rintro e w5 ⟨rfl, hb5⟩))
    have p3 : w5.cell? ⟨w.heap.size, 3, none⟩ = some (.slice ps segs.length cs) := ((HB0.out.mono hb5).cell 3).trans rfl
    have HCS := Lib.hid (copySegs_any (.slice ps segs.length cs) segs w5 ((HPI.out.mono (bel_trans HB.out hb5)).s) hsl9)
    have HB5 := Lib.hid hb5
    clear hb5
    go_upto_region 19 with (first
      | (go_at_call 64; (with_reducible refine HCS.out.mono ?_); rintro e w6 ⟨⟨v6, rfl, ho6⟩, hb6⟩; obtain ⟨b6, c6, rfl, hb6l, hb6u⟩ := own_pos ho6 hpos6; have hc6 := ((HB0.out.mono (bel_trans HB5.out hb6)).cell 3).trans rfl; have hf6 := (HB0.out.mono (bel_trans HB5.out hb6)).frozen 3))
    have hb56 := bel_trans HB5.out hb6
    have hz5 : w.heap.size + 3 ≤ w5.heap.size := by have := HB5.out.size; omega
    have hg7 : w6.grownBy (w6.setCell ⟨w.heap.size, 3, none⟩ (.slice (some ⟨b6, 0, none⟩) segs.length c6)) (some w.heap.size) := gr_setCell1 (World.grownBy.refl _ _) 3 _
    have h07 : Blk (w6.setCell ⟨w.heap.size, 3, none⟩ (.slice (some ⟨b6, 0, none⟩) segs.length c6)) w.heap.size 29 [.string loc, .string off, .slice pn names.length cn, .slice (some ⟨b6, 0, none⟩) segs.length c6, .slice pp phones.length cp, .int .i64 tk, .int .i64 td, .int .i64 tm, .string recv, .slice pr remarks.length cr, .slice px seats.length cx, .bool queued] := (HB0.out.mono hb56).set 3 _
    have h17 := (HB1.out.mono hb56).far hg7 (by intro e; injection e with e; omega)
    have h27 := (HB2.out.mono hb56).far hg7 (by intro e; injection e with e; omega)
    have ho7 := World.ownsRow.kept ho6 hg7 (own_ne ho6 (by omega))
    have hb6w := bel_trans HB.out hb56
    have hb7w := hb6w.grown hg7 hb6w.size (fun k hk => by injection hk with hk; omega)
    clear hc6 hf6 hg7 hb6 ho6 HCS hb6w hb56 p3
    generalize w6.setCell ⟨w.heap.size, 3, none⟩ (.slice (some ⟨b6, 0, none⟩) segs.length c6) = w7 at *
    have q3 : w7.cell? ⟨w.heap.size, 3, none⟩ = some (.slice (some ⟨b6, 0, none⟩) segs.length c6) := (h07.cell 3).trans rfl
    have q12 : w7.cell? ⟨w.heap.size + 1, 12, none⟩ = some (.int .i64 ((k : Int) + 1)) := (h17.cell 12).trans rfl
    have qc : w7.cell? ⟨b6, k * 5 + 4, none⟩ = some (.bool true) := (World.ownsRow.cellAt ho7 (k * 5 + 4) (by omega)).trans HLV.out
    have qf := World.ownsRow.frozenAt ho7 (k * 5 + 4)
    obtain ⟨ho8, hg8⟩ := World.ownsRow.stored ho7 (k * 5 + 4) (.bool false)
    rw [segs_set segs k HKL.out] at ho8
    have hne6 : b6 ≠ w.heap.size := by omega
    have h08 := h07.far hg8 (by intro e; injection e with e; omega)
    have h18 := h17.far hg8 (by intro e; injection e with e; omega)
    have h28 := h27.far hg8 (by intro e; injection e with e; omega)
    have hb8w := hb7w.grown hg8 hb7w.size (fun k hk => by injection hk with hk; omega)
    have hb6z : b6 < (w7.setCell ⟨b6, k * 5 + 4, none⟩ (.bool false)).heap.size := by have := (World.ownsRow.lt ho8 b6 rfl).2; exact this
    have HO8 := Lib.hid ho8
    have H08 := Lib.hid h08
    have H18 := Lib.hid h18
    have H28 := Lib.hid h28
    have HB8 := Lib.hid hb8w
    clear h07 h17 h27 hb7w ho7 hg8 ho8 h08 h18 h28 hb8w hkl
    go_upto_region 20 with fail
    clear q3 q12 qc qf
    generalize w7.setCell ⟨b6, k * 5 + 4, none⟩ (.bool false) = w8 at *
    have q10 : w8.cell? ⟨w.heap.size, 10, none⟩ = some (.slice px seats.length cx) := (H08.out.cell 10).trans rfl
    have q12 : w8.cell? ⟨w.heap.size + 1, 12, none⟩ = some (.int .i64 ((k : Int) + 1)) := (H18.out.cell 12).trans rfl
    have HPC := Lib.hid (places_any (.slice px seats.length cx) seats ((k : Int) + 1) 0 w8 ((HPI.out.mono HB8.out).x) hxl9)
    go_upto_region 21 with (first
      | (go_at_call 65; (with_reducible refine HPC.out.mono ?_); rintro e w9 ⟨⟨v9, rest, rfl, ho9, hl9, hm9⟩, hb9⟩; obtain ⟨p9, c9, rfl⟩ := (HasE.own ho9).len; have hc9 := ((H08.out.mono hb9).cell 10).trans rfl; have hf9 := (H08.out.mono hb9).frozen 10))
    have hg10 : w9.grownBy (w9.setCell ⟨w.heap.size, 10, none⟩ (.slice p9 rest.length c9)) (some w.heap.size) := gr_setCell1 (World.grownBy.refl _ _) 10 _
    have h010 : Blk (w9.setCell ⟨w.heap.size, 10, none⟩ (.slice p9 rest.length c9)) w.heap.size 29 [.string loc, .string off, .slice pn names.length cn, .slice (some ⟨b6, 0, none⟩) segs.length c6, .slice pp phones.length cp, .int .i64 tk, .int .i64 td, .int .i64 tm, .string recv, .slice pr remarks.length cr, .slice p9 rest.length c9, .bool queued] := (H08.out.mono hb9).set 10 _
    have h210 := (H28.out.mono hb9).far hg10 (by intro e; injection e with e; omega)
    have hz8 : w.heap.size ≤ w8.heap.size := HB8.out.size
    have ho10 := World.ownsRow.kept ho9 hg10 (own_ne ho9 (by omega))
    have hs9 := own_mono HO8.out hb9
    have hs10 := World.ownsRow.kept hs9 hg10 (own_ne hs9 (by omega))
    have hb9w := bel_trans HB8.out hb9
    have hb10w := hb9w.grown hg10 hb9w.size (fun k hk => by injection hk with hk; omega)
    have HO10 := Lib.hid ho10
    have HS10 := Lib.hid hs10
    have HB10 := Lib.hid hb10w
    have HM9 := Lib.hid hm9
    clear hc9 hf9 hg10 ho9 hb9 HPC q10 q12 H08 H18 H28 HO8 ho10 hs9 hs10 hb9w hb10w hm9
    generalize w9.setCell ⟨w.heap.size, 10, none⟩ (.slice p9 rest.length c9) = wa at *
    have hrA := h010.range
    have HN1 := Lib.hid (pnrC_one (x := ⟨loc, off, names, segs, phones, tk, td, tm, recv, remarks, seats, queued⟩) (p1 := pn) (n1 := names.length) (c1 := cn) (p2 := (some ⟨b6, 0, none⟩)) (n2 := segs.length) (c2 := c6) (p3 := pp) (n3 := phones.length) (c3 := cp) (p4 := pr) (n4 := remarks.length) (c4 := cr) (p5 := p9) (n5 := rest.length) (c5 := c9))
    go_wp2_with (first
      | (refine wpList_load_mid rfl 29 (.tmp 2) rfl w.heap.size 0 rfl _ _ hrA Tryz.underlying29 rfl info_pnr ?_)
      | (refine wpList_store_blk rfl 29 (.tmp 4) (.tmp 64) rfl (w.heap.size + 2) 29 zeroC [.string loc, .string off, .slice pn names.length cn, .slice (some ⟨b6, 0, none⟩) segs.length c6, .slice pp phones.length cp, .int .i64 tk, .int .i64 td, .int .i64 tm, .string recv, .slice pr remarks.length cr, .slice p9 rest.length c9, .bool queued] rfl rfl h210 rfl info_pnr HN1.out ?_; intro wz hb8 hl8 hg8))
    have hW := HB10.out.trans (below_le hl8 (by omega))
    have hoz := World.ownsRow.kept HO10.out hg8 (own_ne HO10.out (by have := HB8.out.size; omega))
    have hsz := World.ownsRow.kept HS10.out hg8 (own_ne HS10.out (by omega))
    have hsl : segs.length = (segs.set k (offS (segs.getD k sg0))).length := by rw [List.length_set]
    have hsz2 : wz.ownsRow w5.heap.size 44 5 (.slice (some ⟨b6, 0, none⟩) segs.length c6) (segs.set k (offS (segs.getD k sg0))).length ((segs.set k (offS (segs.getD k sg0))).flatMap segC) := by rw [← hsl]; exact hsz
    exact chg_back rfl rfl rfl rfl hb8 rfl hW ⟨⟨loc, off, names, segs.set k (offS (segs.getD k sg0)), phones, tk, td, tm, recv, remarks, rest, queued⟩, _, _, _, _, _, rfl, (fun V hA => have q := (HPL.out.mono hW).agr hA; ⟨q.n, own_agr hsz2 (by omega) hA, q.ph, q.rm, own_agr hoz (by omega) hA, ⟨q.fit.1, q.fit.2.1, q.fit.2.2.1, (fun x h => by obtain ⟨y, hy, e⟩ := mem_off HKL.out h; rcases e with e | e <;> (rw [e]; exact q.fit.2.2.2.1 y hy)), q.fit.2.2.2.2⟩, (fun x h => q.wf x (HM9.out x h)), ⟨q.few.1, by rw [← hsl]; exact q.few.2.1, q.few.2.2.1, q.few.2.2.2.1, Nat.le_trans hl9 q.few.2.2.2.2⟩⟩), rfl, rfl, (by have hk9 : rest.length ≤ seats.length := hl9; simp only [cntP, List.length_set]; omega), fun f => ⟨f.nm, (fun x h => by obtain ⟨y, hy, e⟩ := mem_off HKL.out h; rcases e with e | e <;> (rw [e]; exact f.sg y hy)), f.ph, f.rm, f.rc, f.tk, fun x h => f.st x (HM9.out x h)⟩⟩

set_option maxHeartbeats 16000000 in
theorem change_k8 (lo : Nat) (p : PnrT) (vn vs vp vr vx : Value) (d : EditT) (w : World) (hlo : lo ≤ w.heap.size) (h : LowP lo w p vn vs vp vr vx) (hf : Room p) (hd : EditOk d) (hk : d.kind = 8) :
    Calls Tryz.prog 37 #[.agg (pnrC p vn vs vp vr vx).toArray, .agg (editC d).toArray] w fun e w' => ChgP lo w.heap.size p e w' ∧ Below w.heap.size w w' := by
  have hlow := h
  replace h := h.pin
  have HPL := Lib.hid hlow
  obtain ⟨pn, cn, rfl⟩ := h.n.len
  obtain ⟨ps, cs, rfl⟩ := h.s.len
  obtain ⟨pp, cp, rfl⟩ := own_len h.ph
  obtain ⟨pr, cr, rfl⟩ := own_len h.rm
  obtain ⟨px, cx, rfl⟩ := h.x.len
  obtain ⟨w3, e3, b0, b1, b2, hb3, hz3⟩ := boxes3 w (pnrC p (.slice pn p.names.length cn) (.slice ps p.segs.length cs) (.slice pp p.phones.length cp) (.slice pr p.remarks.length cr) (.slice px p.seats.length cx)) (editC d)
  have HPI := Lib.hid h
  have HLO2 : RowKit.Hid (lo ≤ w.heap.size + 2) := Lib.hid (by omega)
  have HLT2 : RowKit.Hid (w.heap.size + 2 < w3.heap.size) := Lib.hid (by omega)
  have HLE2 : RowKit.Hid (w.heap.size ≤ w3.heap.size) := Lib.hid (by omega)
  have hl3 := hlow.mono hb3
  have HSEA : RowKit.Hid (Calls Tryz.prog 66 #[.agg (pnrC p (.slice pn p.names.length cn) (.slice ps p.segs.length cs) (.slice pp p.phones.length cp) (.slice pr p.remarks.length cr) (.slice px p.seats.length cx)).toArray, .agg (editC d).toArray] w3 fun e w' => ChgP lo w3.heap.size p e w' ∧ Below w3.heap.size w3 w') := Lib.hid (seat_any lo p _ _ _ _ _ d w3 hl3 hf hd)
  have HB := Lib.hid hb3
  have HF := Lib.hid hf
  have HOLD : RowKit.Hid (∀ W, Below w.heap.size w W → ∃ x vn vs vp vr vx, pnrC p (.slice pn p.names.length cn) (.slice ps p.segs.length cs) (.slice pp p.phones.length cp) (.slice pr p.remarks.length cr) (.slice px p.seats.length cx) = pnrC x vn vs vp vr vx ∧ (∀ V, Agr lo w.heap.size W V → PIn V x vn vs vp vr vx) ∧ Kept p x) := Lib.hid fun W hW => ⟨_, _, _, _, _, _, rfl, fun V hA => (hlow.mono hW).agr hA, Kept.refl p⟩
  have HO1 : RowKit.Hid (∀ v ∈ pnrC p (.slice pn p.names.length cn) (.slice ps p.segs.length cs) (.slice pp p.phones.length cp) (.slice pr p.remarks.length cr) (.slice px p.seats.length cx), v.oneCell' = true) := Lib.hid pnrC_one
  clear h hd hf hb3 hlow hl3
  obtain ⟨loc, off, names, segs, phones, tk, td, tm, recv, remarks, seats, queued⟩ := p
  obtain ⟨kd, ⟨nl, nf⟩, ⟨car, num, day, cls, live⟩, ek, ed, em, tx, n, pax, row, c⟩ := d
  unfold pnrC at b0 e3 HOLD HO1 HSEA ⊢
  unfold editC at b1 e3 HSEA ⊢
  unfold zeroC at e3
  simp only at b0 b1 e3 HOLD HO1 HSEA hk ⊢
  have hr0 := b0.range
  have hr1 := b1.range
  have HB0 := Lib.hid b0
  have HB1 := Lib.hid b1
  have HB2 := Lib.hid b2
  have d0 : w3.cell? ⟨w.heap.size + 1, 0, none⟩ = some (.int .i64 kd) := (b1.cell 0).trans rfl
  clear b0 b1 b2
  subst hk
  go_enter Tryz.func37, Tryz.ntmps37
  go_upto_region 1 with fail
  try rw [e3]
  clear e3
  rw [show w.heap.size + 1 + 1 = w.heap.size + 2 from rfl]
  go_wp2_with (first
    | (refine wpList_load_mid rfl 29 (.tmp 2) rfl w.heap.size 0 rfl _ _ hr0 Tryz.underlying29 rfl info_pnr ?_)
    | (refine wpList_load_mid rfl 48 (.tmp 3) rfl (w.heap.size + 1) 0 rfl _ _ hr1 Tryz.underlying48 rfl info_edit ?_)
    | (go_at_call 66; (with_reducible refine (HSEA.out).mono ?_); rintro e w4 ⟨⟨x, xn, xs, xp, xr, xx, z, rfl, hx, hk⟩, hb4⟩; have hb24 := HB2.out.mono hb4; have hone := pin_one (hx w4 (Agr.refl _ _ _)))
    | (refine wpList_store_blk rfl 29 (.tmp 4) (.tmp 70) rfl (w.heap.size + 2) 29 zeroC (pnrC x xn xs xp xr xx) rfl rfl hb24 rfl info_pnr hone ?_; intro w8 hb8 hl8 hg8))
  exact chg_back rfl rfl rfl rfl hb8 rfl ((bel_trans HB.out hb4).trans (below_le hl8 (by omega))) ⟨x, xn, xs, xp, xr, xx, rfl, fun V hA => hx V (agr_store hg8 HLO2.out HLT2.out HLE2.out hA), hk⟩

set_option maxHeartbeats 16000000 in
theorem change_k9 (lo : Nat) (p : PnrT) (vn vs vp vr vx : Value) (d : EditT) (w : World) (hlo : lo ≤ w.heap.size) (h : LowP lo w p vn vs vp vr vx) (hf : Room p) (hd : EditOk d) (hk : d.kind = 9) :
    Calls Tryz.prog 37 #[.agg (pnrC p vn vs vp vr vx).toArray, .agg (editC d).toArray] w fun e w' => ChgP lo w.heap.size p e w' ∧ Below w.heap.size w w' := by
  have hlow := h
  replace h := h.pin
  have HPL := Lib.hid hlow
  obtain ⟨pn, cn, rfl⟩ := h.n.len
  obtain ⟨ps, cs, rfl⟩ := h.s.len
  obtain ⟨pp, cp, rfl⟩ := own_len h.ph
  obtain ⟨pr, cr, rfl⟩ := own_len h.rm
  obtain ⟨px, cx, rfl⟩ := h.x.len
  obtain ⟨w3, e3, b0, b1, b2, hb3, hz3⟩ := boxes3 w (pnrC p (.slice pn p.names.length cn) (.slice ps p.segs.length cs) (.slice pp p.phones.length cp) (.slice pr p.remarks.length cr) (.slice px p.seats.length cx)) (editC d)
  have HPI := Lib.hid h
  have HLO2 : RowKit.Hid (lo ≤ w.heap.size + 2) := Lib.hid (by omega)
  have HLT2 : RowKit.Hid (w.heap.size + 2 < w3.heap.size) := Lib.hid (by omega)
  have HLE2 : RowKit.Hid (w.heap.size ≤ w3.heap.size) := Lib.hid (by omega)
  have hl3 := hlow.mono hb3
  have HWH : RowKit.Hid (∀ W, Below w3.heap.size w3 W → Calls Tryz.prog 67 #[.agg (pnrC p (.slice pn p.names.length cn) (.slice ps p.segs.length cs) (.slice pp p.phones.length cp) (.slice pr p.remarks.length cr) (.slice px p.seats.length cx)).toArray, .agg (editC d).toArray] W fun e w' => (∃ f : Int, e = .returned (.int .i64 f)) ∧ Below W.heap.size W w') := Lib.hid fun W hW => whose_any p _ _ _ _ _ d W ((h.mono (bel_trans hb3 hW)).n) ((h.mono (bel_trans hb3 hW)).s) h.few.2.1 hd
  have HB := Lib.hid hb3
  have HF := Lib.hid hf
  have HOLD : RowKit.Hid (∀ W, Below w.heap.size w W → ∃ x vn vs vp vr vx, pnrC p (.slice pn p.names.length cn) (.slice ps p.segs.length cs) (.slice pp p.phones.length cp) (.slice pr p.remarks.length cr) (.slice px p.seats.length cx) = pnrC x vn vs vp vr vx ∧ (∀ V, Agr lo w.heap.size W V → PIn V x vn vs vp vr vx) ∧ Kept p x) := Lib.hid fun W hW => ⟨_, _, _, _, _, _, rfl, fun V hA => (hlow.mono hW).agr hA, Kept.refl p⟩
  have HO1 : RowKit.Hid (∀ v ∈ pnrC p (.slice pn p.names.length cn) (.slice ps p.segs.length cs) (.slice pp p.phones.length cp) (.slice pr p.remarks.length cr) (.slice px p.seats.length cx), v.oneCell' = true) := Lib.hid pnrC_one
  clear h hd hf hb3 hlow hl3
  obtain ⟨loc, off, names, segs, phones, tk, td, tm, recv, remarks, seats, queued⟩ := p
  obtain ⟨kd, ⟨nl, nf⟩, ⟨car, num, day, cls, live⟩, ek, ed, em, tx, n, pax, row, c⟩ := d
  unfold pnrC at b0 e3 HOLD HO1 HWH ⊢
  unfold editC at b1 e3 HWH ⊢
  unfold zeroC at e3
  simp only at b0 b1 e3 HOLD HO1 HWH hk ⊢
  have hr0 := b0.range
  have hr1 := b1.range
  have HB0 := Lib.hid b0
  have HB1 := Lib.hid b1
  have HB2 := Lib.hid b2
  have d0 : w3.cell? ⟨w.heap.size + 1, 0, none⟩ = some (.int .i64 kd) := (b1.cell 0).trans rfl
  clear b0 b1 b2
  subst hk
  go_enter Tryz.func37, Tryz.ntmps37
  go_upto_region 1 with fail
  try rw [e3]
  clear e3
  rw [show w.heap.size + 1 + 1 = w.heap.size + 2 from rfl]
  go_upto_region 26 with (first
    | (refine wpList_load_mid rfl 29 (.tmp 2) rfl w.heap.size 0 rfl _ _ hr0 Tryz.underlying29 rfl info_pnr ?_)
    | (refine wpList_load_mid rfl 48 (.tmp 3) rfl (w.heap.size + 1) 0 rfl _ _ hr1 Tryz.underlying48 rfl info_edit ?_)
    | (go_at_call 67; (with_reducible refine (HWH.out _ (Below.refl _ _)).mono ?_); rintro e w5 ⟨⟨f, rfl⟩, hb5⟩))
  have HB5 := Lib.hid hb5
  clear hb5
  by_cases hf0 : f = 0
  rotate_left
  · have hfb : (f != 0) = true := by simp [hf0]
    clear hf0
    have hrb := (HB0.out.mono HB5.out).range
    have hbb2 := HB2.out.mono HB5.out
    go_wp2_with (first
      | (refine wpList_load_mid rfl 29 (.tmp 2) rfl w.heap.size 0 rfl _ _ hrb Tryz.underlying29 rfl info_pnr ?_)
      | (refine wpList_store_blk rfl 29 (.tmp 4) (.tmp 79) rfl (w.heap.size + 2) 29 zeroC [.string loc, .string off, .slice pn names.length cn, .slice ps segs.length cs, .slice pp phones.length cp, .int .i64 tk, .int .i64 td, .int .i64 tm, .string recv, .slice pr remarks.length cr, .slice px seats.length cx, .bool queued] rfl rfl hbb2 rfl info_pnr HO1.out ?_; intro w8 hb8 hl8 hg8))
    have hW := (bel_trans HB.out HB5.out).trans (below_le hl8 (by omega))
    exact chg_back rfl rfl rfl rfl hb8 rfl hW (HOLD.out _ hW)
  subst hf0
  have q10 : w5.cell? ⟨w.heap.size, 10, none⟩ = some (.slice px seats.length cx) := ((HB0.out.mono HB5.out).cell 10).trans rfl
  have q12 : w5.cell? ⟨w.heap.size + 1, 12, none⟩ = some (.int .i64 n) := ((HB1.out.mono HB5.out).cell 12).trans rfl
  have q13 : w5.cell? ⟨w.heap.size + 1, 13, none⟩ = some (.int .i64 pax) := ((HB1.out.mono HB5.out).cell 13).trans rfl
  have hxl9 : seats.length ≤ 1000 := HPI.out.few.2.2.2.2
  have HPC := Lib.hid (places_any (.slice px seats.length cx) seats n pax w5 ((HPI.out.mono (bel_trans HB.out HB5.out)).x) hxl9)
  go_upto_region 29 with (first
    | (go_at_call 65; (with_reducible refine HPC.out.mono ?_); rintro e w9 ⟨⟨v9, rest, rfl, ho9, hl9, hm9⟩, hb9⟩))
  obtain ⟨p9, c9, rfl⟩ := (HasE.own ho9).len
  have hb59 := bel_trans HB5.out hb9
  have HB59 := Lib.hid hb59
  have q10b : w9.cell? ⟨w.heap.size, 10, none⟩ = some (.slice px seats.length cx) := ((HB0.out.mono hb59).cell 10).trans rfl
  have HO9 := Lib.hid ho9
  have HM9 := Lib.hid hm9
  have hz5 : w.heap.size + 3 ≤ w5.heap.size := by have := HB5.out.size; omega
  clear q10 q12 q13 HPC hb9 hb59 ho9 hm9
  by_cases hle : rest.length = seats.length
  · have hleb : ((rest.length : Int) == (seats.length : Int)) = true := by rw [beq_iff_eq]; omega
    have hlen : (rest.length == seats.length) = true := by rw [beq_iff_eq]; exact hle
    clear hle
    have hrb := (HB0.out.mono HB59.out).range
    have hbb2 := HB2.out.mono HB59.out
    go_wp2_with (first
      | (refine wpList_load_mid rfl 29 (.tmp 2) rfl w.heap.size 0 rfl _ _ hrb Tryz.underlying29 rfl info_pnr ?_)
      | (refine wpList_store_blk rfl 29 (.tmp 4) (.tmp 94) rfl (w.heap.size + 2) 29 zeroC [.string loc, .string off, .slice pn names.length cn, .slice ps segs.length cs, .slice pp phones.length cp, .int .i64 tk, .int .i64 td, .int .i64 tm, .string recv, .slice pr remarks.length cr, .slice px seats.length cx, .bool queued] rfl rfl hbb2 rfl info_pnr HO1.out ?_; intro w8 hb8 hl8 hg8))
    have hW := (bel_trans HB.out HB59.out).trans (below_le hl8 (by omega))
    exact chg_back rfl rfl rfl rfl hb8 rfl hW (HOLD.out _ hW)
  · have hleb : ((rest.length : Int) == (seats.length : Int)) = false := by rw [beq_eq_false_iff_ne]; omega
    have hlen : (rest.length == seats.length) = false := by rw [beq_eq_false_iff_ne]; exact hle
    clear hle
    have hf9 := (HB0.out.mono HB59.out).frozen 10
    have hg10 : w9.grownBy (w9.setCell ⟨w.heap.size, 10, none⟩ (.slice p9 rest.length c9)) (some w.heap.size) := gr_setCell1 (World.grownBy.refl _ _) 10 _
    have h010 : Blk (w9.setCell ⟨w.heap.size, 10, none⟩ (.slice p9 rest.length c9)) w.heap.size 29 [.string loc, .string off, .slice pn names.length cn, .slice ps segs.length cs, .slice pp phones.length cp, .int .i64 tk, .int .i64 td, .int .i64 tm, .string recv, .slice pr remarks.length cr, .slice p9 rest.length c9, .bool queued] := (HB0.out.mono HB59.out).set 10 _
    have h210 := (HB2.out.mono HB59.out).far hg10 (by intro e; injection e with e; omega)
    have ho10 := World.ownsRow.kept HO9.out hg10 (own_ne HO9.out (by omega))
    have hb9w := bel_trans HB.out HB59.out
    have hb10w := hb9w.grown hg10 hb9w.size (fun k hk => by injection hk with hk; omega)
    have HO10 := Lib.hid ho10
    have HB10 := Lib.hid hb10w
    have H010 := Lib.hid h010
    have H210 := Lib.hid h210
    clear hg10 ho10 hb9w hb10w h010 h210
    go_upto_region 32 with fail
    generalize w9.setCell ⟨w.heap.size, 10, none⟩ (.slice p9 rest.length c9) = wa at *
    have hrA := H010.out.range
    have HN1 := Lib.hid (pnrC_one (x := ⟨loc, off, names, segs, phones, tk, td, tm, recv, remarks, seats, queued⟩) (p1 := pn) (n1 := names.length) (c1 := cn) (p2 := ps) (n2 := segs.length) (c2 := cs) (p3 := pp) (n3 := phones.length) (c3 := cp) (p4 := pr) (n4 := remarks.length) (c4 := cr) (p5 := p9) (n5 := rest.length) (c5 := c9))
    go_wp2_with (first
      | (refine wpList_load_mid rfl 29 (.tmp 2) rfl w.heap.size 0 rfl _ _ hrA Tryz.underlying29 rfl info_pnr ?_)
      | (refine wpList_store_blk rfl 29 (.tmp 4) (.tmp 97) rfl (w.heap.size + 2) 29 zeroC [.string loc, .string off, .slice pn names.length cn, .slice ps segs.length cs, .slice pp phones.length cp, .int .i64 tk, .int .i64 td, .int .i64 tm, .string recv, .slice pr remarks.length cr, .slice p9 rest.length c9, .bool queued] rfl rfl H210.out rfl info_pnr HN1.out ?_; intro w8 hb8 hl8 hg8))
    have hW := HB10.out.trans (below_le hl8 (by omega))
    have hoz := World.ownsRow.kept HO10.out hg8 (own_ne HO10.out (by omega))
    exact chg_back rfl rfl rfl rfl hb8 rfl hW ⟨⟨loc, off, names, segs, phones, tk, td, tm, recv, remarks, rest, queued⟩, _, _, _, _, _, rfl, (fun V hA => have q := (HPL.out.mono hW).agr hA; ⟨q.n, q.s, q.ph, q.rm, own_agr hoz (by omega) hA, q.fit, (fun x h => q.wf x (HM9.out x h)), ⟨q.few.1, q.few.2.1, q.few.2.2.1, q.few.2.2.2.1, Nat.le_trans hl9 q.few.2.2.2.2⟩⟩), rfl, rfl, (by have hk9 : rest.length ≤ seats.length := hl9; simp only [cntP]; omega), fun f => ⟨f.nm, f.sg, f.ph, f.rm, f.rc, f.tk, fun x h => f.st x (HM9.out x h)⟩⟩

set_option maxHeartbeats 16000000 in
theorem change_other (lo : Nat) (p : PnrT) (vn vs vp vr vx : Value) (d : EditT) (w : World) (hlo : lo ≤ w.heap.size) (h : LowP lo w p vn vs vp vr vx) (hf : Room p) (hd : EditOk d) (g1 : (d.kind == 1) = false) (g2 : (d.kind == 2) = false) (g3 : (d.kind == 3) = false) (g4 : (d.kind == 4) = false) (g5 : (d.kind == 5) = false) (g6 : (d.kind == 6) = false) (g7 : (d.kind == 7) = false) (g8 : (d.kind == 8) = false) (g9 : (d.kind == 9) = false) :
    Calls Tryz.prog 37 #[.agg (pnrC p vn vs vp vr vx).toArray, .agg (editC d).toArray] w fun e w' => ChgP lo w.heap.size p e w' ∧ Below w.heap.size w w' := by
  have hlow := h
  replace h := h.pin
  have HPL := Lib.hid hlow
  obtain ⟨pn, cn, rfl⟩ := h.n.len
  obtain ⟨ps, cs, rfl⟩ := h.s.len
  obtain ⟨pp, cp, rfl⟩ := own_len h.ph
  obtain ⟨pr, cr, rfl⟩ := own_len h.rm
  obtain ⟨px, cx, rfl⟩ := h.x.len
  obtain ⟨w3, e3, b0, b1, b2, hb3, hz3⟩ := boxes3 w (pnrC p (.slice pn p.names.length cn) (.slice ps p.segs.length cs) (.slice pp p.phones.length cp) (.slice pr p.remarks.length cr) (.slice px p.seats.length cx)) (editC d)
  have HPI := Lib.hid h
  have HLO2 : RowKit.Hid (lo ≤ w.heap.size + 2) := Lib.hid (by omega)
  have HLT2 : RowKit.Hid (w.heap.size + 2 < w3.heap.size) := Lib.hid (by omega)
  have HLE2 : RowKit.Hid (w.heap.size ≤ w3.heap.size) := Lib.hid (by omega)
  have hl3 := hlow.mono hb3
  have HB := Lib.hid hb3
  have HF := Lib.hid hf
  have HOLD : RowKit.Hid (∀ W, Below w.heap.size w W → ∃ x vn vs vp vr vx, pnrC p (.slice pn p.names.length cn) (.slice ps p.segs.length cs) (.slice pp p.phones.length cp) (.slice pr p.remarks.length cr) (.slice px p.seats.length cx) = pnrC x vn vs vp vr vx ∧ (∀ V, Agr lo w.heap.size W V → PIn V x vn vs vp vr vx) ∧ Kept p x) := Lib.hid fun W hW => ⟨_, _, _, _, _, _, rfl, fun V hA => (hlow.mono hW).agr hA, Kept.refl p⟩
  have HO1 : RowKit.Hid (∀ v ∈ pnrC p (.slice pn p.names.length cn) (.slice ps p.segs.length cs) (.slice pp p.phones.length cp) (.slice pr p.remarks.length cr) (.slice px p.seats.length cx), v.oneCell' = true) := Lib.hid pnrC_one
  clear h hd hf hb3 hlow hl3
  obtain ⟨loc, off, names, segs, phones, tk, td, tm, recv, remarks, seats, queued⟩ := p
  obtain ⟨kd, ⟨nl, nf⟩, ⟨car, num, day, cls, live⟩, ek, ed, em, tx, n, pax, row, c⟩ := d
  unfold pnrC at b0 e3 HOLD HO1  ⊢
  unfold editC at b1 e3  ⊢
  unfold zeroC at e3
  simp only at b0 b1 e3 HOLD HO1  g1 g2 g3 g4 g5 g6 g7 g8 g9 ⊢
  have hr0 := b0.range
  have hr1 := b1.range
  have HB0 := Lib.hid b0
  have HB1 := Lib.hid b1
  have HB2 := Lib.hid b2
  have d0 : w3.cell? ⟨w.heap.size + 1, 0, none⟩ = some (.int .i64 kd) := (b1.cell 0).trans rfl
  clear b0 b1 b2
  go_enter Tryz.func37, Tryz.ntmps37
  go_upto_region 1 with fail
  try rw [e3]
  clear e3
  rw [show w.heap.size + 1 + 1 = w.heap.size + 2 from rfl]
  have hrb := (HB0.out.mono (Below.refl w3.heap.size w3)).range
  have hbb2 := HB2.out.mono (Below.refl w3.heap.size w3)
  go_wp2_with (first
    | (refine wpList_load_mid rfl 29 (.tmp 2) rfl w.heap.size 0 rfl _ _ hrb Tryz.underlying29 rfl info_pnr ?_)
    | (refine wpList_store_blk rfl 29 (.tmp 4) (.tmp 98) rfl (w.heap.size + 2) 29 zeroC [.string loc, .string off, .slice pn names.length cn, .slice ps segs.length cs, .slice pp phones.length cp, .int .i64 tk, .int .i64 td, .int .i64 tm, .string recv, .slice pr remarks.length cr, .slice px seats.length cx, .bool queued] rfl rfl hbb2 rfl info_pnr HO1.out ?_; intro w8 hb8 hl8 hg8))
  have hW := (bel_trans HB.out (Below.refl w3.heap.size w3)).trans (below_le hl8 (by omega))
  exact chg_back rfl rfl rfl rfl hb8 rfl hW (HOLD.out _ hW)

theorem change_any (lo : Nat) (p : PnrT) (vn vs vp vr vx : Value) (d : EditT) (w : World) (hlo : lo ≤ w.heap.size) (h : LowP lo w p vn vs vp vr vx) (hf : Room p) (hd : EditOk d) :
    Calls Tryz.prog 37 #[.agg (pnrC p vn vs vp vr vx).toArray, .agg (editC d).toArray] w fun e w' => ChgP lo w.heap.size p e w' ∧ Below w.heap.size w w' := by
  by_cases k1 : d.kind = 1
  · exact change_k1 lo p vn vs vp vr vx d w hlo h hf hd k1
  by_cases k2 : d.kind = 2
  · exact change_k2 lo p vn vs vp vr vx d w hlo h hf hd k2
  by_cases k3 : d.kind = 3
  · exact change_k3 lo p vn vs vp vr vx d w hlo h hf hd k3
  by_cases k4 : d.kind = 4
  · exact change_k4 lo p vn vs vp vr vx d w hlo h hf hd k4
  by_cases k5 : d.kind = 5
  · exact change_k5 lo p vn vs vp vr vx d w hlo h hf hd k5
  by_cases k6 : d.kind = 6
  · exact change_k6 lo p vn vs vp vr vx d w hlo h hf hd k6
  by_cases k7 : d.kind = 7
  · exact change_k7 lo p vn vs vp vr vx d w hlo h hf hd k7
  by_cases k8 : d.kind = 8
  · exact change_k8 lo p vn vs vp vr vx d w hlo h hf hd k8
  by_cases k9 : d.kind = 9
  · exact change_k9 lo p vn vs vp vr vx d w hlo h hf hd k9
  exact change_other lo p vn vs vp vr vx d w hlo h hf hd (by simp [k1]) (by simp [k2]) (by simp [k3]) (by simp [k4]) (by simp [k5]) (by simp [k6]) (by simp [k7]) (by simp [k8]) (by simp [k9])
end Go.Proofs.YtmhhbnnjilbdnaaGreatDoor
