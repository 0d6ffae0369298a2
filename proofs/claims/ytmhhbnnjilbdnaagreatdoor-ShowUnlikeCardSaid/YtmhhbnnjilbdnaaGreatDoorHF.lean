/- An edit that adds a name or a segment (the reference). -/
import Derived.Test.YtmhhbnnjilbdnaaGreatDoorKA
import Derived.Test.YtmhhbnnjilbdnaaGreatDoorKB
import Derived.Test.YtmhhbnnjilbdnaaGreatDoorKF
import Derived.Test.YtmhhbnnjilbdnaaGreatDoorPlnP
import Derived.Test.YtmhhbnnjilbdnaaGreatDoorKG
import Derived.Test.YtmhhbnnjilbdnaaGreatDoorKJ
import Derived.Test.YtmhhbnnjilbdnaaGreatDoorKL
import Derived.Test.YtmhhbnnjilbdnaaGreatDoorKM
import Derived.Test.YtmhhbnnjilbdnaaGreatDoorLA
import Derived.Test.YtmhhbnnjilbdnaaGreatDoorLB
import Derived.Test.YtmhhbnnjilbdnaaGreatDoorLC
import Derived.Test.YtmhhbnnjilbdnaaGreatDoorLD
import Derived.Test.YtmhhbnnjilbdnaaGreatDoorRows
import Derived.WalkKit
import Derived.WalkSpells
import Derived.WalkLawsBesides
import Derived.Lib.ConvBytes
import Derived.Lib.Hide
import Derived.Lib.SliceRun
import Derived.IntWalk
import Derived.BigQuiet
import Derived.Deep.QuietTactic
import Derived.Deep.RegionWith
import Derived.Deep.RegionHeld3
import Derived.Deep.LoopGhost
import Derived.Deep.CutRange
import Derived.Deep.CutBlock
import Derived.Deep.MidRow
import Derived.Laws.OwnMore
import Derived.OwnWalk
import Derived.Laws.AppendOwnNone
import Derived.Laws.Rows
import Derived.Laws.MakeOwn
import Derived.Laws.CopyOwn
import Derived.Laws.BitsAllLaws
import Derived.DeepKeys5
import Derived.Maps.OwnOps
import Derived.Handy
import Derived.Lib.AppendStr
import Derived.StillTailTactics
import Derived.Deep.AppendLies
import Derived.WideKeyEntry
namespace Go.Proofs.YtmhhbnnjilbdnaaGreatDoor
open Go.RowKit Go.ChangeMaps
set_option linter.unusedSimpArgs false
set_option linter.unusedVariables false
set_option maxRecDepth 20000

open Classical in
theorem segS_ok {x : SegT} (h : segS x = true) : segOk x := by
  unfold segS at h
  exact of_decide_eq_true h

set_option maxHeartbeats 32000000 in
theorem add_any (lo : Nat) (p : PnrT) (vn vs vp vr vx : Value) (d : EditT) (w : World) (h : LowP lo w p vn vs vp vr vx) (hf : Room p) (hd : EditOk d) :
    Calls Tryz.prog 62 #[.agg (pnrC p vn vs vp vr vx).toArray, .agg (editC d).toArray] w fun e w' => ChgP lo w.heap.size p e w' ∧ Below w.heap.size w w' := by
  have hlow := h
  replace h := h.pin
  have HPL := Lib.hid hlow
  obtain ⟨pn, cn, rfl⟩ := h.n.len
  obtain ⟨ps, cs, rfl⟩ := h.s.len
  obtain ⟨pp, cp, rfl⟩ := own_len h.ph
  obtain ⟨pr, cr, rfl⟩ := own_len h.rm
  obtain ⟨px, cx, rfl⟩ := h.x.len
  obtain ⟨w3, e3, b0, b1, b2, hb3, hz3⟩ := boxes3 w (pnrC p (.slice pn p.names.length cn) (.slice ps p.segs.length cs) (.slice pp p.phones.length cp) (.slice pr p.remarks.length cr) (.slice px p.seats.length cx)) (editC d)
  have HPI := Lib.hid h
  have HLA := Lib.hid hd.last
  have HFI := Lib.hid hd.first
  have HCA := Lib.hid hd.car
  have HPE : RowKit.Hid (∀ s W, s.size ≤ maxLen → Calls Tryz.prog 20 #[.string s] W fun e w' => e = .returned (.bool (lettersS s.data.toList 1 16)) ∧ W = w') := Lib.hid fun s W hs => refPerson_any s W hs
  have HB := Lib.hid hb3
  have HF := Lib.hid hf
  have HOLD : RowKit.Hid (∀ W, Below w.heap.size w W → ∃ x vn vs vp vr vx, pnrC p (.slice pn p.names.length cn) (.slice ps p.segs.length cs) (.slice pp p.phones.length cp) (.slice pr p.remarks.length cr) (.slice px p.seats.length cx) = pnrC x vn vs vp vr vx ∧ (∀ V, Agr lo w.heap.size W V → PIn V x vn vs vp vr vx) ∧ Kept p x) := Lib.hid fun W hW => ⟨_, _, _, _, _, _, rfl, fun V hA => (hlow.mono hW).agr hA, Kept.refl p⟩
  have HO1 : RowKit.Hid (∀ v ∈ pnrC p (.slice pn p.names.length cn) (.slice ps p.segs.length cs) (.slice pp p.phones.length cp) (.slice pr p.remarks.length cr) (.slice px p.seats.length cx), v.oneCell' = true) := Lib.hid pnrC_one
  clear h hd hf hb3 hlow
  obtain ⟨loc, off, names, segs, phones, tk, td, tm, recv, remarks, seats, queued⟩ := p
  obtain ⟨kd, ⟨nl, nf⟩, ⟨car, num, day, cls, live⟩, ek, ed, em, tx, n, pax, row, c⟩ := d
  unfold pnrC at b0 e3 HOLD HO1 ⊢
  unfold editC at b1 e3 ⊢
  unfold zeroC at e3
  simp only at b0 b1 e3 HOLD HO1 HLA HFI HCA ⊢
  have hr0 := b0.range
  have HB0 := Lib.hid b0
  have HB1 := Lib.hid b1
  have HB2 := Lib.hid b2
  have d0 : w3.cell? ⟨w.heap.size + 1, 0, none⟩ = some (.int .i64 kd) := (b1.cell 0).trans rfl
  have d1 : w3.cell? ⟨w.heap.size + 1, 1, none⟩ = some (.string nl) := (b1.cell 1).trans rfl
  have d2 : w3.cell? ⟨w.heap.size + 1, 2, none⟩ = some (.string nf) := (b1.cell 2).trans rfl
  have d7 : w3.cell? ⟨w.heap.size + 1, 7, none⟩ = some (.bool live) := (b1.cell 7).trans rfl
  have p0 : w3.cell? ⟨w.heap.size, 0, none⟩ = some (.string loc) := (b0.cell 0).trans rfl
  have p2 : w3.cell? ⟨w.heap.size, 2, none⟩ = some (.slice pn names.length cn) := (b0.cell 2).trans rfl
  have p3 : w3.cell? ⟨w.heap.size, 3, none⟩ = some (.slice ps segs.length cs) := (b0.cell 3).trans rfl
  clear b0 b1 b2
  go_enter Tryz.func62, Tryz.ntmps62
  go_upto_region 1 with fail
  try rw [e3]
  clear e3
  rw [show w.heap.size + 1 + 1 = w.heap.size + 2 from rfl]
  have HBW : RowKit.Hid (∀ W, Below (w.heap.size + 2) w3 W → Below w.heap.size w W) := Lib.hid fun W hW => HB.out.trans (below_le hW (by omega))
  by_cases k1 : kd = 1
  · subst k1
    cases hp1 : lettersS nl.data.toList 1 16 with
    | false =>
      go_wp2_with (first
        | (go_at_call 20; (with_reducible refine (HPE.out _ _ (by first | exact HLA.out | exact HFI.out)).mono ?_); rintro e W ⟨rfl, rfl⟩)
        | (refine wpList_load_mid rfl 29 (.tmp 2) rfl w.heap.size 0 rfl _ _ hr0 Tryz.underlying29 rfl info_pnr ?_)
        | (refine wpList_store_blk rfl 29 (.tmp 4) (.tmp 22) rfl (w.heap.size + 2) 29 zeroC [.string loc, .string off, .slice pn names.length cn, .slice ps segs.length cs, .slice pp phones.length cp, .int .i64 tk, .int .i64 td, .int .i64 tm, .string recv, .slice pr remarks.length cr, .slice px seats.length cx, .bool queued] rfl rfl HB2.out rfl info_pnr HO1.out ?_; intro w8 hb8 hl8 hg8))
      exact chg_back rfl rfl rfl rfl hb8 rfl (HBW.out _ hl8) (HOLD.out _ (HBW.out _ hl8))
    | true =>
    cases hp2 : lettersS nf.data.toList 1 16 with
    | false =>
      go_wp2_with (first
        | (go_at_call 20; (with_reducible refine (HPE.out _ _ (by first | exact HLA.out | exact HFI.out)).mono ?_); rintro e W ⟨rfl, rfl⟩)
        | (refine wpList_load_mid rfl 29 (.tmp 2) rfl w.heap.size 0 rfl _ _ hr0 Tryz.underlying29 rfl info_pnr ?_)
        | (refine wpList_store_blk rfl 29 (.tmp 4) (.tmp 22) rfl (w.heap.size + 2) 29 zeroC [.string loc, .string off, .slice pn names.length cn, .slice ps segs.length cs, .slice pp phones.length cp, .int .i64 tk, .int .i64 td, .int .i64 tm, .string recv, .slice pr remarks.length cr, .slice px seats.length cx, .bool queued] rfl rfl HB2.out rfl info_pnr HO1.out ?_; intro w8 hb8 hl8 hg8))
      exact chg_back rfl rfl rfl rfl hb8 rfl (HBW.out _ hl8) (HOLD.out _ (HBW.out _ hl8))
    | true =>
    cases he : loc.toList.isEmpty with
    | false =>
      go_wp2_with (first
        | (go_at_call 20; (with_reducible refine (HPE.out _ _ (by first | exact HLA.out | exact HFI.out)).mono ?_); rintro e W ⟨rfl, rfl⟩)
        | (refine wpList_load_mid rfl 29 (.tmp 2) rfl w.heap.size 0 rfl _ _ hr0 Tryz.underlying29 rfl info_pnr ?_)
        | (refine wpList_store_blk rfl 29 (.tmp 4) (.tmp 26) rfl (w.heap.size + 2) 29 zeroC [.string loc, .string off, .slice pn names.length cn, .slice ps segs.length cs, .slice pp phones.length cp, .int .i64 tk, .int .i64 td, .int .i64 tm, .string recv, .slice pr remarks.length cr, .slice px seats.length cx, .bool queued] rfl rfl HB2.out rfl info_pnr HO1.out ?_; intro w8 hb8 hl8 hg8))
      exact chg_back rfl rfl rfl rfl hb8 rfl (HBW.out _ hl8) (HOLD.out _ (HBW.out _ hl8))
    | true =>
    by_cases k4 : names.length ≥ 9
    · have i4 : (names.length : Int) ≥ 9 := by omega
      go_wp2_with (first
        | (go_at_call 20; (with_reducible refine (HPE.out _ _ (by first | exact HLA.out | exact HFI.out)).mono ?_); rintro e W ⟨rfl, rfl⟩)
        | (refine wpList_load_mid rfl 29 (.tmp 2) rfl w.heap.size 0 rfl _ _ hr0 Tryz.underlying29 rfl info_pnr ?_)
        | (refine wpList_store_blk rfl 29 (.tmp 4) (.tmp 31) rfl (w.heap.size + 2) 29 zeroC [.string loc, .string off, .slice pn names.length cn, .slice ps segs.length cs, .slice pp phones.length cp, .int .i64 tk, .int .i64 td, .int .i64 tm, .string recv, .slice pr remarks.length cr, .slice px seats.length cx, .bool queued] rfl rfl HB2.out rfl info_pnr HO1.out ?_; intro w8 hb8 hl8 hg8))
      exact chg_back rfl rfl rfl rfl hb8 rfl (HBW.out _ hl8) (HOLD.out _ (HBW.out _ hl8))
    · have i4 : ¬ (names.length : Int) ≥ 9 := by omega
      obtain ⟨i0, hi0, hz0, hsz0, hby0⟩ := name_tinfo
      have hll : names.length ≤ 900 := by have := HF.out; unfold Room at this; simp only at this; omega
      have hm1 : names.length + 1 ≤ maxLen := by unfold maxLen; omega
      have hm2 : (names.length + 1) * 32 ≤ 140737488355328 := by omega
      have hl3 : names.length ≤ 1000 := by omega
      have HCT : RowKit.Hid (∀ v l W, HasE nameC W v l → l.length ≤ 1000 → Calls Tryz.prog 61 #[v] W fun e w' => (∃ v', e = .returned v' ∧ w'.ownsRow W.heap.size 38 2 v' l.length (l.flatMap nameC)) ∧ Below W.heap.size W w') := Lib.hid fun v l W h1 h2 => copyNames_any v l W h1 h2
      have HPA : RowKit.Hid (HasE nameC w3.drew (.slice pn names.length cn) names) := Lib.hid ((HPI.out.mono HB.out).n.mono (Below.refl _ _).drew)
      have HPB : RowKit.Hid (HasE nameC (w3.alloc (.cells #[.string nl, .string nf] 38)).drew (.slice pn names.length cn) names) := Lib.hid ((HPI.out.mono HB.out).n.mono ((Below.refl _ _).alloc (Nat.le_refl _) _).drew)
      have HD1 : RowKit.Hid (Below w3.heap.size w3 w3.drew) := Lib.hid (Below.refl _ _).drew
      have HD2 : RowKit.Hid (Below w3.heap.size w3 (w3.alloc (.cells #[.string nl, .string nf] 38)).drew) := Lib.hid ((Below.refl _ _).alloc (Nat.le_refl _) _).drew
      have HZ1 : RowKit.Hid (w.heap.size + 3 ≤ w3.drew.heap.size) := Lib.hid (by simp <;> omega)
      have HZ2 : RowKit.Hid (w.heap.size + 3 ≤ (w3.alloc (.cells #[.string nl, .string nf] 38)).drew.heap.size) := Lib.hid (by simp <;> omega)
      have HZ3 : RowKit.Hid (w.heap.size + 3 < (w3.alloc (.cells #[.string nl, .string nf] 38)).drew.heap.size) := Lib.hid (by simp <;> omega)
      have HNB : RowKit.Hid ((w3.alloc (.cells #[.string nl, .string nf] 38)).drew.heap[w.heap.size + 3]? = some (.cells #[.string nl, .string nf] 38 (0, 0))) := Lib.hid (by rw [← hz3]; exact heap_alloc_new w3 _)
      have HTC : RowKit.Hid (∀ W, Below w3.heap.size w3 W → W.cell? ⟨w.heap.size + 1, 1, none⟩ = some (.string nl) ∧ W.cell? ⟨w.heap.size + 1, 2, none⟩ = some (.string nf) ∧ W.cell? ⟨w.heap.size, 2, none⟩ = some (.slice pn names.length cn) ∧ W.frozen? ⟨w.heap.size, 2, none⟩ = false) := Lib.hid fun W hW => ⟨((HB1.out.mono hW).cell 1).trans rfl, ((HB1.out.mono hW).cell 2).trans rfl, ((HB0.out.mono hW).cell 2).trans rfl, (HB0.out.mono hW).frozen 2⟩
      go_upto_region 8 with (first
        | (go_at_call 20; (with_reducible refine (HPE.out _ _ (by first | exact HLA.out | exact HFI.out)).mono ?_); rintro e W ⟨rfl, rfl⟩))
      go_cut [] from 32 to 39 (fun wx => RAdd nameC 38 2 w (fun u => [.string loc, .string off, u, .slice ps segs.length cs, .slice pp phones.length cp, .int .i64 tk, .int .i64 td, .int .i64 tm, .string recv, .slice pr remarks.length cr, .slice px seats.length cx, .bool queued]) (names ++ [(⟨nl, nf⟩ : NameT)]) wx)
      case first =>
        go_region_law (first
          | (go_simp; go_at_call 61; refine (HCT.out _ _ _ (by first | exact HPA.out | exact HPB.out) hl3).mono ?_; rintro e wC ⟨⟨vC, rfl, hoC⟩, hbC⟩; obtain ⟨pC, nC, cC, rfl⟩ := own_slice hoC; (first | (have hb5 := bel_trans HD1.out hbC; have hoL := own_low (base' := w.heap.size + 3) hoC HZ1.out) | (have hb5 := bel_trans HD2.out hbC; have hoL := own_low (base' := w.heap.size + 3) hoC HZ2.out; have hnb := (hbC.block (w.heap.size + 3) HZ3.out).trans HNB.out)); obtain ⟨tce1, tce2, tcp, tcf⟩ := HTC.out _ hb5; have hs5 := hb5.size; have hbs1 : w.heap.size + 3 ≤ (wC.alloc (.cells #[.string nl, .string nf] 38)).heap.size := (by simp; omega); have hbs2 : w.heap.size + 3 ≤ wC.heap.size := (by omega))
          | (refine step_append_lies _ (by rfl) _ _ _ (by rfl) (w.heap.size + 3) 38 i0 _ 2 32 Tryz.underlying22 hi0 hz0 hsz0 hby0 rfl (by decide) _ names.length (names.flatMap nameC) (by rfl) (World.ownsRow.alloc hoL _) ⟨wC.heap.size, 0, none⟩ 1 1 [.string nl, .string nf] (by rfl) (by rfl) (World.news_of_block (cs := #[.string nl, .string nf]) (t := 38) (fr := (0, 0)) (heap_alloc_new wC _)) (nameC_one (⟨nl, nf⟩ : NameT)) (by decide) hm1 hm2 hbs1 (wC.heap.size + 1) (by simp) ?_; intro gq cq w4 ho4 hg4 hr4 hl4; have hA0 := (HB0.out.mono hb5).alloc (.cells #[.string nl, .string nf] 38); have hA2 := (HB2.out.mono hb5).alloc (.cells #[.string nl, .string nf] 38); have hbA := bel_trans (bel_trans HB.out hb5) ((Below.refl _ _).alloc (Nat.le_refl _) (.cells #[.string nl, .string nf] 38)); have hvA := World.ownsRow.alloc hoL (.cells #[.string nl, .string nf] 38); have hx := hA0.far hg4 (own_row_ne hvA (by omega)).symm; have hxc := (hx.cell 2).trans rfl; have hxf := hx.frozen 2)
          | (refine step_append_lies _ (by rfl) _ _ _ (by rfl) (w.heap.size + 3) 38 i0 _ 2 32 Tryz.underlying22 hi0 hz0 hsz0 hby0 rfl (by decide) _ names.length (names.flatMap nameC) (by rfl) hoL ⟨w.heap.size + 3, 0, none⟩ 1 1 [.string nl, .string nf] (by rfl) (by rfl) (World.news_of_block (cs := #[.string nl, .string nf]) (t := 38) (fr := (0, 0)) hnb) (nameC_one (⟨nl, nf⟩ : NameT)) (by decide) hm1 hm2 hbs2 wC.heap.size rfl ?_; intro gq cq w4 ho4 hg4 hr4 hl4; have hA0 := HB0.out.mono hb5; have hA2 := HB2.out.mono hb5; have hbA := bel_trans HB.out hb5; have hvA := hoL; have hx := hA0.far hg4 (own_row_ne hvA (by omega)).symm; have hxc := (hx.cell 2).trans rfl; have hxf := hx.frozen 2))
        all_goals (
          go_wp2
          go_meet
          exact row_done 2 hA0 hA2 hbA hvA (Nat.le_refl _) hg4 (by rw [List.length_append, List.flatMap_append, show ([(⟨nl, nf⟩ : NameT)] : List NameT).flatMap nameC = nameC (⟨nl, nf⟩ : NameT) by simp]; exact ho4))
      case rest =>
        rename World => wx
        obtain ⟨p4, n4, c4, k0, k2, kb, kl⟩ := hcut
        have hrr := k0.range
        have HN1 := Lib.hid (pnrC_one (x := ⟨loc, off, names, segs, phones, tk, td, tm, recv, remarks, seats, queued⟩) (p1 := p4) (n1 := n4) (c1 := c4) (p2 := ps) (n2 := segs.length) (c2 := cs) (p3 := pp) (n3 := phones.length) (c3 := cp) (p4 := pr) (n4 := remarks.length) (c4 := cr) (p5 := px) (n5 := seats.length) (c5 := cx))
        go_wp2_with (first
          | (refine wpList_load_mid rfl 29 (.tmp 2) rfl w.heap.size 0 rfl _ _ hrr Tryz.underlying29 rfl info_pnr ?_)
          | (refine wpList_store_blk rfl 29 (.tmp 4) (.tmp 40) rfl (w.heap.size + 2) 29 zeroC [.string loc, .string off, .slice p4 n4 c4, .slice ps segs.length cs, .slice pp phones.length cp, .int .i64 tk, .int .i64 td, .int .i64 tm, .string recv, .slice pr remarks.length cr, .slice px seats.length cx, .bool queued] rfl rfl k2 rfl info_pnr HN1.out ?_; intro w8 hb8 hl8 hg8))
        have hW := kb.trans (below_le hl8 (by omega))
        have k := HPI.out.mono hW
        obtain ⟨q1, q2, q3, q4, q5, q6, q7⟩ := k.fit
        obtain ⟨f1, f2, f3, f4, f5⟩ := k.few
        have kz : ∀ V, Agr lo w.heap.size w8 V → HasE nameC V (.slice p4 n4 c4) (names ++ [(⟨nl, nf⟩ : NameT)]) := fun V hA => own_agr (World.ownsRow.kept kl hg8 (own_ne kl (by omega))) (by omega) hA
        have kf : (names ++ [(⟨nl, nf⟩ : NameT)]).length ≤ 1000 := by rw [List.length_append, List.length_singleton]; omega
        have kt : ∀ s ∈ names ++ [(⟨nl, nf⟩ : NameT)], s.last.size ≤ maxLen ∧ s.first.size ≤ maxLen := fun s hs => by
          rcases List.mem_append.1 hs with h1 | h1
          · exact q3 s h1
          · rw [List.mem_singleton.1 h1]; exact ⟨HLA.out, HFI.out⟩
        exact chg_back rfl rfl rfl rfl hb8 rfl hW ⟨⟨loc, off, names ++ [(⟨nl, nf⟩ : NameT)], segs, phones, tk, td, tm, recv, remarks, seats, queued⟩, _, _, _, _, _, rfl, (fun V hA => have k := (HPL.out.mono hW).agr hA; ⟨(kz V hA), k.s, k.ph, k.rm, k.x, ⟨q1, q2, kt, q4, q5, q6, q7⟩, k.wf, ⟨kf, f2, f3, f4, f5⟩⟩), rfl, rfl, (by simp only [cntP, List.length_append, List.length_singleton]; omega), fun f => ⟨all_snoc f.nm ⟨hp1, hp2⟩, f.sg, f.ph, f.rm, f.rc, f.tk, f.st⟩⟩
  have g1 : (kd == 1) = false := by simp [k1]
  clear k1
  have HSF : RowKit.Hid (∀ W, Calls Tryz.prog 21 #[.agg (segC ⟨car, num, day, cls, live⟩).toArray] W fun e w' => e = .returned (.bool (segS ⟨car, num, day, cls, live⟩)) ∧ Below W.heap.size W w') := Lib.hid fun W => segFormed_any _ W HCA.out
  have hre : w3.rangeAt (w.heap.size + 1) 3 [.string car, .int .i64 num, .int .i64 day, .int .u8 cls.toNat, .bool live] := Blk.sub HB1.out 3 _ (fun j u hj => by
    match j, hj with
    | 0, hj => exact hj
    | 1, hj => exact hj
    | 2, hj => exact hj
    | 3, hj => exact hj
    | 4, hj => exact hj)
  unfold segC at HSF
  generalize hsg0 : segS ⟨car, num, day, cls, live⟩ = sg at *
  have HSE := Lib.hid hsg0
  clear hsg0
  cases sg with
  | false =>
    go_upto_region 11 with (first
      | (refine wpList_load_mid rfl 44 _ rfl (w.heap.size + 1) 3 rfl _ _ hre Tryz.underlying44 rfl info_seg ?_)
      | (go_at_call 21; (with_reducible refine (HSF.out _).mono ?_); rintro e w4 ⟨rfl, hb4⟩; have e7 := ((HB1.out.mono hb4).cell 7).trans rfl; have hr4 := (HB0.out.mono hb4).range))
    have HO2 := HO1
    go_wp2_with (first
      | (refine wpList_load_mid rfl 29 (.tmp 2) rfl w.heap.size 0 rfl _ _ hr4 Tryz.underlying29 rfl info_pnr ?_)
      | (refine wpList_store_blk rfl 29 (.tmp 4) (.tmp 51) rfl (w.heap.size + 2) 29 zeroC [.string loc, .string off, .slice pn names.length cn, .slice ps segs.length cs, .slice pp phones.length cp, .int .i64 tk, .int .i64 td, .int .i64 tm, .string recv, .slice pr remarks.length cr, .slice px seats.length cx, .bool queued] rfl rfl (HB2.out.mono hb4) rfl info_pnr HO1.out ?_; intro w8 hb8 hl8 hg8))
    have hW := (bel_trans HB.out hb4).trans (below_le hl8 (by omega))
    exact chg_back rfl rfl rfl rfl hb8 rfl hW (HOLD.out _ hW)
  | true =>
  cases live with
  | false =>
    go_upto_region 11 with (first
      | (refine wpList_load_mid rfl 44 _ rfl (w.heap.size + 1) 3 rfl _ _ hre Tryz.underlying44 rfl info_seg ?_)
      | (go_at_call 21; (with_reducible refine (HSF.out _).mono ?_); rintro e w4 ⟨rfl, hb4⟩; have e7 := ((HB1.out.mono hb4).cell 7).trans rfl; have hr4 := (HB0.out.mono hb4).range))
    have HO2 := HO1
    go_wp2_with (first
      | (refine wpList_load_mid rfl 29 (.tmp 2) rfl w.heap.size 0 rfl _ _ hr4 Tryz.underlying29 rfl info_pnr ?_)
      | (refine wpList_store_blk rfl 29 (.tmp 4) (.tmp 51) rfl (w.heap.size + 2) 29 zeroC [.string loc, .string off, .slice pn names.length cn, .slice ps segs.length cs, .slice pp phones.length cp, .int .i64 tk, .int .i64 td, .int .i64 tm, .string recv, .slice pr remarks.length cr, .slice px seats.length cx, .bool queued] rfl rfl (HB2.out.mono hb4) rfl info_pnr HO1.out ?_; intro w8 hb8 hl8 hg8))
    have hW := (bel_trans HB.out hb4).trans (below_le hl8 (by omega))
    exact chg_back rfl rfl rfl rfl hb8 rfl hW (HOLD.out _ hW)
  | true =>
    go_upto_region 12 with (first
      | (refine wpList_load_mid rfl 44 _ rfl (w.heap.size + 1) 3 rfl _ _ hre Tryz.underlying44 rfl info_seg ?_)
      | (go_at_call 21; (with_reducible refine (HSF.out _).mono ?_); rintro e w4 ⟨rfl, hb4⟩; have e7 := ((HB1.out.mono hb4).cell 7).trans rfl; have hr4 := (HB0.out.mono hb4).range))
    have HB4 := Lib.hid hb4
    have HCK : RowKit.Hid (∀ W, Below w4.heap.size w4 W → HasE segC W (.slice ps segs.length cs) segs ∧ W.cell? ⟨w.heap.size, 3, none⟩ = some (.slice ps segs.length cs) ∧ W.cell? ⟨w.heap.size + 1, 3, none⟩ = some (.string car) ∧ W.cell? ⟨w.heap.size + 1, 4, none⟩ = some (.int .i64 num) ∧ W.cell? ⟨w.heap.size + 1, 5, none⟩ = some (.int .i64 day)) := Lib.hid fun W hW => ⟨((HPI.out.mono HB.out).s.mono (bel_trans HB4.out hW)), ((HB0.out.mono (bel_trans HB4.out hW)).cell 3).trans rfl, ((HB1.out.mono (bel_trans HB4.out hW)).cell 3).trans rfl, ((HB1.out.mono (bel_trans HB4.out hW)).cell 4).trans rfl, ((HB1.out.mono (bel_trans HB4.out hW)).cell 5).trans rfl⟩
    clear hre hr0 hr4 d0 d1 d2 d7 e7 p0 p2 p3 hb4
    generalize hNS : segs.length = NS at *
    have HNS := Lib.hid hNS
    clear hNS
    have hNSb : NS ≤ 900 := by
      rw [← HNS.out]
      have := HF.out
      unfold Room at this
      simp only at this
      omega
    go_wp2
    go_loopg [6] NS (fun g0 s6 wr => ∃ i : Nat, i ≤ NS ∧ g0 = NS - i ∧ s6 = .int .i64 (i : Int) ∧ Below w4.heap.size w4 wr)
    case atStart => exact ⟨0, Nat.zero_le _, rfl, rfl, Below.refl _ _⟩
    case round =>
      obtain ⟨i, hi, rfl, rfl, hbx⟩ := hrel
      have HBX := Lib.hid hbx
      obtain ⟨hsg, p3, e3, e4, e5⟩ := HCK.out _ hbx
      by_cases hlt : i < NS
      · have hii : (i : Int) < (NS : Int) := by omega
        have hi0 : (0 : Int) ≤ (i : Int) := by omega
        have hiN2 : i < segs.length := by rw [HNS.out]; exact hlt
        rw [← HNS.out] at hsg
        obtain ⟨bb, of2, rfl, hr, g0, g1, g2, _, g4⟩ := seg_at hsg hiN2
        rw [HNS.out] at hsg
        generalize segs.getD i sg0 = y at *
        obtain ⟨car', num', day', cls', live'⟩ := y
        simp only at g0 g1 g2 g4
        clear hr hbx
        cases live' with
        | false =>
          go_upto_region 15 with fail
          go_quiet (fail)
          go_wp2
          go_roundg (NS - (i + 1))
          case measure => omega
          case rel => exact ⟨i + 1, by omega, rfl, by go_num, below_drewN HBX.out _⟩
        | true =>
          by_cases ec : car' = car
          rotate_left
          · have hcb : (car'.toList == car.toList) = false := by rw [beq_eq_false_iff_ne]; exact fun h => ec (toList_inj h)
            clear ec
            go_upto_region 15 with fail
            go_quiet (fail)
            go_wp2
            go_roundg (NS - (i + 1))
            case measure => omega
            case rel => exact ⟨i + 1, by omega, rfl, by go_num, below_drewN HBX.out _⟩
          have hcb : (car'.toList == car.toList) = true := by rw [ec]; simp
          by_cases en : num' = num
          rotate_left
          · have hnb : (num' == num) = false := by rw [beq_eq_false_iff_ne]; exact en
            clear en
            go_upto_region 15 with fail
            go_quiet (fail)
            go_wp2
            go_roundg (NS - (i + 1))
            case measure => omega
            case rel => exact ⟨i + 1, by omega, rfl, by go_num, below_drewN HBX.out _⟩
          have hnb : (num' == num) = true := by rw [en]; simp
          by_cases ed : day' = day
          rotate_left
          · have hdb : (day' == day) = false := by rw [beq_eq_false_iff_ne]; exact ed
            clear ed
            go_upto_region 15 with fail
            go_quiet (fail)
            go_wp2
            go_roundg (NS - (i + 1))
            case measure => omega
            case rel => exact ⟨i + 1, by omega, rfl, by go_num, below_drewN HBX.out _⟩
          have hdb : (day' == day) = true := by rw [ed]; simp
          subst ec en ed
          clear hcb hnb hdb
          go_upto_region 15 with fail
          go_quiet (fail)
          rename Nat => nq
          have hbq := bel_trans HB4.out (below_drewN HBX.out nq)
          generalize wr.drewN nq = wq at *
          have hr4 := (HB0.out.mono hbq).range
          have HO2 := HO1
          go_wp2_with (first
            | (refine wpList_load_mid rfl 29 (.tmp 2) rfl w.heap.size 0 rfl _ _ hr4 Tryz.underlying29 rfl info_pnr ?_)
            | (refine wpList_store_blk rfl 29 (.tmp 4) (.tmp 77) rfl (w.heap.size + 2) 29 zeroC [.string loc, .string off, .slice pn names.length cn, .slice (some ⟨bb, of2, none⟩) NS cs, .slice pp phones.length cp, .int .i64 tk, .int .i64 td, .int .i64 tm, .string recv, .slice pr remarks.length cr, .slice px seats.length cx, .bool queued] rfl rfl (HB2.out.mono hbq) rfl info_pnr HO1.out ?_; intro w8 hb8 hl8 hg8))
          have hW := (bel_trans HB.out hbq).trans (below_le hl8 (by omega))
          exact chg_back rfl rfl rfl rfl hb8 rfl hW (HOLD.out _ hW)
      · have hn : i = NS := by omega
        subst hn
        have HBR := Lib.hid (bel_trans HB.out (bel_trans HB4.out hbx))
        have R0 := Lib.hid (HB0.out.mono (bel_trans HB4.out hbx))
        have R1 := Lib.hid (HB1.out.mono (bel_trans HB4.out hbx))
        have R2 := Lib.hid (HB2.out.mono (bel_trans HB4.out hbx))
        have hzr : w.heap.size + 3 ≤ wr.heap.size := by have := HB4.out.size; have := hbx.size; omega
        have hbw := bel_trans HB4.out hbx
        have hr4 := R0.out.range
        have hNS := HNS.out
        clear hbx HCK e3 e4 e5
        subst hNS
        by_cases k4 : segs.length ≥ 8
        · have i4 : (segs.length : Int) ≥ 8 := by omega
          have HO2 := HO1
          go_wp2_with (first
            | (refine wpList_load_mid rfl 29 (.tmp 2) rfl w.heap.size 0 rfl _ _ hr4 Tryz.underlying29 rfl info_pnr ?_)
            | (refine wpList_store_blk rfl 29 (.tmp 4) (.tmp 82) rfl (w.heap.size + 2) 29 zeroC [.string loc, .string off, .slice pn names.length cn, .slice ps segs.length cs, .slice pp phones.length cp, .int .i64 tk, .int .i64 td, .int .i64 tm, .string recv, .slice pr remarks.length cr, .slice px seats.length cx, .bool queued] rfl rfl (HB2.out.mono hbw) rfl info_pnr HO1.out ?_; intro w8 hb8 hl8 hg8))
          have hW := (bel_trans HB.out hbw).trans (below_le hl8 (by omega))
          exact chg_back rfl rfl rfl rfl hb8 rfl hW (HOLD.out _ hW)
        have i4 : ¬ (segs.length : Int) ≥ 8 := by omega
        obtain ⟨i0, hi0, hz0, hsz0, hby0⟩ := seg_tinfo
        have x3 := (R1.out.cell 3).trans rfl
        have x4 := (R1.out.cell 4).trans rfl
        have x5 := (R1.out.cell 5).trans rfl
        have x6 := (R1.out.cell 6).trans rfl
        have x7 := (R1.out.cell 7).trans rfl
        have xp := ((R0.out.alloc (.cells #[.string car, .int .i64 num, .int .i64 day, .int .u8 cls.toNat, .bool true] 44)).cell 3).trans rfl
        have hll : segs.length ≤ 900 := by have := HF.out; unfold Room at this; simp only at this; omega
        have hm1 : segs.length + 1 ≤ maxLen := by unfold maxLen; omega
        have hm2 : (segs.length + 1) * 40 ≤ 140737488355328 := by omega
        have hl3 : segs.length ≤ 1000 := by omega
        have HCT : RowKit.Hid (∀ v l W, HasE segC W v l → l.length ≤ 1000 → Calls Tryz.prog 64 #[v] W fun e w' => (∃ v', e = .returned v' ∧ w'.ownsRow W.heap.size 44 5 v' l.length (l.flatMap segC)) ∧ Below W.heap.size W w') := Lib.hid fun v l W h1 h2 => copySegs_any v l W h1 h2
        have HPA : RowKit.Hid (HasE segC wr.drew (.slice ps segs.length cs) segs) := Lib.hid ((HPI.out.mono HBR.out).s.mono (Below.refl _ _).drew)
        have HPB : RowKit.Hid (HasE segC (wr.alloc (.cells #[.string car, .int .i64 num, .int .i64 day, .int .u8 cls.toNat, .bool true] 44)).drew (.slice ps segs.length cs) segs) := Lib.hid ((HPI.out.mono HBR.out).s.mono ((Below.refl _ _).alloc (Nat.le_refl _) _).drew)
        have HD1 : RowKit.Hid (Below wr.heap.size wr wr.drew) := Lib.hid (Below.refl _ _).drew
        have HD2 : RowKit.Hid (Below wr.heap.size wr (wr.alloc (.cells #[.string car, .int .i64 num, .int .i64 day, .int .u8 cls.toNat, .bool true] 44)).drew) := Lib.hid ((Below.refl _ _).alloc (Nat.le_refl _) _).drew
        have HZ1 : RowKit.Hid (w.heap.size + 3 ≤ wr.drew.heap.size) := Lib.hid (by simp <;> omega)
        have HZ2 : RowKit.Hid (w.heap.size + 3 ≤ (wr.alloc (.cells #[.string car, .int .i64 num, .int .i64 day, .int .u8 cls.toNat, .bool true] 44)).drew.heap.size) := Lib.hid (by simp <;> omega)
        have HZ3 : RowKit.Hid (wr.heap.size < (wr.alloc (.cells #[.string car, .int .i64 num, .int .i64 day, .int .u8 cls.toNat, .bool true] 44)).drew.heap.size) := Lib.hid (by simp <;> omega)
        have HNB : RowKit.Hid ((wr.alloc (.cells #[.string car, .int .i64 num, .int .i64 day, .int .u8 cls.toNat, .bool true] 44)).drew.heap[wr.heap.size]? = some (.cells #[.string car, .int .i64 num, .int .i64 day, .int .u8 cls.toNat, .bool true] 44 (0, 0))) := Lib.hid (by exact heap_alloc_new wr _)
        have HTC : RowKit.Hid (∀ W, Below wr.heap.size wr W → W.cell? ⟨w.heap.size + 1, 3, none⟩ = some (.string car) ∧ W.cell? ⟨w.heap.size + 1, 4, none⟩ = some (.int .i64 num) ∧ W.cell? ⟨w.heap.size + 1, 5, none⟩ = some (.int .i64 day) ∧ W.cell? ⟨w.heap.size + 1, 6, none⟩ = some (.int .u8 cls.toNat) ∧ W.cell? ⟨w.heap.size + 1, 7, none⟩ = some (.bool true) ∧ W.cell? ⟨w.heap.size, 3, none⟩ = some (.slice ps segs.length cs) ∧ W.frozen? ⟨w.heap.size, 3, none⟩ = false) := Lib.hid fun W hW => ⟨((R1.out.mono hW).cell 3).trans rfl, ((R1.out.mono hW).cell 4).trans rfl, ((R1.out.mono hW).cell 5).trans rfl, ((R1.out.mono hW).cell 6).trans rfl, ((R1.out.mono hW).cell 7).trans rfl, ((R0.out.mono hW).cell 3).trans rfl, (R0.out.mono hW).frozen 3⟩
        go_upto_region 19 with fail
        go_cut [] from 83 to 90 (fun wx => RAdd segC 44 5 w (fun u => [.string loc, .string off, .slice pn names.length cn, u, .slice pp phones.length cp, .int .i64 tk, .int .i64 td, .int .i64 tm, .string recv, .slice pr remarks.length cr, .slice px seats.length cx, .bool queued]) (segs ++ [(⟨car, num, day, cls, true⟩ : SegT)]) wx)
        case first =>
          go_region_law (first
            | (go_simp; go_at_call 64; refine (HCT.out _ _ _ (by first | exact HPA.out | exact HPB.out) hl3).mono ?_; rintro e wC ⟨⟨vC, rfl, hoC⟩, hbC⟩; obtain ⟨pC, nC, cC, rfl⟩ := own_slice hoC; (first | (have hb5 := bel_trans HD1.out hbC; have hoL := own_low (base' := w.heap.size + 3) hoC HZ1.out) | (have hb5 := bel_trans HD2.out hbC; have hoL := own_low (base' := w.heap.size + 3) hoC HZ2.out; have hnb := (hbC.block (wr.heap.size) HZ3.out).trans HNB.out)); obtain ⟨tce3, tce4, tce5, tce6, tce7, tcp, tcf⟩ := HTC.out _ hb5; have hs5 := hb5.size; have hbs1 : w.heap.size + 3 ≤ (wC.alloc (.cells #[.string car, .int .i64 num, .int .i64 day, .int .u8 cls.toNat, .bool true] 44)).heap.size := (by simp; omega); have hbs2 : w.heap.size + 3 ≤ wC.heap.size := (by omega))
            | (refine step_append_lies _ (by rfl) _ _ _ (by rfl) (w.heap.size + 3) 44 i0 _ 5 40 Tryz.underlying23 hi0 hz0 hsz0 hby0 rfl (by decide) _ segs.length (segs.flatMap segC) (by rfl) (World.ownsRow.alloc hoL _) ⟨wC.heap.size, 0, none⟩ 1 1 [.string car, .int .i64 num, .int .i64 day, .int .u8 cls.toNat, .bool true] (by rfl) (by rfl) (World.news_of_block (cs := #[.string car, .int .i64 num, .int .i64 day, .int .u8 cls.toNat, .bool true]) (t := 44) (fr := (0, 0)) (heap_alloc_new wC _)) (segC_one (⟨car, num, day, cls, true⟩ : SegT)) (by decide) hm1 hm2 hbs1 (wC.heap.size + 1) (by simp) ?_; intro gq cq w4 ho4 hg4 hr4 hl4; have hA0 := (R0.out.mono hb5).alloc (.cells #[.string car, .int .i64 num, .int .i64 day, .int .u8 cls.toNat, .bool true] 44); have hA2 := (R2.out.mono hb5).alloc (.cells #[.string car, .int .i64 num, .int .i64 day, .int .u8 cls.toNat, .bool true] 44); have hbA := bel_trans (bel_trans HBR.out hb5) ((Below.refl _ _).alloc (Nat.le_refl _) (.cells #[.string car, .int .i64 num, .int .i64 day, .int .u8 cls.toNat, .bool true] 44)); have hvA := World.ownsRow.alloc hoL (.cells #[.string car, .int .i64 num, .int .i64 day, .int .u8 cls.toNat, .bool true] 44); have hx := hA0.far hg4 (own_row_ne hvA (by omega)).symm; have hxc := (hx.cell 3).trans rfl; have hxf := hx.frozen 3)
            | (refine step_append_lies _ (by rfl) _ _ _ (by rfl) (w.heap.size + 3) 44 i0 _ 5 40 Tryz.underlying23 hi0 hz0 hsz0 hby0 rfl (by decide) _ segs.length (segs.flatMap segC) (by rfl) hoL ⟨wr.heap.size, 0, none⟩ 1 1 [.string car, .int .i64 num, .int .i64 day, .int .u8 cls.toNat, .bool true] (by rfl) (by rfl) (World.news_of_block (cs := #[.string car, .int .i64 num, .int .i64 day, .int .u8 cls.toNat, .bool true]) (t := 44) (fr := (0, 0)) hnb) (segC_one (⟨car, num, day, cls, true⟩ : SegT)) (by decide) hm1 hm2 hbs2 wC.heap.size rfl ?_; intro gq cq w4 ho4 hg4 hr4 hl4; have hA0 := R0.out.mono hb5; have hA2 := R2.out.mono hb5; have hbA := bel_trans HBR.out hb5; have hvA := hoL; have hx := hA0.far hg4 (own_row_ne hvA (by omega)).symm; have hxc := (hx.cell 3).trans rfl; have hxf := hx.frozen 3))
          all_goals (
            go_wp2
            go_meet
            exact row_done 3 hA0 hA2 hbA hvA (Nat.le_refl _) hg4 (by rw [List.length_append, List.flatMap_append, show ([(⟨car, num, day, cls, true⟩ : SegT)] : List SegT).flatMap segC = segC (⟨car, num, day, cls, true⟩ : SegT) by simp]; exact ho4))
        case rest =>
          rename World => wx
          obtain ⟨p4, n4, c4, k0, k2, kb, kl⟩ := hcut
          have hrr := k0.range
          have HN1 := Lib.hid (pnrC_one (x := ⟨loc, off, names, segs, phones, tk, td, tm, recv, remarks, seats, queued⟩) (p1 := pn) (n1 := names.length) (c1 := cn) (p2 := p4) (n2 := n4) (c2 := c4) (p3 := pp) (n3 := phones.length) (c3 := cp) (p4 := pr) (n4 := remarks.length) (c4 := cr) (p5 := px) (n5 := seats.length) (c5 := cx))
          go_wp2_with (first
            | (refine wpList_load_mid rfl 29 (.tmp 2) rfl w.heap.size 0 rfl _ _ hrr Tryz.underlying29 rfl info_pnr ?_)
            | (refine wpList_store_blk rfl 29 (.tmp 4) (.tmp 91) rfl (w.heap.size + 2) 29 zeroC [.string loc, .string off, .slice pn names.length cn, .slice p4 n4 c4, .slice pp phones.length cp, .int .i64 tk, .int .i64 td, .int .i64 tm, .string recv, .slice pr remarks.length cr, .slice px seats.length cx, .bool queued] rfl rfl k2 rfl info_pnr HN1.out ?_; intro w8 hb8 hl8 hg8))
          have hW := kb.trans (below_le hl8 (by omega))
          have k := HPI.out.mono hW
          obtain ⟨q1, q2, q3, q4, q5, q6, q7⟩ := k.fit
          obtain ⟨f1, f2, f3, f4, f5⟩ := k.few
          have kz : ∀ V, Agr lo w.heap.size w8 V → HasE segC V (.slice p4 n4 c4) (segs ++ [(⟨car, num, day, cls, true⟩ : SegT)]) := fun V hA => own_agr (World.ownsRow.kept kl hg8 (own_ne kl (by omega))) (by omega) hA
          have kf : (segs ++ [(⟨car, num, day, cls, true⟩ : SegT)]).length ≤ 1000 := by rw [List.length_append, List.length_singleton]; omega
          have kt : ∀ s ∈ segs ++ [(⟨car, num, day, cls, true⟩ : SegT)], s.car.size ≤ maxLen := fun s hs => by
            rcases List.mem_append.1 hs with h1 | h1
            · exact q4 s h1
            · rw [List.mem_singleton.1 h1]; exact HCA.out
          exact chg_back rfl rfl rfl rfl hb8 rfl hW ⟨⟨loc, off, names, segs ++ [(⟨car, num, day, cls, true⟩ : SegT)], phones, tk, td, tm, recv, remarks, seats, queued⟩, _, _, _, _, _, rfl, (fun V hA => have k := (HPL.out.mono hW).agr hA; ⟨k.n, (kz V hA), k.ph, k.rm, k.x, ⟨q1, q2, q3, kt, q5, q6, q7⟩, k.wf, ⟨f1, kf, f3, f4, f5⟩⟩), rfl, rfl, (by simp only [cntP, List.length_append, List.length_singleton]; omega), fun f => ⟨f.nm, all_snoc f.sg (segS_ok HSE.out), f.ph, f.rm, f.rc, f.tk, f.st⟩⟩
end Go.Proofs.YtmhhbnnjilbdnaaGreatDoor
