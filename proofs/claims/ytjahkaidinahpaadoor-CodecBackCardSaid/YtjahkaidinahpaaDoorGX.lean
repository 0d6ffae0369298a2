/- The law CodecBack: the walk. -/
import Derived.Test.YtjahkaidinahpaaDoorGU
import Derived.Test.YtjahkaidinahpaaDoorGW
import Derived.Test.YtjahkaidinahpaaDoorGV
import Derived.Test.YtjahkaidinahpaaDoorGJ
import Derived.Test.YtjahkaidinahpaaDoorGC
namespace Go.Proofs.YtjahkaidinahpaaDoor
open Go.RowKit Go.ChangeMaps
set_option linter.unusedSimpArgs false
set_option linter.unusedVariables false
set_option maxRecDepth 20000

def smallB (p : PnrT) : Bool := decide (p.names.length ≤ 60 ∧ p.segs.length ≤ 60 ∧ p.phones.length ≤ 60 ∧ p.remarks.length ≤ 60 ∧ p.seats.length ≤ 200)

set_option maxHeartbeats 8000000 in
theorem smallP_any (p : PnrT) (vn vs vp vr vx : Value) (w : World) (h : PIn0 w p vn vs vp vr vx) :
    Calls Tryd.prog 14 #[.agg (pnrC p vn vs vp vr vx).toArray] w fun e w' => e = .returned (.bool (smallB p)) ∧ Below w.heap.size w w' := by
  have hbk := Blk.new w 29 (pnrC p vn vs vp vr vx)
  have hb1 : Below w.heap.size w (w.alloc (.cells (pnrC p vn vs vp vr vx).toArray 29)) := (Below.refl _ _).alloc (Nat.le_refl _) _
  have HYES : RowKit.Hid (p.names.length ≤ 60 ∧ p.segs.length ≤ 60 ∧ p.phones.length ≤ 60 ∧ p.remarks.length ≤ 60 ∧ p.seats.length ≤ 200 → smallB p = true) := Lib.hid fun h => decide_eq_true h
  have HNO : RowKit.Hid (¬ (p.names.length ≤ 60 ∧ p.segs.length ≤ 60 ∧ p.phones.length ≤ 60 ∧ p.remarks.length ≤ 60 ∧ p.seats.length ≤ 200) → smallB p = false) := Lib.hid fun h => decide_eq_false h
  generalize smallB p = sb at *
  obtain ⟨pn, cn, rfl⟩ := h.n.len
  obtain ⟨ps, cs, rfl⟩ := h.s.len
  obtain ⟨pp, cp, rfl⟩ := own_len h.ph
  obtain ⟨pr, cr, rfl⟩ := own_len h.rm
  obtain ⟨px, cx, rfl⟩ := h.x.len
  unfold pnrC at hbk hb1 ⊢
  have HB := Lib.hid hb1
  have HBK := Lib.hid hbk
  clear h hbk hb1
  generalize p.names.length = a1 at *
  generalize p.segs.length = a2 at *
  generalize p.phones.length = a3 at *
  generalize p.remarks.length = a4 at *
  generalize p.seats.length = a5 at *
  go_enter Tryd.func14, Tryd.ntmps14
  go_upto_region 1 with fail
  generalize w.alloc (.cells #[.string p.loc, .string p.off, .slice pn a1 cn, .slice ps a2 cs, .slice pp a3 cp, .int .i64 p.tk, .int .i64 p.td, .int .i64 p.tm, .string p.recv, .slice pr a4 cr, .slice px a5 cx, .bool p.queued] 29) = w1 at *
  have c2 : w1.cell? ⟨w.heap.size, 2, none⟩ = some (.slice pn a1 cn) := (HBK.out.cell 2).trans rfl
  have c3 : w1.cell? ⟨w.heap.size, 3, none⟩ = some (.slice ps a2 cs) := (HBK.out.cell 3).trans rfl
  have c4 : w1.cell? ⟨w.heap.size, 4, none⟩ = some (.slice pp a3 cp) := (HBK.out.cell 4).trans rfl
  have c9 : w1.cell? ⟨w.heap.size, 9, none⟩ = some (.slice pr a4 cr) := (HBK.out.cell 9).trans rfl
  have c10 : w1.cell? ⟨w.heap.size, 10, none⟩ = some (.slice px a5 cx) := (HBK.out.cell 10).trans rfl
  by_cases h1 : a1 ≤ 60
  rotate_left
  · have hf := Lib.hid (HNO.out fun k => h1 k.1)
    have hi : ¬ (a1 : Int) ≤ 60 := by omega
    go_wp2
    go_ret
    exact ⟨ret_bool (by rw [hf.out]; try simp), HB.out⟩
  have i1 : (a1 : Int) ≤ 60 := by omega
  by_cases h2 : a2 ≤ 60
  rotate_left
  · have hf := Lib.hid (HNO.out fun k => h2 k.2.1)
    have hi : ¬ (a2 : Int) ≤ 60 := by omega
    go_wp2
    go_ret
    exact ⟨ret_bool (by rw [hf.out]; try simp), HB.out⟩
  have i2 : (a2 : Int) ≤ 60 := by omega
  by_cases h3 : a3 ≤ 60
  rotate_left
  · have hf := Lib.hid (HNO.out fun k => h3 k.2.2.1)
    have hi : ¬ (a3 : Int) ≤ 60 := by omega
    go_wp2
    go_ret
    exact ⟨ret_bool (by rw [hf.out]; try simp), HB.out⟩
  have i3 : (a3 : Int) ≤ 60 := by omega
  by_cases h4 : a4 ≤ 60
  rotate_left
  · have hf := Lib.hid (HNO.out fun k => h4 k.2.2.2.1)
    have hi : ¬ (a4 : Int) ≤ 60 := by omega
    go_wp2
    go_ret
    exact ⟨ret_bool (by rw [hf.out]; try simp), HB.out⟩
  have i4 : (a4 : Int) ≤ 60 := by omega
  by_cases h5 : a5 ≤ 200
  · have ht := Lib.hid (HYES.out ⟨h1, h2, h3, h4, h5⟩)
    have i5 : (a5 : Int) ≤ 200 := by omega
    go_wp2
    go_ret
    exact ⟨ret_bool (by rw [ht.out]; try simp [h5]), HB.out⟩
  · have hf := Lib.hid (HNO.out fun k => h5 k.2.2.2.2)
    have hi : ¬ (a5 : Int) ≤ 200 := by omega
    go_wp2
    go_ret
    exact ⟨ret_bool (by rw [hf.out]; try simp [h5]), HB.out⟩
/-- A part of CodecBack, whatever comes of it: the world is below. -/
def OnlyB (w1 wx : World) : Prop := Below w1.heap.size w1 wx

theorem by_none {B : Nat} {o : Option (List UInt8)} (ho : o = none) {e : Ending} {w : World} (h : byP B o e w) : e = .returned (.tuple #[.slice none 0 0, .int .i64 4]) := by
  rcases h with ⟨bs, v, h1, _⟩ | ⟨_, h1⟩
  · rw [ho] at h1; cases h1
  · exact h1

theorem pnrB_len {p : PnrT} (h : SoundP p) : (pnrB p).length ≤ 20000 := by
  have k := short_of h
  have f := flat_le (l := p.seats) (f := placeB) (k := 3) fun x hx => by rw [placeB_len x]; exact Nat.le_refl _
  have := k.a13
  have := k.few.2.2.2.2
  rw [q_all, List.length_append]
  omega

theorem legB_len {s : List SoldT} {h : List HeldT} (k : SoundL s h) : (legB s h).length ≤ 20000 := by
  have h1 := k.1
  have h2 := k.2.1
  have f1 := flat_le (l := s) (f := soldB) (k := 3) fun x hx => soldB_len (k.2.2.1.one hx)
  have f2 := flat_le (l := h) (f := heldB) (k := 6) fun x hx => by rw [heldB_len x]; exact Nat.le_refl _
  have v1 := varL_len 1 s.length (by omega)
  have v2 := varL_len 1 h.length (by omega)
  unfold legB
  simp only [List.length_append, List.length_cons]
  omega

theorem queueF_len {l : List (List UInt8)} {b : List UInt8} (h : queueF l = some b) : b.length ≤ 20000 := by
  unfold queueF at h
  by_cases hc : l.length ≤ 40 ∧ (l.all fun s => lettersS s 6 6) = true ∧ l.Nodup
  · rw [if_pos hc] at h
    injection h with h
    have f := flat_le (l := l) (f := fun s => beL (numN (valL s)) 4) (k := 4) fun x hx => by rw [beL_len]; exact Nat.le_refl _
    have v := varL_len 1 l.length (by omega)
    rw [← h]
    simp only [List.length_append, List.length_cons]
    omega
  · rw [if_neg hc] at h; cases h

theorem countF_len {n m : Int} {b : List UInt8} (h : countF n m = some b) : b.length ≤ 20000 := by
  unfold countF at h
  by_cases hc : 0 ≤ n ∧ n ≤ 308915776 ∧ 0 ≤ m ∧ m < 527040
  · rw [if_pos hc] at h
    injection h with h
    have v1 := varL_len 9 n.toNat (by omega)
    have v2 := varL_len 9 m.toNat (by omega)
    rw [← h]
    simp only [List.length_append, List.length_cons]
    omega
  · rw [if_neg hc] at h; cases h

theorem leg_form {args : Array Value} {s : List SoldT} {h : List HeldT} {W : World} (k : Calls Tryd.prog 34 args W fun e w' => (∃ vs' vh', e = .returned (.agg #[vs', vh']) ∧ HasE soldC w' vs' s ∧ HasE heldC w' vh' h) ∧ Below W.heap.size W w') :
    Calls Tryd.prog 34 args W fun e w' => (∃ p1 n1 c1' p2 n2 c2', e = .returned (.agg #[.slice p1 n1 c1', .slice p2 n2 c2']) ∧ HasE soldC w' (.slice p1 n1 c1') s ∧ HasE heldC w' (.slice p2 n2 c2') h) ∧ Below W.heap.size W w' := by
  refine k.mono ?_
  rintro e w' ⟨⟨vs', vh', h1, h2, h3⟩, h4⟩
  obtain ⟨p1, c1, rfl⟩ := h2.len
  obtain ⟨p2, c2, rfl⟩ := h3.len
  exact ⟨⟨_, _, _, _, _, _, h1, h2, h3⟩, h4⟩

set_option maxHeartbeats 64000000 in
theorem codecBack_walk (v0 : Value) (p : PnrT) (v1 : Value) (l : List SoldT × List HeldT) (v2 : Value) (q : List ByteArray) (v3 : Value) (c : Int × Int) (w : World) (h0 : PnrIn w v0 p) (h1 : LegIn w v1 l) (h2 : Texts w v2 q) (h3 : CountIn w v3 c) :
    Calls Tryd.prog 11 #[v0, v1, v2, v3] w fun e w' => e = .returned (.bool true) ∧ Below w.heap.size w w' := by
  obtain ⟨vn, vs, vp, vr, vx, rfl, hp⟩ := h0
  obtain ⟨s, hl⟩ := l
  obtain ⟨vs1, vh1, rfl, hs, hh, hz⟩ := h1
  obtain ⟨hq, _, hqs⟩ := h2
  obtain ⟨c1, c2⟩ := c
  have h3' : v3 = .agg #[.int .i64 c1, .int .i64 c2] := h3
  subst h3'
  simp only at hs hh hz
  obtain ⟨pn, cn, rfl⟩ := hp.n.len
  obtain ⟨ps, cs, rfl⟩ := hp.s.len
  obtain ⟨pp, cp, rfl⟩ := own_len hp.ph
  obtain ⟨pr, cr, rfl⟩ := own_len hp.rm
  obtain ⟨px, cx, rfl⟩ := hp.x.len
  obtain ⟨ls, ds, rfl⟩ := HasE.len hs
  obtain ⟨lh, dh, rfl⟩ := hh.len
  obtain ⟨qp, qc, rfl⟩ := own_len hq
  have hAP : Below w.heap.size w (w.alloc (.cells (pnrC p (.slice pn p.names.length cn) (.slice ps p.segs.length cs) (.slice pp p.phones.length cp) (.slice pr p.remarks.length cr) (.slice px p.seats.length cx)).toArray 29)) := (Below.refl _ _).alloc (Nat.le_refl _) _
  have hB0 := Blk.new w 29 (pnrC p (.slice pn p.names.length cn) (.slice ps p.segs.length cs) (.slice pp p.phones.length cp) (.slice pr p.remarks.length cr) (.slice px p.seats.length cx))
  have hz1 : (w.alloc (.cells (pnrC p (.slice pn p.names.length cn) (.slice ps p.segs.length cs) (.slice pp p.phones.length cp) (.slice pr p.remarks.length cr) (.slice px p.seats.length cx)).toArray 29)).heap.size = w.heap.size + 1 := by simp
  unfold pnrC at hAP hB0 hz1 ⊢
  generalize hwa : w.alloc (.cells #[.string p.loc, .string p.off, .slice pn p.names.length cn, .slice ps p.segs.length cs, .slice pp p.phones.length cp, .int .i64 p.tk, .int .i64 p.td, .int .i64 p.tm, .string p.recv, .slice pr p.remarks.length cr, .slice px p.seats.length cx, .bool p.queued] 29) = wa at hAP hB0 hz1
  have hAL : Below wa.heap.size wa (wa.alloc (.cells #[.slice ls s.length ds, .slice lh hl.length dh] 88)) := (Below.refl _ _).alloc (Nat.le_refl _) _
  have hB1 := Blk.new wa 88 [.slice ls s.length ds, .slice lh hl.length dh]
  have hz2 : (wa.alloc (.cells #[.slice ls s.length ds, .slice lh hl.length dh] 88)).heap.size = wa.heap.size + 1 := by simp
  generalize hwb : wa.alloc (.cells #[.slice ls s.length ds, .slice lh hl.length dh] 88) = wb at hAL hz2
  rw [show ([.slice ls s.length ds, .slice lh hl.length dh] : List Value).toArray = #[.slice ls s.length ds, .slice lh hl.length dh] from rfl, hwb] at hB1
  have hAC : Below wb.heap.size wb (wb.alloc (.cells #[.int .i64 c1, .int .i64 c2] 58)) := (Below.refl _ _).alloc (Nat.le_refl _) _
  have hB2 := Blk.new wb 58 [.int .i64 c1, .int .i64 c2]
  generalize hwc : wb.alloc (.cells #[.int .i64 c1, .int .i64 c2] 58) = w1 at hAC
  rw [show ([.int .i64 c1, .int .i64 c2] : List Value).toArray = #[.int .i64 c1, .int .i64 c2] from rfl, hwc] at hB2
  have hb01 : Below w.heap.size w w1 := bel_trans (bel_trans hAP hAL) hAC
  have HB01 := Lib.hid hb01
  have HP0 := Lib.hid ((hB0.mono hAL).mono hAC)
  have HP1 := Lib.hid (hB1.mono hAC)
  have HP2 := Lib.hid hB2
  have HPI : RowKit.Hid (∀ W, Below w1.heap.size w1 W → PIn0 W p (.slice pn p.names.length cn) (.slice ps p.segs.length cs) (.slice pp p.phones.length cp) (.slice pr p.remarks.length cr) (.slice px p.seats.length cx)) := Lib.hid fun W h => by
    have hw := below_w HB01.out h
    exact ⟨hp.n.mono hw, hp.s.mono hw, hp.ph.mono hw, hp.rm.mono hw, hp.x.mono hw, hp.fit, hp.wf⟩
  have HSM : RowKit.Hid (∀ W, Below w1.heap.size w1 W → Calls Tryd.prog 14 #[.agg #[.string p.loc, .string p.off, .slice pn p.names.length cn, .slice ps p.segs.length cs, .slice pp p.phones.length cp, .int .i64 p.tk, .int .i64 p.td, .int .i64 p.tm, .string p.recv, .slice pr p.remarks.length cr, .slice px p.seats.length cx, .bool p.queued]] W fun e w' => e = .returned (.bool (smallB p)) ∧ Below W.heap.size W w') := Lib.hid fun W h => smallP_any p _ _ _ _ _ W (HPI.out W h)
  have HLE : RowKit.Hid (∀ W, Below w1.heap.size w1 W → HasE soldC W (.slice ls s.length ds) s ∧ HasE heldC W (.slice lh hl.length dh) hl) := Lib.hid fun W h => ⟨HasE.mono hs (below_w HB01.out h), hh.mono (below_w HB01.out h)⟩
  have HQL : RowKit.Hid (∀ W, Below w1.heap.size w1 W → HasL W (.slice qp q.length qc) q) := Lib.hid fun W h => hq.mono (below_w HB01.out h)
  have HAW := Lib.hid awake_any
  have hrr : ∀ W, Below w1.heap.size w1 W → W.rangeAt w.heap.size 0 [.string p.loc, .string p.off, .slice pn p.names.length cn, .slice ps p.segs.length cs, .slice pp p.phones.length cp, .int .i64 p.tk, .int .i64 p.td, .int .i64 p.tm, .string p.recv, .slice pr p.remarks.length cr, .slice px p.seats.length cx, .bool p.queued] := fun W h => (HP0.out.mono h).range
  have HRR := Lib.hid hrr
  have HCE : RowKit.Hid (∀ W, Below w1.heap.size w1 W → (W.cell? ⟨wa.heap.size, 0, none⟩ = some (.slice ls s.length ds) ∧ W.cell? ⟨wa.heap.size, 1, none⟩ = some (.slice lh hl.length dh)) ∧ W.cell? ⟨wb.heap.size, 0, none⟩ = some (.int .i64 c1) ∧ W.cell? ⟨wb.heap.size, 1, none⟩ = some (.int .i64 c2)) := Lib.hid fun W h => ⟨⟨((HP1.out.mono h).cell 0).trans rfl, ((HP1.out.mono h).cell 1).trans rfl⟩, ((HP2.out.mono h).cell 0).trans rfl, ((HP2.out.mono h).cell 1).trans rfl⟩
  have HHZ := Lib.hid hz
  have HQS := Lib.hid hqs
  have HSB : RowKit.Hid (smallB p = true → p.names.length ≤ 1000 ∧ p.segs.length ≤ 1000 ∧ p.phones.length ≤ 1000 ∧ p.remarks.length ≤ 1000 ∧ p.seats.length ≤ 1000) := Lib.hid fun h => by
    have h := of_decide_eq_true h
    omega
  generalize smallB p = sm at *
  clear hp hs hh hz hq hqs hrr hAP hB0 hAL hB1 hAC hB2 hb01 hz1 hz2 h3
  have HST0 : RowKit.Hid (∀ W, Below w1.heap.size w1 W → Below w.heap.size w W) := Lib.hid fun W h => below_w HB01.out h
  cases sm with
  | false =>
    go_enter Tryd.func11, Tryd.ntmps11
    go_upto_region 1 with fail
    try rw [hwa, hwb, hwc]
    clear hwa hwb hwc
    go_wp2_with (first
      | (go_at_call 13; (with_reducible refine (HAW.out _).mono ?_); rintro e w2 ⟨rfl, hb2⟩; have hr2 := HRR.out w2 hb2)
      | (refine wpList_load_mid rfl 29 (.tmp 4) rfl w.heap.size 0 rfl _ _ hr2 Tryd.underlying29 rfl info_pnr ?_)
      | (go_at_call 14; (with_reducible refine (HSM.out _ hb2).mono ?_); rintro e w3 ⟨rfl, hb3⟩))
    go_ret
    exact ⟨rfl, HST0.out _ (bel_trans hb2 hb3)⟩
  | true =>
    have hfew := HSB.out rfl
    have HPF : RowKit.Hid (∀ W, Below w1.heap.size w1 W → PIn W p (.slice pn p.names.length cn) (.slice ps p.segs.length cs) (.slice pp p.phones.length cp) (.slice pr p.remarks.length cr) (.slice px p.seats.length cx)) := Lib.hid fun W h => PIn.of0 (HPI.out W h) hfew
    clear hfew HPI HSB
    go_enter Tryd.func11, Tryd.ntmps11
    go_upto_region 1 with fail
    try rw [hwa, hwb, hwc]
    clear hwa hwb hwc
    generalize wa.heap.size = gl at *
    generalize wb.heap.size = gc at *
    go_upto_region 3 with (first
      | (go_at_call 13; (with_reducible refine (HAW.out _).mono ?_); rintro e w2 ⟨rfl, hb2⟩; have hr2 := HRR.out w2 hb2))
    have HB2 := Lib.hid hb2
    clear hb2
    by_cases k1 : 100 < s.length
    · have i1 : (100 : Int) < (s.length : Int) := by omega
      clear k1
      go_wp2_with (first
        | (refine wpList_load_mid rfl 29 (.tmp 4) rfl w.heap.size 0 rfl _ _ hr2 Tryd.underlying29 rfl info_pnr ?_)
        | (go_at_call 14; (with_reducible refine (HSM.out _ HB2.out).mono ?_); rintro e w3 ⟨rfl, hb3⟩; obtain ⟨⟨x0, x1⟩, y0, y1⟩ := HCE.out w3 (bel_trans HB2.out hb3)))
      go_ret
      exact ⟨rfl, HST0.out _ (bel_trans HB2.out hb3)⟩
    have i1 : ¬ (100 : Int) < (s.length : Int) := by omega
    by_cases k2 : 700 < hl.length
    · have i2 : (700 : Int) < (hl.length : Int) := by omega
      clear k1 k2
      go_wp2_with (first
        | (refine wpList_load_mid rfl 29 (.tmp 4) rfl w.heap.size 0 rfl _ _ hr2 Tryd.underlying29 rfl info_pnr ?_)
        | (go_at_call 14; (with_reducible refine (HSM.out _ HB2.out).mono ?_); rintro e w3 ⟨rfl, hb3⟩; obtain ⟨⟨x0, x1⟩, y0, y1⟩ := HCE.out w3 (bel_trans HB2.out hb3)))
      go_ret
      exact ⟨rfl, HST0.out _ (bel_trans HB2.out hb3)⟩
    have i2 : ¬ (700 : Int) < (hl.length : Int) := by omega
    by_cases k3 : 100 < q.length
    · have i3 : (100 : Int) < (q.length : Int) := by omega
      clear k1 k2 k3
      go_wp2_with (first
        | (refine wpList_load_mid rfl 29 (.tmp 4) rfl w.heap.size 0 rfl _ _ hr2 Tryd.underlying29 rfl info_pnr ?_)
        | (go_at_call 14; (with_reducible refine (HSM.out _ HB2.out).mono ?_); rintro e w3 ⟨rfl, hb3⟩; obtain ⟨⟨x0, x1⟩, y0, y1⟩ := HCE.out w3 (bel_trans HB2.out hb3)))
      go_ret
      exact ⟨rfl, HST0.out _ (bel_trans HB2.out hb3)⟩
    have i3 : ¬ (100 : Int) < (q.length : Int) := by omega
    go_upto_region 5 with (first
      | (refine wpList_load_mid rfl 29 (.tmp 4) rfl w.heap.size 0 rfl _ _ hr2 Tryd.underlying29 rfl info_pnr ?_)
      | (go_at_call 14; (with_reducible refine (HSM.out _ HB2.out).mono ?_); rintro e w3 ⟨rfl, hb3⟩; obtain ⟨⟨x0, x1⟩, y0, y1⟩ := HCE.out w3 (bel_trans HB2.out hb3)))
    have H3 := Lib.hid (bel_trans HB2.out hb3)
    have hr3 := HRR.out _ H3.out
    have HK1 := Lib.hid k1
    have HK2 := Lib.hid k2
    have HK3 := Lib.hid k3
    clear hb3 HB2 hr2 x0 x1 y0 y1 i1 i2 i3 k1 k2 k3 HSM HAW
    rcases Classical.em (SoundP p) with hsp | hsp
    focus (
      have HWP : RowKit.Hid (∀ W, Below w1.heap.size w1 W → Calls Tryd.prog 39 #[.agg #[.string p.loc, .string p.off, .slice pn p.names.length cn, .slice ps p.segs.length cs, .slice pp p.phones.length cp, .int .i64 p.tk, .int .i64 p.td, .int .i64 p.tm, .string p.recv, .slice pr p.remarks.length cr, .slice px p.seats.length cx, .bool p.queued]] W fun e w' => (∃ p' n' c', e = .returned (.tuple #[.slice p' n' c', .int .i64 0]) ∧ HasE byteC w' (.slice p' n' c') (pnrB p)) ∧ Below W.heap.size W w') := Lib.hid fun W h => (pnr_any p _ _ _ _ _ W (HPF.out W h)).mono fun e w' k => ⟨by_some (pnrF_yes hsp) k.1, k.2⟩
      have HRP : RowKit.Hid (∀ W v, HasE byteC W v (pnrB p) → Calls Tryd.prog 40 #[v] W fun e w' => (∃ p1 n1 c1' p2 n2 c2' p3 n3 c3' p4 n4 c4' p5 n5 c5', e = .returned (.tuple #[.agg #[.string p.loc, .string p.off, .slice p1 n1 c1' , .slice p2 n2 c2', .slice p3 n3 c3', .int .i64 p.tk, .int .i64 p.td, .int .i64 p.tm, .string p.recv, .slice p4 n4 c4', .slice p5 n5 c5', .bool p.queued], .int .i64 0]) ∧ PIn w' p (.slice p1 n1 c1') (.slice p2 n2 c2') (.slice p3 n3 c3') (.slice p4 n4 c4') (.slice p5 n5 c5')) ∧ Below W.heap.size W w') := Lib.hid fun W v h => rdP_yes (pnr_back hsp) v W h (pnrB_len hsp)
      have HSA : RowKit.Hid (∀ W p1 n1 c1' p2 n2 c2' p3 n3 c3' p4 n4 c4' p5 n5 c5', Below w1.heap.size w1 W → PIn W p (.slice p1 n1 c1') (.slice p2 n2 c2') (.slice p3 n3 c3') (.slice p4 n4 c4') (.slice p5 n5 c5') → Calls Tryd.prog 41 #[.agg #[.string p.loc, .string p.off, .slice p1 n1 c1' , .slice p2 n2 c2', .slice p3 n3 c3', .int .i64 p.tk, .int .i64 p.td, .int .i64 p.tm, .string p.recv, .slice p4 n4 c4', .slice p5 n5 c5', .bool p.queued], .agg #[.string p.loc, .string p.off, .slice pn p.names.length cn, .slice ps p.segs.length cs, .slice pp p.phones.length cp, .int .i64 p.tk, .int .i64 p.td, .int .i64 p.tm, .string p.recv, .slice pr p.remarks.length cr, .slice px p.seats.length cx, .bool p.queued]] W fun e w' => e = .returned (.bool true) ∧ Below W.heap.size W w') := Lib.hid fun W p1 n1 c1' p2 n2 c2' p3 n3 c3' p4 n4 c4' p5 n5 c5' h k => by
        have := samePnr_any p p _ _ _ _ _ _ _ _ _ _ W k (HPF.out W h)
        rw [sameS_yes rfl] at this
        exact this
      clear hsp
      go_upto_region 12 with (first
        | (refine wpList_load_mid rfl 29 (.tmp 4) rfl w.heap.size 0 rfl _ _ hr3 Tryd.underlying29 rfl info_pnr ?_)
        | (go_at_call 39; (with_reducible refine (HWP.out _ H3.out).mono ?_); rintro e w4 ⟨⟨pa, na, ca, rfl, hy4⟩, hb4⟩)
        | (go_at_call 40; (with_reducible refine (HRP.out _ _ hy4).mono ?_); rintro e w5 ⟨⟨p1, n1, c1', p2, n2, c2', p3, n3, c3', p4, n4, c4', p5, n5, c5', rfl, hq5⟩, hb5⟩; have HQ5 := Lib.hid hq5; clear hq5)
        | (refine wpList_store_blk rfl 29 (.tmp 11) (.tmp 57) rfl w5.heap.size 29 [.string ⟨#[]⟩, .string ⟨#[]⟩, .slice none 0 0, .slice none 0 0, .slice none 0 0, .int .i64 0, .int .i64 0, .int .i64 0, .string ⟨#[]⟩, .slice none 0 0, .slice none 0 0, .bool false] [.string p.loc, .string p.off, .slice p1 n1 c1' , .slice p2 n2 c2', .slice p3 n3 c3', .int .i64 p.tk, .int .i64 p.td, .int .i64 p.tm, .string p.recv, .slice p4 n4 c4', .slice p5 n5 c5', .bool p.queued] rfl rfl (Blk.new w5 29 [.string ⟨#[]⟩, .string ⟨#[]⟩, .slice none 0 0, .slice none 0 0, .slice none 0 0, .int .i64 0, .int .i64 0, .int .i64 0, .string ⟨#[]⟩, .slice none 0 0, .slice none 0 0, .bool false]) rfl info_pnr nine_one ?_; intro w6 ha6 hb6 hg6; have hb56 : Below w5.heap.size w5 w6 := ((Below.refl _ _).alloc (Nat.le_refl _) _).trans hb6; have hb16 := bel_trans (bel_trans (bel_trans H3.out hb4) hb5) hb56; have hld := pnr_load ha6 rfl; have hlb := pnr_load (HP0.out.mono hb16) rfl; have HQ6 := Lib.hid (HQ5.out.mono hb56))
        | (refine wpList_load_yes 29 (.tmp 11) rfl (by rfl) ⟨w5.heap.size, 0, none⟩ rfl _ hld ?_)
        | (refine wpList_load_yes 29 (.tmp 4) rfl (by rfl) ⟨w.heap.size, 0, none⟩ rfl _ hlb ?_)
        | (go_at_call 41; (with_reducible refine (HSA.out _ _ _ _ _ _ _ _ _ _ _ _ _ _ _ _ hb16 HQ6.out).mono ?_); rintro e w7 ⟨rfl, hb7⟩))
      have HX := Lib.hid (bel_trans hb16 hb7)
      clear HWP HRP HSA hb4 hb5 hb6 hb56 hb16 hb7 hld hlb ha6 hg6 hy4 hr3 HQ5 HQ6)
    rotate_left
    focus (
      have HWP : RowKit.Hid (∀ W, Below w1.heap.size w1 W → Calls Tryd.prog 39 #[.agg #[.string p.loc, .string p.off, .slice pn p.names.length cn, .slice ps p.segs.length cs, .slice pp p.phones.length cp, .int .i64 p.tk, .int .i64 p.td, .int .i64 p.tm, .string p.recv, .slice pr p.remarks.length cr, .slice px p.seats.length cx, .bool p.queued]] W fun e w' => e = .returned (.tuple #[.slice none 0 0, .int .i64 4]) ∧ Below W.heap.size W w') := Lib.hid fun W h => (pnr_any p _ _ _ _ _ W (HPF.out W h)).mono fun e w' k => ⟨by_none (pnrF_no hsp) k.1, k.2⟩
      have HSO : RowKit.Hid (∀ W, Below w1.heap.size w1 W → Calls Tryd.prog 42 #[.agg #[.string p.loc, .string p.off, .slice pn p.names.length cn, .slice ps p.segs.length cs, .slice pp p.phones.length cp, .int .i64 p.tk, .int .i64 p.td, .int .i64 p.tm, .string p.recv, .slice pr p.remarks.length cr, .slice px p.seats.length cx, .bool p.queued]] W fun e w' => e = .returned (.bool false) ∧ Below W.heap.size W w') := Lib.hid fun W h => by
        have := refSoundP_any p _ _ _ _ _ W (HPF.out W h)
        rw [soundPS_no hsp] at this
        exact this
      clear hsp
      go_upto_region 12 with (first
        | (refine wpList_load_mid rfl 29 (.tmp 4) rfl w.heap.size 0 rfl _ _ hr3 Tryd.underlying29 rfl info_pnr ?_)
        | (go_at_call 39; (with_reducible refine (HWP.out _ H3.out).mono ?_); rintro e w4 ⟨rfl, hb4⟩; have hr4 := HRR.out _ (bel_trans H3.out hb4))
        | (refine wpList_load_mid rfl 29 (.tmp 4) rfl w.heap.size 0 rfl _ _ hr4 Tryd.underlying29 rfl info_pnr ?_)
        | (go_at_call 42; (with_reducible refine (HSO.out _ (bel_trans H3.out hb4)).mono ?_); rintro e w5 ⟨rfl, hb5⟩))
      have HX := Lib.hid (bel_trans (bel_trans H3.out hb4) hb5)
      clear HWP HSO hb4 hb5 hr3 hr4)
    all_goals (
      obtain ⟨⟨x0, x1⟩, _, _⟩ := HCE.out _ HX.out
      rcases Classical.em (SoundL s hl) with hsl | hsl
      focus (
        have HLG : RowKit.Hid (∀ W, Below w1.heap.size w1 W → Calls Tryd.prog 34 #[.agg #[.slice ls s.length ds, .slice lh hl.length dh]] W fun e w' => (∃ p1 n1 c1' p2 n2 c2', e = .returned (.agg #[.slice p1 n1 c1', .slice p2 n2 c2']) ∧ HasE soldC w' (.slice p1 n1 c1') s ∧ HasE heldC w' (.slice p2 n2 c2') hl) ∧ Below W.heap.size W w') := Lib.hid fun W h => leg_form (leg_any s hl _ _ W (HLE.out W h).1 (HLE.out W h).2 (by have := HK1.out; omega) (by have := HK2.out; omega))
        have HOF : RowKit.Hid (∀ W v1 v2, HasE soldC W v1 s → HasE heldC W v2 hl → Calls Tryd.prog 33 #[.agg #[v1, v2]] W fun e w' => (∃ p' n' c', e = .returned (.tuple #[.slice p' n' c', .int .i64 0]) ∧ HasE byteC w' (.slice p' n' c') (legB s hl)) ∧ Below W.heap.size W w') := Lib.hid fun W v1 v2 k1 k2 => (ofLeg_any s hl v1 v2 W k1 k2 HHZ.out).mono fun e w' k => ⟨by_some (legF_yes hsl) k.1, k.2⟩
        have HRL : RowKit.Hid (∀ W v, HasE byteC W v (legB s hl) → Calls Tryd.prog 36 #[v] W fun e w' => (∃ p1 n1 c1' p2 n2 c2', e = .returned (.tuple #[.agg #[.slice p1 n1 c1', .slice p2 n2 c2'], .int .i64 0]) ∧ HasE soldC w' (.slice p1 n1 c1') s ∧ HasE heldC w' (.slice p2 n2 c2') hl ∧ ∀ x ∈ hl, x.loc.size ≤ maxLen) ∧ Below W.heap.size W w') := Lib.hid fun W v h => rdL_yes (leg_back hsl) v W h (legB_len hsl)
        have HSL : RowKit.Hid (∀ W p1 n1 c1' p2 n2 c2', Below w1.heap.size w1 W → HasE soldC W (.slice p1 n1 c1') s → HasE heldC W (.slice p2 n2 c2') hl → Calls Tryd.prog 38 #[.agg #[.slice p1 n1 c1', .slice p2 n2 c2'], .agg #[.slice ls s.length ds, .slice lh hl.length dh]] W fun e w' => e = .returned (.bool true) ∧ Below W.heap.size W w') := Lib.hid fun W p1 n1 c1' p2 n2 c2' h k1 k2 => sameLeg_true s hl _ _ _ _ W k1 k2 (HLE.out W h).1 (HLE.out W h).2 (by have := HK1.out; omega) (by have := HK2.out; omega)
        clear hsl
        go_upto_region 17 with (first
          | (go_at_call 34; (with_reducible refine (HLG.out _ HX.out).mono ?_); rintro e v4 ⟨⟨a1, m1, d1, a2, m2, d2, rfl, hs4, hh4⟩, hb4⟩)
          | (go_at_call 33; (with_reducible refine (HOF.out _ _ _ hs4 hh4).mono ?_); rintro e v5 ⟨⟨pa, na, ca, rfl, hy5⟩, hb5⟩)
          | (go_at_call 36; (with_reducible refine (HRL.out _ _ hy5).mono ?_); rintro e v6 ⟨⟨b1, m3, d3, b2, m4, d4, rfl, hs6, hh6, hz6⟩, hb6⟩; have HZ6 := Lib.hid hz6; clear hz6)
          | (refine wpList_store_blk rfl 90 (.tmp 15) (.tmp 80) rfl v6.heap.size 90 [.slice none 0 0, .slice none 0 0] [.slice b1 m3 d3, .slice b2 m4 d4] rfl rfl (Blk.new v6 90 [.slice none 0 0, .slice none 0 0]) rfl info_leg two_one ?_; intro v7 ha7 hb7 hg7; have hb67 : Below v6.heap.size v6 v7 := ((Below.refl _ _).alloc (Nat.le_refl _) _).trans hb7; have hb17 := bel_trans (bel_trans (bel_trans (bel_trans HX.out hb4) hb5) hb6) hb67; have u0 := (ha7.cell 0).trans rfl; have u1 := (ha7.cell 1).trans rfl; obtain ⟨⟨z0, z1⟩, _, _⟩ := HCE.out _ hb17)
          | (go_at_call 38; (with_reducible refine (HSL.out _ _ _ _ _ _ _ hb17 (hs6.mono hb67) (hh6.mono hb67)).mono ?_); rintro e v8 ⟨rfl, hb8⟩))
        have HY := Lib.hid (bel_trans hb17 hb8)
        clear HLG HOF HRL HSL hb4 hb5 hb6 hb7 hb67 hb17 hb8 u0 u1 z0 z1 hs4 hh4 hy5 hs6 hh6 ha7 hg7 x0 x1)
      rotate_left
      focus (
        have HLG : RowKit.Hid (∀ W, Below w1.heap.size w1 W → Calls Tryd.prog 34 #[.agg #[.slice ls s.length ds, .slice lh hl.length dh]] W fun e w' => (∃ p1 n1 c1' p2 n2 c2', e = .returned (.agg #[.slice p1 n1 c1', .slice p2 n2 c2']) ∧ HasE soldC w' (.slice p1 n1 c1') s ∧ HasE heldC w' (.slice p2 n2 c2') hl) ∧ Below W.heap.size W w') := Lib.hid fun W h => leg_form (leg_any s hl _ _ W (HLE.out W h).1 (HLE.out W h).2 (by have := HK1.out; omega) (by have := HK2.out; omega))
        have HOF : RowKit.Hid (∀ W v1 v2, HasE soldC W v1 s → HasE heldC W v2 hl → Calls Tryd.prog 33 #[.agg #[v1, v2]] W fun e w' => e = .returned (.tuple #[.slice none 0 0, .int .i64 4]) ∧ Below W.heap.size W w') := Lib.hid fun W v1 v2 k1 k2 => (ofLeg_any s hl v1 v2 W k1 k2 HHZ.out).mono fun e w' k => ⟨by_none (legF_no hsl) k.1, k.2⟩
        clear hsl
        go_upto_region 17 with (first
          | (go_at_call 34; (with_reducible refine (HLG.out _ HX.out).mono ?_); rintro e v4 ⟨⟨a1, m1, d1, a2, m2, d2, rfl, hs4, hh4⟩, hb4⟩)
          | (go_at_call 33; (with_reducible refine (HOF.out _ _ _ hs4 hh4).mono ?_); rintro e v5 ⟨rfl, hb5⟩))
        have HY := Lib.hid (bel_trans (bel_trans HX.out hb4) hb5)
        clear HLG HOF hb4 hb5 hs4 hh4 x0 x1)
      all_goals (
        clear HX
        rcases hqf : queueB q with _ | qb
        focus (
          have HQN : RowKit.Hid (∀ W, Below w1.heap.size w1 W → Calls Tryd.prog 18 #[.slice qp q.length qc] W fun e w' => e = .returned (.tuple #[.slice none 0 0, .int .i64 4]) ∧ Below W.heap.size W w') := Lib.hid fun W h => (queue_any _ q W (HQL.out W h) HQS.out).mono fun e w' k => ⟨by_none hqf k.1, k.2⟩
          clear hqf
          go_upto_region 22 with (first
            | (go_at_call 18; (with_reducible refine (HQN.out _ HY.out).mono ?_); rintro e q1 ⟨rfl, hb1⟩))
          have HZ := Lib.hid (bel_trans HY.out hb1)
          clear HQN hb1)
        rotate_left
        focus (
          have HQY : RowKit.Hid (∀ W, Below w1.heap.size w1 W → Calls Tryd.prog 18 #[.slice qp q.length qc] W fun e w' => (∃ p' n' c', e = .returned (.tuple #[.slice p' n' c', .int .i64 0]) ∧ HasE byteC w' (.slice p' n' c') qb) ∧ Below W.heap.size W w') := Lib.hid fun W h => (queue_any _ q W (HQL.out W h) HQS.out).mono fun e w' k => ⟨by_some hqf k.1, k.2⟩
          have HRQ : RowKit.Hid (∀ W v, HasE byteC W v qb → Calls Tryd.prog 23 #[v] W fun e w' => (∃ p' n' c', e = .returned (.tuple #[.slice p' n' c', .int .i64 0]) ∧ HasL w' (.slice p' n' c') q) ∧ Below W.heap.size W w') := Lib.hid fun W v h => (rdQ_yes (queue_back hqf) v W h (queueF_len hqf)).mono fun e w' k => by
            obtain ⟨⟨p', n', c', l', e1, h1, h2⟩, h3⟩ := k
            have e2 : q = l' := (List.map_inj_right (fun a b e => toL_inj e)).1 h2
            exact ⟨⟨p', n', c', e1, e2 ▸ h1⟩, h3⟩
          have HSQ : RowKit.Hid (∀ W p' n' c', Below w1.heap.size w1 W → HasL W (.slice p' n' c') q → Calls Tryd.prog 25 #[.slice p' n' c', .slice qp q.length qc] W fun e w' => e = .returned (.bool true) ∧ Below W.heap.size W w') := Lib.hid fun W p' n' c' h k => same_true q _ _ W k (HQL.out W h) (by have := HK3.out; omega)
          clear hqf
          go_upto_region 22 with (first
            | (go_at_call 18; (with_reducible refine (HQY.out _ HY.out).mono ?_); rintro e q1 ⟨⟨pa, na, ca, rfl, hy1⟩, hb1⟩)
            | (go_at_call 23; (with_reducible refine (HRQ.out _ _ hy1).mono ?_); rintro e q2 ⟨⟨pb, nb, cb, rfl, hq2⟩, hb2⟩; have hbS := bel_trans (bel_trans HY.out hb1) hb2)
            | (go_at_call 25; (with_reducible refine (HSQ.out _ _ _ _ hbS hq2).mono ?_); rintro e q3 ⟨rfl, hb3⟩))
          have HZ := Lib.hid (bel_trans hbS hb3)
          clear HQY HRQ HSQ hb1 hb2 hbS hb3 hy1 hq2)
        all_goals (
          clear HY
          obtain ⟨⟨_, _⟩, y0, y1⟩ := HCE.out _ HZ.out
          rcases hcf : countF c1 c2 with _ | cb
          focus (
            have HOC : RowKit.Hid (∀ W, Calls Tryd.prog 21 #[.agg #[.int .i64 c1, .int .i64 c2]] W fun e w' => e = .returned (.tuple #[.slice none 0 0, .int .i64 4]) ∧ Below W.heap.size W w') := Lib.hid fun W => (ofCount_any c1 c2 W).mono fun e w' k => ⟨by_none hcf k.1, k.2⟩
            clear hcf
            go_wp2_with (first
              | (go_at_call 21; (with_reducible refine (HOC.out _).mono ?_); rintro e z1 ⟨rfl, hb1⟩))
            go_ret
            exact ⟨rfl, HST0.out _ (bel_trans HZ.out hb1)⟩)
          focus (
            have HOC : RowKit.Hid (∀ W, Calls Tryd.prog 21 #[.agg #[.int .i64 c1, .int .i64 c2]] W fun e w' => (∃ p' n' c', e = .returned (.tuple #[.slice p' n' c', .int .i64 0]) ∧ HasE byteC w' (.slice p' n' c') cb) ∧ Below W.heap.size W w') := Lib.hid fun W => (ofCount_any c1 c2 W).mono fun e w' k => ⟨by_some hcf k.1, k.2⟩
            have HRC : RowKit.Hid (∀ W v, HasE byteC W v cb → Calls Tryd.prog 26 #[v] W fun e w' => e = .returned (.tuple #[.agg #[.int .i64 c1, .int .i64 c2], .int .i64 0]) ∧ Below W.heap.size W w') := Lib.hid fun W v h => by
              have hcb := count_back hcf
              have := rdC_yes hcb.1 v W h (countF_len hcf)
              rw [show ((c1.toNat : Nat) : Int) = c1 from by omega, show ((c2.toNat : Nat) : Int) = c2 from by omega] at this
              exact this
            clear hcf
            go_wp2_with (first
              | (go_at_call 21; (with_reducible refine (HOC.out _).mono ?_); rintro e z1 ⟨⟨pd, nd, cd, rfl, hz1⟩, hb1⟩)
              | (go_at_call 26; (with_reducible refine (HRC.out _ _ hz1).mono ?_); rintro e z2 ⟨rfl, hb2⟩; have hbT := bel_trans (bel_trans HZ.out hb1) hb2; have hbU := bel_trans hbT ((Below.refl _ _).alloc (Nat.le_refl _) (.cells #[.int .i64 c1, .int .i64 c2] 58)); obtain ⟨⟨_, _⟩, u0, u1⟩ := HCE.out _ hbU))
            go_ret
            exact ⟨rfl, HST0.out _ hbU⟩))))
end Go.Proofs.YtjahkaidinahpaaDoor
