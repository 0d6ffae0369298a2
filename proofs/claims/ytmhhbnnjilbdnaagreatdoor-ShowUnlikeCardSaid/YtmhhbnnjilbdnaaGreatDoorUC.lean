/- The law's look at two PNRs: shown alike just if they are. Printed by tools/gen_uc.py. -/
import Derived.Test.YtmhhbnnjilbdnaaGreatDoorUA
import Derived.Test.YtmhhbnnjilbdnaaGreatDoorSP
import Derived.Test.YtmhhbnnjilbdnaaGreatDoorSAW
import Derived.Test.YtmhhbnnjilbdnaaGreatDoorGV
import Derived.Test.YtmhhbnnjilbdnaaGreatDoorScrI
import Derived.Test.YtmhhbnnjilbdnaaGreatDoorLF
namespace Go.Proofs.YtmhhbnnjilbdnaaGreatDoor.Sh
open Go.RowKit En Go.ChangeMaps
set_option linter.unusedSimpArgs false
set_option linter.unusedVariables false
set_option maxRecDepth 20000

/-- So far the pages are the same. -/
def SoFar (A B : List ByteArray) (k : Nat) : Prop := ∀ j, j < k → pageL (linesS A) j = pageL (linesS B) j
open Classical in
noncomputable def soFarB (A B : List ByteArray) (k : Nat) : Bool := decide (pagesN (linesS A).length = pagesN (linesS B).length ∧ SoFar A B k)
open Classical in
theorem soFar_iff {A B : List ByteArray} {k : Nat} : soFarB A B k = true ↔ (pagesN (linesS A).length = pagesN (linesS B).length ∧ SoFar A B k) := by
  unfold soFarB
  exact decide_eq_true_iff
theorem soFar_not {A B : List ByteArray} {k : Nat} (h : ¬ (pagesN (linesS A).length = pagesN (linesS B).length ∧ SoFar A B k)) : soFarB A B k = false := by
  cases e : soFarB A B k
  · rfl
  · exact absurd (soFar_iff.1 e) h
theorem soFar_zero {A B : List ByteArray} : soFarB A B 0 = decide (pagesN (linesS A).length = pagesN (linesS B).length) := by
  rw [Bool.eq_iff_iff, soFar_iff, decide_eq_true_eq]
  exact ⟨fun h => h.1, fun h => ⟨h, fun j hj => by omega⟩⟩
theorem soFar_step {A B : List ByteArray} {k : Nat} (h : soFarB A B k = true) : soFarB A B (k + 1) = decide (pageL (linesS A) k = pageL (linesS B) k) := by
  have h := soFar_iff.1 h
  rw [Bool.eq_iff_iff, soFar_iff, decide_eq_true_eq]
  constructor
  · intro k1
    exact k1.2 k (Nat.lt_succ_self _)
  · intro k1
    refine ⟨h.1, fun j hj => ?_⟩
    by_cases e : j = k
    · rw [e]; exact k1
    · exact h.2 j (by omega)
theorem soFar_end {p q : PnrT} (hp : FineP p) (hq : FineP q) {k : Nat} (h : soFarB (txtsP p) (txtsP q) k = false ∨ pagesN (linesS (txtsP p)).length ≤ k) : soFarB (txtsP p) (txtsP q) k = sameS p q := by
  rcases Classical.em (p = q) with rfl | hne
  · rw [sameS_yes rfl]
    exact soFar_iff.2 ⟨rfl, fun _ _ => rfl⟩
  · rw [sameS_no hne]
    rcases h with h | h
    · exact h
    · exact soFar_not fun k => hne (shown_apart hp hq k.1 fun j hj => k.2 j (by omega))
theorem pageL_len (rows : List ByteArray) (pg : Nat) : (pageL rows pg).length = 1536 := by
  unfold pageL
  have : ∀ (n : Nat) (f : Nat → List UInt8), (∀ i, (f i).length = 64) → ((List.range n).flatMap f).length = 64 * n := fun n f hf => by
    induction n with
    | zero => rfl
    | succ n ih => rw [List.range_succ, List.flatMap_append, List.length_append, ih, List.flatMap_cons, List.flatMap_nil, List.append_nil, hf]; omega
  exact this 24 _ fun i => rowL_len _
theorem scr_eql (rows rows' : List ByteArray) (i j : Nat) (w : World) : (Op.equalIn 10000 81 (scrV (pageL rows i)) (scrV (pageL rows' j))).run Tryz.prog w = .ok (decide (pageL rows i = pageL rows' j)) w :=
  eql_scr _ _ (pageL_len _ _) (pageL_len _ _) w
theorem pgN_in {k n : Nat} (h : k < n) : pgN (k : Int) n = k := by
  unfold pgN
  rw [if_neg (by omega), if_neg (by omega)]
  omega
theorem pages_few {p : PnrT} (h : FineP p) : pagesN (linesS (txtsP p)).length < 100 := by
  have hl := (txts_good h).2.2.1
  rw [plain_lines (txts_good h).1, List.length_map]
  unfold pagesN
  omega

set_option maxHeartbeats 32000000 in
theorem unlikeS_any (p q : PnrT) (vn vs vp vr vx un us up ur ux : Value) (w : World) (hp : PIn w p vn vs vp vr vx) (hq : PIn w q un us up ur ux) (hfp : FineP p) (hfq : FineP q) (ht : Da.LenTab w) (hpt : PowTab w) :
    Calls Tryz.prog 13 #[.agg (pnrC p vn vs vp vr vx).toArray, .agg (pnrC q un us up ur ux).toArray] w fun e w' => e = .returned (.bool true) ∧ Below w.heap.size w w' := by
  have ha1 : Below w.heap.size w (w.alloc (.cells (pnrC p vn vs vp vr vx).toArray 29)) := (Below.refl _ _).alloc (Nat.le_refl _) _
  have hB0 := Blk.new w 29 (pnrC p vn vs vp vr vx)
  have hz1 : (w.alloc (.cells (pnrC p vn vs vp vr vx).toArray 29)).heap.size = w.heap.size + 1 := by simp
  have ha2 : Below (w.heap.size + 1) (w.alloc (.cells (pnrC p vn vs vp vr vx).toArray 29)) ((w.alloc (.cells (pnrC p vn vs vp vr vx).toArray 29)).alloc (.cells (pnrC q un us up ur ux).toArray 29)) := (Below.refl _ _).alloc (by rw [hz1]; exact Nat.le_refl _) _
  have hB1 := Blk.new (w.alloc (.cells (pnrC p vn vs vp vr vx).toArray 29)) 29 (pnrC q un us up ur ux)
  rw [hz1] at hB1
  have hB0' := hB0.keep ha2 (Nat.lt_succ_self _)
  have hb1 : Below w.heap.size w ((w.alloc (.cells (pnrC p vn vs vp vr vx).toArray 29)).alloc (.cells (pnrC q un us up ur ux).toArray 29)) := ha1.trans (below_le ha2 (Nat.le_succ _))
  clear ha1 ha2 hB0 hz1
  generalize hw1 : (w.alloc (.cells (pnrC p vn vs vp vr vx).toArray 29)).alloc (.cells (pnrC q un us up ur ux).toArray 29) = w1 at hb1 hB0' hB1
  have HB1 := Lib.hid hb1
  have HPP : RowKit.Hid (∀ W, Below w1.heap.size w1 W → PIn W p vn vs vp vr vx ∧ PIn W q un us up ur ux ∧ Da.LenTab W ∧ PowTab W) := Lib.hid fun W h => have hw := below_w HB1.out h; ⟨hp.mono hw, hq.mono hw, ht.keep hw, powTab_keep hpt hw⟩
  have HSA : RowKit.Hid (∀ W, Below w1.heap.size w1 W → Calls Tryz.prog 8 #[.agg (pnrC p vn vs vp vr vx).toArray] W fun e w' => (∃ v, e = .returned v ∧ OwnL w' W.heap.size v (txtsP p)) ∧ Below W.heap.size W w') := Lib.hid fun W h => have k := HPP.out W h; (pnrS_any p _ _ _ _ _ W k.1 hfp.fit k.2.2.1 k.2.2.2).mono fun e w' ⟨h1, h2⟩ => ⟨lines_own h1, h2⟩
  have HSB : RowKit.Hid (∀ W, Below w1.heap.size w1 W → Calls Tryz.prog 8 #[.agg (pnrC q un us up ur ux).toArray] W fun e w' => (∃ v, e = .returned v ∧ OwnL w' W.heap.size v (txtsP q)) ∧ Below W.heap.size W w') := Lib.hid fun W h => have k := HPP.out W h; (pnrS_any q _ _ _ _ _ W k.2.1 hfq.fit k.2.2.1 k.2.2.2).mono fun e w' ⟨h1, h2⟩ => ⟨lines_own h1, h2⟩
  have HSM : RowKit.Hid (∀ W, Below w1.heap.size w1 W → Calls Tryz.prog 10 #[.agg (pnrC p vn vs vp vr vx).toArray, .agg (pnrC q un us up ur ux).toArray] W fun e w' => e = .returned (.bool (sameS p q)) ∧ Below W.heap.size W w') := Lib.hid fun W h => samePnr_any p q _ _ _ _ _ _ _ _ _ _ W (HPP.out W h).1 (HPP.out W h).2.1
  have HGP : RowKit.Hid (∀ va W, HasL W va (txtsP p) → Calls Tryz.prog 38 #[va] W fun e w' => e = .returned (.int .i64 (pagesN (linesS (txtsP p)).length)) ∧ Below W.heap.size W w') := Lib.hid fun va W h => Pages_any _ va W h (txts_good hfp).2.2.2
  have HGQ : RowKit.Hid (∀ va W, HasL W va (txtsP q) → Calls Tryz.prog 38 #[va] W fun e w' => e = .returned (.int .i64 (pagesN (linesS (txtsP q)).length)) ∧ Below W.heap.size W w') := Lib.hid fun va W h => Pages_any _ va W h (txts_good hfq).2.2.2
  have HRP : RowKit.Hid (∀ va W (k : Nat), HasL W va (txtsP p) → k < pagesN (linesS (txtsP p)).length → Calls Tryz.prog 39 #[.int .i64 (k : Int), va] W fun e w' => e = .returned (scrV (pageL (linesS (txtsP p)) k)) ∧ Below W.heap.size W w') := Lib.hid fun va W k h hk => by
    have := Render_any (k : Int) _ va W h (txts_good hfp).2.2.2 (pages_few hfp)
    rwa [pgN_in hk] at this
  have HRQ : RowKit.Hid (∀ va W (k : Nat), HasL W va (txtsP q) → k < pagesN (linesS (txtsP q)).length → Calls Tryz.prog 39 #[.int .i64 (k : Int), va] W fun e w' => e = .returned (scrV (pageL (linesS (txtsP q)) k)) ∧ Below W.heap.size W w') := Lib.hid fun va W k h hk => by
    have := Render_any (k : Int) _ va W h (txts_good hfq).2.2.2 (pages_few hfq)
    rwa [pgN_in hk] at this
  have HEND : RowKit.Hid (∀ k, (soFarB (txtsP p) (txtsP q) k = false ∨ pagesN (linesS (txtsP p)).length ≤ k) → soFarB (txtsP p) (txtsP q) k = sameS p q) := Lib.hid fun k h => soFar_end hfp hfq h
  have HST : RowKit.Hid (∀ k, soFarB (txtsP p) (txtsP q) k = true → soFarB (txtsP p) (txtsP q) (k + 1) = decide (pageL (linesS (txtsP p)) k = pageL (linesS (txtsP q)) k)) := Lib.hid fun k h => soFar_step h
  have HPG : RowKit.Hid (∀ k, soFarB (txtsP p) (txtsP q) k = true → pagesN (linesS (txtsP p)).length = pagesN (linesS (txtsP q)).length) := Lib.hid fun k h => (soFar_iff.1 h).1
  have HZ0 : RowKit.Hid (soFarB (txtsP p) (txtsP q) 0 = ((pagesN (linesS (txtsP p)).length : Int) == (pagesN (linesS (txtsP q)).length : Int))) := Lib.hid (by
    rw [soFar_zero, Bool.eq_iff_iff, decide_eq_true_eq, beq_iff_eq]; omega)
  have HFW : RowKit.Hid (pagesN (linesS (txtsP p)).length < 100) := Lib.hid (pages_few hfp)
  have HEQ : RowKit.Hid (∀ k W, (Op.equalIn 10000 81 (scrV (pageL (linesS (txtsP p)) k)) (scrV (pageL (linesS (txtsP q)) k))).run Tryz.prog W = .ok (decide (pageL (linesS (txtsP p)) k = pageL (linesS (txtsP q)) k)) W) := Lib.hid fun k W => scr_eql _ _ _ _ W
  have HLD : RowKit.Hid (∀ W, Below w1.heap.size w1 W → (loadVar 29 ⟨w.heap.size, 0, none⟩).run Tryz.prog W = .ok (.agg (pnrC p vn vs vp vr vx).toArray) W ∧ (loadVar 29 ⟨w.heap.size + 1, 0, none⟩).run Tryz.prog W = .ok (.agg (pnrC q un us up ur ux).toArray) W) := Lib.hid fun W h => ⟨pnr_load (hB0'.mono h) rfl, pnr_load (hB1.mono h) rfl⟩
  have HRR : RowKit.Hid (∀ W, Below w1.heap.size w1 W → W.rangeAt w.heap.size 0 (pnrC p vn vs vp vr vx) ∧ W.rangeAt (w.heap.size + 1) 0 (pnrC q un us up ur ux)) := Lib.hid fun W h => ⟨(hB0'.mono h).range, (hB1.mono h).range⟩
  have HC : RowKit.Hid (∀ W, Below w1.heap.size w1 W → Below w1.heap.size w1 W ∧ W.cell? ⟨w.heap.size, 0, none⟩ = some (.string p.loc) ∧ W.cell? ⟨w.heap.size, 1, none⟩ = some (.string p.off) ∧ W.cell? ⟨w.heap.size, 2, none⟩ = some vn ∧ W.cell? ⟨w.heap.size, 3, none⟩ = some vs ∧ W.cell? ⟨w.heap.size, 4, none⟩ = some vp ∧ W.cell? ⟨w.heap.size, 5, none⟩ = some (.int .i64 p.tk) ∧ W.cell? ⟨w.heap.size, 6, none⟩ = some (.int .i64 p.td) ∧ W.cell? ⟨w.heap.size, 7, none⟩ = some (.int .i64 p.tm) ∧ W.cell? ⟨w.heap.size, 8, none⟩ = some (.string p.recv) ∧ W.cell? ⟨w.heap.size, 9, none⟩ = some vr ∧ W.cell? ⟨w.heap.size, 10, none⟩ = some vx ∧ W.cell? ⟨w.heap.size, 11, none⟩ = some (.bool p.queued) ∧ W.cell? ⟨(w.heap.size + 1), 0, none⟩ = some (.string q.loc) ∧ W.cell? ⟨(w.heap.size + 1), 1, none⟩ = some (.string q.off) ∧ W.cell? ⟨(w.heap.size + 1), 2, none⟩ = some un ∧ W.cell? ⟨(w.heap.size + 1), 3, none⟩ = some us ∧ W.cell? ⟨(w.heap.size + 1), 4, none⟩ = some up ∧ W.cell? ⟨(w.heap.size + 1), 5, none⟩ = some (.int .i64 q.tk) ∧ W.cell? ⟨(w.heap.size + 1), 6, none⟩ = some (.int .i64 q.td) ∧ W.cell? ⟨(w.heap.size + 1), 7, none⟩ = some (.int .i64 q.tm) ∧ W.cell? ⟨(w.heap.size + 1), 8, none⟩ = some (.string q.recv) ∧ W.cell? ⟨(w.heap.size + 1), 9, none⟩ = some ur ∧ W.cell? ⟨(w.heap.size + 1), 10, none⟩ = some ux ∧ W.cell? ⟨(w.heap.size + 1), 11, none⟩ = some (.bool q.queued)) := Lib.hid fun W h => by
    have b0 := hB0'.mono h
    have b1 := hB1.mono h
    exact ⟨h, ((b0.cell 0).trans rfl), ((b0.cell 1).trans rfl), ((b0.cell 2).trans rfl), ((b0.cell 3).trans rfl), ((b0.cell 4).trans rfl), ((b0.cell 5).trans rfl), ((b0.cell 6).trans rfl), ((b0.cell 7).trans rfl), ((b0.cell 8).trans rfl), ((b0.cell 9).trans rfl), ((b0.cell 10).trans rfl), ((b0.cell 11).trans rfl), ((b1.cell 0).trans rfl), ((b1.cell 1).trans rfl), ((b1.cell 2).trans rfl), ((b1.cell 3).trans rfl), ((b1.cell 4).trans rfl), ((b1.cell 5).trans rfl), ((b1.cell 6).trans rfl), ((b1.cell 7).trans rfl), ((b1.cell 8).trans rfl), ((b1.cell 9).trans rfl), ((b1.cell 10).trans rfl), ((b1.cell 11).trans rfl)⟩
  clear hp hq hB0' hB1 hb1 hfp hfq ht hpt HPP
  unfold pnrC at hw1 HSA HSB HSM HLD HRR ⊢
  simp only [List.toArray] at hw1
  generalize sameS p q = sm at *
  generalize txtsP p = A at *
  generalize txtsP q = B at *
  generalize pagesN (linesS A).length = NA at *
  generalize pagesN (linesS B).length = NB at *
  generalize soFarB A B = sf at *
  generalize pageL (linesS A) = PA at *
  generalize pageL (linesS B) = PB at *
  go_enter Tryz.func13, Tryz.ntmps13
  go_upto_region 1 with fail
  try rw [hw1]
  clear hw1
  have hS0 := HC.out w1.drew (Below.refl _ _).drew
  go_region_held3 (fun W => Below w1.heap.size w1 W ∧ W.cell? ⟨w.heap.size, 0, none⟩ = some (.string p.loc) ∧ W.cell? ⟨w.heap.size, 1, none⟩ = some (.string p.off) ∧ W.cell? ⟨w.heap.size, 2, none⟩ = some vn ∧ W.cell? ⟨w.heap.size, 3, none⟩ = some vs ∧ W.cell? ⟨w.heap.size, 4, none⟩ = some vp ∧ W.cell? ⟨w.heap.size, 5, none⟩ = some (.int .i64 p.tk) ∧ W.cell? ⟨w.heap.size, 6, none⟩ = some (.int .i64 p.td) ∧ W.cell? ⟨w.heap.size, 7, none⟩ = some (.int .i64 p.tm) ∧ W.cell? ⟨w.heap.size, 8, none⟩ = some (.string p.recv) ∧ W.cell? ⟨w.heap.size, 9, none⟩ = some vr ∧ W.cell? ⟨w.heap.size, 10, none⟩ = some vx ∧ W.cell? ⟨w.heap.size, 11, none⟩ = some (.bool p.queued) ∧ W.cell? ⟨(w.heap.size + 1), 0, none⟩ = some (.string q.loc) ∧ W.cell? ⟨(w.heap.size + 1), 1, none⟩ = some (.string q.off) ∧ W.cell? ⟨(w.heap.size + 1), 2, none⟩ = some un ∧ W.cell? ⟨(w.heap.size + 1), 3, none⟩ = some us ∧ W.cell? ⟨(w.heap.size + 1), 4, none⟩ = some up ∧ W.cell? ⟨(w.heap.size + 1), 5, none⟩ = some (.int .i64 q.tk) ∧ W.cell? ⟨(w.heap.size + 1), 6, none⟩ = some (.int .i64 q.td) ∧ W.cell? ⟨(w.heap.size + 1), 7, none⟩ = some (.int .i64 q.tm) ∧ W.cell? ⟨(w.heap.size + 1), 8, none⟩ = some (.string q.recv) ∧ W.cell? ⟨(w.heap.size + 1), 9, none⟩ = some ur ∧ W.cell? ⟨(w.heap.size + 1), 10, none⟩ = some ux ∧ W.cell? ⟨(w.heap.size + 1), 11, none⟩ = some (.bool q.queued))
    (first
      | (with_reducible exact hS0)
      | (with_reducible assumption)
      | (with_reducible exact HC.out _ (bel_trans (show Below w1.heap.size w1 _ ∧ _ by assumption).1 hb2))
      | (with_reducible exact HC.out _ (bel_trans (show Below w1.heap.size w1 _ ∧ _ by assumption).1 hb3)))
    (first
      | (go_at_call 8; (with_reducible refine (HSA.out _ (show Below w1.heap.size w1 _ ∧ _ by assumption).1).mono ?_); rintro e w2 ⟨⟨va, rfl, ho2⟩, hb2⟩)
      | (go_at_call 8; (with_reducible refine (HSB.out _ (show Below w1.heap.size w1 _ ∧ _ by assumption).1).mono ?_); rintro e w3 ⟨⟨vb, rfl, ho3⟩, hb3⟩; have hc1 := OwnL.has (OwnL.mono ho2 hb3); have hc2 := OwnL.has ho3))
  have hb3' := (show Below w1.heap.size w1 w3 ∧ _ by assumption).1
  have HB3 := Lib.hid (bel_trans HB1.out hb3')
  have HVA := Lib.hid hc1
  have HVB := Lib.hid hc2
  have HL3 : RowKit.Hid (∀ W, Below w3.heap.size w3 W → W.rangeAt w.heap.size 0 [.string p.loc, .string p.off, vn, vs, vp, .int .i64 p.tk, .int .i64 p.td, .int .i64 p.tm, .string p.recv, vr, vx, .bool p.queued] ∧ W.rangeAt (w.heap.size + 1) 0 [.string q.loc, .string q.off, un, us, up, .int .i64 q.tk, .int .i64 q.td, .int .i64 q.tm, .string q.recv, ur, ux, .bool q.queued] ∧ Below w1.heap.size w1 W) := Lib.hid fun W h => ⟨(HRR.out W (bel_trans hb3' h)).1, (HRR.out W (bel_trans hb3' h)).2, bel_trans hb3' h⟩
  have hgd := guard_scr
  unfold scrV at HRP HRQ HEQ
  go_wp2_with (first
    | (go_at_call 38; (with_reducible refine (HGP.out _ _ HVA.out).mono ?_); rintro e w4 ⟨rfl, hb4⟩)
    | (go_at_call 38; (with_reducible refine (HGQ.out _ _ (HVB.out.mono hb4)).mono ?_); rintro e w5 ⟨rfl, hb5⟩))
  have hb35 := bel_trans hb4 hb5
  rw [← HZ0.out]
  go_loopg [7, 8] NA (fun g s7 s8 wr => ∃ k : Nat, k ≤ NA ∧ g = NA - k ∧ s8 = .int .i64 (k : Int) ∧ s7 = .bool (sf k) ∧ Below w3.heap.size w3 wr)
  case atStart => exact ⟨0, Nat.zero_le _, rfl, rfl, rfl, hb35⟩
  case round =>
    obtain ⟨k, hk, rfl, rfl, rfl, hb⟩ := hrel
    obtain ⟨hr1, hr2, hbw⟩ := HL3.out _ hb
    cases hsf : sf k with
    | false =>
      have hsm := HEND.out k (.inl hsf)
      rw [hsf] at hsm
      subst hsm
      clear hsf
      by_cases hlt : k < NA
      · have hki : (k : Int) < (NA : Int) := by omega
        go_wp2_with (first
          | (go_at_call 38; (with_reducible refine (HGP.out _ _ (HVA.out.mono hb)).mono ?_); rintro e w6 ⟨rfl, hb6⟩; obtain ⟨hr1, hr2, hbw⟩ := HL3.out _ (bel_trans hb hb6))
          | (refine wpList_load_mid rfl 29 (.tmp 2) rfl w.heap.size 0 rfl _ _ hr1 Tryz.underlying29 rfl info_pnr ?_)
          | (refine wpList_load_mid rfl 29 (.tmp 3) rfl (w.heap.size + 1) 0 rfl _ _ hr2 Tryz.underlying29 rfl info_pnr ?_)
          | (go_at_call 10; (with_reducible refine (HSM.out _ hbw).mono ?_); rintro e w7 ⟨rfl, hb7⟩))
        go_ret
        exact ⟨rfl, bel_trans HB3.out (bel_trans (bel_trans hb hb6) hb7)⟩
      · have hki : ¬ (k : Int) < (NA : Int) := by omega
        go_wp2_with (first
          | (go_at_call 38; (with_reducible refine (HGP.out _ _ (HVA.out.mono hb)).mono ?_); rintro e w6 ⟨rfl, hb6⟩; obtain ⟨hr1, hr2, hbw⟩ := HL3.out _ (bel_trans hb hb6))
          | (refine wpList_load_mid rfl 29 (.tmp 2) rfl w.heap.size 0 rfl _ _ hr1 Tryz.underlying29 rfl info_pnr ?_)
          | (refine wpList_load_mid rfl 29 (.tmp 3) rfl (w.heap.size + 1) 0 rfl _ _ hr2 Tryz.underlying29 rfl info_pnr ?_)
          | (go_at_call 10; (with_reducible refine (HSM.out _ hbw).mono ?_); rintro e w7 ⟨rfl, hb7⟩))
        go_ret
        exact ⟨rfl, bel_trans HB3.out (bel_trans (bel_trans hb hb6) hb7)⟩
    | true =>
      by_cases hlt : k < NA
      · have hki : (k : Int) < (NA : Int) := by omega
        have hq := HEQ.out k
        have hst := HST.out k hsf
        rw [← hst] at hq
        have HRA1 := Lib.hid fun va W h => HRP.out va W k h hlt
        have HRB1 := Lib.hid fun va W h => HRQ.out va W k h (by rw [← HPG.out k hsf]; exact hlt)
        generalize byteV (PA k) = ua at *
        generalize byteV (PB k) = ub at *
        clear hst hr1 hr2 hbw
        have hfw := HFW.out
        go_wp2_with (first
          | (go_at_call 38; (with_reducible refine (HGP.out _ _ (HVA.out.mono hb)).mono ?_); rintro e w6 ⟨rfl, hb6⟩; have hb36 := bel_trans hb hb6)
          | (go_at_call 39; (with_reducible refine (HRA1.out _ _ (HVA.out.mono hb36)).mono ?_); rintro e w7 ⟨rfl, hb7⟩; have hb37 := bel_trans hb36 hb7)
          | (go_at_call 39; (with_reducible refine (HRB1.out _ _ (HVB.out.mono hb37)).mono ?_); rintro e w8 ⟨rfl, hb8⟩; have hb38 := bel_trans hb37 hb8))
        go_roundg (NA - (k + 1))
        case measure => omega
        case rel => exact ⟨k + 1, by omega, rfl, by go_num, rfl, hb38⟩
      · have hki : ¬ (k : Int) < (NA : Int) := by omega
        have hsm := HEND.out k (.inr (by omega))
        rw [hsf] at hsm
        subst hsm
        clear hsf
        go_wp2_with (first
          | (go_at_call 38; (with_reducible refine (HGP.out _ _ (HVA.out.mono hb)).mono ?_); rintro e w6 ⟨rfl, hb6⟩; obtain ⟨hr1, hr2, hbw⟩ := HL3.out _ (bel_trans hb hb6))
          | (refine wpList_load_mid rfl 29 (.tmp 2) rfl w.heap.size 0 rfl _ _ hr1 Tryz.underlying29 rfl info_pnr ?_)
          | (refine wpList_load_mid rfl 29 (.tmp 3) rfl (w.heap.size + 1) 0 rfl _ _ hr2 Tryz.underlying29 rfl info_pnr ?_)
          | (go_at_call 10; (with_reducible refine (HSM.out _ hbw).mono ?_); rintro e w7 ⟨rfl, hb7⟩))
        go_ret
        exact ⟨rfl, bel_trans HB3.out (bel_trans (bel_trans hb hb6) hb7)⟩
end Go.Proofs.YtmhhbnnjilbdnaaGreatDoor.Sh
