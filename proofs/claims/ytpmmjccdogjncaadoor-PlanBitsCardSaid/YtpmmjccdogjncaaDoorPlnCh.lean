/- The law PlanChecks: the walk. -/
import Derived.Test.YtpmmjccdogjncaaDoorPlnOp
namespace Go.Proofs.YtpmmjccdogjncaaDoor
open Go.RowKit Go.ChangeMaps
set_option linter.unusedSimpArgs false

set_option maxRecDepth 20000 in
set_option maxHeartbeats 16000000 in
theorem planChecks_walk (v : Value) (p : Pl) (w : World) (h : PlanIn w v p) :
    Calls Tryd.prog 4 #[v] w fun e w' => e = .returned (.bool true) ∧ Below w.heap.size w w' := by
  obtain ⟨ve, vb, rfl, ⟨he, _⟩, ⟨hb, _⟩, _, _, _⟩ := h
  have HA : RowKit.Hid (∀ W, Calls Tryd.prog 14 #[] W fun e w' => e = .returned (.bool true) ∧ Below W.heap.size W w') := Lib.hid fun W => awakeP_any W
  have HF : RowKit.Hid (∀ W, HasE intC W ve p.exits → HasE stC W vb p.bks → Calls Tryd.prog 19 #[planV p ve vb] W fun e w' => e = .returned (.bool (fewP p)) ∧ Below W.heap.size W w') := Lib.hid fun W h1 h2 => fewP_any p ve vb W h1 h2
  have HBL := Lib.hid (planC_blk w p ve vb)
  cases hf : fewP p with
  | false =>
    rw [hf] at HF
    obtain ⟨a, b, q, x, bk⟩ := p
    obtain ⟨pe, ce, rfl⟩ := he.len
    obtain ⟨pb, cb, rfl⟩ := hb.len
    simp only at he hb HF ⊢
    obtain ⟨w1, e1, a0, a1, a2, a3, a4, hb1, hz1⟩ := plan_boxed w a b q (.slice pe x.length ce) (.slice pb bk.length cb)
    unfold planC at HBL
    simp only at HBL
    rw [e1] at HBL
    have HE := Lib.hid (he.mono hb1)
    have HS := Lib.hid (hb.mono hb1)
    have HB := Lib.hid hb1
    unfold planV at HF ⊢
    clear he hb hb1 hz1 hf a0 a1 a2 a3 a4
    go_enter Tryd.func4, Tryd.ntmps4
    go_wp2_with (first
      | (go_at_call 14; (with_reducible refine (HA.out _).mono ?_); rintro e w2 ⟨rfl, hb2⟩)
      | (refine wpList_load_mid rfl 32 (.tmp 1) rfl w.heap.size 0 rfl _ _ (HBL.out.mono hb2).range Tryd.underlying32 rfl info_plan ?_)
      | (go_at_call 19; (with_reducible refine (HF.out _ (HE.out.mono hb2) (HS.out.mono hb2)).mono ?_); rintro e w3 ⟨rfl, hb3⟩))
    go_ret
    exact ⟨rfl, bel_trans HB.out (bel_trans hb2 hb3)⟩
  | true =>
    obtain ⟨f1, f2, f3⟩ := of_decide_eq_true hf
    rw [hf] at HF
    have HR : RowKit.Hid (∀ W, HasE intC W ve p.exits → HasE stC W vb p.bks → Calls Tryd.prog 20 #[planV p ve vb] W fun e w' => e = .returned (.bool (rightB p)) ∧ Below W.heap.size W w') := Lib.hid fun W h1 h2 => right_any p ve vb W h1 h2 (by unfold maxLen; omega) (by omega)
    have HN : RowKit.Hid (∀ W, HasE intC W ve p.exits → HasE stC W vb p.bks → Calls Tryd.prog 21 #[planV p ve vb] W fun e w' => newE p W.heap.size e w' ∧ Below W.heap.size W w') := Lib.hid fun W h1 h2 => new_any p ve vb W h1 h2 (by omega) (by omega) (by omega)
    have HC : RowKit.Hid (∀ W, HasE intC W ve p.exits → HasE stC W vb p.bks → Calls Tryd.prog 22 #[planV p ve vb] W fun e w' => e = .returned (.int .i64 (errOf (rightB p))) ∧ Below W.heap.size W w') := Lib.hid fun W h1 h2 => check_any p ve vb W h1 h2 (by unfold maxLen; omega) (by omega) (by omega)
    have HNE : RowKit.Hid (∀ B e w', newE p B e w' → (rightB p = false ∧ e = .returned (.tuple #[.pointer none, .int .i64 4])) ∨ (rightB p = true ∧ ∃ g, e = .returned (.tuple #[.pointer (some ⟨g, 0, none⟩), .int .i64 0]))) := Lib.hid fun B e w' h => by
      obtain ⟨v, z, rfl, h | h⟩ := newE_form h
      · obtain ⟨h1, rfl, rfl⟩ := h
        exact .inl ⟨h1, rfl⟩
      · obtain ⟨h1, rfl, ⟨g, rfl⟩, _⟩ := h
        exact .inr ⟨h1, g, rfl⟩
    obtain ⟨a, b, q, x, bk⟩ := p
    obtain ⟨pe, ce, rfl⟩ := he.len
    obtain ⟨pb, cb, rfl⟩ := hb.len
    simp only at he hb HF HR HN HC ⊢
    obtain ⟨w1, e1, a0, a1, a2, a3, a4, hb1, hz1⟩ := plan_boxed w a b q (.slice pe x.length ce) (.slice pb bk.length cb)
    unfold planC at HBL
    simp only at HBL
    rw [e1] at HBL
    have HE := Lib.hid (he.mono hb1)
    have HS := Lib.hid (hb.mono hb1)
    have HB := Lib.hid hb1
    unfold planV at HF HR HN HC ⊢
    clear he hb hb1 hz1 hf f1 f2 f3
    go_enter Tryd.func4, Tryd.ntmps4
    go_upto_region 6 with (first
      | (go_at_call 14; (with_reducible refine (HA.out _).mono ?_); rintro e w2 ⟨rfl, hb2⟩)
      | (refine wpList_load_mid rfl 32 (.tmp 1) rfl w.heap.size 0 rfl _ _ (HBL.out.mono hb2).range Tryd.underlying32 rfl info_plan ?_)
      | (go_at_call 19; (with_reducible refine (HF.out _ (HE.out.mono hb2) (HS.out.mono hb2)).mono ?_); rintro e w3 ⟨rfl, hb3⟩; have hb13 := bel_trans hb2 hb3)
      | (refine wpList_load_mid rfl 32 (.tmp 1) rfl w.heap.size 0 rfl _ _ (HBL.out.mono hb13).range Tryd.underlying32 rfl info_plan ?_)
      | (go_at_call 20; (with_reducible refine (HR.out _ (HE.out.mono hb13) (HS.out.mono hb13)).mono ?_); rintro e w4 ⟨rfl, hb4⟩; have hb14 := bel_trans hb13 hb4))
    clear hb2 hb3 hb13 hb4
    go_upto_region 7 with (first
      | (refine wpList_load_mid rfl 32 (.tmp 1) rfl w.heap.size 0 rfl _ _ (HBL.out.mono hb14).range Tryd.underlying32 rfl info_plan ?_)
      | (go_at_call 21; (with_reducible refine (HN.out _ (HE.out.mono hb14) (HS.out.mono hb14)).mono ?_); rintro e w5 ⟨hne, hb5⟩; have hb15 := bel_trans hb14 hb5; obtain ⟨hr, rfl⟩ | ⟨hr, g, rfl⟩ := HNE.out _ _ _ hne))
    all_goals
      rw [hr] at HC
      simp only [errOf, if_true, if_false] at HC
      clear hne hb14 hb5 HNE
      have HCC : RowKit.Hid (∀ W, Below w1.heap.size w1 W → _) := Lib.hid fun W h => HC.out W (HE.out.mono h) (HS.out.mono h)
      clear HC HN HR HF HA
      go_wp2_with (first
        | (refine wpList_load_mid rfl 32 (.tmp 1) rfl w.heap.size 0 rfl _ _ (HBL.out.mono hb15).range Tryd.underlying32 rfl info_plan ?_)
        | (go_at_call 22; (with_reducible refine (HCC.out _ hb15).mono ?_); rintro e w6 ⟨rfl, hb6⟩; have hb16 := bel_trans hb15 hb6; clear hb15; have b0 := cell_bel hb16 a0; have b1 := cell_bel hb16 a1; have b2 := cell_bel hb16 a2; have b3 := cell_bel hb16 a3; have b4 := cell_bel hb16 a4)
        | (go_at_call 22; (with_reducible refine (HCC.out _ hb16).mono ?_); rintro e w7 ⟨rfl, hb7⟩))
      go_ret
      exact ⟨rfl, bel_trans HB.out (bel_trans hb16 hb7)⟩
end Go.Proofs.YtpmmjccdogjncaaDoor
