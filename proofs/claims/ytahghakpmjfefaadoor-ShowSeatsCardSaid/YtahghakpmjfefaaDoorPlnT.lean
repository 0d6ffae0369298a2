/- The reference's Has and Seats. -/
import Derived.Test.YtahghakpmjfefaaDoorKA
import Derived.Test.YtahghakpmjfefaaDoorKD
import Derived.Test.YtahghakpmjfefaaDoorKF
import Derived.Test.YtahghakpmjfefaaDoorPlnI
import Derived.Test.YtahghakpmjfefaaDoorPlnJ
import Derived.Test.YtahghakpmjfefaaDoorPlnP
import Derived.Test.YtahghakpmjfefaaDoorKG
import Derived.Test.YtahghakpmjfefaaDoorRows
import Derived.WalkKit
import Derived.WalkSpells
import Derived.WalkLawsBesides
import Derived.Lib.ConvBytes
import Derived.Lib.Hide
import Derived.Lib.SliceRun
import Derived.IntWalk
import Derived.BigQuiet
import Derived.Deep.QuietTactic
import Derived.Deep.RegionWith
import Derived.Deep.RegionHeld3
import Derived.Deep.LoopGhost
import Derived.Deep.CutRange
import Derived.Deep.CutBlock
import Derived.Deep.MidRow
import Derived.Laws.OwnMore
import Derived.OwnWalk
import Derived.Laws.AppendOwnNone
import Derived.Maps.AppendAt
import Derived.Laws.Rows
import Derived.Maps.OwnOps
import Derived.DeepKeys5
import Derived.Lib.Bytealg
import Derived.Deep.RegionLaw
import Derived.Deep.AppendLies
namespace Go.Proofs.YtahghakpmjfefaaDoor
open Go.RowKit Go.ChangeMaps
set_option linter.unusedSimpArgs false

/-- A plan that can be gone through. -/
structure OkP (p : Pl) (l : List UInt8) : Prop where
  hl : letF p.lets.data.toList = some l
  hsz : p.lets.size ≤ 1000000
  h1 : 1 ≤ p.first
  h2 : p.last ≤ 60
  hx : p.exits.length ≤ 100000
  hbk : p.bks.length ≤ 100000

theorem OkP.len {p : Pl} {l : List UInt8} (h : OkP p l) : (placesL p.first p.last l).length ≤ 600 := by
  obtain ⟨_, l2, _⟩ := letF_some h.hl
  have h1 := h.h1
  have h2 := h.h2
  rw [placesL_len]
  calc (p.last + 1 - p.first).toNat * l.length ≤ 60 * 10 := Nat.mul_le_mul (by omega) l2
    _ = 600 := rfl

theorem OkP.szm {p : Pl} {l : List UInt8} (h : OkP p l) : p.lets.size ≤ maxLen := Nat.le_trans h.hsz (by unfold maxLen; omega)

set_option maxRecDepth 20000 in
set_option maxHeartbeats 8000000 in
theorem rhas_any (p : Pl) (ve vb : Value) (s : St) (l : List UInt8) (w : World) (hk : OkP p l) (hb : HasE stC w vb p.bks) :
    Calls Tryd.prog 64 #[planV p ve vb, seatK_c s] w fun e w' => e = .returned (.bool (hasB p l s)) ∧ Below w.heap.size w w' := by
  have HPL : RowKit.Hid (∀ W, Calls Tryd.prog 62 #[planV p ve vb] W fun e w' => ∃ v, e = .returned v ∧ OwnS w' W.heap.size v (placesL p.first p.last l) ∧ Below W.heap.size W w') := Lib.hid fun W => places_any_c p ve vb l W hk.hl hk.szm hk.h1 hk.h2
  have hlen := hk.len
  have hbkl := hk.hbk
  have HHB : RowKit.Hid (∀ (x y : Bool), decide (s ∈ placesL p.first p.last l) = x → decide (s ∈ p.bks) = y → hasB p l s = (x && !y)) := Lib.hid fun x y h1 h2 => by unfold hasB; rw [h1, h2]
  obtain ⟨a, b, q, x, bk⟩ := p
  obtain ⟨r, c⟩ := s
  simp only at hb HPL HHB hlen hbkl ⊢
  obtain ⟨w1, e1, a0, a1, a2, a3, a4, hb1, hz1⟩ := plan_boxed w a b q ve vb
  obtain ⟨w2, e2, c0, c1, hb2, hz2⟩ := seat_boxed w1 r c
  have hb12 := bel_trans hb1 hb2
  have HB := Lib.hid hb12
  have HC : RowKit.Hid (∀ W, Below w2.heap.size w2 W → (W.cell? ⟨w.heap.size, 0, none⟩ = some (.int .i64 a) ∧ W.cell? ⟨w.heap.size, 1, none⟩ = some (.int .i64 b) ∧ W.cell? ⟨w.heap.size, 2, none⟩ = some (.string q) ∧ W.cell? ⟨w.heap.size, 3, none⟩ = some ve ∧ W.cell? ⟨w.heap.size, 4, none⟩ = some vb) ∧ W.cell? ⟨w1.heap.size, 0, none⟩ = some (.int .i64 r) ∧ W.cell? ⟨w1.heap.size, 1, none⟩ = some (.int .u8 c.toNat) ∧ Below w2.heap.size w2 W) := Lib.hid fun W h =>
    have h2 := bel_trans hb2 h
    ⟨⟨cell_bel h2 a0, cell_bel h2 a1, cell_bel h2 a2, cell_bel h2 a3, cell_bel h2 a4⟩, cell_bel h c0, cell_bel h c1, h⟩
  have HAT : RowKit.Hid (∀ W v, HasE stC W v (placesL a b l) → Calls Tryd.prog 63 #[v, .agg #[.int .i64 r, .int .u8 c.toNat]] W fun e w' => e = .returned (.int .i64 (atL (placesL a b l) (r, c))) ∧ Below W.heap.size W w') := Lib.hid fun W v h => at_any _ v (r, c) W h (by omega)
  have HAB : RowKit.Hid (∀ W, Below w2.heap.size w2 W → Calls Tryd.prog 63 #[vb, .agg #[.int .i64 r, .int .u8 c.toNat]] W fun e w' => e = .returned (.int .i64 (atL bk (r, c))) ∧ Below W.heap.size W w') := Lib.hid fun W h => at_any _ vb (r, c) W (hb.mono (bel_trans hb12 h)) (by omega)
  have hS0 := HC.out w2.drew (Below.refl _ _).drew
  unfold planV seatK_c seatV
  unfold planV at HPL
  have hn1 := @atL_nn (placesL a b l) (r, c)
  have hn2 := @atL_neg bk (r, c)
  generalize atL (placesL a b l) (r, c) = A1 at *
  generalize atL bk (r, c) = A2 at *
  clear a0 a1 a2 a3 a4 c0 c1 hb hb1 hb2 hb12 hz1 hz2 hk
  by_cases h1 : (r, c) ∈ placesL a b l
  · have d1 : decide (0 ≤ A1) = true := decide_eq_true (hn1.2 h1)
    have hr : RowKit.Hid (hasB ⟨a, b, q, x, bk⟩ l (r, c) = decide (A2 < 0)) := Lib.hid (by
      by_cases h2 : (r, c) ∈ bk
      · rw [HHB.out true true (decide_eq_true h1) (decide_eq_true h2), decide_eq_false (fun h => hn2.1 h h2)]; rfl
      · rw [HHB.out true false (decide_eq_true h1) (decide_eq_false h2), decide_eq_true (hn2.2 h2)]; rfl)
    clear hn1 hn2 HHB h1
    go_enter Tryd.func64, Tryd.ntmps64
    go_upto_region 1 with fail
    clear e1 e2
    go_region_held3 (fun W => (W.cell? ⟨w.heap.size, 0, none⟩ = some (.int .i64 a) ∧ W.cell? ⟨w.heap.size, 1, none⟩ = some (.int .i64 b) ∧ W.cell? ⟨w.heap.size, 2, none⟩ = some (.string q) ∧ W.cell? ⟨w.heap.size, 3, none⟩ = some ve ∧ W.cell? ⟨w.heap.size, 4, none⟩ = some vb) ∧ W.cell? ⟨w1.heap.size, 0, none⟩ = some (.int .i64 r) ∧ W.cell? ⟨w1.heap.size, 1, none⟩ = some (.int .u8 c.toNat) ∧ Below w2.heap.size w2 W)
      (first
        | exact hS0
        | assumption
        | exact HC.out _ (below_low_c (show _ ∧ _ ∧ _ ∧ Below w2.heap.size w2 _ by assumption).2.2.2 (show _ ∧ _ ∧ _ ∧ Below w2.heap.size w2 _ by assumption).2.2.2.size hb3)
        | exact HC.out _ (below_low_c (show _ ∧ _ ∧ _ ∧ Below w2.heap.size w2 _ by assumption).2.2.2 (show _ ∧ _ ∧ _ ∧ Below w2.heap.size w2 _ by assumption).2.2.2.size hb4)
        | exact HC.out _ (below_low_c (show _ ∧ _ ∧ _ ∧ Below w2.heap.size w2 _ by assumption).2.2.2 (show _ ∧ _ ∧ _ ∧ Below w2.heap.size w2 _ by assumption).2.2.2.size hb5))
      (first
        | (go_at_call 62; (with_reducible refine (HPL.out _).mono ?_); rintro e w3 ⟨v3, rfl, ho3, hb3⟩)
        | (go_at_call 63; (with_reducible refine (HAT.out _ _ ho3.has).mono ?_); rintro e w4 ⟨rfl, hb4⟩)
        | (go_at_call 63; (with_reducible refine (HAB.out _ (show _ ∧ _ ∧ _ ∧ Below w2.heap.size w2 _ by assumption).2.2.2).mono ?_); rintro e w5 ⟨rfl, hb5⟩))
    go_wp2
    go_ret
    exact ⟨ret_bool (by rw [hr.out]), bel_trans HB.out (show _ ∧ _ ∧ _ ∧ Below w2.heap.size w2 _ by assumption).2.2.2⟩
  · have d1 : decide (0 ≤ A1) = false := decide_eq_false (fun h => h1 (hn1.1 h))
    have hr : RowKit.Hid (hasB ⟨a, b, q, x, bk⟩ l (r, c) = false) := Lib.hid (by
      rw [HHB.out false _ (decide_eq_false h1) rfl]; rfl)
    clear hn1 hn2 HHB h1
    go_enter Tryd.func64, Tryd.ntmps64
    go_upto_region 1 with fail
    clear e1 e2
    refine wp_region_noPanic ?_
    refine wp_region_held_drew (S := (fun W => (W.cell? ⟨w.heap.size, 0, none⟩ = some (.int .i64 a) ∧ W.cell? ⟨w.heap.size, 1, none⟩ = some (.int .i64 b) ∧ W.cell? ⟨w.heap.size, 2, none⟩ = some (.string q) ∧ W.cell? ⟨w.heap.size, 3, none⟩ = some ve ∧ W.cell? ⟨w.heap.size, 4, none⟩ = some vb) ∧ W.cell? ⟨w1.heap.size, 0, none⟩ = some (.int .i64 r) ∧ W.cell? ⟨w1.heap.size, 1, none⟩ = some (.int .u8 c.toNat) ∧ Below w2.heap.size w2 W)) (by kernel_rfl) hS0 (fun hHeld => ?_)
    refine wpAnyH_take (i := 0) (oi := _) (v := ?_) rfl (by kernel_rfl) (by kernel_rfl) (by kernel_rfl) (fun _ _ _ h => h) (Or.inl ⟨by rfl, ?_⟩) (by assumption) ?_
    rotate_left
    · intro w hSw
      (try dsimp only at hSw)
      go_simp
      (try with_reducible rfl)
    try simp only [Act.put, List.getElem_toArray, List.getElem_cons_succ, List.getElem_cons_zero, List.setIfInBounds_toArray, List.set_cons_zero, List.set_cons_succ]
    refine wpAnyH_take (i := 2) (oi := _) (v := ?_) rfl (by kernel_rfl) (by kernel_rfl) (by kernel_rfl) (fun _ _ _ h => h) (Or.inl ⟨by rfl, ?_⟩) (by assumption) ?_
    rotate_left
    · intro w hSw
      (try dsimp only at hSw)
      go_simp
      (try with_reducible rfl)
    try simp only [Act.put, List.getElem_toArray, List.getElem_cons_succ, List.getElem_cons_zero, List.setIfInBounds_toArray, List.set_cons_zero, List.set_cons_succ]
    refine wpAnyH_ready (rs := [1]) (by kernel_rfl) (by simp) ?_
    refine AllReadyH.cons (o := _) rfl (fun K hK => ?_) AllReadyH.nil
    go_simp
    go_at_call 62
    (with_reducible refine (HPL.out _).mono ?_)
    rintro e w3 ⟨v3, rfl, ho3, hb3⟩
    go_simp
    refine hK.out _ _ (HC.out _ (below_low_c hHeld.2.2.2 hHeld.2.2.2.size hb3)) (fun hHeld => ?_)
    clear hK K
    try simp only [Act.put, List.getElem_toArray, List.getElem_cons_succ, List.getElem_cons_zero, List.setIfInBounds_toArray, List.set_cons_zero, List.set_cons_succ]
    refine wpAnyH_ready (rs := [3]) (by kernel_rfl) (by simp) ?_
    refine AllReadyH.cons (o := _) rfl (fun K hK => ?_) AllReadyH.nil
    go_simp
    go_at_call 63
    (with_reducible refine (HAT.out _ _ ho3.has).mono ?_)
    rintro e w4 ⟨rfl, hb4⟩
    go_simp
    refine hK.out _ _ (HC.out _ (below_low_c hHeld.2.2.2 hHeld.2.2.2.size hb4)) (fun hHeld => ?_)
    clear hK K
    try simp only [Act.put, List.getElem_toArray, List.getElem_cons_succ, List.getElem_cons_zero, List.setIfInBounds_toArray, List.set_cons_zero, List.set_cons_succ]
    refine wpAnyH_take (i := 4) (oi := _) (v := ?_) rfl (by kernel_rfl) (by kernel_rfl) (by kernel_rfl) (fun _ _ _ h => h) (Or.inl ⟨by rfl, ?_⟩) (by assumption) ?_
    rotate_left
    · intro w hSw
      (try dsimp only at hSw)
      go_simp
      (try with_reducible rfl)
    try simp only [Act.put, List.getElem_toArray, List.getElem_cons_succ, List.getElem_cons_zero, List.setIfInBounds_toArray, List.set_cons_zero, List.set_cons_succ]
    refine wpAnyH_take (i := 5) (oi := _) (v := ?_) rfl (by kernel_rfl) (by kernel_rfl) (by kernel_rfl) (fun _ _ _ h => h) (Or.inl ⟨by rfl, ?_⟩) (by assumption) ?_
    rotate_left
    · intro w hSw
      (try dsimp only at hSw)
      go_simp
      (try with_reducible rfl)
    try simp only [Act.put, List.getElem_toArray, List.getElem_cons_succ, List.getElem_cons_zero, List.setIfInBounds_toArray, List.set_cons_zero, List.set_cons_succ]
    refine wpAnyH_take (i := 6) (oi := _) (v := undef) rfl (by kernel_rfl) (by kernel_rfl) (by kernel_rfl) (fun _ _ _ h => h) (Or.inr ⟨by rfl, rfl⟩) (by assumption) ?_
    try simp only [Act.put, List.getElem_toArray, List.getElem_cons_succ, List.getElem_cons_zero, List.setIfInBounds_toArray, List.set_cons_zero, List.set_cons_succ]
    refine wpAnyH_take (i := 7) (oi := _) (v := undef) rfl (by kernel_rfl) (by kernel_rfl) (by kernel_rfl) (fun _ _ _ h => h) (Or.inr ⟨by rfl, rfl⟩) (by assumption) ?_
    try simp only [Act.put, List.getElem_toArray, List.getElem_cons_succ, List.getElem_cons_zero, List.setIfInBounds_toArray, List.set_cons_zero, List.set_cons_succ]
    refine wpAnyH_take (i := 8) (oi := _) (v := undef) rfl (by kernel_rfl) (by kernel_rfl) (by kernel_rfl) (fun _ _ _ h => h) (Or.inr ⟨by rfl, rfl⟩) (by assumption) ?_
    try simp only [Act.put, List.getElem_toArray, List.getElem_cons_succ, List.getElem_cons_zero, List.setIfInBounds_toArray, List.set_cons_zero, List.set_cons_succ]
    refine wpAnyH_take (i := 9) (oi := _) (v := undef) rfl (by kernel_rfl) (by kernel_rfl) (by kernel_rfl) (fun _ _ _ h => h) (Or.inr ⟨by rfl, rfl⟩) (by assumption) ?_
    try simp only [Act.put, List.getElem_toArray, List.getElem_cons_succ, List.getElem_cons_zero, List.setIfInBounds_toArray, List.set_cons_zero, List.set_cons_succ]
    refine wpAnyH_take (i := 10) (oi := _) (v := undef) rfl (by kernel_rfl) (by kernel_rfl) (by kernel_rfl) (fun _ _ _ h => h) (Or.inr ⟨by rfl, rfl⟩) (by assumption) ?_
    try simp only [Act.put, List.getElem_toArray, List.getElem_cons_succ, List.getElem_cons_zero, List.setIfInBounds_toArray, List.set_cons_zero, List.set_cons_succ]
    refine wpAnyH_take (i := 11) (oi := _) (v := ?_) rfl (by kernel_rfl) (by kernel_rfl) (by kernel_rfl) (fun _ _ _ h => h) (Or.inl ⟨by rfl, ?_⟩) (by assumption) ?_
    rotate_left
    · intro w hSw
      (try dsimp only at hSw)
      go_simp
      (try with_reducible rfl)
    try simp only [Act.put, List.getElem_toArray, List.getElem_cons_succ, List.getElem_cons_zero, List.setIfInBounds_toArray, List.set_cons_zero, List.set_cons_succ]
    refine wpAnyH_take (i := 12) (oi := _) (v := ?_) rfl (by kernel_rfl) (by kernel_rfl) (by kernel_rfl) (fun _ _ _ h => h) (Or.inl ⟨by rfl, ?_⟩) (by assumption) ?_
    rotate_left
    · intro w hSw
      (try dsimp only at hSw)
      go_simp
      (try with_reducible rfl)
    try simp only [Act.put, List.getElem_toArray, List.getElem_cons_succ, List.getElem_cons_zero, List.setIfInBounds_toArray, List.set_cons_zero, List.set_cons_succ]
    refine wpAnyH_done (by kernel_rfl) ?_ _
    refine NoPanic.normal ?_
    go_wp2
    go_ret
    exact ⟨ret_bool (by rw [hr.out]), bel_trans HB.out hHeld.2.2.2⟩

end Go.Proofs.YtahghakpmjfefaaDoor
