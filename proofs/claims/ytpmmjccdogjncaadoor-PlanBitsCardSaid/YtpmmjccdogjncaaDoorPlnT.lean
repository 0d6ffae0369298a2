/- The reference's Has and Seats. -/
import Derived.Test.YtpmmjccdogjncaaDoorPlnS
namespace Go.Proofs.YtpmmjccdogjncaaDoor
open Go.RowKit Go.ChangeMaps
set_option linter.unusedSimpArgs false

/-- A plan that can be gone through. -/
structure OkP (p : Pl) (l : List UInt8) : Prop where
  hl : letF p.lets.data.toList = some l
  hsz : p.lets.size ≤ 1000000
  h1 : 1 ≤ p.first
  h2 : p.last ≤ 60
  hx : p.exits.length ≤ 100000
  hbk : p.bks.length ≤ 100000

theorem OkP.len {p : Pl} {l : List UInt8} (h : OkP p l) : (placesL p.first p.last l).length ≤ 600 := by
  obtain ⟨_, l2, _⟩ := letF_some h.hl
  have h1 := h.h1
  have h2 := h.h2
  rw [placesL_len]
  calc (p.last + 1 - p.first).toNat * l.length ≤ 60 * 10 := Nat.mul_le_mul (by omega) l2
    _ = 600 := rfl

theorem OkP.szm {p : Pl} {l : List UInt8} (h : OkP p l) : p.lets.size ≤ maxLen := Nat.le_trans h.hsz (by unfold maxLen; omega)

set_option maxRecDepth 20000 in
set_option maxHeartbeats 8000000 in
theorem rhas_any (p : Pl) (ve vb : Value) (s : St) (l : List UInt8) (w : World) (hk : OkP p l) (hb : HasE stC w vb p.bks) :
    Calls Tryd.prog 29 #[planV p ve vb, seatK s] w fun e w' => e = .returned (.bool (hasB p l s)) ∧ Below w.heap.size w w' := by
  have HPL : RowKit.Hid (∀ W, Calls Tryd.prog 27 #[planV p ve vb] W fun e w' => ∃ v, e = .returned v ∧ OwnS w' W.heap.size v (placesL p.first p.last l) ∧ Below W.heap.size W w') := Lib.hid fun W => places_any p ve vb l W hk.hl hk.szm hk.h1 hk.h2
  have hlen := hk.len
  have hbkl := hk.hbk
  have HHB : RowKit.Hid (∀ (x y : Bool), decide (s ∈ placesL p.first p.last l) = x → decide (s ∈ p.bks) = y → hasB p l s = (x && !y)) := Lib.hid fun x y h1 h2 => by unfold hasB; rw [h1, h2]
  obtain ⟨a, b, q, x, bk⟩ := p
  obtain ⟨r, c⟩ := s
  simp only at hb HPL HHB hlen hbkl ⊢
  obtain ⟨w1, e1, a0, a1, a2, a3, a4, hb1, hz1⟩ := plan_boxed w a b q ve vb
  obtain ⟨w2, e2, c0, c1, hb2, hz2⟩ := seat_boxed w1 r c
  have hb12 := bel_trans hb1 hb2
  have HB := Lib.hid hb12
  have HC : RowKit.Hid (∀ W, Below w2.heap.size w2 W → (W.cell? ⟨w.heap.size, 0, none⟩ = some (.int .i64 a) ∧ W.cell? ⟨w.heap.size, 1, none⟩ = some (.int .i64 b) ∧ W.cell? ⟨w.heap.size, 2, none⟩ = some (.string q) ∧ W.cell? ⟨w.heap.size, 3, none⟩ = some ve ∧ W.cell? ⟨w.heap.size, 4, none⟩ = some vb) ∧ W.cell? ⟨w1.heap.size, 0, none⟩ = some (.int .i64 r) ∧ W.cell? ⟨w1.heap.size, 1, none⟩ = some (.int .u8 c.toNat) ∧ Below w2.heap.size w2 W) := Lib.hid fun W h =>
    have h2 := bel_trans hb2 h
    ⟨⟨cell_bel h2 a0, cell_bel h2 a1, cell_bel h2 a2, cell_bel h2 a3, cell_bel h2 a4⟩, cell_bel h c0, cell_bel h c1, h⟩
  have HAT : RowKit.Hid (∀ W v, HasE stC W v (placesL a b l) → Calls Tryd.prog 31 #[v, .agg #[.int .i64 r, .int .u8 c.toNat]] W fun e w' => e = .returned (.int .i64 (atL (placesL a b l) (r, c))) ∧ Below W.heap.size W w') := Lib.hid fun W v h => at_any _ v (r, c) W h (by omega)
  have HAB : RowKit.Hid (∀ W, Below w2.heap.size w2 W → Calls Tryd.prog 31 #[vb, .agg #[.int .i64 r, .int .u8 c.toNat]] W fun e w' => e = .returned (.int .i64 (atL bk (r, c))) ∧ Below W.heap.size W w') := Lib.hid fun W h => at_any _ vb (r, c) W (hb.mono (bel_trans hb12 h)) (by omega)
  have hS0 := HC.out w2.drew (Below.refl _ _).drew
  unfold planV seatK seatV
  unfold planV at HPL
  have hn1 := @atL_nn (placesL a b l) (r, c)
  have hn2 := @atL_neg bk (r, c)
  generalize atL (placesL a b l) (r, c) = A1 at *
  generalize atL bk (r, c) = A2 at *
  clear a0 a1 a2 a3 a4 c0 c1 hb hb1 hb2 hb12 hz1 hz2 hk
  by_cases h1 : (r, c) ∈ placesL a b l
  · have d1 : decide (0 ≤ A1) = true := decide_eq_true (hn1.2 h1)
    have hr : RowKit.Hid (hasB ⟨a, b, q, x, bk⟩ l (r, c) = decide (A2 < 0)) := Lib.hid (by
      by_cases h2 : (r, c) ∈ bk
      · rw [HHB.out true true (decide_eq_true h1) (decide_eq_true h2), decide_eq_false (fun h => hn2.1 h h2)]; rfl
      · rw [HHB.out true false (decide_eq_true h1) (decide_eq_false h2), decide_eq_true (hn2.2 h2)]; rfl)
    clear hn1 hn2 HHB h1
    go_enter Tryd.func29, Tryd.ntmps29
    go_upto_region 1 with fail
    clear e1 e2
    go_region_held3 (fun W => (W.cell? ⟨w.heap.size, 0, none⟩ = some (.int .i64 a) ∧ W.cell? ⟨w.heap.size, 1, none⟩ = some (.int .i64 b) ∧ W.cell? ⟨w.heap.size, 2, none⟩ = some (.string q) ∧ W.cell? ⟨w.heap.size, 3, none⟩ = some ve ∧ W.cell? ⟨w.heap.size, 4, none⟩ = some vb) ∧ W.cell? ⟨w1.heap.size, 0, none⟩ = some (.int .i64 r) ∧ W.cell? ⟨w1.heap.size, 1, none⟩ = some (.int .u8 c.toNat) ∧ Below w2.heap.size w2 W)
      (first
        | exact hS0
        | assumption
        | exact HC.out _ (below_low (show _ ∧ _ ∧ _ ∧ Below w2.heap.size w2 _ by assumption).2.2.2 (show _ ∧ _ ∧ _ ∧ Below w2.heap.size w2 _ by assumption).2.2.2.size hb3)
        | exact HC.out _ (below_low (show _ ∧ _ ∧ _ ∧ Below w2.heap.size w2 _ by assumption).2.2.2 (show _ ∧ _ ∧ _ ∧ Below w2.heap.size w2 _ by assumption).2.2.2.size hb4)
        | exact HC.out _ (below_low (show _ ∧ _ ∧ _ ∧ Below w2.heap.size w2 _ by assumption).2.2.2 (show _ ∧ _ ∧ _ ∧ Below w2.heap.size w2 _ by assumption).2.2.2.size hb5))
      (first
        | (go_at_call 27; (with_reducible refine (HPL.out _).mono ?_); rintro e w3 ⟨v3, rfl, ho3, hb3⟩)
        | (go_at_call 31; (with_reducible refine (HAT.out _ _ ho3.has).mono ?_); rintro e w4 ⟨rfl, hb4⟩)
        | (go_at_call 31; (with_reducible refine (HAB.out _ (show _ ∧ _ ∧ _ ∧ Below w2.heap.size w2 _ by assumption).2.2.2).mono ?_); rintro e w5 ⟨rfl, hb5⟩))
    go_wp2
    go_ret
    exact ⟨ret_bool (by rw [hr.out]), bel_trans HB.out (show _ ∧ _ ∧ _ ∧ Below w2.heap.size w2 _ by assumption).2.2.2⟩
  · have d1 : decide (0 ≤ A1) = false := decide_eq_false (fun h => h1 (hn1.1 h))
    have hr : RowKit.Hid (hasB ⟨a, b, q, x, bk⟩ l (r, c) = false) := Lib.hid (by
      rw [HHB.out false _ (decide_eq_false h1) rfl]; rfl)
    clear hn1 hn2 HHB h1
    go_enter Tryd.func29, Tryd.ntmps29
    go_upto_region 1 with fail
    clear e1 e2
    refine wp_region_noPanic ?_
    refine wp_region_held_drew (S := (fun W => (W.cell? ⟨w.heap.size, 0, none⟩ = some (.int .i64 a) ∧ W.cell? ⟨w.heap.size, 1, none⟩ = some (.int .i64 b) ∧ W.cell? ⟨w.heap.size, 2, none⟩ = some (.string q) ∧ W.cell? ⟨w.heap.size, 3, none⟩ = some ve ∧ W.cell? ⟨w.heap.size, 4, none⟩ = some vb) ∧ W.cell? ⟨w1.heap.size, 0, none⟩ = some (.int .i64 r) ∧ W.cell? ⟨w1.heap.size, 1, none⟩ = some (.int .u8 c.toNat) ∧ Below w2.heap.size w2 W)) (by kernel_rfl) hS0 (fun hHeld => ?_)
    refine wpAnyH_take (i := 0) (oi := _) (v := ?_) rfl (by kernel_rfl) (by kernel_rfl) (by kernel_rfl) (fun _ _ _ h => h) (Or.inl ⟨by rfl, ?_⟩) (by assumption) ?_
    rotate_left
    · intro w hSw
      (try dsimp only at hSw)
      go_simp
      (try with_reducible rfl)
    try simp only [Act.put, List.getElem_toArray, List.getElem_cons_succ, List.getElem_cons_zero, List.setIfInBounds_toArray, List.set_cons_zero, List.set_cons_succ]
    refine wpAnyH_take (i := 2) (oi := _) (v := ?_) rfl (by kernel_rfl) (by kernel_rfl) (by kernel_rfl) (fun _ _ _ h => h) (Or.inl ⟨by rfl, ?_⟩) (by assumption) ?_
    rotate_left
    · intro w hSw
      (try dsimp only at hSw)
      go_simp
      (try with_reducible rfl)
    try simp only [Act.put, List.getElem_toArray, List.getElem_cons_succ, List.getElem_cons_zero, List.setIfInBounds_toArray, List.set_cons_zero, List.set_cons_succ]
    refine wpAnyH_ready (rs := [1]) (by kernel_rfl) (by simp) ?_
    refine AllReadyH.cons (o := _) rfl (fun K hK => ?_) AllReadyH.nil
    go_simp
    go_at_call 27
    (with_reducible refine (HPL.out _).mono ?_)
    rintro e w3 ⟨v3, rfl, ho3, hb3⟩
    go_simp
    refine hK.out _ _ (HC.out _ (below_low hHeld.2.2.2 hHeld.2.2.2.size hb3)) (fun hHeld => ?_)
    clear hK K
    try simp only [Act.put, List.getElem_toArray, List.getElem_cons_succ, List.getElem_cons_zero, List.setIfInBounds_toArray, List.set_cons_zero, List.set_cons_succ]
    refine wpAnyH_ready (rs := [3]) (by kernel_rfl) (by simp) ?_
    refine AllReadyH.cons (o := _) rfl (fun K hK => ?_) AllReadyH.nil
    go_simp
    go_at_call 31
    (with_reducible refine (HAT.out _ _ ho3.has).mono ?_)
    rintro e w4 ⟨rfl, hb4⟩
    go_simp
    refine hK.out _ _ (HC.out _ (below_low hHeld.2.2.2 hHeld.2.2.2.size hb4)) (fun hHeld => ?_)
    clear hK K
    try simp only [Act.put, List.getElem_toArray, List.getElem_cons_succ, List.getElem_cons_zero, List.setIfInBounds_toArray, List.set_cons_zero, List.set_cons_succ]
    refine wpAnyH_take (i := 4) (oi := _) (v := ?_) rfl (by kernel_rfl) (by kernel_rfl) (by kernel_rfl) (fun _ _ _ h => h) (Or.inl ⟨by rfl, ?_⟩) (by assumption) ?_
    rotate_left
    · intro w hSw
      (try dsimp only at hSw)
      go_simp
      (try with_reducible rfl)
    try simp only [Act.put, List.getElem_toArray, List.getElem_cons_succ, List.getElem_cons_zero, List.setIfInBounds_toArray, List.set_cons_zero, List.set_cons_succ]
    refine wpAnyH_take (i := 5) (oi := _) (v := ?_) rfl (by kernel_rfl) (by kernel_rfl) (by kernel_rfl) (fun _ _ _ h => h) (Or.inl ⟨by rfl, ?_⟩) (by assumption) ?_
    rotate_left
    · intro w hSw
      (try dsimp only at hSw)
      go_simp
      (try with_reducible rfl)
    try simp only [Act.put, List.getElem_toArray, List.getElem_cons_succ, List.getElem_cons_zero, List.setIfInBounds_toArray, List.set_cons_zero, List.set_cons_succ]
    refine wpAnyH_take (i := 6) (oi := _) (v := undef) rfl (by kernel_rfl) (by kernel_rfl) (by kernel_rfl) (fun _ _ _ h => h) (Or.inr ⟨by rfl, rfl⟩) (by assumption) ?_
    try simp only [Act.put, List.getElem_toArray, List.getElem_cons_succ, List.getElem_cons_zero, List.setIfInBounds_toArray, List.set_cons_zero, List.set_cons_succ]
    refine wpAnyH_take (i := 7) (oi := _) (v := undef) rfl (by kernel_rfl) (by kernel_rfl) (by kernel_rfl) (fun _ _ _ h => h) (Or.inr ⟨by rfl, rfl⟩) (by assumption) ?_
    try simp only [Act.put, List.getElem_toArray, List.getElem_cons_succ, List.getElem_cons_zero, List.setIfInBounds_toArray, List.set_cons_zero, List.set_cons_succ]
    refine wpAnyH_take (i := 8) (oi := _) (v := undef) rfl (by kernel_rfl) (by kernel_rfl) (by kernel_rfl) (fun _ _ _ h => h) (Or.inr ⟨by rfl, rfl⟩) (by assumption) ?_
    try simp only [Act.put, List.getElem_toArray, List.getElem_cons_succ, List.getElem_cons_zero, List.setIfInBounds_toArray, List.set_cons_zero, List.set_cons_succ]
    refine wpAnyH_take (i := 9) (oi := _) (v := undef) rfl (by kernel_rfl) (by kernel_rfl) (by kernel_rfl) (fun _ _ _ h => h) (Or.inr ⟨by rfl, rfl⟩) (by assumption) ?_
    try simp only [Act.put, List.getElem_toArray, List.getElem_cons_succ, List.getElem_cons_zero, List.setIfInBounds_toArray, List.set_cons_zero, List.set_cons_succ]
    refine wpAnyH_take (i := 10) (oi := _) (v := undef) rfl (by kernel_rfl) (by kernel_rfl) (by kernel_rfl) (fun _ _ _ h => h) (Or.inr ⟨by rfl, rfl⟩) (by assumption) ?_
    try simp only [Act.put, List.getElem_toArray, List.getElem_cons_succ, List.getElem_cons_zero, List.setIfInBounds_toArray, List.set_cons_zero, List.set_cons_succ]
    refine wpAnyH_take (i := 11) (oi := _) (v := ?_) rfl (by kernel_rfl) (by kernel_rfl) (by kernel_rfl) (fun _ _ _ h => h) (Or.inl ⟨by rfl, ?_⟩) (by assumption) ?_
    rotate_left
    · intro w hSw
      (try dsimp only at hSw)
      go_simp
      (try with_reducible rfl)
    try simp only [Act.put, List.getElem_toArray, List.getElem_cons_succ, List.getElem_cons_zero, List.setIfInBounds_toArray, List.set_cons_zero, List.set_cons_succ]
    refine wpAnyH_take (i := 12) (oi := _) (v := ?_) rfl (by kernel_rfl) (by kernel_rfl) (by kernel_rfl) (fun _ _ _ h => h) (Or.inl ⟨by rfl, ?_⟩) (by assumption) ?_
    rotate_left
    · intro w hSw
      (try dsimp only at hSw)
      go_simp
      (try with_reducible rfl)
    try simp only [Act.put, List.getElem_toArray, List.getElem_cons_succ, List.getElem_cons_zero, List.setIfInBounds_toArray, List.set_cons_zero, List.set_cons_succ]
    refine wpAnyH_done (by kernel_rfl) ?_ _
    refine NoPanic.normal ?_
    go_wp2
    go_ret
    exact ⟨ret_bool (by rw [hr.out]), bel_trans HB.out hHeld.2.2.2⟩

theorem held3_bel {w W W' : World} {a1 a2 a3 : Addr} {x1 x2 x3 : Value} (h : W.cell? a1 = some x1 ∧ W.cell? a2 = some x2 ∧ W.cell? a3 = some x3 ∧ Below w.heap.size w W) (hb : Below W.heap.size W W') : W'.cell? a1 = some x1 ∧ W'.cell? a2 = some x2 ∧ W'.cell? a3 = some x3 ∧ Below w.heap.size w W' :=
  ⟨cell_bel hb h.1, cell_bel hb h.2.1, cell_bel hb h.2.2.1, bel_trans h.2.2.2 hb⟩

set_option maxRecDepth 20000 in
set_option maxHeartbeats 8000000 in
theorem rseats_any (p : Pl) (ve vb : Value) (l : List UInt8) (w : World) (hk : OkP p l) (hb : HasE stC w vb p.bks) :
    Calls Tryd.prog 26 #[planV p ve vb] w fun e w' => ∃ v, e = .returned v ∧ OwnS w' w.heap.size v ((placesL p.first p.last l).filter fun s => !decide (s ∈ p.bks)) ∧ Below w.heap.size w w' := by
  have HPL : RowKit.Hid (∀ W, Calls Tryd.prog 27 #[planV p ve vb] W fun e w' => ∃ v, e = .returned v ∧ OwnS w' W.heap.size v (placesL p.first p.last l) ∧ Below W.heap.size W w') := Lib.hid fun W => places_any p ve vb l W hk.hl hk.szm hk.h1 hk.h2
  have hlen := hk.len
  have hbkl := hk.hbk
  have HBL := Lib.hid (planC_blk w p ve vb)
  obtain ⟨a, b, q, x, bk⟩ := p
  simp only at hb HPL hlen hbkl ⊢
  obtain ⟨w1, e1, _, _, _, _, a4, hb1, hz1⟩ := plan_boxed w a b q ve vb
  unfold planC at HBL
  simp only at HBL
  rw [e1] at HBL
  have HB := Lib.hid hb1
  have HAB : RowKit.Hid (∀ W s, Below w1.heap.size w1 W → Calls Tryd.prog 31 #[vb, .agg #[.int .i64 s.1, .int .u8 s.2.toNat]] W fun e w' => e = .returned (.int .i64 (atL bk s)) ∧ Below W.heap.size W w') := Lib.hid fun W s h => at_any _ vb s W (hb.mono (bel_trans hb1 h)) (by omega)
  unfold planV at HPL ⊢
  generalize placesL a b l = P at *
  generalize hN : P.length = N at *
  have HN := Lib.hid hN
  clear hb hb1 hz1 hk hN
  go_enter Tryd.func26, Tryd.ntmps26
  go_wp2_with (first
    | (refine wpList_load_mid rfl 32 (.tmp 1) rfl w.heap.size 0 rfl _ _ HBL.out.range Tryd.underlying32 rfl info_plan ?_)
    | (go_at_call 27; (with_reducible refine (HPL.out _).mono ?_); rintro e w3 ⟨v3, rfl, ho3, hb3⟩; obtain ⟨p3, c3, rfl⟩ := ho3.has.len; have HV := Lib.hid ho3.has; have d4 := cell_bel hb3 a4))
  clear e1 ho3 a4
  have HB3 := Lib.hid (bel_trans HB.out hb3)
  rw [HN.out] at HV ⊢
  go_loopg [4, 5] N (fun g0 o i wr => ∃ (k : Nat), k ≤ N ∧ g0 = N - k ∧ i = .int .i64 (k : Int) ∧ OwnS wr w3.heap.size o ((P.take k).filter fun s => !decide (s ∈ bk)) ∧ Below w3.heap.size w3 wr)
  case atStart => exact ⟨0, Nat.zero_le _, rfl, rfl, OwnS.nil _ _, Below.refl _ _⟩
  case round =>
    obtain ⟨k, hk, rfl, rfl, ho, hb5⟩ := hrel
    have HOW := Lib.hid ho
    clear ho
    by_cases hlt : k < N
    · have hki : (k : Int) < (N : Int) := by omega
      have hk0 : (0 : Int) ≤ (k : Int) := by omega
      have c4 := cell_bel hb5 d4
      obtain ⟨bb, off, rfl, _, g0, g1⟩ := st_at (HV.out.mono hb5) (i := k) (by rw [HN.out]; exact hlt)
      have hgk : P[k]? = some (P.getD k st0) := getD_get (by rw [HN.out]; exact hlt)
      have HFT := Lib.hid (filter_take (q := fun s => !decide (s ∈ bk)) hgk)
      have hlen1 : ((P.take k).filter fun s => !decide (s ∈ bk)).length + 1 ≤ 1000000 := by
        have := filter_few (fun s => !decide (s ∈ bk)) P k
        have := HN.out
        omega
      have HNEG := Lib.hid (@atL_neg bk (P.getD k st0))
      have HAB2 : RowKit.Hid (∀ W, Below wr.heap.size wr W → _) := Lib.hid fun W h => HAB.out W (P.getD k st0) (bel_trans (bel_trans hb3 hb5) h)
      clear hgk
      generalize P.getD k st0 = s at *
      generalize atL bk s = A at *
      have hS0 : wr.drew.cell? ⟨w.heap.size, 4, none⟩ = some vb ∧ wr.drew.cell? ⟨bb, off + k * 2, none⟩ = some (.int .i64 s.1) ∧ wr.drew.cell? ⟨bb, off + k * 2 + 1, none⟩ = some (.int .u8 s.2.toNat) ∧ Below wr.heap.size wr wr.drew := ⟨c4, g0, g1, (Below.refl _ _).drew⟩
      go_upto_region 6 with fail
      go_region_held3 (fun W => W.cell? ⟨w.heap.size, 4, none⟩ = some vb ∧ W.cell? ⟨bb, off + k * 2, none⟩ = some (.int .i64 s.1) ∧ W.cell? ⟨bb, off + k * 2 + 1, none⟩ = some (.int .u8 s.2.toNat) ∧ Below wr.heap.size wr W)
        (first
          | exact hS0
          | assumption
          | exact held3_bel (by assumption) hb4)
        (first
          | (go_at_call 31; (with_reducible refine (HAB2.out _ (show _ ∧ _ ∧ _ ∧ Below wr.heap.size wr _ by assumption).2.2.2).mono ?_); rintro e w4 ⟨rfl, hb4⟩))
      obtain ⟨_, t0, t1, hb6⟩ := (show w4.cell? ⟨w.heap.size, 4, none⟩ = some vb ∧ w4.cell? ⟨bb, off + k * 2, none⟩ = some (.int .i64 s.1) ∧ w4.cell? ⟨bb, off + k * 2 + 1, none⟩ = some (.int .u8 s.2.toNat) ∧ Below wr.heap.size wr w4 by assumption)
      have HOW9 := Lib.hid (HOW.out.mono hb6)
      have hb09 := bel_trans hb5 hb6
      have hbase := hb09.size
      clear hS0 c4 g0 g1
      by_cases hA : A < 0
      · have hmem := HNEG.out.1 hA
        have HF2 : RowKit.Hid ((P.take (k + 1)).filter (fun s => !decide (s ∈ bk)) = ((P.take k).filter fun s => !decide (s ∈ bk)) ++ [s]) := Lib.hid (by rw [HFT.out, if_pos (by simp [hmem])])
        clear hmem
        go_wp2_with (first
          | (at_builtin; refine wpList_push_seat rfl _ _ rfl w3.heap.size u4 ((P.take k).filter fun s => !decide (s ∈ bk)) s rfl HOW9.out rfl hlen1 hbase ?_; intro v7 w7 ho7 hb7 _))
        go_roundg (N - (k + 1))
        case measure => omega
        case rel => exact ⟨k + 1, by omega, rfl, by go_num, ho7.cast HF2.out.symm, hb09.trans hb7⟩
      · have hmem : s ∈ bk := Classical.byContradiction fun h => hA (HNEG.out.2 h)
        have HF2 : RowKit.Hid ((P.take (k + 1)).filter (fun s => !decide (s ∈ bk)) = ((P.take k).filter fun s => !decide (s ∈ bk))) := Lib.hid (by rw [HFT.out, if_neg (by simp [hmem])])
        clear hmem
        go_wp2
        go_roundg (N - (k + 1))
        case measure => omega
        case rel => exact ⟨k + 1, by omega, rfl, by go_num, HOW9.out.cast HF2.out.symm, hb09⟩
    · have hke : k = N := by omega
      subst hke
      have hki : ¬ (k : Int) < (k : Int) := by omega
      go_wp2
      go_ret
      refine ⟨_, rfl, own_low (HOW.out.cast (by rw [← HN.out, List.take_length])) HB3.out.size, bel_trans HB3.out hb5⟩
end Go.Proofs.YtpmmjccdogjncaaDoor
