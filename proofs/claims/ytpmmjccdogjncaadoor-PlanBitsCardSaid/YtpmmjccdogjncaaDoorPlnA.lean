/- Seats and their texts: plan.Text, jetwayref09.Text. -/
import Derived.Test.YtpmmjccdogjncaaDoorScrF
import Derived.Deep.RegionHeld3
namespace Go.Proofs.YtpmmjccdogjncaaDoor
open Go.RowKit
set_option linter.unusedSimpArgs false

/-- A seat as a value. -/
def seatV (r : Int) (c : UInt8) : Value := .agg #[.int .i64 r, .int .u8 c.toNat]

def isL (c : Int) : Bool := decide (65 ≤ c ∧ c ≤ 90)

/-- The text of a seat. -/
def seatT (r : Int) (c : UInt8) : ByteArray := if 1 ≤ r ∧ r ≤ 99 ∧ isL c.toNat = true then digA r.toNat ++ ⟨#[c]⟩ else ⟨#[]⟩

theorem refLetter_any (c : Int) (w : World) (h0 : 0 ≤ c) (h1 : c ≤ 255) :
    Calls Tryd.prog 54 #[.int .u8 c] w fun e w' => e = .returned (.bool (isL c)) ∧ w = w' := by
  go_enter Tryd.func54, Tryd.ntmps54
  go_wp2
  all_goals
    go_ret
    exact ⟨ret_bool (by unfold isL; first | (symm; apply decide_eq_true; omega) | (symm; apply decide_eq_false; omega) | (apply decide_eq_decide.2; omega)), rfl⟩

theorem seatT_no {r : Int} {c : UInt8} (h : ¬ (1 ≤ r ∧ r ≤ 99 ∧ isL c.toNat = true)) : seatT r c = ⟨#[]⟩ := if_neg h

theorem digA_small {n : Nat} (h : n < 100) : (digA n).size ≤ 2 := by
  show (digL n).length ≤ 2
  rw [digL_two h]
  unfold two
  split <;> simp

theorem one_conv (c : UInt8) (w : World) : (convert 82 9 (.slice (some ⟨w.heap.size, 0, none⟩) 1 1)).run Tryd.prog (w.alloc (.cells #[.int .u8 c.toNat] 5)).drew = .ok (.string ⟨#[c]⟩) (w.alloc (.cells #[.int .u8 c.toNat] 5)).drew := by
  refine string_conv [c] _ w.heap.size 1 1 rfl fun j hj => ?_
  show (w.alloc _).cell? _ = _
  rw [World.cell?_alloc_new]
  match j, hj with
  | 0, _ => rfl

theorem one_conv0 (c : UInt8) (w : World) : (convert 82 9 (.slice (some ⟨w.heap.size, 0, none⟩) 1 1)).run Tryd.prog (w.alloc (.cells #[.int .u8 c.toNat] 5)) = .ok (.string ⟨#[c]⟩) (w.alloc (.cells #[.int .u8 c.toNat] 5)) := by
  refine string_conv [c] _ w.heap.size 1 1 rfl fun j hj => ?_
  rw [World.cell?_alloc_new]
  match j, hj with
  | 0, _ => rfl

theorem one_conv_at (c : UInt8) (w : World) (b : Nat) (h : w.cell? ⟨b, 0, none⟩ = some (.int .u8 c.toNat)) : (convert 82 9 (.slice (some ⟨b, 0, none⟩) 1 1)).run Tryd.prog w = .ok (.string ⟨#[c]⟩) w := by
  refine string_conv [c] _ b 1 1 rfl fun j hj => ?_
  match j, hj with
  | 0, _ => exact h

/-- Two cells, and the world below, stay through a new block. -/
theorem held2_alloc {w W : World} {a a' : Addr} {x y : Value} (h : W.cell? a = some x ∧ W.cell? a' = some y ∧ Below w.heap.size w W) (o : Obj) : (W.alloc o).drew.cell? a = some x ∧ (W.alloc o).drew.cell? a' = some y ∧ Below w.heap.size w (W.alloc o).drew := by
  have hb := (Below.refl W.heap.size W).alloc (Nat.le_refl _) o
  exact ⟨cell_bel (wr := W.alloc o) hb h.1, cell_bel (wr := W.alloc o) hb h.2.1, (h.2.2.alloc h.2.2.size o).drew⟩

theorem held2_drew {w W : World} {a a' : Addr} {x y : Value} (h : W.drew.cell? a = some x ∧ W.drew.cell? a' = some y ∧ Below w.heap.size w W.drew) (o : Obj) : (W.alloc o).drew.cell? a = some x ∧ (W.alloc o).drew.cell? a' = some y ∧ Below w.heap.size w (W.alloc o).drew := by
  have hb := (Below.refl W.heap.size W).alloc (Nat.le_refl _) o
  exact ⟨cell_bel (wr := W.alloc o) hb h.1, cell_bel (wr := W.alloc o) hb h.2.1, h.2.2.alloc h.2.2.size o⟩

theorem held2_bel {w W W' : World} {a a' : Addr} {x y : Value} (h : W.cell? a = some x ∧ W.cell? a' = some y ∧ Below w.heap.size w W) (hb : Below W.heap.size W W') : W'.cell? a = some x ∧ W'.cell? a' = some y ∧ Below w.heap.size w W' :=
  ⟨cell_bel hb h.1, cell_bel hb h.2.1, bel_trans h.2.2 hb⟩

/-- A boxed seat. -/
theorem seat_boxed (w : World) (r : Int) (c : UInt8) : ∃ w1, w.alloc (.cells #[.int .i64 r, .int .u8 c.toNat] 23) = w1 ∧ w1.cell? ⟨w.heap.size, 0, none⟩ = some (.int .i64 r) ∧ w1.cell? ⟨w.heap.size, 1, none⟩ = some (.int .u8 c.toNat) ∧ Below w.heap.size w w1 ∧ w1.heap.size = w.heap.size + 1 :=
  ⟨_, rfl, World.cell?_alloc_new _ _ _ _, World.cell?_alloc_new _ _ _ _, (Below.refl _ _).alloc (Nat.le_refl _) _, by simp⟩

set_option maxRecDepth 20000 in
theorem text_any (r : Int) (c : UInt8) (w : World) :
    Calls Tryd.prog 15 #[.agg #[.int .i64 r, .int .u8 c.toNat]] w fun e w' => e = .returned (.string (seatT r c)) ∧ Below w.heap.size w w' := by
  have hc0 : (0 : Int) ≤ (c.toNat : Int) := by omega
  have hc1 := byte_hi c
  by_cases h1 : r < 1
  · have HF : RowKit.Hid (seatT r c = ⟨#[]⟩) := Lib.hid (seatT_no (by omega))
    go_enter Tryd.func15, Tryd.ntmps15
    go_wp2
    go_ret
    exact ⟨ret_str (by rw [HF.out]), (Below.refl _ _).alloc (Nat.le_refl _) _⟩
  · by_cases h2 : 99 < r
    · have HF : RowKit.Hid (seatT r c = ⟨#[]⟩) := Lib.hid (seatT_no (by omega))
      go_enter Tryd.func15, Tryd.ntmps15
      go_wp2
      go_ret
      exact ⟨ret_str (by rw [HF.out]), (Below.refl _ _).alloc (Nat.le_refl _) _⟩
    · have g1 : (1 : Int) ≤ r := by omega
      have g2 : r ≤ 99 := by omega
      by_cases h3 : isL c.toNat = true
      · obtain ⟨n, rfl⟩ := Int.eq_ofNat_of_zero_le (show (0 : Int) ≤ r by omega)
        have HF : RowKit.Hid (seatT n c = digA n ++ ⟨#[c]⟩) := Lib.hid (if_pos ⟨g1, g2, h3⟩)
        unfold isL at h3
        have hd := of_decide_eq_true h3
        have hw1 : IntKind.u8.wrap ((c.toNat : Int) - 65) = (c.toNat : Int) - 65 := by simp [IntKind.wrap, IntKind.bits, IntKind.signed] ; omega
        have CI : ∀ W, _ := fun W => itoa_any n W (by omega)
        have HI := Lib.hid CI
        have hsz := digA_small (n := n) (by omega)
        clear h3 CI
        have hs1 : ¬ 9223372036854775807 < (digA n).size + 1 := by omega
        have hcv := one_conv c
        obtain ⟨w1, e1, k1, k2, kb, ks⟩ := seat_boxed w n c
        clear ks
        go_enter Tryd.func15, Tryd.ntmps15
        go_wp2
        generalize digA n = D at *
        clear e1
        refine wp_region_noPanic ?_
        refine wp_region_held_drew (S := fun W => W.cell? ⟨w.heap.size, 0, none⟩ = some (.int .i64 n) ∧ W.cell? ⟨w.heap.size, 1, none⟩ = some (.int .u8 c.toNat) ∧ Below w.heap.size w W) (by kernel_rfl) ⟨k1, k2, kb.drew⟩ (fun hHeld => ?_)
        refine wpAnyH_take (i := 0) (oi := _) (v := ?_) rfl (by kernel_rfl) (by kernel_rfl) (by kernel_rfl) (fun _ _ _ h => h) (Or.inl ⟨by rfl, ?_⟩) (by assumption) ?_
        rotate_left
        · intro w hSw
          (try dsimp only at hSw)
          go_simp
          (try with_reducible rfl)
        try simp only [Act.put, List.getElem_toArray, List.getElem_cons_succ, List.getElem_cons_zero, List.setIfInBounds_toArray, List.set_cons_zero, List.set_cons_succ]
        refine wpAnyH_take (i := 1) (oi := _) (v := ?_) rfl (by kernel_rfl) (by kernel_rfl) (by kernel_rfl) (fun _ _ _ h => h) (Or.inl ⟨by rfl, ?_⟩) (by assumption) ?_
        rotate_left
        · intro w hSw
          (try dsimp only at hSw)
          go_simp
          (try with_reducible rfl)
        try simp only [Act.put, List.getElem_toArray, List.getElem_cons_succ, List.getElem_cons_zero, List.setIfInBounds_toArray, List.set_cons_zero, List.set_cons_succ]
        refine wpAnyH_take (i := 3) (oi := _) (v := ?_) rfl (by kernel_rfl) (by kernel_rfl) (by kernel_rfl) (fun _ _ _ h => h) (Or.inl ⟨by rfl, ?_⟩) (by assumption) ?_
        rotate_left
        · intro w hSw
          (try dsimp only at hSw)
          go_simp
          (try with_reducible rfl)
        try simp only [Act.put, List.getElem_toArray, List.getElem_cons_succ, List.getElem_cons_zero, List.setIfInBounds_toArray, List.set_cons_zero, List.set_cons_succ]
        refine wpAnyH_take (i := 4) (oi := _) (v := ?_) rfl (by kernel_rfl) (by kernel_rfl) (by kernel_rfl) (fun _ _ _ h => h) (Or.inl ⟨by rfl, ?_⟩) (by assumption) ?_
        rotate_left
        · intro w hSw
          (try dsimp only at hSw)
          go_simp
          (try with_reducible rfl)
        try simp only [Act.put, List.getElem_toArray, List.getElem_cons_succ, List.getElem_cons_zero, List.setIfInBounds_toArray, List.set_cons_zero, List.set_cons_succ]
        refine wpAnyH_ready (rs := [2, 5]) (by kernel_rfl) (by simp) ?_
        refine (AllReadyH.cons (o := _) rfl (fun K hK => ?_) (AllReadyH.cons (o := _) rfl (fun K hK => ?_) AllReadyH.nil))
        · go_simp
          go_at_call 53
          (with_reducible refine (HI.out _).mono ?_)
          rintro e w3 ⟨rfl, rfl⟩
          go_simp
          refine hK.out _ _ hHeld (fun hHeld => ?_)
          clear hK K
          try simp only [Act.put, List.getElem_toArray, List.getElem_cons_succ, List.getElem_cons_zero, List.setIfInBounds_toArray, List.set_cons_zero, List.set_cons_succ]
          refine wpAnyH_ready (rs := [5]) (by kernel_rfl) (by simp) ?_
          refine AllReadyH.cons (o := _) rfl (fun K hK => ?_) AllReadyH.nil
          go_simp
          refine hK.out _ _ (held2_drew hHeld _) (fun hHeld => ?_)
          clear hK K
          try simp only [Act.put, List.getElem_toArray, List.getElem_cons_succ, List.getElem_cons_zero, List.setIfInBounds_toArray, List.set_cons_zero, List.set_cons_succ]
          refine wpAnyH_ready (rs := [6]) (by kernel_rfl) (by simp) ?_
          refine AllReadyH.cons (o := _) rfl (fun K hK => ?_) AllReadyH.nil
          go_simp
          refine hK.out _ _ hHeld (fun hHeld => ?_)
          clear hK K
          try simp only [Act.put, List.getElem_toArray, List.getElem_cons_succ, List.getElem_cons_zero, List.setIfInBounds_toArray, List.set_cons_zero, List.set_cons_succ]
          refine wpAnyH_take (i := 7) (oi := _) (v := ?_) rfl (by kernel_rfl) (by kernel_rfl) (by kernel_rfl) (fun _ _ _ h => h) (Or.inl ⟨by rfl, ?_⟩) (by assumption) ?_
          rotate_left
          · intro w hSw
            (try dsimp only at hSw)
            go_simp
            (try with_reducible rfl)
          try simp only [Act.put, List.getElem_toArray, List.getElem_cons_succ, List.getElem_cons_zero, List.setIfInBounds_toArray, List.set_cons_zero, List.set_cons_succ]
          refine wpAnyH_take (i := 8) (oi := _) (v := ?_) rfl (by kernel_rfl) (by kernel_rfl) (by kernel_rfl) (fun _ _ _ h => h) (Or.inl ⟨by rfl, ?_⟩) (by assumption) ?_
          rotate_left
          · intro w hSw
            (try dsimp only at hSw)
            go_simp
            (try with_reducible rfl)
          try simp only [Act.put, List.getElem_toArray, List.getElem_cons_succ, List.getElem_cons_zero, List.setIfInBounds_toArray, List.set_cons_zero, List.set_cons_succ]
          refine wpAnyH_done (by kernel_rfl) ?_ _
          refine NoPanic.normal ?_
          go_wp2
          go_ret
          exact ⟨ret_str (by rw [HF.out]), hHeld.2.2⟩
        · go_simp
          refine hK.out _ _ (held2_drew hHeld _) (fun hHeld => ?_)
          clear hK K
          try simp only [Act.put, List.getElem_toArray, List.getElem_cons_succ, List.getElem_cons_zero, List.setIfInBounds_toArray, List.set_cons_zero, List.set_cons_succ]
          refine wpAnyH_ready (rs := [2, 6]) (by kernel_rfl) (by simp) ?_
          refine (AllReadyH.cons (o := _) rfl (fun K hK => ?_) (AllReadyH.cons (o := _) rfl (fun K hK => ?_) AllReadyH.nil))
          · go_simp
            go_at_call 53
            (with_reducible refine (HI.out _).mono ?_)
            rintro e w3 ⟨rfl, rfl⟩
            go_simp
            refine hK.out _ _ hHeld (fun hHeld => ?_)
            clear hK K
            try simp only [Act.put, List.getElem_toArray, List.getElem_cons_succ, List.getElem_cons_zero, List.setIfInBounds_toArray, List.set_cons_zero, List.set_cons_succ]
            refine wpAnyH_ready (rs := [6]) (by kernel_rfl) (by simp) ?_
            refine AllReadyH.cons (o := _) rfl (fun K hK => ?_) AllReadyH.nil
            go_simp
            refine hK.out _ _ hHeld (fun hHeld => ?_)
            clear hK K
            try simp only [Act.put, List.getElem_toArray, List.getElem_cons_succ, List.getElem_cons_zero, List.setIfInBounds_toArray, List.set_cons_zero, List.set_cons_succ]
            refine wpAnyH_take (i := 7) (oi := _) (v := ?_) rfl (by kernel_rfl) (by kernel_rfl) (by kernel_rfl) (fun _ _ _ h => h) (Or.inl ⟨by rfl, ?_⟩) (by assumption) ?_
            rotate_left
            · intro w hSw
              (try dsimp only at hSw)
              go_simp
              (try with_reducible rfl)
            try simp only [Act.put, List.getElem_toArray, List.getElem_cons_succ, List.getElem_cons_zero, List.setIfInBounds_toArray, List.set_cons_zero, List.set_cons_succ]
            refine wpAnyH_take (i := 8) (oi := _) (v := ?_) rfl (by kernel_rfl) (by kernel_rfl) (by kernel_rfl) (fun _ _ _ h => h) (Or.inl ⟨by rfl, ?_⟩) (by assumption) ?_
            rotate_left
            · intro w hSw
              (try dsimp only at hSw)
              go_simp
              (try with_reducible rfl)
            try simp only [Act.put, List.getElem_toArray, List.getElem_cons_succ, List.getElem_cons_zero, List.setIfInBounds_toArray, List.set_cons_zero, List.set_cons_succ]
            refine wpAnyH_done (by kernel_rfl) ?_ _
            refine NoPanic.normal ?_
            go_wp2
            go_ret
            exact ⟨ret_str (by rw [HF.out]), hHeld.2.2⟩
          · go_simp
            refine hK.out _ _ hHeld (fun hHeld => ?_)
            clear hK K
            try simp only [Act.put, List.getElem_toArray, List.getElem_cons_succ, List.getElem_cons_zero, List.setIfInBounds_toArray, List.set_cons_zero, List.set_cons_succ]
            refine wpAnyH_ready (rs := [2]) (by kernel_rfl) (by simp) ?_
            refine AllReadyH.cons (o := _) rfl (fun K hK => ?_) AllReadyH.nil
            go_simp
            go_at_call 53
            (with_reducible refine (HI.out _).mono ?_)
            rintro e w3 ⟨rfl, rfl⟩
            go_simp
            refine hK.out _ _ hHeld (fun hHeld => ?_)
            clear hK K
            try simp only [Act.put, List.getElem_toArray, List.getElem_cons_succ, List.getElem_cons_zero, List.setIfInBounds_toArray, List.set_cons_zero, List.set_cons_succ]
            refine wpAnyH_take (i := 7) (oi := _) (v := ?_) rfl (by kernel_rfl) (by kernel_rfl) (by kernel_rfl) (fun _ _ _ h => h) (Or.inl ⟨by rfl, ?_⟩) (by assumption) ?_
            rotate_left
            · intro w hSw
              (try dsimp only at hSw)
              go_simp
              (try with_reducible rfl)
            try simp only [Act.put, List.getElem_toArray, List.getElem_cons_succ, List.getElem_cons_zero, List.setIfInBounds_toArray, List.set_cons_zero, List.set_cons_succ]
            refine wpAnyH_take (i := 8) (oi := _) (v := ?_) rfl (by kernel_rfl) (by kernel_rfl) (by kernel_rfl) (fun _ _ _ h => h) (Or.inl ⟨by rfl, ?_⟩) (by assumption) ?_
            rotate_left
            · intro w hSw
              (try dsimp only at hSw)
              go_simp
              (try with_reducible rfl)
            try simp only [Act.put, List.getElem_toArray, List.getElem_cons_succ, List.getElem_cons_zero, List.setIfInBounds_toArray, List.set_cons_zero, List.set_cons_succ]
            refine wpAnyH_done (by kernel_rfl) ?_ _
            refine NoPanic.normal ?_
            go_wp2
            go_ret
            exact ⟨ret_str (by rw [HF.out]), hHeld.2.2⟩
      · have HF : RowKit.Hid (seatT r c = ⟨#[]⟩) := Lib.hid (seatT_no (by simp [h3]))
        have hn : ¬ (65 ≤ (c.toNat : Int) ∧ (c.toNat : Int) ≤ 90) := fun h => h3 (by unfold isL; exact decide_eq_true h)
        clear h3
        go_enter Tryd.func15, Tryd.ntmps15
        go_wp2
        go_ret
        exact ⟨ret_str (by rw [HF.out]), (Below.refl _ _).alloc (Nat.le_refl _) _⟩

set_option maxRecDepth 20000 in
theorem refText_any (r : Int) (c : UInt8) (w : World) :
    Calls Tryd.prog 18 #[.agg #[.int .i64 r, .int .u8 c.toNat]] w fun e w' => e = .returned (.string (seatT r c)) ∧ Below w.heap.size w w' := by
  have hc0 : (0 : Int) ≤ (c.toNat : Int) := by omega
  have hc1 := byte_hi c
  have CL : ∀ W, _ := fun W => refLetter_any (c.toNat : Int) W hc0 hc1
  by_cases h1 : r < 1
  · have HF : RowKit.Hid (seatT r c = ⟨#[]⟩) := Lib.hid (seatT_no (by omega))
    go_enter Tryd.func18, Tryd.ntmps18
    go_wp2
    go_ret
    exact ⟨ret_str (by rw [HF.out]), (Below.refl _ _).alloc (Nat.le_refl _) _⟩
  · by_cases h2 : 99 < r
    · have HF : RowKit.Hid (seatT r c = ⟨#[]⟩) := Lib.hid (seatT_no (by omega))
      go_enter Tryd.func18, Tryd.ntmps18
      go_wp2
      go_ret
      exact ⟨ret_str (by rw [HF.out]), (Below.refl _ _).alloc (Nat.le_refl _) _⟩
    · have g1 : (1 : Int) ≤ r := by omega
      have g2 : r ≤ 99 := by omega
      obtain ⟨w1, e1, k1, k2, kb, ks⟩ := seat_boxed w r c
      clear ks
      cases h3 : isL c.toNat
      · have HF : RowKit.Hid (seatT r c = ⟨#[]⟩) := Lib.hid (seatT_no (by rw [h3]; simp))
        rw [h3] at CL
        have HL := Lib.hid CL
        clear CL
        go_enter Tryd.func18, Tryd.ntmps18
        go_wp2_with (first | (go_at_call 54; (with_reducible refine (HL.out _).mono ?_); rintro e w3 ⟨rfl, rfl⟩))
        go_ret
        exact ⟨ret_str (by rw [HF.out]), kb⟩
      · obtain ⟨n, rfl⟩ := Int.eq_ofNat_of_zero_le (show (0 : Int) ≤ r by omega)
        have HF : RowKit.Hid (seatT n c = digA n ++ ⟨#[c]⟩) := Lib.hid (if_pos ⟨g1, g2, h3⟩)
        rw [h3] at CL
        have HL := Lib.hid CL
        have CI : ∀ W, _ := fun W => digits_any n W (by omega)
        have HI := Lib.hid CI
        have hsz := digA_small (n := n) (by omega)
        clear CI CL
        have hs1 : ¬ 9223372036854775807 < (digA n).size + 1 := by omega
        have hcv := one_conv c
        have hcv0 := one_conv0 c
        go_enter Tryd.func18, Tryd.ntmps18
        go_wp2_with (first | (go_at_call 54; (with_reducible refine (HL.out _).mono ?_); rintro e w3 ⟨rfl, rfl⟩))
        generalize digA n = D at *
        clear e1
        refine wp_region_noPanic ?_
        refine wp_region_held_drew (S := fun W => W.cell? ⟨w.heap.size, 0, none⟩ = some (.int .i64 n) ∧ W.cell? ⟨w.heap.size, 1, none⟩ = some (.int .u8 c.toNat) ∧ Below w.heap.size w W) (by kernel_rfl) ⟨k1, k2, kb.drew⟩ (fun hHeld => ?_)
        refine wpAnyH_take (i := 0) (oi := _) (v := ?_) rfl (by kernel_rfl) (by kernel_rfl) (by kernel_rfl) (fun _ _ _ h => h) (Or.inl ⟨by rfl, ?_⟩) (by assumption) ?_
        rotate_left
        · intro w hSw
          (try dsimp only at hSw)
          go_simp
          (try with_reducible rfl)
        try simp only [Act.put, List.getElem_toArray, List.getElem_cons_succ, List.getElem_cons_zero, List.setIfInBounds_toArray, List.set_cons_zero, List.set_cons_succ]
        refine wpAnyH_take (i := 1) (oi := _) (v := ?_) rfl (by kernel_rfl) (by kernel_rfl) (by kernel_rfl) (fun _ _ _ h => h) (Or.inl ⟨by rfl, ?_⟩) (by assumption) ?_
        rotate_left
        · intro w hSw
          (try dsimp only at hSw)
          go_simp
          (try with_reducible rfl)
        try simp only [Act.put, List.getElem_toArray, List.getElem_cons_succ, List.getElem_cons_zero, List.setIfInBounds_toArray, List.set_cons_zero, List.set_cons_succ]
        refine wpAnyH_take (i := 3) (oi := _) (v := ?_) rfl (by kernel_rfl) (by kernel_rfl) (by kernel_rfl) (fun _ _ _ h => h) (Or.inl ⟨by rfl, ?_⟩) (by assumption) ?_
        rotate_left
        · intro w hSw
          (try dsimp only at hSw)
          go_simp
          (try with_reducible rfl)
        try simp only [Act.put, List.getElem_toArray, List.getElem_cons_succ, List.getElem_cons_zero, List.setIfInBounds_toArray, List.set_cons_zero, List.set_cons_succ]
        refine wpAnyH_take (i := 4) (oi := _) (v := ?_) rfl (by kernel_rfl) (by kernel_rfl) (by kernel_rfl) (fun _ _ _ h => h) (Or.inl ⟨by rfl, ?_⟩) (by assumption) ?_
        rotate_left
        · intro w hSw
          (try dsimp only at hSw)
          go_simp
          (try with_reducible rfl)
        try simp only [Act.put, List.getElem_toArray, List.getElem_cons_succ, List.getElem_cons_zero, List.setIfInBounds_toArray, List.set_cons_zero, List.set_cons_succ]
        refine wpAnyH_ready (rs := [2, 5]) (by kernel_rfl) (by simp) ?_
        refine (AllReadyH.cons (o := _) rfl (fun K hK => ?_) (AllReadyH.cons (o := _) rfl (fun K hK => ?_) AllReadyH.nil))
        · go_simp
          go_at_call 55
          (with_reducible refine (HI.out _).mono ?_)
          rintro e w3 ⟨rfl, hb3⟩
          go_simp
          refine hK.out _ _ (held2_bel hHeld hb3) (fun hHeld => ?_)
          clear hK K
          try simp only [Act.put, List.getElem_toArray, List.getElem_cons_succ, List.getElem_cons_zero, List.setIfInBounds_toArray, List.set_cons_zero, List.set_cons_succ]
          refine wpAnyH_ready (rs := [5]) (by kernel_rfl) (by simp) ?_
          refine AllReadyH.cons (o := _) rfl (fun K hK => ?_) AllReadyH.nil
          go_simp
          refine hK.out _ _ (held2_bel hHeld ((Below.refl _ _).alloc (Nat.le_refl _) _)) (fun hHeld => ?_)
          clear hK K
          try simp only [Act.put, List.getElem_toArray, List.getElem_cons_succ, List.getElem_cons_zero, List.setIfInBounds_toArray, List.set_cons_zero, List.set_cons_succ]
          refine wpAnyH_ready (rs := [6]) (by kernel_rfl) (by simp) ?_
          refine AllReadyH.cons (o := _) rfl (fun K hK => ?_) AllReadyH.nil
          go_simp
          refine hK.out _ _ hHeld (fun hHeld => ?_)
          clear hK K
          try simp only [Act.put, List.getElem_toArray, List.getElem_cons_succ, List.getElem_cons_zero, List.setIfInBounds_toArray, List.set_cons_zero, List.set_cons_succ]
          refine wpAnyH_take (i := 7) (oi := _) (v := ?_) rfl (by kernel_rfl) (by kernel_rfl) (by kernel_rfl) (fun _ _ _ h => h) (Or.inl ⟨by rfl, ?_⟩) (by assumption) ?_
          rotate_left
          · intro w hSw
            (try dsimp only at hSw)
            go_simp
            (try with_reducible rfl)
          try simp only [Act.put, List.getElem_toArray, List.getElem_cons_succ, List.getElem_cons_zero, List.setIfInBounds_toArray, List.set_cons_zero, List.set_cons_succ]
          refine wpAnyH_take (i := 8) (oi := _) (v := ?_) rfl (by kernel_rfl) (by kernel_rfl) (by kernel_rfl) (fun _ _ _ h => h) (Or.inl ⟨by rfl, ?_⟩) (by assumption) ?_
          rotate_left
          · intro w hSw
            (try dsimp only at hSw)
            go_simp
            (try with_reducible rfl)
          try simp only [Act.put, List.getElem_toArray, List.getElem_cons_succ, List.getElem_cons_zero, List.setIfInBounds_toArray, List.set_cons_zero, List.set_cons_succ]
          refine wpAnyH_done (by kernel_rfl) ?_ _
          refine NoPanic.normal ?_
          go_wp2
          go_ret
          exact ⟨ret_str (by rw [HF.out]), hHeld.2.2⟩
        · go_simp
          refine hK.out _ _ (held2_drew hHeld _) (fun hHeld => ?_)
          clear hK K
          try simp only [Act.put, List.getElem_toArray, List.getElem_cons_succ, List.getElem_cons_zero, List.setIfInBounds_toArray, List.set_cons_zero, List.set_cons_succ]
          refine wpAnyH_ready (rs := [2, 6]) (by kernel_rfl) (by simp) ?_
          refine (AllReadyH.cons (o := _) rfl (fun K hK => ?_) (AllReadyH.cons (o := _) rfl (fun K hK => ?_) AllReadyH.nil))
          · go_simp
            go_at_call 55
            (with_reducible refine (HI.out _).mono ?_)
            rintro e w3 ⟨rfl, hb3⟩
            have hcx := one_conv_at c w3 w1.heap.size (cell_bel hb3 (World.cell?_alloc_new w1 _ _ _))
            go_simp
            refine hK.out _ _ (held2_bel hHeld hb3) (fun hHeld => ?_)
            clear hK K
            try simp only [Act.put, List.getElem_toArray, List.getElem_cons_succ, List.getElem_cons_zero, List.setIfInBounds_toArray, List.set_cons_zero, List.set_cons_succ]
            refine wpAnyH_ready (rs := [6]) (by kernel_rfl) (by simp) ?_
            refine AllReadyH.cons (o := _) rfl (fun K hK => ?_) AllReadyH.nil
            go_simp
            refine hK.out _ _ hHeld (fun hHeld => ?_)
            clear hK K
            try simp only [Act.put, List.getElem_toArray, List.getElem_cons_succ, List.getElem_cons_zero, List.setIfInBounds_toArray, List.set_cons_zero, List.set_cons_succ]
            refine wpAnyH_take (i := 7) (oi := _) (v := ?_) rfl (by kernel_rfl) (by kernel_rfl) (by kernel_rfl) (fun _ _ _ h => h) (Or.inl ⟨by rfl, ?_⟩) (by assumption) ?_
            rotate_left
            · intro w hSw
              (try dsimp only at hSw)
              go_simp
              (try with_reducible rfl)
            try simp only [Act.put, List.getElem_toArray, List.getElem_cons_succ, List.getElem_cons_zero, List.setIfInBounds_toArray, List.set_cons_zero, List.set_cons_succ]
            refine wpAnyH_take (i := 8) (oi := _) (v := ?_) rfl (by kernel_rfl) (by kernel_rfl) (by kernel_rfl) (fun _ _ _ h => h) (Or.inl ⟨by rfl, ?_⟩) (by assumption) ?_
            rotate_left
            · intro w hSw
              (try dsimp only at hSw)
              go_simp
              (try with_reducible rfl)
            try simp only [Act.put, List.getElem_toArray, List.getElem_cons_succ, List.getElem_cons_zero, List.setIfInBounds_toArray, List.set_cons_zero, List.set_cons_succ]
            refine wpAnyH_done (by kernel_rfl) ?_ _
            refine NoPanic.normal ?_
            go_wp2
            go_ret
            exact ⟨ret_str (by rw [HF.out]), hHeld.2.2⟩
          · go_simp
            refine hK.out _ _ hHeld (fun hHeld => ?_)
            clear hK K
            try simp only [Act.put, List.getElem_toArray, List.getElem_cons_succ, List.getElem_cons_zero, List.setIfInBounds_toArray, List.set_cons_zero, List.set_cons_succ]
            refine wpAnyH_ready (rs := [2]) (by kernel_rfl) (by simp) ?_
            refine AllReadyH.cons (o := _) rfl (fun K hK => ?_) AllReadyH.nil
            go_simp
            go_at_call 55
            (with_reducible refine (HI.out _).mono ?_)
            rintro e w3 ⟨rfl, hb3⟩
            go_simp
            refine hK.out _ _ (held2_bel hHeld hb3) (fun hHeld => ?_)
            clear hK K
            try simp only [Act.put, List.getElem_toArray, List.getElem_cons_succ, List.getElem_cons_zero, List.setIfInBounds_toArray, List.set_cons_zero, List.set_cons_succ]
            refine wpAnyH_take (i := 7) (oi := _) (v := ?_) rfl (by kernel_rfl) (by kernel_rfl) (by kernel_rfl) (fun _ _ _ h => h) (Or.inl ⟨by rfl, ?_⟩) (by assumption) ?_
            rotate_left
            · intro w hSw
              (try dsimp only at hSw)
              go_simp
              (try with_reducible rfl)
            try simp only [Act.put, List.getElem_toArray, List.getElem_cons_succ, List.getElem_cons_zero, List.setIfInBounds_toArray, List.set_cons_zero, List.set_cons_succ]
            refine wpAnyH_take (i := 8) (oi := _) (v := ?_) rfl (by kernel_rfl) (by kernel_rfl) (by kernel_rfl) (fun _ _ _ h => h) (Or.inl ⟨by rfl, ?_⟩) (by assumption) ?_
            rotate_left
            · intro w hSw
              (try dsimp only at hSw)
              go_simp
              (try with_reducible rfl)
            try simp only [Act.put, List.getElem_toArray, List.getElem_cons_succ, List.getElem_cons_zero, List.setIfInBounds_toArray, List.set_cons_zero, List.set_cons_succ]
            refine wpAnyH_done (by kernel_rfl) ?_ _
            refine NoPanic.normal ?_
            go_wp2
            go_ret
            exact ⟨ret_str (by rw [HF.out]), hHeld.2.2⟩
end Go.Proofs.YtpmmjccdogjncaaDoor
