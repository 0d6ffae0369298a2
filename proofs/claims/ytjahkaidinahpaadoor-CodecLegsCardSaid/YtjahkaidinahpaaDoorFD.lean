/- Seats' texts: strconv.Itoa and Digits below 100, plan.Text, jetwayref09.Text. -/
import Derived.Test.YtjahkaidinahpaaDoorED
namespace Go.Proofs.YtjahkaidinahpaaDoor
open Go.RowKit
set_option linter.unusedSimpArgs false
set_option linter.unusedVariables false

def dch (n : Nat) : UInt8 := UInt8.ofNat (48 + n % 10)

theorem dch_toNat (n : Nat) : (dch n).toNat = 48 + n % 10 := by unfold dch; rw [UInt8.toNat_ofNat']; omega

def digL (n : Nat) : List UInt8 := if _h : n < 10 then [dch n] else digL (n / 10) ++ [dch n]
termination_by n
decreasing_by omega

theorem digL_lt {n : Nat} (h : n < 10) : digL n = [dch n] := by rw [digL, dif_pos h]

theorem digL_ge {n : Nat} (h : ¬ n < 10) : digL n = digL (n / 10) ++ [dch n] := by rw [digL, dif_neg h]

def digA (n : Nat) : ByteArray := ⟨(digL n).toArray⟩

theorem digA_list (n : Nat) : (digA n).data.toList = digL n := by simp [digA]

theorem dch_conv (n : Nat) (v : Int) (w : World) (h : v = 48 + (n : Int) % 10) :
    (convert 48 9 (.slice (some ⟨w.heap.size, 0, none⟩) 1 1)).run Tryd.prog (w.alloc (.cells #[.int .u8 v] 5)) = .ok (.string ⟨#[dch n]⟩) (w.alloc (.cells #[.int .u8 v] 5)) := by
  refine string_conv [dch n] _ w.heap.size 1 1 rfl fun j hj => ?_
  rw [World.cell?_alloc_new]
  match j, hj with
  | 0, _ => show some (Value.int .u8 _) = some (Value.int .u8 ((dch _).toNat : Int)); rw [dch_toNat, h]; congr 2

def catA (n : Nat) (t : ByteArray) : ByteArray := ⟨(digL n ++ t.data.toList).toArray⟩

theorem catA_start (n : Nat) : catA n ⟨#[]⟩ = digA n := by unfold catA digA; simp

theorem catA_step {n : Nat} (h : ¬ n < 10) (t : ByteArray) : catA (n / 10) (⟨#[dch n]⟩ ++ t) = catA n t := by
  apply bytes_inj
  unfold catA
  rw [digL_ge h]
  simp

theorem catA_end {n : Nat} (h : n < 10) (t : ByteArray) : ⟨#[dch n]⟩ ++ t = catA n t := by
  apply bytes_inj
  unfold catA
  rw [digL_lt h]
  simp

set_option maxRecDepth 20000 in
theorem digits_any (N : Nat) (w : World) (hN : N ≤ 1000000000) :
    Calls Tryd.prog 71 #[.int .i64 N] w fun e w' => e = .returned (.string (digA N)) ∧ Below w.heap.size w w' := by
  go_enter Tryd.func71, Tryd.ntmps71
  go_wp2
  go_loopw [0, 3] (fun x t wr => ∃ (n : Nat) (s : ByteArray), x = .int .i64 n ∧ t = .string s ∧ s.size + n ≤ N ∧ catA n s = digA N ∧ Below w.heap.size w wr) (fun x _ _ => (intOf x).toNat)
  case atStart => exact ⟨N, ⟨#[]⟩, rfl, rfl, by show 0 + N ≤ N; omega, catA_start N, Below.refl _ _⟩
  case round =>
    obtain ⟨n, s, rfl, rfl, hsz, hcat, hb⟩ := hrel
    have HC := Lib.hid hcat
    clear hcat
    by_cases h : n < 10
    · have hc := dch_conv n (48 + (n : Int)) wr (by omega)
      have h9 : (n : Int) ≤ 9 := by omega
      go_wp2
      go_ret
      exact ⟨by rw [← HC.out, ← catA_end h]; rfl, hb.alloc hb.size _⟩
    · have hc := dch_conv n (48 + (n : Int) % 10) wr rfl
      have h9 : 9 < (n : Int) := by omega
      have HS := Lib.hid (catA_step h s)
      go_wp2
      refine ⟨⟨n / 10, ⟨#[dch n]⟩ ++ s, by go_num, rfl, ?_, by rw [HS.out]; exact HC.out, hb.alloc hb.size _⟩, by simp [intOf]; omega⟩
      rw [ByteArray.size_append]
      show 1 + s.size + n / 10 ≤ N
      omega

/-- The digits of a number below 100. -/
def two (n : Nat) : List UInt8 := if n < 10 then [dch n] else [dch (n / 10), dch n]

theorem digL_two {n : Nat} (h : n < 100) : digL n = two n := by
  unfold two
  split
  · exact digL_lt (by assumption)
  · rw [digL_ge (by assumption), digL_lt (by omega)]; rfl

theorem small_one : ∀ i : Fin 10, ((⟨#[48, 49, 50, 51, 52, 53, 54, 55, 56, 57, 97, 98, 99, 100, 101, 102, 103, 104, 105, 106, 107, 108, 109, 110, 111, 112, 113, 114, 115, 116, 117, 118, 119, 120, 121, 122]⟩ : ByteArray).extract i.val (i.val + 1)).data.toList = two i.val := by decide +kernel

theorem small_two : ∀ i : Fin 100, 10 ≤ i.val → ((⟨#[48, 48, 48, 49, 48, 50, 48, 51, 48, 52, 48, 53, 48, 54, 48, 55, 48, 56, 48, 57, 49, 48, 49, 49, 49, 50, 49, 51, 49, 52, 49, 53, 49, 54, 49, 55, 49, 56, 49, 57, 50, 48, 50, 49, 50, 50, 50, 51, 50, 52, 50, 53, 50, 54, 50, 55, 50, 56, 50, 57, 51, 48, 51, 49, 51, 50, 51, 51, 51, 52, 51, 53, 51, 54, 51, 55, 51, 56, 51, 57, 52, 48, 52, 49, 52, 50, 52, 51, 52, 52, 52, 53, 52, 54, 52, 55, 52, 56, 52, 57, 53, 48, 53, 49, 53, 50, 53, 51, 53, 52, 53, 53, 53, 54, 53, 55, 53, 56, 53, 57, 54, 48, 54, 49, 54, 50, 54, 51, 54, 52, 54, 53, 54, 54, 54, 55, 54, 56, 54, 57, 55, 48, 55, 49, 55, 50, 55, 51, 55, 52, 55, 53, 55, 54, 55, 55, 55, 56, 55, 57, 56, 48, 56, 49, 56, 50, 56, 51, 56, 52, 56, 53, 56, 54, 56, 55, 56, 56, 56, 57, 57, 48, 57, 49, 57, 50, 57, 51, 57, 52, 57, 53, 57, 54, 57, 55, 57, 56, 57, 57]⟩ : ByteArray).extract (i.val * 2) (i.val * 2 + 2)).data.toList = two i.val := by decide +kernel

set_option maxRecDepth 100000 in
theorem small_any (n : Nat) (w : World) (hn : n < 100) :
    Calls Tryd.prog 194 #[.int .i64 n] w fun e w' => e = .returned (.string (digA n)) ∧ w = w' := by
  have hd := digL_two hn
  by_cases h : n < 10
  · have h1 : (n : Int) < 10 := by omega
    have h2 := small_one ⟨n, h⟩
    have HS := Lib.hid h2
    have HD := Lib.hid hd
    clear h2 hd
    go_enter Tryd.func194, Tryd.ntmps194
    go_wp2
    go_ret
    exact ⟨ret_str (by rw [digA_list, HD.out]; exact HS.out), rfl⟩
  · have h1 : ¬ (n : Int) < 10 := by omega
    have h2 := small_two ⟨n, hn⟩ (by simp; omega)
    have HS := Lib.hid h2
    have HD := Lib.hid hd
    clear h2 hd
    go_enter Tryd.func194, Tryd.ntmps194
    go_wp2
    go_ret
    exact ⟨ret_str (by rw [digA_list, HD.out]; exact HS.out), rfl⟩

theorem format_any (n : Nat) (w : World) (hn : n < 100) :
    Calls Tryd.prog 191 #[.int .i64 n, .int .i64 10] w fun e w' => e = .returned (.string (digA n)) ∧ w = w' := by
  have h1 : (n : Int) < 100 := by omega
  have h0 : (0 : Int) ≤ (n : Int) := by omega
  have C := small_any n w hn
  go_enter Tryd.func191, Tryd.ntmps191
  go_wp2_with (go_at_call 194; refine C.mono ?_; rintro e w' ⟨rfl, rfl⟩)
  go_ret
  exact ⟨rfl, rfl⟩

theorem itoa2_any (n : Nat) (w : World) (hn : n < 100) :
    Calls Tryd.prog 185 #[.int .i64 n] w fun e w' => e = .returned (.string (digA n)) ∧ w = w' := by
  have C := format_any n w hn
  go_enter Tryd.func185, Tryd.ntmps185
  go_wp2_with (go_at_call 191; refine C.mono ?_; rintro e w' ⟨rfl, rfl⟩)
  go_ret
  exact ⟨rfl, rfl⟩

theorem itoa_any (n : Nat) (w : World) (hn : n < 100) :
    Calls Tryd.prog 149 #[.int .i64 n] w fun e w' => e = .returned (.string (digA n)) ∧ w = w' := by
  have C := itoa2_any n w hn
  go_enter Tryd.func149, Tryd.ntmps149
  go_wp2_with (go_at_call 185; refine C.mono ?_; rintro e w' ⟨rfl, rfl⟩)
  go_ret
  exact ⟨rfl, rfl⟩

theorem digA_size {n : Nat} (h : n < 100) : (digA n).size ≤ 2 := by
  have e : (digA n).size = (digL n).length := rfl
  rw [e, digL_two h]
  unfold two
  split <;> simp

/-- A seat as a value. -/
def seatV (r : Int) (c : UInt8) : Value := .agg #[.int .i64 r, .int .u8 c.toNat]

/-- The text of a seat. -/
def seatT (r : Int) (c : UInt8) : ByteArray := if 1 ≤ r ∧ r ≤ 99 ∧ isL c.toNat = true then digA r.toNat ++ ⟨#[c]⟩ else ⟨#[]⟩

theorem seatT_no {r : Int} {c : UInt8} (h : ¬ (1 ≤ r ∧ r ≤ 99 ∧ isL c.toNat = true)) : seatT r c = ⟨#[]⟩ := if_neg h

theorem digA_small {n : Nat} (h : n < 100) : (digA n).size ≤ 2 := by
  show (digL n).length ≤ 2
  rw [digL_two h]
  unfold two
  split <;> simp

theorem one_conv (c : UInt8) (w : World) : (convert 48 9 (.slice (some ⟨w.heap.size, 0, none⟩) 1 1)).run Tryd.prog (w.alloc (.cells #[.int .u8 c.toNat] 5)).drew = .ok (.string ⟨#[c]⟩) (w.alloc (.cells #[.int .u8 c.toNat] 5)).drew := by
  refine string_conv [c] _ w.heap.size 1 1 rfl fun j hj => ?_
  show (w.alloc _).cell? _ = _
  rw [World.cell?_alloc_new]
  match j, hj with
  | 0, _ => rfl

theorem one_conv0 (c : UInt8) (w : World) : (convert 48 9 (.slice (some ⟨w.heap.size, 0, none⟩) 1 1)).run Tryd.prog (w.alloc (.cells #[.int .u8 c.toNat] 5)) = .ok (.string ⟨#[c]⟩) (w.alloc (.cells #[.int .u8 c.toNat] 5)) := by
  refine string_conv [c] _ w.heap.size 1 1 rfl fun j hj => ?_
  rw [World.cell?_alloc_new]
  match j, hj with
  | 0, _ => rfl

theorem one_conv_at (c : UInt8) (w : World) (b : Nat) (h : w.cell? ⟨b, 0, none⟩ = some (.int .u8 c.toNat)) : (convert 48 9 (.slice (some ⟨b, 0, none⟩) 1 1)).run Tryd.prog w = .ok (.string ⟨#[c]⟩) w := by
  refine string_conv [c] _ b 1 1 rfl fun j hj => ?_
  match j, hj with
  | 0, _ => exact h

/-- Two cells, and the world below, stay through a new block. -/
theorem held2_alloc {w W : World} {a a' : Addr} {x y : Value} (h : W.cell? a = some x ∧ W.cell? a' = some y ∧ Below w.heap.size w W) (o : Obj) : (W.alloc o).drew.cell? a = some x ∧ (W.alloc o).drew.cell? a' = some y ∧ Below w.heap.size w (W.alloc o).drew := by
  have hb := (Below.refl W.heap.size W).alloc (Nat.le_refl _) o
  exact ⟨cell_bel (wr := W.alloc o) hb h.1, cell_bel (wr := W.alloc o) hb h.2.1, (h.2.2.alloc h.2.2.size o).drew⟩

theorem held2_drew {w W : World} {a a' : Addr} {x y : Value} (h : W.drew.cell? a = some x ∧ W.drew.cell? a' = some y ∧ Below w.heap.size w W.drew) (o : Obj) : (W.alloc o).drew.cell? a = some x ∧ (W.alloc o).drew.cell? a' = some y ∧ Below w.heap.size w (W.alloc o).drew := by
  have hb := (Below.refl W.heap.size W).alloc (Nat.le_refl _) o
  exact ⟨cell_bel (wr := W.alloc o) hb h.1, cell_bel (wr := W.alloc o) hb h.2.1, h.2.2.alloc h.2.2.size o⟩

theorem held2_bel {w W W' : World} {a a' : Addr} {x y : Value} (h : W.cell? a = some x ∧ W.cell? a' = some y ∧ Below w.heap.size w W) (hb : Below W.heap.size W W') : W'.cell? a = some x ∧ W'.cell? a' = some y ∧ Below w.heap.size w W' :=
  ⟨cell_bel hb h.1, cell_bel hb h.2.1, bel_trans h.2.2 hb⟩

/-- A boxed seat. -/
theorem seat_boxed (w : World) (r : Int) (c : UInt8) : ∃ w1, w.alloc (.cells #[.int .i64 r, .int .u8 c.toNat] 39) = w1 ∧ w1.cell? ⟨w.heap.size, 0, none⟩ = some (.int .i64 r) ∧ w1.cell? ⟨w.heap.size, 1, none⟩ = some (.int .u8 c.toNat) ∧ Below w.heap.size w w1 ∧ w1.heap.size = w.heap.size + 1 :=
  ⟨_, rfl, World.cell?_alloc_new _ _ _ _, World.cell?_alloc_new _ _ _ _, (Below.refl _ _).alloc (Nat.le_refl _) _, by simp⟩

set_option maxRecDepth 20000 in
theorem text_any (r : Int) (c : UInt8) (w : World) :
    Calls Tryd.prog 150 #[.agg #[.int .i64 r, .int .u8 c.toNat]] w fun e w' => e = .returned (.string (seatT r c)) ∧ Below w.heap.size w w' := by
  have hc0 : (0 : Int) ≤ (c.toNat : Int) := by omega
  have hc1 := byte_hi c
  by_cases h1 : r < 1
  · have HF : RowKit.Hid (seatT r c = ⟨#[]⟩) := Lib.hid (seatT_no (by omega))
    go_enter Tryd.func150, Tryd.ntmps150
    go_wp2
    go_ret
    exact ⟨ret_str (by rw [HF.out]), (Below.refl _ _).alloc (Nat.le_refl _) _⟩
  · by_cases h2 : 99 < r
    · have HF : RowKit.Hid (seatT r c = ⟨#[]⟩) := Lib.hid (seatT_no (by omega))
      go_enter Tryd.func150, Tryd.ntmps150
      go_wp2
      go_ret
      exact ⟨ret_str (by rw [HF.out]), (Below.refl _ _).alloc (Nat.le_refl _) _⟩
    · have g1 : (1 : Int) ≤ r := by omega
      have g2 : r ≤ 99 := by omega
      by_cases h3 : isL c.toNat = true
      · obtain ⟨n, rfl⟩ := Int.eq_ofNat_of_zero_le (show (0 : Int) ≤ r by omega)
        have HF : RowKit.Hid (seatT n c = digA n ++ ⟨#[c]⟩) := Lib.hid (if_pos ⟨g1, g2, h3⟩)
        unfold isL at h3
        have hd := of_decide_eq_true h3
        have hw1 : IntKind.u8.wrap ((c.toNat : Int) - 65) = (c.toNat : Int) - 65 := by simp [IntKind.wrap, IntKind.bits, IntKind.signed] ; omega
        have CI : ∀ W, _ := fun W => itoa_any n W (by omega)
        have HI := Lib.hid CI
        have hsz := digA_small (n := n) (by omega)
        clear h3 CI
        have hs1 : ¬ 9223372036854775807 < (digA n).size + 1 := by omega
        have hcv := one_conv c
        obtain ⟨w1, e1, k1, k2, kb, ks⟩ := seat_boxed w n c
        clear ks
        go_enter Tryd.func150, Tryd.ntmps150
        go_wp2
        generalize digA n = D at *
        clear e1
        refine wp_region_noPanic ?_
        refine wp_region_held_drew (S := fun W => W.cell? ⟨w.heap.size, 0, none⟩ = some (.int .i64 n) ∧ W.cell? ⟨w.heap.size, 1, none⟩ = some (.int .u8 c.toNat) ∧ Below w.heap.size w W) (by kernel_rfl) ⟨k1, k2, kb.drew⟩ (fun hHeld => ?_)
        refine wpAnyH_take (i := 0) (oi := _) (v := ?_) rfl (by kernel_rfl) (by kernel_rfl) (by kernel_rfl) (fun _ _ _ h => h) (Or.inl ⟨by rfl, ?_⟩) (by assumption) ?_
        rotate_left
        · intro w hSw
          (try dsimp only at hSw)
          go_simp
          (try with_reducible rfl)
        try simp only [Act.put, List.getElem_toArray, List.getElem_cons_succ, List.getElem_cons_zero, List.setIfInBounds_toArray, List.set_cons_zero, List.set_cons_succ]
        refine wpAnyH_take (i := 1) (oi := _) (v := ?_) rfl (by kernel_rfl) (by kernel_rfl) (by kernel_rfl) (fun _ _ _ h => h) (Or.inl ⟨by rfl, ?_⟩) (by assumption) ?_
        rotate_left
        · intro w hSw
          (try dsimp only at hSw)
          go_simp
          (try with_reducible rfl)
        try simp only [Act.put, List.getElem_toArray, List.getElem_cons_succ, List.getElem_cons_zero, List.setIfInBounds_toArray, List.set_cons_zero, List.set_cons_succ]
        refine wpAnyH_take (i := 3) (oi := _) (v := ?_) rfl (by kernel_rfl) (by kernel_rfl) (by kernel_rfl) (fun _ _ _ h => h) (Or.inl ⟨by rfl, ?_⟩) (by assumption) ?_
        rotate_left
        · intro w hSw
          (try dsimp only at hSw)
          go_simp
          (try with_reducible rfl)
        try simp only [Act.put, List.getElem_toArray, List.getElem_cons_succ, List.getElem_cons_zero, List.setIfInBounds_toArray, List.set_cons_zero, List.set_cons_succ]
        refine wpAnyH_take (i := 4) (oi := _) (v := ?_) rfl (by kernel_rfl) (by kernel_rfl) (by kernel_rfl) (fun _ _ _ h => h) (Or.inl ⟨by rfl, ?_⟩) (by assumption) ?_
        rotate_left
        · intro w hSw
          (try dsimp only at hSw)
          go_simp
          (try with_reducible rfl)
        try simp only [Act.put, List.getElem_toArray, List.getElem_cons_succ, List.getElem_cons_zero, List.setIfInBounds_toArray, List.set_cons_zero, List.set_cons_succ]
        refine wpAnyH_ready (rs := [2, 5]) (by kernel_rfl) (by simp) ?_
        refine (AllReadyH.cons (o := _) rfl (fun K hK => ?_) (AllReadyH.cons (o := _) rfl (fun K hK => ?_) AllReadyH.nil))
        · go_simp
          go_at_call 149
          (with_reducible refine (HI.out _).mono ?_)
          rintro e w3 ⟨rfl, rfl⟩
          go_simp
          refine hK.out _ _ hHeld (fun hHeld => ?_)
          clear hK K
          try simp only [Act.put, List.getElem_toArray, List.getElem_cons_succ, List.getElem_cons_zero, List.setIfInBounds_toArray, List.set_cons_zero, List.set_cons_succ]
          refine wpAnyH_ready (rs := [5]) (by kernel_rfl) (by simp) ?_
          refine AllReadyH.cons (o := _) rfl (fun K hK => ?_) AllReadyH.nil
          go_simp
          refine hK.out _ _ (held2_drew hHeld _) (fun hHeld => ?_)
          clear hK K
          try simp only [Act.put, List.getElem_toArray, List.getElem_cons_succ, List.getElem_cons_zero, List.setIfInBounds_toArray, List.set_cons_zero, List.set_cons_succ]
          refine wpAnyH_ready (rs := [6]) (by kernel_rfl) (by simp) ?_
          refine AllReadyH.cons (o := _) rfl (fun K hK => ?_) AllReadyH.nil
          go_simp
          refine hK.out _ _ hHeld (fun hHeld => ?_)
          clear hK K
          try simp only [Act.put, List.getElem_toArray, List.getElem_cons_succ, List.getElem_cons_zero, List.setIfInBounds_toArray, List.set_cons_zero, List.set_cons_succ]
          refine wpAnyH_take (i := 7) (oi := _) (v := ?_) rfl (by kernel_rfl) (by kernel_rfl) (by kernel_rfl) (fun _ _ _ h => h) (Or.inl ⟨by rfl, ?_⟩) (by assumption) ?_
          rotate_left
          · intro w hSw
            (try dsimp only at hSw)
            go_simp
            (try with_reducible rfl)
          try simp only [Act.put, List.getElem_toArray, List.getElem_cons_succ, List.getElem_cons_zero, List.setIfInBounds_toArray, List.set_cons_zero, List.set_cons_succ]
          refine wpAnyH_take (i := 8) (oi := _) (v := ?_) rfl (by kernel_rfl) (by kernel_rfl) (by kernel_rfl) (fun _ _ _ h => h) (Or.inl ⟨by rfl, ?_⟩) (by assumption) ?_
          rotate_left
          · intro w hSw
            (try dsimp only at hSw)
            go_simp
            (try with_reducible rfl)
          try simp only [Act.put, List.getElem_toArray, List.getElem_cons_succ, List.getElem_cons_zero, List.setIfInBounds_toArray, List.set_cons_zero, List.set_cons_succ]
          refine wpAnyH_done (by kernel_rfl) ?_ _
          refine NoPanic.normal ?_
          go_wp2
          go_ret
          exact ⟨ret_str (by rw [HF.out]), hHeld.2.2⟩
        · go_simp
          refine hK.out _ _ (held2_drew hHeld _) (fun hHeld => ?_)
          clear hK K
          try simp only [Act.put, List.getElem_toArray, List.getElem_cons_succ, List.getElem_cons_zero, List.setIfInBounds_toArray, List.set_cons_zero, List.set_cons_succ]
          refine wpAnyH_ready (rs := [2, 6]) (by kernel_rfl) (by simp) ?_
          refine (AllReadyH.cons (o := _) rfl (fun K hK => ?_) (AllReadyH.cons (o := _) rfl (fun K hK => ?_) AllReadyH.nil))
          · go_simp
            go_at_call 149
            (with_reducible refine (HI.out _).mono ?_)
            rintro e w3 ⟨rfl, rfl⟩
            go_simp
            refine hK.out _ _ hHeld (fun hHeld => ?_)
            clear hK K
            try simp only [Act.put, List.getElem_toArray, List.getElem_cons_succ, List.getElem_cons_zero, List.setIfInBounds_toArray, List.set_cons_zero, List.set_cons_succ]
            refine wpAnyH_ready (rs := [6]) (by kernel_rfl) (by simp) ?_
            refine AllReadyH.cons (o := _) rfl (fun K hK => ?_) AllReadyH.nil
            go_simp
            refine hK.out _ _ hHeld (fun hHeld => ?_)
            clear hK K
            try simp only [Act.put, List.getElem_toArray, List.getElem_cons_succ, List.getElem_cons_zero, List.setIfInBounds_toArray, List.set_cons_zero, List.set_cons_succ]
            refine wpAnyH_take (i := 7) (oi := _) (v := ?_) rfl (by kernel_rfl) (by kernel_rfl) (by kernel_rfl) (fun _ _ _ h => h) (Or.inl ⟨by rfl, ?_⟩) (by assumption) ?_
            rotate_left
            · intro w hSw
              (try dsimp only at hSw)
              go_simp
              (try with_reducible rfl)
            try simp only [Act.put, List.getElem_toArray, List.getElem_cons_succ, List.getElem_cons_zero, List.setIfInBounds_toArray, List.set_cons_zero, List.set_cons_succ]
            refine wpAnyH_take (i := 8) (oi := _) (v := ?_) rfl (by kernel_rfl) (by kernel_rfl) (by kernel_rfl) (fun _ _ _ h => h) (Or.inl ⟨by rfl, ?_⟩) (by assumption) ?_
            rotate_left
            · intro w hSw
              (try dsimp only at hSw)
              go_simp
              (try with_reducible rfl)
            try simp only [Act.put, List.getElem_toArray, List.getElem_cons_succ, List.getElem_cons_zero, List.setIfInBounds_toArray, List.set_cons_zero, List.set_cons_succ]
            refine wpAnyH_done (by kernel_rfl) ?_ _
            refine NoPanic.normal ?_
            go_wp2
            go_ret
            exact ⟨ret_str (by rw [HF.out]), hHeld.2.2⟩
          · go_simp
            refine hK.out _ _ hHeld (fun hHeld => ?_)
            clear hK K
            try simp only [Act.put, List.getElem_toArray, List.getElem_cons_succ, List.getElem_cons_zero, List.setIfInBounds_toArray, List.set_cons_zero, List.set_cons_succ]
            refine wpAnyH_ready (rs := [2]) (by kernel_rfl) (by simp) ?_
            refine AllReadyH.cons (o := _) rfl (fun K hK => ?_) AllReadyH.nil
            go_simp
            go_at_call 149
            (with_reducible refine (HI.out _).mono ?_)
            rintro e w3 ⟨rfl, rfl⟩
            go_simp
            refine hK.out _ _ hHeld (fun hHeld => ?_)
            clear hK K
            try simp only [Act.put, List.getElem_toArray, List.getElem_cons_succ, List.getElem_cons_zero, List.setIfInBounds_toArray, List.set_cons_zero, List.set_cons_succ]
            refine wpAnyH_take (i := 7) (oi := _) (v := ?_) rfl (by kernel_rfl) (by kernel_rfl) (by kernel_rfl) (fun _ _ _ h => h) (Or.inl ⟨by rfl, ?_⟩) (by assumption) ?_
            rotate_left
            · intro w hSw
              (try dsimp only at hSw)
              go_simp
              (try with_reducible rfl)
            try simp only [Act.put, List.getElem_toArray, List.getElem_cons_succ, List.getElem_cons_zero, List.setIfInBounds_toArray, List.set_cons_zero, List.set_cons_succ]
            refine wpAnyH_take (i := 8) (oi := _) (v := ?_) rfl (by kernel_rfl) (by kernel_rfl) (by kernel_rfl) (fun _ _ _ h => h) (Or.inl ⟨by rfl, ?_⟩) (by assumption) ?_
            rotate_left
            · intro w hSw
              (try dsimp only at hSw)
              go_simp
              (try with_reducible rfl)
            try simp only [Act.put, List.getElem_toArray, List.getElem_cons_succ, List.getElem_cons_zero, List.setIfInBounds_toArray, List.set_cons_zero, List.set_cons_succ]
            refine wpAnyH_done (by kernel_rfl) ?_ _
            refine NoPanic.normal ?_
            go_wp2
            go_ret
            exact ⟨ret_str (by rw [HF.out]), hHeld.2.2⟩
      · have HF : RowKit.Hid (seatT r c = ⟨#[]⟩) := Lib.hid (seatT_no (by simp [h3]))
        have hn : ¬ (65 ≤ (c.toNat : Int) ∧ (c.toNat : Int) ≤ 90) := fun h => h3 (by unfold isL; exact decide_eq_true h)
        clear h3
        go_enter Tryd.func150, Tryd.ntmps150
        go_wp2
        go_ret
        exact ⟨ret_str (by rw [HF.out]), (Below.refl _ _).alloc (Nat.le_refl _) _⟩

set_option maxRecDepth 20000 in
theorem refText_any (r : Int) (c : UInt8) (w : World) :
    Calls Tryd.prog 73 #[.agg #[.int .i64 r, .int .u8 c.toNat]] w fun e w' => e = .returned (.string (seatT r c)) ∧ Below w.heap.size w w' := by
  have hc0 : (0 : Int) ≤ (c.toNat : Int) := by omega
  have hc1 := byte_hi c
  have CL : ∀ W, _ := fun W => refLetter_any (c.toNat : Int) W hc0 hc1
  by_cases h1 : r < 1
  · have HF : RowKit.Hid (seatT r c = ⟨#[]⟩) := Lib.hid (seatT_no (by omega))
    go_enter Tryd.func73, Tryd.ntmps73
    go_wp2
    go_ret
    exact ⟨ret_str (by rw [HF.out]), (Below.refl _ _).alloc (Nat.le_refl _) _⟩
  · by_cases h2 : 99 < r
    · have HF : RowKit.Hid (seatT r c = ⟨#[]⟩) := Lib.hid (seatT_no (by omega))
      go_enter Tryd.func73, Tryd.ntmps73
      go_wp2
      go_ret
      exact ⟨ret_str (by rw [HF.out]), (Below.refl _ _).alloc (Nat.le_refl _) _⟩
    · have g1 : (1 : Int) ≤ r := by omega
      have g2 : r ≤ 99 := by omega
      obtain ⟨w1, e1, k1, k2, kb, ks⟩ := seat_boxed w r c
      clear ks
      cases h3 : isL c.toNat
      · have HF : RowKit.Hid (seatT r c = ⟨#[]⟩) := Lib.hid (seatT_no (by rw [h3]; simp))
        rw [h3] at CL
        have HL := Lib.hid CL
        clear CL
        go_enter Tryd.func73, Tryd.ntmps73
        go_wp2_with (first | (go_at_call 153; (with_reducible refine (HL.out _).mono ?_); rintro e w3 ⟨rfl, rfl⟩))
        go_ret
        exact ⟨ret_str (by rw [HF.out]), kb⟩
      · obtain ⟨n, rfl⟩ := Int.eq_ofNat_of_zero_le (show (0 : Int) ≤ r by omega)
        have HF : RowKit.Hid (seatT n c = digA n ++ ⟨#[c]⟩) := Lib.hid (if_pos ⟨g1, g2, h3⟩)
        rw [h3] at CL
        have HL := Lib.hid CL
        have CI : ∀ W, _ := fun W => digits_any n W (by omega)
        have HI := Lib.hid CI
        have hsz := digA_small (n := n) (by omega)
        clear CI CL
        have hs1 : ¬ 9223372036854775807 < (digA n).size + 1 := by omega
        have hcv := one_conv c
        have hcv0 := one_conv0 c
        go_enter Tryd.func73, Tryd.ntmps73
        go_wp2_with (first | (go_at_call 153; (with_reducible refine (HL.out _).mono ?_); rintro e w3 ⟨rfl, rfl⟩))
        generalize digA n = D at *
        clear e1
        refine wp_region_noPanic ?_
        refine wp_region_held_drew (S := fun W => W.cell? ⟨w.heap.size, 0, none⟩ = some (.int .i64 n) ∧ W.cell? ⟨w.heap.size, 1, none⟩ = some (.int .u8 c.toNat) ∧ Below w.heap.size w W) (by kernel_rfl) ⟨k1, k2, kb.drew⟩ (fun hHeld => ?_)
        refine wpAnyH_take (i := 0) (oi := _) (v := ?_) rfl (by kernel_rfl) (by kernel_rfl) (by kernel_rfl) (fun _ _ _ h => h) (Or.inl ⟨by rfl, ?_⟩) (by assumption) ?_
        rotate_left
        · intro w hSw
          (try dsimp only at hSw)
          go_simp
          (try with_reducible rfl)
        try simp only [Act.put, List.getElem_toArray, List.getElem_cons_succ, List.getElem_cons_zero, List.setIfInBounds_toArray, List.set_cons_zero, List.set_cons_succ]
        refine wpAnyH_take (i := 1) (oi := _) (v := ?_) rfl (by kernel_rfl) (by kernel_rfl) (by kernel_rfl) (fun _ _ _ h => h) (Or.inl ⟨by rfl, ?_⟩) (by assumption) ?_
        rotate_left
        · intro w hSw
          (try dsimp only at hSw)
          go_simp
          (try with_reducible rfl)
        try simp only [Act.put, List.getElem_toArray, List.getElem_cons_succ, List.getElem_cons_zero, List.setIfInBounds_toArray, List.set_cons_zero, List.set_cons_succ]
        refine wpAnyH_take (i := 3) (oi := _) (v := ?_) rfl (by kernel_rfl) (by kernel_rfl) (by kernel_rfl) (fun _ _ _ h => h) (Or.inl ⟨by rfl, ?_⟩) (by assumption) ?_
        rotate_left
        · intro w hSw
          (try dsimp only at hSw)
          go_simp
          (try with_reducible rfl)
        try simp only [Act.put, List.getElem_toArray, List.getElem_cons_succ, List.getElem_cons_zero, List.setIfInBounds_toArray, List.set_cons_zero, List.set_cons_succ]
        refine wpAnyH_take (i := 4) (oi := _) (v := ?_) rfl (by kernel_rfl) (by kernel_rfl) (by kernel_rfl) (fun _ _ _ h => h) (Or.inl ⟨by rfl, ?_⟩) (by assumption) ?_
        rotate_left
        · intro w hSw
          (try dsimp only at hSw)
          go_simp
          (try with_reducible rfl)
        try simp only [Act.put, List.getElem_toArray, List.getElem_cons_succ, List.getElem_cons_zero, List.setIfInBounds_toArray, List.set_cons_zero, List.set_cons_succ]
        refine wpAnyH_ready (rs := [2, 5]) (by kernel_rfl) (by simp) ?_
        refine (AllReadyH.cons (o := _) rfl (fun K hK => ?_) (AllReadyH.cons (o := _) rfl (fun K hK => ?_) AllReadyH.nil))
        · go_simp
          go_at_call 71
          (with_reducible refine (HI.out _).mono ?_)
          rintro e w3 ⟨rfl, hb3⟩
          go_simp
          refine hK.out _ _ (held2_bel hHeld hb3) (fun hHeld => ?_)
          clear hK K
          try simp only [Act.put, List.getElem_toArray, List.getElem_cons_succ, List.getElem_cons_zero, List.setIfInBounds_toArray, List.set_cons_zero, List.set_cons_succ]
          refine wpAnyH_ready (rs := [5]) (by kernel_rfl) (by simp) ?_
          refine AllReadyH.cons (o := _) rfl (fun K hK => ?_) AllReadyH.nil
          go_simp
          refine hK.out _ _ (held2_bel hHeld ((Below.refl _ _).alloc (Nat.le_refl _) _)) (fun hHeld => ?_)
          clear hK K
          try simp only [Act.put, List.getElem_toArray, List.getElem_cons_succ, List.getElem_cons_zero, List.setIfInBounds_toArray, List.set_cons_zero, List.set_cons_succ]
          refine wpAnyH_ready (rs := [6]) (by kernel_rfl) (by simp) ?_
          refine AllReadyH.cons (o := _) rfl (fun K hK => ?_) AllReadyH.nil
          go_simp
          refine hK.out _ _ hHeld (fun hHeld => ?_)
          clear hK K
          try simp only [Act.put, List.getElem_toArray, List.getElem_cons_succ, List.getElem_cons_zero, List.setIfInBounds_toArray, List.set_cons_zero, List.set_cons_succ]
          refine wpAnyH_take (i := 7) (oi := _) (v := ?_) rfl (by kernel_rfl) (by kernel_rfl) (by kernel_rfl) (fun _ _ _ h => h) (Or.inl ⟨by rfl, ?_⟩) (by assumption) ?_
          rotate_left
          · intro w hSw
            (try dsimp only at hSw)
            go_simp
            (try with_reducible rfl)
          try simp only [Act.put, List.getElem_toArray, List.getElem_cons_succ, List.getElem_cons_zero, List.setIfInBounds_toArray, List.set_cons_zero, List.set_cons_succ]
          refine wpAnyH_take (i := 8) (oi := _) (v := ?_) rfl (by kernel_rfl) (by kernel_rfl) (by kernel_rfl) (fun _ _ _ h => h) (Or.inl ⟨by rfl, ?_⟩) (by assumption) ?_
          rotate_left
          · intro w hSw
            (try dsimp only at hSw)
            go_simp
            (try with_reducible rfl)
          try simp only [Act.put, List.getElem_toArray, List.getElem_cons_succ, List.getElem_cons_zero, List.setIfInBounds_toArray, List.set_cons_zero, List.set_cons_succ]
          refine wpAnyH_done (by kernel_rfl) ?_ _
          refine NoPanic.normal ?_
          go_wp2
          go_ret
          exact ⟨ret_str (by rw [HF.out]), hHeld.2.2⟩
        · go_simp
          refine hK.out _ _ (held2_drew hHeld _) (fun hHeld => ?_)
          clear hK K
          try simp only [Act.put, List.getElem_toArray, List.getElem_cons_succ, List.getElem_cons_zero, List.setIfInBounds_toArray, List.set_cons_zero, List.set_cons_succ]
          refine wpAnyH_ready (rs := [2, 6]) (by kernel_rfl) (by simp) ?_
          refine (AllReadyH.cons (o := _) rfl (fun K hK => ?_) (AllReadyH.cons (o := _) rfl (fun K hK => ?_) AllReadyH.nil))
          · go_simp
            go_at_call 71
            (with_reducible refine (HI.out _).mono ?_)
            rintro e w3 ⟨rfl, hb3⟩
            have hcx := one_conv_at c w3 w1.heap.size (cell_bel hb3 (World.cell?_alloc_new w1 _ _ _))
            go_simp
            refine hK.out _ _ (held2_bel hHeld hb3) (fun hHeld => ?_)
            clear hK K
            try simp only [Act.put, List.getElem_toArray, List.getElem_cons_succ, List.getElem_cons_zero, List.setIfInBounds_toArray, List.set_cons_zero, List.set_cons_succ]
            refine wpAnyH_ready (rs := [6]) (by kernel_rfl) (by simp) ?_
            refine AllReadyH.cons (o := _) rfl (fun K hK => ?_) AllReadyH.nil
            go_simp
            refine hK.out _ _ hHeld (fun hHeld => ?_)
            clear hK K
            try simp only [Act.put, List.getElem_toArray, List.getElem_cons_succ, List.getElem_cons_zero, List.setIfInBounds_toArray, List.set_cons_zero, List.set_cons_succ]
            refine wpAnyH_take (i := 7) (oi := _) (v := ?_) rfl (by kernel_rfl) (by kernel_rfl) (by kernel_rfl) (fun _ _ _ h => h) (Or.inl ⟨by rfl, ?_⟩) (by assumption) ?_
            rotate_left
            · intro w hSw
              (try dsimp only at hSw)
              go_simp
              (try with_reducible rfl)
            try simp only [Act.put, List.getElem_toArray, List.getElem_cons_succ, List.getElem_cons_zero, List.setIfInBounds_toArray, List.set_cons_zero, List.set_cons_succ]
            refine wpAnyH_take (i := 8) (oi := _) (v := ?_) rfl (by kernel_rfl) (by kernel_rfl) (by kernel_rfl) (fun _ _ _ h => h) (Or.inl ⟨by rfl, ?_⟩) (by assumption) ?_
            rotate_left
            · intro w hSw
              (try dsimp only at hSw)
              go_simp
              (try with_reducible rfl)
            try simp only [Act.put, List.getElem_toArray, List.getElem_cons_succ, List.getElem_cons_zero, List.setIfInBounds_toArray, List.set_cons_zero, List.set_cons_succ]
            refine wpAnyH_done (by kernel_rfl) ?_ _
            refine NoPanic.normal ?_
            go_wp2
            go_ret
            exact ⟨ret_str (by rw [HF.out]), hHeld.2.2⟩
          · go_simp
            refine hK.out _ _ hHeld (fun hHeld => ?_)
            clear hK K
            try simp only [Act.put, List.getElem_toArray, List.getElem_cons_succ, List.getElem_cons_zero, List.setIfInBounds_toArray, List.set_cons_zero, List.set_cons_succ]
            refine wpAnyH_ready (rs := [2]) (by kernel_rfl) (by simp) ?_
            refine AllReadyH.cons (o := _) rfl (fun K hK => ?_) AllReadyH.nil
            go_simp
            go_at_call 71
            (with_reducible refine (HI.out _).mono ?_)
            rintro e w3 ⟨rfl, hb3⟩
            go_simp
            refine hK.out _ _ (held2_bel hHeld hb3) (fun hHeld => ?_)
            clear hK K
            try simp only [Act.put, List.getElem_toArray, List.getElem_cons_succ, List.getElem_cons_zero, List.setIfInBounds_toArray, List.set_cons_zero, List.set_cons_succ]
            refine wpAnyH_take (i := 7) (oi := _) (v := ?_) rfl (by kernel_rfl) (by kernel_rfl) (by kernel_rfl) (fun _ _ _ h => h) (Or.inl ⟨by rfl, ?_⟩) (by assumption) ?_
            rotate_left
            · intro w hSw
              (try dsimp only at hSw)
              go_simp
              (try with_reducible rfl)
            try simp only [Act.put, List.getElem_toArray, List.getElem_cons_succ, List.getElem_cons_zero, List.setIfInBounds_toArray, List.set_cons_zero, List.set_cons_succ]
            refine wpAnyH_take (i := 8) (oi := _) (v := ?_) rfl (by kernel_rfl) (by kernel_rfl) (by kernel_rfl) (fun _ _ _ h => h) (Or.inl ⟨by rfl, ?_⟩) (by assumption) ?_
            rotate_left
            · intro w hSw
              (try dsimp only at hSw)
              go_simp
              (try with_reducible rfl)
            try simp only [Act.put, List.getElem_toArray, List.getElem_cons_succ, List.getElem_cons_zero, List.setIfInBounds_toArray, List.set_cons_zero, List.set_cons_succ]
            refine wpAnyH_done (by kernel_rfl) ?_ _
            refine NoPanic.normal ?_
            go_wp2
            go_ret
            exact ⟨ret_str (by rw [HF.out]), hHeld.2.2⟩

end Go.Proofs.YtjahkaidinahpaaDoor
