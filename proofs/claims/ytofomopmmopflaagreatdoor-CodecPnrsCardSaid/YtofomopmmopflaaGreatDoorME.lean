/- Seats' texts: strconv.Itoa and Digits below 100, plan.Text, jetwayref09.Text. Legs: the plain law (their bytes, and the legs of bytes); parsers in stages. Steps of both readers, whatever comes. (codec.Leg).sound. Seats in bits. The writer as a state. -/
import Derived.Test.YtofomopmmopflaaGreatDoorMA
import Derived.Test.YtofomopmmopflaaGreatDoorMB
import Derived.Test.YtofomopmmopflaaGreatDoorMC
import Derived.Test.YtofomopmmopflaaGreatDoorMD
import Derived.Test.YtofomopmmopflaaGreatDoorRows
import Derived.WalkKit
import Derived.WalkSpells
import Derived.WalkLawsBesides
import Derived.Lib.ConvBytes
import Derived.Lib.Hide
import Derived.Lib.SliceRun
import Derived.IntWalk
import Derived.BigQuiet
import Derived.Deep.QuietTactic
import Derived.Deep.RegionWith
import Derived.Deep.RegionHeld3
import Derived.Deep.LoopGhost
import Derived.Deep.CutRange
import Derived.Deep.CutBlock
import Derived.Deep.MidRow
import Derived.Laws.OwnMore
import Derived.OwnWalk
import Derived.Laws.AppendOwnNone
import Derived.Laws.Rows
import Derived.Laws.MakeOwn
import Derived.Laws.CopyOwn
import Derived.Laws.BitsAllLaws
import Derived.DeepKeys5
import Derived.Maps.OwnOps
import Derived.Handy
import Derived.Lib.AppendStr
import Derived.StillTailTactics
import Derived.Deep.AppendLies
namespace Go.Proofs.YtofomopmmopflaaGreatDoor
open Go.RowKit
set_option linter.unusedSimpArgs false
set_option linter.unusedVariables false

def dch (n : Nat) : UInt8 := UInt8.ofNat (48 + n % 10)

theorem dch_toNat (n : Nat) : (dch n).toNat = 48 + n % 10 := by unfold dch; rw [UInt8.toNat_ofNat']; omega

def digL (n : Nat) : List UInt8 := if _h : n < 10 then [dch n] else digL (n / 10) ++ [dch n]
termination_by n
decreasing_by omega

theorem digL_lt {n : Nat} (h : n < 10) : digL n = [dch n] := by rw [digL, dif_pos h]

theorem digL_ge {n : Nat} (h : ¬ n < 10) : digL n = digL (n / 10) ++ [dch n] := by rw [digL, dif_neg h]

def digA (n : Nat) : ByteArray := ⟨(digL n).toArray⟩

theorem digA_list (n : Nat) : (digA n).data.toList = digL n := by simp [digA]

theorem dch_conv (n : Nat) (v : Int) (w : World) (h : v = 48 + (n : Int) % 10) :
    (convert 30 9 (.slice (some ⟨w.heap.size, 0, none⟩) 1 1)).run Tryz.prog (w.alloc (.cells #[.int .u8 v] 5)) = .ok (.string ⟨#[dch n]⟩) (w.alloc (.cells #[.int .u8 v] 5)) := by
  refine string_conv [dch n] _ w.heap.size 1 1 rfl fun j hj => ?_
  rw [World.cell?_alloc_new]
  match j, hj with
  | 0, _ => show some (Value.int .u8 _) = some (Value.int .u8 ((dch _).toNat : Int)); rw [dch_toNat, h]; congr 2

def catA (n : Nat) (t : ByteArray) : ByteArray := ⟨(digL n ++ t.data.toList).toArray⟩

theorem catA_start (n : Nat) : catA n ⟨#[]⟩ = digA n := by unfold catA digA; simp

theorem catA_step {n : Nat} (h : ¬ n < 10) (t : ByteArray) : catA (n / 10) (⟨#[dch n]⟩ ++ t) = catA n t := by
  apply bytes_inj
  unfold catA
  rw [digL_ge h]
  simp

theorem catA_end {n : Nat} (h : n < 10) (t : ByteArray) : ⟨#[dch n]⟩ ++ t = catA n t := by
  apply bytes_inj
  unfold catA
  rw [digL_lt h]
  simp

set_option maxRecDepth 20000 in
theorem digits_any (N : Nat) (w : World) (hN : N ≤ 1000000000) :
    Calls Tryz.prog 98 #[.int .i64 N] w fun e w' => e = .returned (.string (digA N)) ∧ Below w.heap.size w w' := by
  go_enter Tryz.func98, Tryz.ntmps98
  go_wp2
  go_loopw [0, 3] (fun x t wr => ∃ (n : Nat) (s : ByteArray), x = .int .i64 n ∧ t = .string s ∧ s.size + n ≤ N ∧ catA n s = digA N ∧ Below w.heap.size w wr) (fun x _ _ => (intOf x).toNat)
  case atStart => exact ⟨N, ⟨#[]⟩, rfl, rfl, by show 0 + N ≤ N; omega, catA_start N, Below.refl _ _⟩
  case round =>
    obtain ⟨n, s, rfl, rfl, hsz, hcat, hb⟩ := hrel
    have HC := Lib.hid hcat
    clear hcat
    by_cases h : n < 10
    · have hc := dch_conv n (48 + (n : Int)) wr (by omega)
      have h9 : (n : Int) ≤ 9 := by omega
      go_wp2
      go_ret
      exact ⟨by rw [← HC.out, ← catA_end h]; rfl, hb.alloc hb.size _⟩
    · have hc := dch_conv n (48 + (n : Int) % 10) wr rfl
      have h9 : 9 < (n : Int) := by omega
      have HS := Lib.hid (catA_step h s)
      go_wp2
      refine ⟨⟨n / 10, ⟨#[dch n]⟩ ++ s, by go_num, rfl, ?_, by rw [HS.out]; exact HC.out, hb.alloc hb.size _⟩, by simp [intOf]; omega⟩
      rw [ByteArray.size_append]
      show 1 + s.size + n / 10 ≤ N
      omega

/-- The digits of a number below 100. -/
def two (n : Nat) : List UInt8 := if n < 10 then [dch n] else [dch (n / 10), dch n]

theorem digL_two {n : Nat} (h : n < 100) : digL n = two n := by
  unfold two
  split
  · exact digL_lt (by assumption)
  · rw [digL_ge (by assumption), digL_lt (by omega)]; rfl

theorem small_one : ∀ i : Fin 10, ((⟨#[48, 49, 50, 51, 52, 53, 54, 55, 56, 57, 97, 98, 99, 100, 101, 102, 103, 104, 105, 106, 107, 108, 109, 110, 111, 112, 113, 114, 115, 116, 117, 118, 119, 120, 121, 122]⟩ : ByteArray).extract i.val (i.val + 1)).data.toList = two i.val := by decide +kernel

theorem small_two : ∀ i : Fin 100, 10 ≤ i.val → ((⟨#[48, 48, 48, 49, 48, 50, 48, 51, 48, 52, 48, 53, 48, 54, 48, 55, 48, 56, 48, 57, 49, 48, 49, 49, 49, 50, 49, 51, 49, 52, 49, 53, 49, 54, 49, 55, 49, 56, 49, 57, 50, 48, 50, 49, 50, 50, 50, 51, 50, 52, 50, 53, 50, 54, 50, 55, 50, 56, 50, 57, 51, 48, 51, 49, 51, 50, 51, 51, 51, 52, 51, 53, 51, 54, 51, 55, 51, 56, 51, 57, 52, 48, 52, 49, 52, 50, 52, 51, 52, 52, 52, 53, 52, 54, 52, 55, 52, 56, 52, 57, 53, 48, 53, 49, 53, 50, 53, 51, 53, 52, 53, 53, 53, 54, 53, 55, 53, 56, 53, 57, 54, 48, 54, 49, 54, 50, 54, 51, 54, 52, 54, 53, 54, 54, 54, 55, 54, 56, 54, 57, 55, 48, 55, 49, 55, 50, 55, 51, 55, 52, 55, 53, 55, 54, 55, 55, 55, 56, 55, 57, 56, 48, 56, 49, 56, 50, 56, 51, 56, 52, 56, 53, 56, 54, 56, 55, 56, 56, 56, 57, 57, 48, 57, 49, 57, 50, 57, 51, 57, 52, 57, 53, 57, 54, 57, 55, 57, 56, 57, 57]⟩ : ByteArray).extract (i.val * 2) (i.val * 2 + 2)).data.toList = two i.val := by decide +kernel

set_option maxRecDepth 100000 in
theorem small_any (n : Nat) (w : World) (hn : n < 100) :
    Calls Tryz.prog 101 #[.int .i64 n] w fun e w' => e = .returned (.string (digA n)) ∧ w = w' := by
  have hd := digL_two hn
  by_cases h : n < 10
  · have h1 : (n : Int) < 10 := by omega
    have h2 := small_one ⟨n, h⟩
    have HS := Lib.hid h2
    have HD := Lib.hid hd
    clear h2 hd
    go_enter Tryz.func101, Tryz.ntmps101
    go_wp2
    go_ret
    exact ⟨ret_str (by rw [digA_list, HD.out]; exact HS.out), rfl⟩
  · have h1 : ¬ (n : Int) < 10 := by omega
    have h2 := small_two ⟨n, hn⟩ (by simp; omega)
    have HS := Lib.hid h2
    have HD := Lib.hid hd
    clear h2 hd
    go_enter Tryz.func101, Tryz.ntmps101
    go_wp2
    go_ret
    exact ⟨ret_str (by rw [digA_list, HD.out]; exact HS.out), rfl⟩

theorem format_any (n : Nat) (w : World) (hn : n < 100) :
    Calls Tryz.prog 100 #[.int .i64 n, .int .i64 10] w fun e w' => e = .returned (.string (digA n)) ∧ w = w' := by
  have h1 : (n : Int) < 100 := by omega
  have h0 : (0 : Int) ≤ (n : Int) := by omega
  have C := small_any n w hn
  go_enter Tryz.func100, Tryz.ntmps100
  go_wp2_with (go_at_call 101; refine C.mono ?_; rintro e w' ⟨rfl, rfl⟩)
  go_ret
  exact ⟨rfl, rfl⟩

theorem itoa2_any (n : Nat) (w : World) (hn : n < 100) :
    Calls Tryz.prog 99 #[.int .i64 n] w fun e w' => e = .returned (.string (digA n)) ∧ w = w' := by
  have C := format_any n w hn
  go_enter Tryz.func99, Tryz.ntmps99
  go_wp2_with (go_at_call 100; refine C.mono ?_; rintro e w' ⟨rfl, rfl⟩)
  go_ret
  exact ⟨rfl, rfl⟩

theorem itoa_any (n : Nat) (w : World) (hn : n < 100) :
    Calls Tryz.prog 97 #[.int .i64 n] w fun e w' => e = .returned (.string (digA n)) ∧ w = w' := by
  have C := itoa2_any n w hn
  go_enter Tryz.func97, Tryz.ntmps97
  go_wp2_with (go_at_call 99; refine C.mono ?_; rintro e w' ⟨rfl, rfl⟩)
  go_ret
  exact ⟨rfl, rfl⟩

/-- The text of a seat. -/
def seatT (r : Int) (c : UInt8) : ByteArray := if 1 ≤ r ∧ r ≤ 99 ∧ isL c.toNat = true then digA r.toNat ++ ⟨#[c]⟩ else ⟨#[]⟩

theorem seatT_no {r : Int} {c : UInt8} (h : ¬ (1 ≤ r ∧ r ≤ 99 ∧ isL c.toNat = true)) : seatT r c = ⟨#[]⟩ := if_neg h

theorem digA_small {n : Nat} (h : n < 100) : (digA n).size ≤ 2 := by
  show (digL n).length ≤ 2
  rw [digL_two h]
  unfold two
  split <;> simp

theorem one_conv (c : UInt8) (w : World) : (convert 30 9 (.slice (some ⟨w.heap.size, 0, none⟩) 1 1)).run Tryz.prog (w.alloc (.cells #[.int .u8 c.toNat] 5)).drew = .ok (.string ⟨#[c]⟩) (w.alloc (.cells #[.int .u8 c.toNat] 5)).drew := by
  refine string_conv [c] _ w.heap.size 1 1 rfl fun j hj => ?_
  show (w.alloc _).cell? _ = _
  rw [World.cell?_alloc_new]
  match j, hj with
  | 0, _ => rfl

theorem one_conv0 (c : UInt8) (w : World) : (convert 30 9 (.slice (some ⟨w.heap.size, 0, none⟩) 1 1)).run Tryz.prog (w.alloc (.cells #[.int .u8 c.toNat] 5)) = .ok (.string ⟨#[c]⟩) (w.alloc (.cells #[.int .u8 c.toNat] 5)) := by
  refine string_conv [c] _ w.heap.size 1 1 rfl fun j hj => ?_
  rw [World.cell?_alloc_new]
  match j, hj with
  | 0, _ => rfl

theorem one_conv_at (c : UInt8) (w : World) (b : Nat) (h : w.cell? ⟨b, 0, none⟩ = some (.int .u8 c.toNat)) : (convert 30 9 (.slice (some ⟨b, 0, none⟩) 1 1)).run Tryz.prog w = .ok (.string ⟨#[c]⟩) w := by
  refine string_conv [c] _ b 1 1 rfl fun j hj => ?_
  match j, hj with
  | 0, _ => exact h

theorem held2_drew {w W : World} {a a' : Addr} {x y : Value} (h : W.drew.cell? a = some x ∧ W.drew.cell? a' = some y ∧ Below w.heap.size w W.drew) (o : Obj) : (W.alloc o).drew.cell? a = some x ∧ (W.alloc o).drew.cell? a' = some y ∧ Below w.heap.size w (W.alloc o).drew := by
  have hb := (Below.refl W.heap.size W).alloc (Nat.le_refl _) o
  exact ⟨cell_bel (wr := W.alloc o) hb h.1, cell_bel (wr := W.alloc o) hb h.2.1, h.2.2.alloc h.2.2.size o⟩

theorem held2_bel {w W W' : World} {a a' : Addr} {x y : Value} (h : W.cell? a = some x ∧ W.cell? a' = some y ∧ Below w.heap.size w W) (hb : Below W.heap.size W W') : W'.cell? a = some x ∧ W'.cell? a' = some y ∧ Below w.heap.size w W' :=
  ⟨cell_bel hb h.1, cell_bel hb h.2.1, bel_trans h.2.2 hb⟩

/-- A boxed seat. -/
theorem seat_boxed (w : World) (r : Int) (c : UInt8) : ∃ w1, w.alloc (.cells #[.int .i64 r, .int .u8 c.toNat] 71) = w1 ∧ w1.cell? ⟨w.heap.size, 0, none⟩ = some (.int .i64 r) ∧ w1.cell? ⟨w.heap.size, 1, none⟩ = some (.int .u8 c.toNat) ∧ Below w.heap.size w w1 ∧ w1.heap.size = w.heap.size + 1 :=
  ⟨_, rfl, World.cell?_alloc_new _ _ _ _, World.cell?_alloc_new _ _ _ _, (Below.refl _ _).alloc (Nat.le_refl _) _, by simp⟩

set_option maxRecDepth 20000 in
theorem text_any (r : Int) (c : UInt8) (w : World) :
    Calls Tryz.prog 84 #[.agg #[.int .i64 r, .int .u8 c.toNat]] w fun e w' => e = .returned (.string (seatT r c)) ∧ Below w.heap.size w w' := by
  have hc0 : (0 : Int) ≤ (c.toNat : Int) := by omega
  have hc1 := byte_hi c
  by_cases h1 : r < 1
  · have HF : RowKit.Hid (seatT r c = ⟨#[]⟩) := Lib.hid (seatT_no (by omega))
    go_enter Tryz.func84, Tryz.ntmps84
    go_wp2
    go_ret
    exact ⟨ret_str (by rw [HF.out]), (Below.refl _ _).alloc (Nat.le_refl _) _⟩
  · by_cases h2 : 99 < r
    · have HF : RowKit.Hid (seatT r c = ⟨#[]⟩) := Lib.hid (seatT_no (by omega))
      go_enter Tryz.func84, Tryz.ntmps84
      go_wp2
      go_ret
      exact ⟨ret_str (by rw [HF.out]), (Below.refl _ _).alloc (Nat.le_refl _) _⟩
    · have g1 : (1 : Int) ≤ r := by omega
      have g2 : r ≤ 99 := by omega
      by_cases h3 : isL c.toNat = true
      · obtain ⟨n, rfl⟩ := Int.eq_ofNat_of_zero_le (show (0 : Int) ≤ r by omega)
        have HF : RowKit.Hid (seatT n c = digA n ++ ⟨#[c]⟩) := Lib.hid (if_pos ⟨g1, g2, h3⟩)
        unfold isL at h3
        have hd := of_decide_eq_true h3
        have hw1 : IntKind.u8.wrap ((c.toNat : Int) - 65) = (c.toNat : Int) - 65 := by simp [IntKind.wrap, IntKind.bits, IntKind.signed] ; omega
        have CI : ∀ W, _ := fun W => itoa_any n W (by omega)
        have HI := Lib.hid CI
        have hsz := digA_small (n := n) (by omega)
        clear h3 CI
        have hs1 : ¬ 9223372036854775807 < (digA n).size + 1 := by omega
        have hcv := one_conv c
        obtain ⟨w1, e1, k1, k2, kb, ks⟩ := seat_boxed w n c
        clear ks
        go_enter Tryz.func84, Tryz.ntmps84
        go_wp2
        generalize digA n = D at *
        clear e1
        refine wp_region_noPanic ?_
        refine wp_region_held_drew (S := fun W => W.cell? ⟨w.heap.size, 0, none⟩ = some (.int .i64 n) ∧ W.cell? ⟨w.heap.size, 1, none⟩ = some (.int .u8 c.toNat) ∧ Below w.heap.size w W) (by kernel_rfl) ⟨k1, k2, kb.drew⟩ (fun hHeld => ?_)
        refine wpAnyH_take (i := 0) (oi := _) (v := ?_) rfl (by kernel_rfl) (by kernel_rfl) (by kernel_rfl) (fun _ _ _ h => h) (Or.inl ⟨by rfl, ?_⟩) (by assumption) ?_
        rotate_left
        · intro w hSw
          (try dsimp only at hSw)
          go_simp
          (try with_reducible rfl)
        try simp only [Act.put, List.getElem_toArray, List.getElem_cons_succ, List.getElem_cons_zero, List.setIfInBounds_toArray, List.set_cons_zero, List.set_cons_succ]
        refine wpAnyH_take (i := 1) (oi := _) (v := ?_) rfl (by kernel_rfl) (by kernel_rfl) (by kernel_rfl) (fun _ _ _ h => h) (Or.inl ⟨by rfl, ?_⟩) (by assumption) ?_
        rotate_left
        · intro w hSw
          (try dsimp only at hSw)
          go_simp
          (try with_reducible rfl)
        try simp only [Act.put, List.getElem_toArray, List.getElem_cons_succ, List.getElem_cons_zero, List.setIfInBounds_toArray, List.set_cons_zero, List.set_cons_succ]
        refine wpAnyH_take (i := 3) (oi := _) (v := ?_) rfl (by kernel_rfl) (by kernel_rfl) (by kernel_rfl) (fun _ _ _ h => h) (Or.inl ⟨by rfl, ?_⟩) (by assumption) ?_
        rotate_left
        · intro w hSw
          (try dsimp only at hSw)
          go_simp
          (try with_reducible rfl)
        try simp only [Act.put, List.getElem_toArray, List.getElem_cons_succ, List.getElem_cons_zero, List.setIfInBounds_toArray, List.set_cons_zero, List.set_cons_succ]
        refine wpAnyH_take (i := 4) (oi := _) (v := ?_) rfl (by kernel_rfl) (by kernel_rfl) (by kernel_rfl) (fun _ _ _ h => h) (Or.inl ⟨by rfl, ?_⟩) (by assumption) ?_
        rotate_left
        · intro w hSw
          (try dsimp only at hSw)
          go_simp
          (try with_reducible rfl)
        try simp only [Act.put, List.getElem_toArray, List.getElem_cons_succ, List.getElem_cons_zero, List.setIfInBounds_toArray, List.set_cons_zero, List.set_cons_succ]
        refine wpAnyH_ready (rs := [2, 5]) (by kernel_rfl) (by simp) ?_
        refine (AllReadyH.cons (o := _) rfl (fun K hK => ?_) (AllReadyH.cons (o := _) rfl (fun K hK => ?_) AllReadyH.nil))
        · go_simp
          go_at_call 97
          (with_reducible refine (HI.out _).mono ?_)
          rintro e w3 ⟨rfl, rfl⟩
          go_simp
          refine hK.out _ _ hHeld (fun hHeld => ?_)
          clear hK K
          try simp only [Act.put, List.getElem_toArray, List.getElem_cons_succ, List.getElem_cons_zero, List.setIfInBounds_toArray, List.set_cons_zero, List.set_cons_succ]
          refine wpAnyH_ready (rs := [5]) (by kernel_rfl) (by simp) ?_
          refine AllReadyH.cons (o := _) rfl (fun K hK => ?_) AllReadyH.nil
          go_simp
          refine hK.out _ _ (held2_drew hHeld _) (fun hHeld => ?_)
          clear hK K
          try simp only [Act.put, List.getElem_toArray, List.getElem_cons_succ, List.getElem_cons_zero, List.setIfInBounds_toArray, List.set_cons_zero, List.set_cons_succ]
          refine wpAnyH_ready (rs := [6]) (by kernel_rfl) (by simp) ?_
          refine AllReadyH.cons (o := _) rfl (fun K hK => ?_) AllReadyH.nil
          go_simp
          refine hK.out _ _ hHeld (fun hHeld => ?_)
          clear hK K
          try simp only [Act.put, List.getElem_toArray, List.getElem_cons_succ, List.getElem_cons_zero, List.setIfInBounds_toArray, List.set_cons_zero, List.set_cons_succ]
          refine wpAnyH_take (i := 7) (oi := _) (v := ?_) rfl (by kernel_rfl) (by kernel_rfl) (by kernel_rfl) (fun _ _ _ h => h) (Or.inl ⟨by rfl, ?_⟩) (by assumption) ?_
          rotate_left
          · intro w hSw
            (try dsimp only at hSw)
            go_simp
            (try with_reducible rfl)
          try simp only [Act.put, List.getElem_toArray, List.getElem_cons_succ, List.getElem_cons_zero, List.setIfInBounds_toArray, List.set_cons_zero, List.set_cons_succ]
          refine wpAnyH_take (i := 8) (oi := _) (v := ?_) rfl (by kernel_rfl) (by kernel_rfl) (by kernel_rfl) (fun _ _ _ h => h) (Or.inl ⟨by rfl, ?_⟩) (by assumption) ?_
          rotate_left
          · intro w hSw
            (try dsimp only at hSw)
            go_simp
            (try with_reducible rfl)
          try simp only [Act.put, List.getElem_toArray, List.getElem_cons_succ, List.getElem_cons_zero, List.setIfInBounds_toArray, List.set_cons_zero, List.set_cons_succ]
          refine wpAnyH_done (by kernel_rfl) ?_ _
          refine NoPanic.normal ?_
          go_wp2
          go_ret
          exact ⟨ret_str (by rw [HF.out]), hHeld.2.2⟩
        · go_simp
          refine hK.out _ _ (held2_drew hHeld _) (fun hHeld => ?_)
          clear hK K
          try simp only [Act.put, List.getElem_toArray, List.getElem_cons_succ, List.getElem_cons_zero, List.setIfInBounds_toArray, List.set_cons_zero, List.set_cons_succ]
          refine wpAnyH_ready (rs := [2, 6]) (by kernel_rfl) (by simp) ?_
          refine (AllReadyH.cons (o := _) rfl (fun K hK => ?_) (AllReadyH.cons (o := _) rfl (fun K hK => ?_) AllReadyH.nil))
          · go_simp
            go_at_call 97
            (with_reducible refine (HI.out _).mono ?_)
            rintro e w3 ⟨rfl, rfl⟩
            go_simp
            refine hK.out _ _ hHeld (fun hHeld => ?_)
            clear hK K
            try simp only [Act.put, List.getElem_toArray, List.getElem_cons_succ, List.getElem_cons_zero, List.setIfInBounds_toArray, List.set_cons_zero, List.set_cons_succ]
            refine wpAnyH_ready (rs := [6]) (by kernel_rfl) (by simp) ?_
            refine AllReadyH.cons (o := _) rfl (fun K hK => ?_) AllReadyH.nil
            go_simp
            refine hK.out _ _ hHeld (fun hHeld => ?_)
            clear hK K
            try simp only [Act.put, List.getElem_toArray, List.getElem_cons_succ, List.getElem_cons_zero, List.setIfInBounds_toArray, List.set_cons_zero, List.set_cons_succ]
            refine wpAnyH_take (i := 7) (oi := _) (v := ?_) rfl (by kernel_rfl) (by kernel_rfl) (by kernel_rfl) (fun _ _ _ h => h) (Or.inl ⟨by rfl, ?_⟩) (by assumption) ?_
            rotate_left
            · intro w hSw
              (try dsimp only at hSw)
              go_simp
              (try with_reducible rfl)
            try simp only [Act.put, List.getElem_toArray, List.getElem_cons_succ, List.getElem_cons_zero, List.setIfInBounds_toArray, List.set_cons_zero, List.set_cons_succ]
            refine wpAnyH_take (i := 8) (oi := _) (v := ?_) rfl (by kernel_rfl) (by kernel_rfl) (by kernel_rfl) (fun _ _ _ h => h) (Or.inl ⟨by rfl, ?_⟩) (by assumption) ?_
            rotate_left
            · intro w hSw
              (try dsimp only at hSw)
              go_simp
              (try with_reducible rfl)
            try simp only [Act.put, List.getElem_toArray, List.getElem_cons_succ, List.getElem_cons_zero, List.setIfInBounds_toArray, List.set_cons_zero, List.set_cons_succ]
            refine wpAnyH_done (by kernel_rfl) ?_ _
            refine NoPanic.normal ?_
            go_wp2
            go_ret
            exact ⟨ret_str (by rw [HF.out]), hHeld.2.2⟩
          · go_simp
            refine hK.out _ _ hHeld (fun hHeld => ?_)
            clear hK K
            try simp only [Act.put, List.getElem_toArray, List.getElem_cons_succ, List.getElem_cons_zero, List.setIfInBounds_toArray, List.set_cons_zero, List.set_cons_succ]
            refine wpAnyH_ready (rs := [2]) (by kernel_rfl) (by simp) ?_
            refine AllReadyH.cons (o := _) rfl (fun K hK => ?_) AllReadyH.nil
            go_simp
            go_at_call 97
            (with_reducible refine (HI.out _).mono ?_)
            rintro e w3 ⟨rfl, rfl⟩
            go_simp
            refine hK.out _ _ hHeld (fun hHeld => ?_)
            clear hK K
            try simp only [Act.put, List.getElem_toArray, List.getElem_cons_succ, List.getElem_cons_zero, List.setIfInBounds_toArray, List.set_cons_zero, List.set_cons_succ]
            refine wpAnyH_take (i := 7) (oi := _) (v := ?_) rfl (by kernel_rfl) (by kernel_rfl) (by kernel_rfl) (fun _ _ _ h => h) (Or.inl ⟨by rfl, ?_⟩) (by assumption) ?_
            rotate_left
            · intro w hSw
              (try dsimp only at hSw)
              go_simp
              (try with_reducible rfl)
            try simp only [Act.put, List.getElem_toArray, List.getElem_cons_succ, List.getElem_cons_zero, List.setIfInBounds_toArray, List.set_cons_zero, List.set_cons_succ]
            refine wpAnyH_take (i := 8) (oi := _) (v := ?_) rfl (by kernel_rfl) (by kernel_rfl) (by kernel_rfl) (fun _ _ _ h => h) (Or.inl ⟨by rfl, ?_⟩) (by assumption) ?_
            rotate_left
            · intro w hSw
              (try dsimp only at hSw)
              go_simp
              (try with_reducible rfl)
            try simp only [Act.put, List.getElem_toArray, List.getElem_cons_succ, List.getElem_cons_zero, List.setIfInBounds_toArray, List.set_cons_zero, List.set_cons_succ]
            refine wpAnyH_done (by kernel_rfl) ?_ _
            refine NoPanic.normal ?_
            go_wp2
            go_ret
            exact ⟨ret_str (by rw [HF.out]), hHeld.2.2⟩
      · have HF : RowKit.Hid (seatT r c = ⟨#[]⟩) := Lib.hid (seatT_no (by simp [h3]))
        have hn : ¬ (65 ≤ (c.toNat : Int) ∧ (c.toNat : Int) ≤ 90) := fun h => h3 (by unfold isL; exact decide_eq_true h)
        clear h3
        go_enter Tryz.func84, Tryz.ntmps84
        go_wp2
        go_ret
        exact ⟨ret_str (by rw [HF.out]), (Below.refl _ _).alloc (Nat.le_refl _) _⟩

set_option maxRecDepth 20000 in
theorem refText_any (r : Int) (c : UInt8) (w : World) :
    Calls Tryz.prog 93 #[.agg #[.int .i64 r, .int .u8 c.toNat]] w fun e w' => e = .returned (.string (seatT r c)) ∧ Below w.heap.size w w' := by
  have hc0 : (0 : Int) ≤ (c.toNat : Int) := by omega
  have hc1 := byte_hi c
  have CL : ∀ W, _ := fun W => refLetter_any (c.toNat : Int) W hc0 hc1
  by_cases h1 : r < 1
  · have HF : RowKit.Hid (seatT r c = ⟨#[]⟩) := Lib.hid (seatT_no (by omega))
    go_enter Tryz.func93, Tryz.ntmps93
    go_wp2
    go_ret
    exact ⟨ret_str (by rw [HF.out]), (Below.refl _ _).alloc (Nat.le_refl _) _⟩
  · by_cases h2 : 99 < r
    · have HF : RowKit.Hid (seatT r c = ⟨#[]⟩) := Lib.hid (seatT_no (by omega))
      go_enter Tryz.func93, Tryz.ntmps93
      go_wp2
      go_ret
      exact ⟨ret_str (by rw [HF.out]), (Below.refl _ _).alloc (Nat.le_refl _) _⟩
    · have g1 : (1 : Int) ≤ r := by omega
      have g2 : r ≤ 99 := by omega
      obtain ⟨w1, e1, k1, k2, kb, ks⟩ := seat_boxed w r c
      clear ks
      cases h3 : isL c.toNat
      · have HF : RowKit.Hid (seatT r c = ⟨#[]⟩) := Lib.hid (seatT_no (by rw [h3]; simp))
        rw [h3] at CL
        have HL := Lib.hid CL
        clear CL
        go_enter Tryz.func93, Tryz.ntmps93
        go_wp2_with (first | (go_at_call 90; (with_reducible refine (HL.out _).mono ?_); rintro e w3 ⟨rfl, rfl⟩))
        go_ret
        exact ⟨ret_str (by rw [HF.out]), kb⟩
      · obtain ⟨n, rfl⟩ := Int.eq_ofNat_of_zero_le (show (0 : Int) ≤ r by omega)
        have HF : RowKit.Hid (seatT n c = digA n ++ ⟨#[c]⟩) := Lib.hid (if_pos ⟨g1, g2, h3⟩)
        rw [h3] at CL
        have HL := Lib.hid CL
        have CI : ∀ W, _ := fun W => digits_any n W (by omega)
        have HI := Lib.hid CI
        have hsz := digA_small (n := n) (by omega)
        clear CI CL
        have hs1 : ¬ 9223372036854775807 < (digA n).size + 1 := by omega
        have hcv := one_conv c
        have hcv0 := one_conv0 c
        go_enter Tryz.func93, Tryz.ntmps93
        go_wp2_with (first | (go_at_call 90; (with_reducible refine (HL.out _).mono ?_); rintro e w3 ⟨rfl, rfl⟩))
        generalize digA n = D at *
        clear e1
        refine wp_region_noPanic ?_
        refine wp_region_held_drew (S := fun W => W.cell? ⟨w.heap.size, 0, none⟩ = some (.int .i64 n) ∧ W.cell? ⟨w.heap.size, 1, none⟩ = some (.int .u8 c.toNat) ∧ Below w.heap.size w W) (by kernel_rfl) ⟨k1, k2, kb.drew⟩ (fun hHeld => ?_)
        refine wpAnyH_take (i := 0) (oi := _) (v := ?_) rfl (by kernel_rfl) (by kernel_rfl) (by kernel_rfl) (fun _ _ _ h => h) (Or.inl ⟨by rfl, ?_⟩) (by assumption) ?_
        rotate_left
        · intro w hSw
          (try dsimp only at hSw)
          go_simp
          (try with_reducible rfl)
        try simp only [Act.put, List.getElem_toArray, List.getElem_cons_succ, List.getElem_cons_zero, List.setIfInBounds_toArray, List.set_cons_zero, List.set_cons_succ]
        refine wpAnyH_take (i := 1) (oi := _) (v := ?_) rfl (by kernel_rfl) (by kernel_rfl) (by kernel_rfl) (fun _ _ _ h => h) (Or.inl ⟨by rfl, ?_⟩) (by assumption) ?_
        rotate_left
        · intro w hSw
          (try dsimp only at hSw)
          go_simp
          (try with_reducible rfl)
        try simp only [Act.put, List.getElem_toArray, List.getElem_cons_succ, List.getElem_cons_zero, List.setIfInBounds_toArray, List.set_cons_zero, List.set_cons_succ]
        refine wpAnyH_take (i := 3) (oi := _) (v := ?_) rfl (by kernel_rfl) (by kernel_rfl) (by kernel_rfl) (fun _ _ _ h => h) (Or.inl ⟨by rfl, ?_⟩) (by assumption) ?_
        rotate_left
        · intro w hSw
          (try dsimp only at hSw)
          go_simp
          (try with_reducible rfl)
        try simp only [Act.put, List.getElem_toArray, List.getElem_cons_succ, List.getElem_cons_zero, List.setIfInBounds_toArray, List.set_cons_zero, List.set_cons_succ]
        refine wpAnyH_take (i := 4) (oi := _) (v := ?_) rfl (by kernel_rfl) (by kernel_rfl) (by kernel_rfl) (fun _ _ _ h => h) (Or.inl ⟨by rfl, ?_⟩) (by assumption) ?_
        rotate_left
        · intro w hSw
          (try dsimp only at hSw)
          go_simp
          (try with_reducible rfl)
        try simp only [Act.put, List.getElem_toArray, List.getElem_cons_succ, List.getElem_cons_zero, List.setIfInBounds_toArray, List.set_cons_zero, List.set_cons_succ]
        refine wpAnyH_ready (rs := [2, 5]) (by kernel_rfl) (by simp) ?_
        refine (AllReadyH.cons (o := _) rfl (fun K hK => ?_) (AllReadyH.cons (o := _) rfl (fun K hK => ?_) AllReadyH.nil))
        · go_simp
          go_at_call 98
          (with_reducible refine (HI.out _).mono ?_)
          rintro e w3 ⟨rfl, hb3⟩
          go_simp
          refine hK.out _ _ (held2_bel hHeld hb3) (fun hHeld => ?_)
          clear hK K
          try simp only [Act.put, List.getElem_toArray, List.getElem_cons_succ, List.getElem_cons_zero, List.setIfInBounds_toArray, List.set_cons_zero, List.set_cons_succ]
          refine wpAnyH_ready (rs := [5]) (by kernel_rfl) (by simp) ?_
          refine AllReadyH.cons (o := _) rfl (fun K hK => ?_) AllReadyH.nil
          go_simp
          refine hK.out _ _ (held2_bel hHeld ((Below.refl _ _).alloc (Nat.le_refl _) _)) (fun hHeld => ?_)
          clear hK K
          try simp only [Act.put, List.getElem_toArray, List.getElem_cons_succ, List.getElem_cons_zero, List.setIfInBounds_toArray, List.set_cons_zero, List.set_cons_succ]
          refine wpAnyH_ready (rs := [6]) (by kernel_rfl) (by simp) ?_
          refine AllReadyH.cons (o := _) rfl (fun K hK => ?_) AllReadyH.nil
          go_simp
          refine hK.out _ _ hHeld (fun hHeld => ?_)
          clear hK K
          try simp only [Act.put, List.getElem_toArray, List.getElem_cons_succ, List.getElem_cons_zero, List.setIfInBounds_toArray, List.set_cons_zero, List.set_cons_succ]
          refine wpAnyH_take (i := 7) (oi := _) (v := ?_) rfl (by kernel_rfl) (by kernel_rfl) (by kernel_rfl) (fun _ _ _ h => h) (Or.inl ⟨by rfl, ?_⟩) (by assumption) ?_
          rotate_left
          · intro w hSw
            (try dsimp only at hSw)
            go_simp
            (try with_reducible rfl)
          try simp only [Act.put, List.getElem_toArray, List.getElem_cons_succ, List.getElem_cons_zero, List.setIfInBounds_toArray, List.set_cons_zero, List.set_cons_succ]
          refine wpAnyH_take (i := 8) (oi := _) (v := ?_) rfl (by kernel_rfl) (by kernel_rfl) (by kernel_rfl) (fun _ _ _ h => h) (Or.inl ⟨by rfl, ?_⟩) (by assumption) ?_
          rotate_left
          · intro w hSw
            (try dsimp only at hSw)
            go_simp
            (try with_reducible rfl)
          try simp only [Act.put, List.getElem_toArray, List.getElem_cons_succ, List.getElem_cons_zero, List.setIfInBounds_toArray, List.set_cons_zero, List.set_cons_succ]
          refine wpAnyH_done (by kernel_rfl) ?_ _
          refine NoPanic.normal ?_
          go_wp2
          go_ret
          exact ⟨ret_str (by rw [HF.out]), hHeld.2.2⟩
        · go_simp
          refine hK.out _ _ (held2_drew hHeld _) (fun hHeld => ?_)
          clear hK K
          try simp only [Act.put, List.getElem_toArray, List.getElem_cons_succ, List.getElem_cons_zero, List.setIfInBounds_toArray, List.set_cons_zero, List.set_cons_succ]
          refine wpAnyH_ready (rs := [2, 6]) (by kernel_rfl) (by simp) ?_
          refine (AllReadyH.cons (o := _) rfl (fun K hK => ?_) (AllReadyH.cons (o := _) rfl (fun K hK => ?_) AllReadyH.nil))
          · go_simp
            go_at_call 98
            (with_reducible refine (HI.out _).mono ?_)
            rintro e w3 ⟨rfl, hb3⟩
            have hcx := one_conv_at c w3 w1.heap.size (cell_bel hb3 (World.cell?_alloc_new w1 _ _ _))
            go_simp
            refine hK.out _ _ (held2_bel hHeld hb3) (fun hHeld => ?_)
            clear hK K
            try simp only [Act.put, List.getElem_toArray, List.getElem_cons_succ, List.getElem_cons_zero, List.setIfInBounds_toArray, List.set_cons_zero, List.set_cons_succ]
            refine wpAnyH_ready (rs := [6]) (by kernel_rfl) (by simp) ?_
            refine AllReadyH.cons (o := _) rfl (fun K hK => ?_) AllReadyH.nil
            go_simp
            refine hK.out _ _ hHeld (fun hHeld => ?_)
            clear hK K
            try simp only [Act.put, List.getElem_toArray, List.getElem_cons_succ, List.getElem_cons_zero, List.setIfInBounds_toArray, List.set_cons_zero, List.set_cons_succ]
            refine wpAnyH_take (i := 7) (oi := _) (v := ?_) rfl (by kernel_rfl) (by kernel_rfl) (by kernel_rfl) (fun _ _ _ h => h) (Or.inl ⟨by rfl, ?_⟩) (by assumption) ?_
            rotate_left
            · intro w hSw
              (try dsimp only at hSw)
              go_simp
              (try with_reducible rfl)
            try simp only [Act.put, List.getElem_toArray, List.getElem_cons_succ, List.getElem_cons_zero, List.setIfInBounds_toArray, List.set_cons_zero, List.set_cons_succ]
            refine wpAnyH_take (i := 8) (oi := _) (v := ?_) rfl (by kernel_rfl) (by kernel_rfl) (by kernel_rfl) (fun _ _ _ h => h) (Or.inl ⟨by rfl, ?_⟩) (by assumption) ?_
            rotate_left
            · intro w hSw
              (try dsimp only at hSw)
              go_simp
              (try with_reducible rfl)
            try simp only [Act.put, List.getElem_toArray, List.getElem_cons_succ, List.getElem_cons_zero, List.setIfInBounds_toArray, List.set_cons_zero, List.set_cons_succ]
            refine wpAnyH_done (by kernel_rfl) ?_ _
            refine NoPanic.normal ?_
            go_wp2
            go_ret
            exact ⟨ret_str (by rw [HF.out]), hHeld.2.2⟩
          · go_simp
            refine hK.out _ _ hHeld (fun hHeld => ?_)
            clear hK K
            try simp only [Act.put, List.getElem_toArray, List.getElem_cons_succ, List.getElem_cons_zero, List.setIfInBounds_toArray, List.set_cons_zero, List.set_cons_succ]
            refine wpAnyH_ready (rs := [2]) (by kernel_rfl) (by simp) ?_
            refine AllReadyH.cons (o := _) rfl (fun K hK => ?_) AllReadyH.nil
            go_simp
            go_at_call 98
            (with_reducible refine (HI.out _).mono ?_)
            rintro e w3 ⟨rfl, hb3⟩
            go_simp
            refine hK.out _ _ (held2_bel hHeld hb3) (fun hHeld => ?_)
            clear hK K
            try simp only [Act.put, List.getElem_toArray, List.getElem_cons_succ, List.getElem_cons_zero, List.setIfInBounds_toArray, List.set_cons_zero, List.set_cons_succ]
            refine wpAnyH_take (i := 7) (oi := _) (v := ?_) rfl (by kernel_rfl) (by kernel_rfl) (by kernel_rfl) (fun _ _ _ h => h) (Or.inl ⟨by rfl, ?_⟩) (by assumption) ?_
            rotate_left
            · intro w hSw
              (try dsimp only at hSw)
              go_simp
              (try with_reducible rfl)
            try simp only [Act.put, List.getElem_toArray, List.getElem_cons_succ, List.getElem_cons_zero, List.setIfInBounds_toArray, List.set_cons_zero, List.set_cons_succ]
            refine wpAnyH_take (i := 8) (oi := _) (v := ?_) rfl (by kernel_rfl) (by kernel_rfl) (by kernel_rfl) (fun _ _ _ h => h) (Or.inl ⟨by rfl, ?_⟩) (by assumption) ?_
            rotate_left
            · intro w hSw
              (try dsimp only at hSw)
              go_simp
              (try with_reducible rfl)
            try simp only [Act.put, List.getElem_toArray, List.getElem_cons_succ, List.getElem_cons_zero, List.setIfInBounds_toArray, List.set_cons_zero, List.set_cons_succ]
            refine wpAnyH_done (by kernel_rfl) ?_ _
            refine NoPanic.normal ?_
            go_wp2
            go_ret
            exact ⟨ret_str (by rw [HF.out]), hHeld.2.2⟩

end Go.Proofs.YtofomopmmopflaaGreatDoor
namespace Go.Proofs.YtofomopmmopflaaGreatDoor
open Go.RowKit Go.ChangeMaps
set_option linter.unusedSimpArgs false
set_option linter.unusedVariables false
set_option maxRecDepth 20000

/- Parsers in stages. -/
def bindP {α β : Type} (o : Option (α × List UInt8)) (K : α → List UInt8 → Option β) : Option β :=
  match o with
  | some (a, r) => K a r
  | none => none

theorem bindP_some {α β : Type} {o : Option (α × List UInt8)} {K : α → List UInt8 → Option β} {a : α} {r : List UInt8} (h : o = some (a, r)) : bindP o K = K a r := by rw [h]; rfl
theorem bindP_none {α β : Type} {o : Option (α × List UInt8)} {K : α → List UInt8 → Option β} (h : o = none) : bindP o K = none := by rw [h]; rfl

/-- The first byte. -/
def pTag (c : UInt8) : List UInt8 → Option (Unit × List UInt8)
  | x :: r => if x = c then some ((), r) else none
  | [] => none

theorem pTag_yes {c : UInt8} {l r : List UInt8} (h : l = c :: r) : pTag c l = some ((), r) := by rw [h]; exact if_pos rfl
theorem pTag_no {c : UInt8} {l : List UInt8} (h : ∀ r, l ≠ c :: r) : pTag c l = none := by
  cases l with
  | nil => rfl
  | cons x r => exact if_neg fun e => h r (by rw [e])

/-- n times, from 'acc' on. -/
def pRun {α β : Type} (f : List UInt8 → Option (α × List UInt8)) (K : List α → List UInt8 → Option β) : Nat → List α → List UInt8 → Option β
  | 0, acc, r => K acc r
  | n + 1, acc, r => bindP (f r) fun s r' => pRun f K n (acc ++ [s]) r'

/-- Where a reader stands: not bad, 'x' is what is to come; bad, there is none. -/
def Stg {β : Type} (o : Option β) (bad : Bool) (x : Option β) : Prop := (bad = false → o = x) ∧ (bad = true → o = none)

theorem Stg.step {α β : Type} {o : Option β} {bad b2 : Bool} {p : Option (α × List UInt8)} {K : α → List UInt8 → Option β} {a : α} {r : List UInt8} (h : Stg o bad (bindP p K)) (h1 : b2 = false → bad = false ∧ p = some (a, r)) (h2 : b2 = true → bad = true ∨ p = none) : Stg o b2 (K a r) := by
  refine ⟨fun e => ?_, fun e => ?_⟩
  · obtain ⟨h3, h4⟩ := h1 e
    rw [h.1 h3, bindP_some h4]
  · rcases h2 e with h3 | h3
    · exact h.2 h3
    · cases hb : bad with
      | true => exact h.2 hb
      | false => rw [h.1 hb, bindP_none h3]

theorem Stg.start {α β : Type} {o : Option β} {b2 : Bool} {c : UInt8} {l r : List UInt8} {K : Unit → List UInt8 → Option β} (h : o = bindP (pTag c l) K) (h1 : b2 = false → l = c :: r) (h2 : b2 = true → ∀ r, l ≠ c :: r) : Stg o b2 (K () r) := by
  refine ⟨fun e => ?_, fun e => ?_⟩
  · rw [h, bindP_some (pTag_yes (h1 e))]
  · rw [h, bindP_none (pTag_no (h2 e))]

/-- Two steps as one. -/
theorem stg_two {α β γ : Type} {bad b1 b2 : Bool} {p : Option (α × List UInt8)} {q : List UInt8 → Option (β × List UInt8)} {F : α → β → γ} {a : α} {r : List UInt8} {b : β} {r2 : List UInt8}
    (h1 : b1 = false → bad = false ∧ p = some (a, r)) (h2 : b1 = true → bad = true ∨ p = none) (k1 : b2 = false → b1 = false ∧ q r = some (b, r2)) (k2 : b2 = true → b1 = true ∨ q r = none) :
    (b2 = false → bad = false ∧ bindP p (fun a r => bindP (q r) fun b r2 => some (F a b, r2)) = some (F a b, r2)) ∧ (b2 = true → bad = true ∨ bindP p (fun a r => bindP (q r) fun b r2 => some (F a b, r2)) = none) := by
  refine ⟨fun e => ?_, fun e => ?_⟩
  · obtain ⟨e1, e2⟩ := k1 e
    obtain ⟨e3, e4⟩ := h1 e1
    exact ⟨e3, by rw [bindP_some e4, bindP_some e2]⟩
  · rcases k2 e with e1 | e1
    · rcases h2 e1 with e2 | e2
      · exact .inl e2
      · exact .inr (bindP_none e2)
    · cases hb : b1 with
      | true =>
        rcases h2 hb with e2 | e2
        · exact .inl e2
        · exact .inr (bindP_none e2)
      | false =>
        obtain ⟨e3, e4⟩ := h1 hb
        exact .inr (by rw [bindP_some e4, bindP_none e1])

/- Legs. -/
structure SoldT where
  c : UInt8
  n : Int
structure HeldT where
  row : Int
  c : UInt8
  loc : ByteArray
  pax : Int

/-- A seat in bits. -/
def bitsN (pax row : Int) (c : UInt8) : Nat := (pax * 4096 + row * 32 + (c.toNat - 65)).toNat

def oneH (x : HeldT) : Prop := (1 ≤ x.row ∧ x.row ≤ 99 ∧ bL x.c = true) ∧ lettersS (toL x.loc) 6 6 = true ∧ 1 ≤ x.pax ∧ x.pax ≤ 9
/-- Each is right, and lower than the next one. -/
def Rise {α : Type} (one : α → Prop) (low : α → α → Prop) (l : List α) : Prop := ∀ i x, l[i]? = some x → one x ∧ ∀ y, 0 < i → l[i - 1]? = some y → low y x

theorem Rise.nil {α : Type} {one : α → Prop} {low : α → α → Prop} {l : List α} : Rise one low (l.take 0) := by
  intro i x h
  simp at h

theorem take_at {α : Type} {l : List α} {i j : Nat} (h : j < i) : (l.take i)[j]? = l[j]? := by rw [List.getElem?_take, if_pos h]

theorem Rise.next {α : Type} {one : α → Prop} {low : α → α → Prop} {l : List α} {i : Nat} {x : α} (h : Rise one low (l.take i)) (hx : l[i]? = some x) (h1 : one x) (h2 : ∀ y, 0 < i → l[i - 1]? = some y → low y x) : Rise one low (l.take (i + 1)) := by
  intro j z hz
  have hj : j < i + 1 := by
    rcases Nat.lt_or_ge j (i + 1) with h | h
    · exact h
    · rw [List.getElem?_take, if_neg (by omega)] at hz; cases hz
  rw [take_at hj] at hz
  rcases Nat.lt_or_ge j i with hji | hji
  · obtain ⟨k1, k2⟩ := h j z (by rw [take_at hji]; exact hz)
    refine ⟨k1, fun y hj0 hy => k2 y hj0 ?_⟩
    rw [take_at (by omega)] at hy ⊢
    exact hy
  · have e : j = i := by omega
    subst e
    rw [hx] at hz
    injection hz with hz
    subst hz
    exact ⟨h1, fun y hj0 hy => h2 y hj0 (by rw [take_at (by omega)] at hy; exact hy)⟩

end Go.Proofs.YtofomopmmopflaaGreatDoor
namespace Go.Proofs.YtofomopmmopflaaGreatDoor
open Go.RowKit Go.ChangeMaps
set_option linter.unusedSimpArgs false
set_option linter.unusedVariables false
set_option maxRecDepth 20000

theorem pFix_one {x : UInt8} {r : List UInt8} : pFix 1 (x :: r) = some (x.toNat, r) := by
  unfold pFix
  rw [if_pos (by rw [List.length_cons]; omega)]
  simp [valB]

theorem pFix_lt {k n : Nat} {l r : List UInt8} (h : pFix k l = some (n, r)) (hk : k ≤ 4) : n < 256 ^ k ∧ r.length ≤ l.length := by
  obtain ⟨h1, h2, h3⟩ := pFix_some h
  have := valB_lt (l.take k)
  rw [List.length_take, show min k l.length = k by omega] at this
  exact ⟨by rw [h2]; exact this, by rw [h3, List.length_drop]; omega⟩

/-- The program's reader: so many bytes as a number. -/
theorem rfix_any (g : Nat) (l : List UInt8) (bad : Bool) (k : Nat) (w0 w : World) (h : RS w0 w g l bad) (h1 : 1 ≤ k) (h4 : k ≤ 4) (hl : l.length ≤ 1000000) :
    Calls Tryz.prog 68 #[.pointer (some ⟨g, 0, none⟩), .int .i64 k] w fun e w' => ∃ (n : Nat) (r : List UInt8) (b2 : Bool), e = .returned (.int .i64 n) ∧ n < 256 ^ k ∧ RS w0 w' g r b2 ∧ r.length ≤ 1000000 ∧ (b2 = false → bad = false ∧ pFix k l = some (n, r)) ∧ (b2 = true → bad = true ∨ pFix k l = none) ∧ w.grownBy w' (some g) := by
  cases hp : pFix k l with
  | none =>
    refine (rfix_no g l bad k w0 w h h1 h4 hp).mono ?_
    rintro e w' ⟨rfl, h2, h3⟩
    exact ⟨0, [], true, rfl, Nat.pow_pos (by decide), h2, Nat.zero_le _, (fun h => by cases h), (fun _ => .inr rfl), h3⟩
  | some x =>
    obtain ⟨n, r⟩ := x
    obtain ⟨k1, k2⟩ := pFix_lt hp h4
    refine (rfix_yes g l r bad k n w0 w h h1 h4 hl hp).mono ?_
    rintro e w' ⟨rfl, h2, h3⟩
    exact ⟨n, r, bad, rfl, k1, h2, by omega, fun h => ⟨h, rfl⟩, fun h => .inl h, h3⟩

/-- One byte. -/
theorem rone_any (g : Nat) (l : List UInt8) (bad : Bool) (w0 w : World) (h : RS w0 w g l bad) (hl : l.length ≤ 1000000) :
    Calls Tryz.prog 38 #[.pointer (some ⟨g, 0, none⟩), .int .i64 1] w fun e w' => ∃ (x : UInt8) (r : List UInt8) (b2 : Bool) (b off c : Nat), e = .returned (.slice (some ⟨b, off, none⟩) 1 c) ∧ w'.cell? ⟨b, off, none⟩ = some (.int .u8 x.toNat) ∧ RS w0 w' g r b2 ∧ r.length ≤ 1000000 ∧ (b2 = false → bad = false ∧ pFix 1 l = some (x.toNat, r)) ∧ (b2 = true → bad = true ∨ pFix 1 l = none) ∧ w.grownBy w' (some g) := by
  cases l with
  | nil =>
    refine (rbytes_no g [] bad 1 w0 w h (Nat.le_refl _) (by omega) (by decide)).mono ?_
    rintro e w' ⟨⟨v, rfl, hv⟩, h2, h3⟩
    obtain ⟨p, c, rfl⟩ := hv.len
    obtain ⟨b, off, rfl, k0⟩ := byte_at hv (i := 0) (by simp)
    exact ⟨0, [], true, b, off, c, rfl, k0, h2, Nat.zero_le _, (fun h => by cases h), (fun _ => .inr rfl), h3⟩
  | cons x r =>
    rw [List.length_cons] at hl
    refine (rbytes_yes g (x :: r) bad 1 w0 w h (Nat.le_refl _) (by rw [List.length_cons]; omega) (by rw [List.length_cons]; omega)).mono ?_
    rintro e w' ⟨⟨v, rfl, hv⟩, h2, h3⟩
    obtain ⟨p, c, rfl⟩ := hv.len
    obtain ⟨b, off, rfl, k0⟩ := byte_at hv (i := 0) (by simp)
    exact ⟨x, r, bad, b, off, c, rfl, k0, h2, by omega, fun h => ⟨h, pFix_one⟩, fun h => .inl h, h3⟩

/-- What the reference's 'byte' tells. -/
def ByteP (g : Nat) (s : ByteArray) (k : Nat) (bad : Bool) (w : World) (e : Ending) (w' : World) : Prop :=
  ∃ (x : UInt8) (k2 : Nat) (b2 : Bool), e = .returned (.int .i64 x.toNat) ∧ CS w' g s k2 b2 ∧ (b2 = false → bad = false ∧ pFix 1 ((toL s).drop k) = some (x.toNat, (toL s).drop k2)) ∧ (b2 = true → bad = true ∨ pFix 1 ((toL s).drop k) = none) ∧ w.grownBy w' (some g)

theorem byte_any (g : Nat) (s : ByteArray) (k : Nat) (bad : Bool) (w : World) (h : CS w g s k bad) (hl : s.size ≤ 1000000) :
    Calls Tryz.prog 43 #[.pointer (some ⟨g, 0, none⟩)] w fun e w' => ByteP g s k bad w e w' := by
  by_cases hy : bad = false ∧ k < s.size
  · obtain ⟨rfl, hk⟩ := hy
    refine (byte_yes g s k w h hl hk).mono ?_
    rintro e w' ⟨rfl, h1, h2⟩
    refine ⟨_, k + 1, false, rfl, h1, fun _ => ⟨rfl, ?_⟩, fun h => .inl h, h2⟩
    rw [drop_cons (toL s) k (by rw [size_toL]; exact hk)]
    exact pFix_one
  · have hn : bad = true ∨ s.size ≤ k := by
      cases bad with
      | true => exact .inl rfl
      | false => exact .inr (by rcases Nat.lt_or_ge k s.size with h | h; exact absurd ⟨rfl, h⟩ hy; exact h)
    refine (byte_no g s k bad w h hl hn).mono ?_
    rintro e w' ⟨rfl, h1, h2⟩
    refine ⟨0, k, true, rfl, h1, (fun h => by cases h), fun _ => ?_, h2⟩
    rcases hn with hn | hn
    · exact .inl hn
    · refine .inr ?_
      rw [List.drop_eq_nil_of_le (by rw [size_toL]; exact hn)]
      rfl

end Go.Proofs.YtofomopmmopflaaGreatDoor
namespace Go.Proofs.YtofomopmmopflaaGreatDoor
open Go.RowKit Go.ChangeMaps
set_option linter.unusedSimpArgs false
set_option linter.unusedVariables false
set_option maxRecDepth 20000

def s0 : SoldT := ⟨0, 0⟩
def h0 : HeldT := ⟨0, 0, ⟨#[]⟩, 0⟩

theorem info_seat2 : (Tryz.prog.info? 71).map (·.size) = some 2 := by kernel_rfl
theorem seat2_one (r : Int) (c : Int) : ∀ v ∈ ([.int .i64 r, .int .u8 c] : List Value), v.oneCell' = true := by
  intro v hv
  simp at hv
  rcases hv with rfl | rfl <;> rfl

theorem getD_at {α : Type} {l : List α} {i : Nat} (d : α) (hi : i < l.length) : l[i]? = some (l.getD i d) := by rw [List.getD_eq_getElem?_getD, List.getElem?_eq_getElem hi]; rfl

theorem Rise.bad1 {α : Type} {one : α → Prop} {low : α → α → Prop} {l : List α} {i : Nat} {x : α} (hx : l[i]? = some x) (h1 : ¬ one x) : ¬ Rise one low l := fun h => h1 (h i x hx).1
theorem bL_lo {c : UInt8} (h : bL c = true) : 65 ≤ (c.toNat : Int) ∧ (c.toNat : Int) ≤ 90 := by
  unfold bL isL at h
  exact of_decide_eq_true h

theorem seatT_empty {r : Int} {c : UInt8} : ((seatT r c).toList == []) = !decide (1 ≤ r ∧ r ≤ 99 ∧ bL c = true) := by
  by_cases h : 1 ≤ r ∧ r ≤ 99 ∧ bL c = true
  · rw [decide_eq_true h]
    unfold seatT
    have h' : 1 ≤ r ∧ r ≤ 99 ∧ isL c.toNat = true := h
    rw [if_pos h', beq_eq_false_iff_ne.2]
    · rfl
    · intro e
      have e2 := congrArg List.length e
      rw [ByteArray.toList_eq] at e2
      have : (digA r.toNat ++ ⟨#[c]⟩ : ByteArray).data.toList.length = (digA r.toNat).data.toList.length + 1 := by simp
      rw [this] at e2
      simp at e2
  · rw [decide_eq_false h]
    rw [seatT_no (show ¬ (1 ≤ r ∧ r ≤ 99 ∧ isL c.toNat = true) from h)]
    rw [ByteArray.toList_eq]
    rfl
end Go.Proofs.YtofomopmmopflaaGreatDoor
namespace Go.Proofs.YtofomopmmopflaaGreatDoor
open Go.RowKit Go.ChangeMaps
set_option linter.unusedSimpArgs false
set_option linter.unusedVariables false
set_option maxRecDepth 20000

theorem bits_seat {p r k : Nat} (hp : p < 16) (hr : r < 128) (hk : k < 32) : bits .or .u16 (bits .or .u16 ((p : Int) * 4096) ((r : Int) * 32)) (k : Int) = ((p * 4096 + r * 32 + k : Nat) : Int) := by
  have e1 : (p : Int) * 4096 = ((p * 4096 : Nat) : Int) := by omega
  have e2 : (r : Int) * 32 = ((r * 32 : Nat) : Int) := by omega
  have o1 : p * 4096 ||| r * 32 = p * 4096 + r * 32 := by
    have := or_add (acc := r * 32) (y := p) (m := 12) (by omega)
    rw [Nat.or_comm, show p * 4096 = p * 2 ^ 12 from rfl, this]
    omega
  have o2 : (p * 4096 + r * 32) ||| k = p * 4096 + r * 32 + k := by
    have := or_add (acc := k) (y := p * 128 + r) (m := 5) (by omega)
    rw [Nat.or_comm, show p * 4096 + r * 32 = (p * 128 + r) * 2 ^ 5 by omega, this]
    omega
  rw [e1, e2, u16_or_nat _ _ (by omega) (by omega), o1, u16_or_nat _ _ (by omega) (by omega), o2]

theorem and_seat {n : Nat} (hn : n < 65536) : bits .and .u16 ((n : Int) / 32) 127 = ((n / 32 % 128 : Nat) : Int) ∧ bits .and .u16 (n : Int) 31 = ((n % 32 : Nat) : Int) := by
  constructor
  · rw [show (n : Int) / 32 = ((n / 32 : Nat) : Int) by omega, show (127 : Int) = ((127 : Nat) : Int) from rfl, u16_and_nat _ _ (by omega) (by omega)]
    congr 1
    exact Nat.and_two_pow_sub_one_eq_mod (n / 32) 7
  · rw [show (31 : Int) = ((31 : Nat) : Int) from rfl, u16_and_nat _ _ (by omega) (by omega)]
    congr 1
    exact Nat.and_two_pow_sub_one_eq_mod n 5

/-- A value and a row come back. -/
theorem results_tmp_row {P : Program} {fn : Func} {p q : Tmp} {ty : TypeId} (h : fn.results = #[.tmp q, .cell p ty]) (tmps : Array Value) (w : World) (g : Nat) (t : TypeId) (cs : List Value) (d : TypeDesc)
    (hp : tmps.getD p undef = .pointer (some ⟨g, 0, none⟩)) (hg : Blk w g t cs)
    (hu : P.underlying ty = some d) (hd : (match d with | .struct _ | .array _ _ => true | _ => false) = true) (hi : (P.info? ty).map (·.size) = some cs.length) :
    (results fn tmps).run P w = .ok (.tuple #[tmps.getD q undef, .agg cs.toArray]) w := by
  have hp' : tmps[p]?.getD undef = .pointer (some ⟨g, 0, none⟩) := by simpa using hp
  simp [results, h, hp', asAddr, run_loadVar_row w g t ty cs.toArray (0, 0) d hg hu hd (by simpa using hi)]

theorem packed_any (pax row : Int) (c : UInt8) (w : World) (h1 : 1 ≤ pax) (h2 : pax ≤ 9) (h3 : 1 ≤ row) (h4 : row ≤ 99) (h5 : bL c = true) :
    Calls Tryz.prog 23 #[.int .i64 pax, .agg #[.int .i64 row, .int .u8 c.toNat]] w fun e w' => e = .returned (.int .i64 (bitsN pax row c : Nat)) ∧ Below w.heap.size w w' := by
  obtain ⟨w1, e1, a0, a1, hb1, hz1⟩ := seat_boxed w row c
  obtain ⟨k1, k2⟩ := bL_lo h5
  go_enter Tryz.func23, Tryz.ntmps23
  go_wp2
  go_ret
  refine ⟨ret_int ?_, hb1⟩
  obtain ⟨p, rfl⟩ := Int.eq_ofNat_of_zero_le (show 0 ≤ pax by omega)
  obtain ⟨r, rfl⟩ := Int.eq_ofNat_of_zero_le (show 0 ≤ row by omega)
  obtain ⟨k, hk⟩ := Int.eq_ofNat_of_zero_le (show 0 ≤ (c.toNat : Int) - 65 by omega)
  rw [hk, bits_seat (by omega) (by omega) (by omega), IntWalk.wrap64_in _ (by omega)]
  unfold bitsN
  omega

theorem unpacked_any (n : Nat) (w : World) (h : n < 65536) :
    Calls Tryz.prog 69 #[.int .i64 n] w fun e w' => e = .returned (.tuple #[.int .i64 (n / 4096 : Nat), .agg #[.int .i64 (n / 32 % 128 : Nat), .int .u8 (UInt8.ofNat (65 + n % 32)).toNat]]) ∧ Below w.heap.size w w' := by
  go_enter Tryz.func69, Tryz.ntmps69
  go_wp2
  obtain ⟨e1, e2⟩ := and_seat h
  have e3 : (n : Int) % 32 = ((n % 32 : Nat) : Int) := by omega
  refine bodyPost_ret (results_tmp_row rfl _ _ w.heap.size 71 [.int .i64 (n / 32 % 128 : Nat), .int .u8 (UInt8.ofNat (65 + n % 32)).toNat] _ rfl ?_ Tryz.underlying71 rfl info_seat2) rfl ⟨?_, (Below.refl _ _).alloc (Nat.le_refl _) _⟩
  · rw [e1, e2, IntWalk.wrap64_in _ (by omega), show (65 + ((n % 32 : Nat) : Int)) % 256 = ((UInt8.ofNat (65 + n % 32)).toNat : Int) by rw [UInt8.toNat_ofNat']; omega]
    exact Blk.new w _ _
  · show Ending.returned (.tuple #[.int .i64 ((n : Int) / 4096), _]) = _
    rw [show (n : Int) / 4096 = ((n / 4096 : Nat) : Int) by omega]

theorem seatBits_any (pax row : Int) (c : UInt8) (w : World) (h1 : 1 ≤ pax) (h2 : pax ≤ 9) (h3 : 1 ≤ row) (h4 : row ≤ 99) (h5 : bL c = true) :
    Calls Tryz.prog 31 #[.int .i64 pax, .agg #[.int .i64 row, .int .u8 c.toNat]] w fun e w' => e = .returned (.int .i64 (bitsN pax row c : Nat)) ∧ Below w.heap.size w w' := by
  obtain ⟨w1, e1, a0, a1, hb1, hz1⟩ := seat_boxed w row c
  obtain ⟨k1, k2⟩ := bL_lo h5
  go_enter Tryz.func31, Tryz.ntmps31
  go_wp2
  go_ret
  refine ⟨ret_int ?_, hb1⟩
  unfold bitsN
  omega
end Go.Proofs.YtofomopmmopflaaGreatDoor
namespace Go.Proofs.YtofomopmmopflaaGreatDoor
open Go.RowKit Go.ChangeMaps
set_option linter.unusedSimpArgs false
set_option linter.unusedVariables false
set_option maxRecDepth 20000

/-- The writer at g, made behind w, has the bytes bs in W. -/
structure WW (w W : World) (g : Nat) (bs : List UInt8) : Prop where
  row : ∃ v, Blk W g 55 [v] ∧ OwnB W (g + 1) v bs
  bel : Below w.heap.size w W
  low : w.heap.size ≤ g
  lt : g + 1 ≤ W.heap.size

theorem WW.mono {w W W' : World} {g : Nat} {bs : List UInt8} (h : WW w W g bs) (hb : Below W.heap.size W W') : WW w W' g bs := by
  obtain ⟨⟨v, h1, h2⟩, h3, h4, h5⟩ := h
  exact ⟨⟨v, h1.mono hb, h2.mono hb⟩, h3.trans (hb.mono h3.size), h4, Nat.le_trans h5 hb.size⟩

theorem WW.cell {w W : World} {g : Nat} {bs : List UInt8} (h : WW w W g bs) : ∃ p n c, W.cell? ⟨g, 0, none⟩ = some (.slice p n c) := by
  obtain ⟨⟨v, h1, h2⟩, _⟩ := h
  obtain ⟨p, c, rfl⟩ := h2.has.len
  exact ⟨p, _, c, (h1.cell 0).trans rfl⟩

theorem WW.to {w W W' : World} {g : Nat} {bs bs' : List UInt8} {B : Nat} (h : WW w W g bs) (h1 : ∃ v', Blk W' g 55 [v'] ∧ OwnB W' B v' bs') (hB : W.heap.size ≤ B) (hg : W.grownBy W' (some g)) : WW w W' g bs' := by
  obtain ⟨_, h3, h4, h5⟩ := h
  obtain ⟨v', k1, k2⟩ := h1
  exact ⟨⟨v', k1, k2.low (by omega)⟩, h3.grown hg h3.size fun k hk => by injection hk with hk; omega, h4, Nat.le_trans h5 hg.size⟩

theorem ww_num {w W : World} {g : Nat} {bs : List UInt8} (h : WW w W g bs) (n : Int) (h0 : 0 ≤ n) (hn : n < 9223372036854775808) (hl : bs.length ≤ 1000000) :
    Calls Tryz.prog 19 #[.pointer (some ⟨g, 0, none⟩), .int .i64 n] W fun e w' => e = .returned (.tuple #[]) ∧ WW w w' g (bs ++ varL n.toNat) ∧ W.grownBy w' (some g) := by
  obtain ⟨v, h1, h2⟩ := h.row
  refine (wnum_any g v bs n W h1 h2.has hl h0 hn).mono ?_
  rintro e w' ⟨rfl, k1, k2⟩
  exact ⟨rfl, h.to k1 (Nat.le_refl _) k2, k2⟩

theorem ww_bytes {w W : World} {g : Nat} {bs : List UInt8} (h : WW w W g bs) (n : Int) (k : Nat) (h0 : 0 ≤ n) (hn : n < 9223372036854775808) (hl : bs.length ≤ 1000000) (hk : k ≤ 8) :
    Calls Tryz.prog 22 #[.pointer (some ⟨g, 0, none⟩), .int .i64 n, .int .i64 k] W fun e w' => e = .returned (.tuple #[]) ∧ WW w w' g (bs ++ beL n.toNat k) ∧ W.grownBy w' (some g) := by
  obtain ⟨v, h1, h2⟩ := h.row
  refine (wbytes_any g v bs n k W h1 h2.has hl h0 hn hk).mono ?_
  rintro e w' ⟨rfl, k1, k2⟩
  exact ⟨rfl, h.to k1 (Nat.le_refl _) k2, k2⟩

theorem ww_text {w W : World} {g : Nat} {bs : List UInt8} (h : WW w W g bs) (s : ByteArray) (hl : bs.length + s.size ≤ 900000) :
    Calls Tryz.prog 18 #[.pointer (some ⟨g, 0, none⟩), .string s] W fun e w' => e = .returned (.tuple #[]) ∧ WW w w' g (bs ++ varL s.size ++ toL s) ∧ W.grownBy w' (some g) := by
  obtain ⟨v, h1, h2⟩ := h.row
  refine (wtext_any g v bs s W h1 h2.has hl).mono ?_
  rintro e w' ⟨rfl, k1, k2⟩
  exact ⟨rfl, h.to k1 (Nat.le_refl _) k2, k2⟩

theorem own_push {w : World} {B gg cap : Nat} {bs : List UInt8} {c : UInt8} (h : w.ownsRow B 5 1 (.slice (some ⟨gg, 0, none⟩) (bs.length + 1 : Nat) cap) (bs.length + 1) (bs.flatMap byteC ++ [.int .u8 c.toNat])) : OwnB w B (.slice (some ⟨gg, 0, none⟩) (bs.length + 1 : Nat) cap) (bs ++ [c]) := by
  unfold OwnB
  rw [List.length_append, List.flatMap_append]
  exact h

/-- What a byte's append leaves. -/
theorem ww_push {w W : World} {g : Nat} {v : Value} {bs : List UInt8} {c : UInt8} (h1 : Blk W g 55 [v]) (h2 : OwnB W (g + 1) v bs) (h3 : Below w.heap.size w W) (h4 : w.heap.size ≤ g) (h5 : g + 1 ≤ W.heap.size) :
    (∀ w4 v4, OwnB w4 (g + 1) v4 (bs ++ [c]) → (W.alloc (.cells #[.int .u8 c.toNat] 5)).drew.grownBy w4 v.ownBlock → WW w (w4.setCell ⟨g, 0, none⟩ v4) g (bs ++ [c]) ∧ ∀ b T cs, b ≠ g → v.ownBlock ≠ some b → Blk W b T cs → Blk (w4.setCell ⟨g, 0, none⟩ v4) b T cs) ∧
    (∀ w4, (W.alloc (.cells #[.int .u8 c.toNat] 5)).drew.grownBy w4 v.ownBlock → w4.frozen? ⟨g, 0, none⟩ = false ∧ w4.cell? ⟨g, 0, none⟩ = some v) := by
  have hne : v.ownBlock ≠ some g := fun e => by have := (World.ownsRow.lt h2 _ e).1; omega
  have hfar : ∀ {w4 : World}, (W.alloc (.cells #[.int .u8 c.toNat] 5)).drew.grownBy w4 v.ownBlock → ∀ {b : Nat} {T : TypeId} {cs : List Value}, v.ownBlock ≠ some b → Blk W b T cs → Blk w4 b T cs := fun hg _ _ _ hb hk => Blk.far (w := (W.alloc (.cells #[.int .u8 c.toNat] 5)).drew) (hk.alloc _) hg fun e => hb e.symm
  have e1 : (W.alloc (.cells #[.int .u8 c.toNat] 5)).drew.heap.size = W.heap.size + 1 := by simp
  refine ⟨fun w4 v4 k1 k2 => ?_, fun w4 k2 => ?_⟩
  · have hgg := hfar k2 hne h1
    have hbb : Below w.heap.size w w4 := (Below.drew (h3.alloc h3.size _)).grown k2 (by rw [e1]; have := h3.size; omega) fun k hk => by have := (World.ownsRow.lt h2 k hk).1; omega
    have hsz := k2.size
    have e2 : (w4.setCell ⟨g, 0, none⟩ v4).heap.size = w4.heap.size := by simp [World.setCell]
    refine ⟨⟨⟨v4, hgg.set 0 v4, World.ownsRow.kept k1 (gr_setCell1 (World.grownBy.refl _ _) 0 v4) (own_ne k1 (by omega))⟩, hbb.setCell (p := ⟨g, 0, none⟩) h4 v4, h4, by omega⟩, fun b T cs hb1 hb2 hk => ?_⟩
    exact (hfar k2 hb2 hk).far (gr_setCell1 (World.grownBy.refl _ _) 0 v4) fun e => hb1 (by injection e)
  · have hgg := hfar k2 hne h1
    exact ⟨hgg.frozen 0, (hgg.cell 0).trans rfl⟩

theorem flat_le {α : Type} {f : α → List UInt8} {k : Nat} : ∀ {l : List α}, (∀ x ∈ l, (f x).length ≤ k) → (l.flatMap f).length ≤ l.length * k
  | [], _ => Nat.zero_le _
  | a :: l, h => by
    have h1 := h a (List.mem_cons_self ..)
    have h2 := flat_le (l := l) fun x hx => h x (List.mem_cons_of_mem _ hx)
    rw [List.flatMap_cons, List.length_append, List.length_cons, Nat.succ_mul]
    omega

theorem flat_take {α : Type} {f : α → List UInt8} {l : List α} {i : Nat} {x : α} (h : l[i]? = some x) : (l.take (i + 1)).flatMap f = (l.take i).flatMap f ++ f x := by
  rw [List.take_add_one, h, List.flatMap_append]
  simp

theorem Rise.one {α : Type} {one : α → Prop} {low : α → α → Prop} {l : List α} (h : Rise one low l) {x : α} (hx : x ∈ l) : one x := by
  obtain ⟨i, hi⟩ := List.getElem?_of_mem hx
  exact (h i x hi).1

end Go.Proofs.YtofomopmmopflaaGreatDoor
