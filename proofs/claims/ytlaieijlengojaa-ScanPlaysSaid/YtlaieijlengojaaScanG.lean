/- The contract of Digits; the laws' first test. -/
import Derived.Test.YtlaieijlengojaaScanF
namespace Go.Proofs.Ytlaieijlengojaa
open Go.RowKit

def dch (n : Nat) : UInt8 := UInt8.ofNat (48 + n % 10)
theorem dch_toNat (n : Nat) : (dch n).toNat = 48 + n % 10 := by unfold dch; rw [UInt8.toNat_ofNat']; omega
def digL (n : Nat) : List UInt8 := if _h : n < 10 then [dch n] else digL (n / 10) ++ [dch n]
termination_by n
decreasing_by omega
theorem digL_lt {n : Nat} (h : n < 10) : digL n = [dch n] := by rw [digL, dif_pos h]
theorem digL_ge {n : Nat} (h : ¬ n < 10) : digL n = digL (n / 10) ++ [dch n] := by rw [digL, dif_neg h]
theorem digL_pos (n : Nat) : 1 ≤ (digL n).length := by
  by_cases h : n < 10
  · rw [digL_lt h]; simp
  · rw [digL_ge h]; simp
theorem digL_len : ∀ k n, n < 10 ^ (k + 1) → (digL n).length ≤ k + 1 := by
  intro k
  induction k with
  | zero => intro n h; rw [digL_lt (by omega)]; simp
  | succ k ih =>
    intro n h
    by_cases hn : n < 10
    · rw [digL_lt hn]; simp
    · rw [digL_ge hn, List.length_append]
      have := ih (n / 10) (by rw [Nat.pow_succ] at h; omega)
      simp; omega
theorem digL_all (n : Nat) : ∀ c ∈ digL n, kOk 2 c = true := by
  have hd : ∀ m, kOk 2 (dch m) = true := by
    intro m
    unfold kOk bD isD
    rw [dch_toNat]
    simp
    omega
  induction n using Nat.strongRecOn with
  | ind n ih =>
    intro c hc
    by_cases h : n < 10
    · rw [digL_lt h] at hc
      simp at hc; rw [hc]; exact hd n
    · rw [digL_ge h] at hc
      rcases List.mem_append.1 hc with hc | hc
      · exact ih (n / 10) (by omega) c hc
      · simp at hc; rw [hc]; exact hd n
theorem numV_snoc (l : List UInt8) (c : UInt8) : numV (l ++ [c]) = numV l * 10 + (c.toNat - 48) := by unfold numV; rw [List.foldl_append]; rfl
theorem numV_dig (n : Nat) : numV (digL n) = n := by
  induction n using Nat.strongRecOn with
  | ind n ih =>
    by_cases h : n < 10
    · rw [digL_lt h]
      show 0 * 10 + ((dch n).toNat - 48) = n
      rw [dch_toNat]; omega
    · rw [digL_ge h, numV_snoc, ih (n / 10) (by omega), dch_toNat]; omega
theorem digL_first (n : Nat) (h : 1 ≤ n) : ((digL n).getD 0 0).toNat ≠ 48 := by
  induction n using Nat.strongRecOn with
  | ind n ih =>
    by_cases hn : n < 10
    · rw [digL_lt hn]
      show (dch n).toNat ≠ 48
      rw [dch_toNat]; omega
    · have h1 := ih (n / 10) (by omega) (by omega)
      have h2 := digL_pos (n / 10)
      rw [digL_ge hn]
      have e : (digL (n / 10) ++ [dch n]).getD 0 0 = (digL (n / 10)).getD 0 0 := by
        cases hq : digL (n / 10) with
        | nil => rw [hq] at h2; simp at h2
        | cons a t => rfl
      rw [e]; exact h1

def digA (n : Nat) : ByteArray := ⟨(digL n).toArray⟩
theorem digA_list (n : Nat) : (digA n).data.toList = digL n := by simp [digA]
theorem dch_conv (n : Nat) (v : Int) (w : World) (h : v = 48 + (n : Int) % 10) :
    (convert 54 9 (.slice (some ⟨w.heap.size, 0, none⟩) 1 1)).run Try.prog (w.alloc (.cells #[.int .u8 v] 5)) = .ok (.string ⟨#[dch n]⟩) (w.alloc (.cells #[.int .u8 v] 5)) := by
  refine string_conv [dch n] _ w.heap.size 1 1 rfl fun j hj => ?_
  rw [World.cell?_alloc_new]
  match j, hj with
  | 0, _ => show some (Value.int .u8 _) = some (Value.int .u8 ((dch _).toNat : Int)); rw [dch_toNat, h]; congr 2
def catA (n : Nat) (t : ByteArray) : ByteArray := ⟨(digL n ++ t.data.toList).toArray⟩
theorem catA_start (n : Nat) : catA n ⟨#[]⟩ = digA n := by unfold catA digA; simp
theorem catA_step {n : Nat} (h : ¬ n < 10) (t : ByteArray) : catA (n / 10) (⟨#[dch n]⟩ ++ t) = catA n t := by
  apply bytes_inj
  unfold catA
  rw [digL_ge h]
  simp
theorem catA_end {n : Nat} (h : n < 10) (t : ByteArray) : ⟨#[dch n]⟩ ++ t = catA n t := by
  apply bytes_inj
  unfold catA
  rw [digL_lt h]
  simp

theorem digits_any (N : Nat) (w : World) (hN : N ≤ 1000000000) :
    Calls Try.prog 16 #[.int .i64 N] w fun e w' => e = .returned (.string (digA N)) ∧ Below w.heap.size w w' := by
  go_enter Try.func16, Try.ntmps16
  go_wp2
  go_loopw [0, 3] (fun x t wr => ∃ (n : Nat) (s : ByteArray), x = .int .i64 n ∧ t = .string s ∧ s.size + n ≤ N ∧ catA n s = digA N ∧ Below w.heap.size w wr) (fun x _ _ => (intOf x).toNat)
  case atStart => exact ⟨N, ⟨#[]⟩, rfl, rfl, by show 0 + N ≤ N; omega, catA_start N, Below.refl _ _⟩
  case round =>
    obtain ⟨n, s, rfl, rfl, hsz, hcat, hb⟩ := hrel
    have HC := Lib.hid hcat
    clear hcat
    by_cases h : n < 10
    · have hc := dch_conv n (48 + (n : Int)) wr (by omega)
      have h9 : (n : Int) ≤ 9 := by omega
      go_wp2
      go_ret
      exact ⟨by rw [← HC.out, ← catA_end h]; rfl, hb.alloc hb.size _⟩
    · have hc := dch_conv n (48 + (n : Int) % 10) wr rfl
      have h9 : 9 < (n : Int) := by omega
      have HS := Lib.hid (catA_step h s)
      go_wp2
      refine ⟨⟨n / 10, ⟨#[dch n]⟩ ++ s, by go_num, rfl, ?_, by rw [HS.out]; exact HC.out, hb.alloc hb.size _⟩, by simp [intOf]; omega⟩
      rw [ByteArray.size_append]
      show 1 + s.size + n / 10 ≤ N
      omega

theorem num12 (b : Nat) (w : World) (hc : Cur w b ⟨#[49, 50, 65, 66]⟩ 0) :
    Calls Try.prog 17 #[.pointer (some ⟨b, 0, none⟩), .int .i64 99] w fun e w' =>
      e = .returned (.tuple #[.int .i64 12, .bool true]) ∧ Cur w' b ⟨#[49, 50, 65, 66]⟩ 2 ∧ w.grownBy w' (some b) := by
  have h := number_any b ⟨#[49, 50, 65, 66]⟩ 0 99 w (by decide) hc
  rw [show numRes (runL 2 ((⟨#[49, 50, 65, 66]⟩ : ByteArray).data.toList.drop (place (⟨#[49, 50, 65, 66]⟩ : ByteArray).size 0).toNat)) 99 = 12 by decide,
    show numOk (runL 2 ((⟨#[49, 50, 65, 66]⟩ : ByteArray).data.toList.drop (place (⟨#[49, 50, 65, 66]⟩ : ByteArray).size 0).toNat)) 99 = true by decide,
    show numAt (place (⟨#[49, 50, 65, 66]⟩ : ByteArray).size 0) (runL 2 ((⟨#[49, 50, 65, 66]⟩ : ByteArray).data.toList.drop (place (⟨#[49, 50, 65, 66]⟩ : ByteArray).size 0).toNat)) 99 = 2 by decide] at h
  exact h
theorem runAB (b : Nat) (w : World) (hc : Cur w b ⟨#[49, 50, 65, 66]⟩ 2) :
    Calls Try.prog 15 #[.pointer (some ⟨b, 0, none⟩), .int .i64 1] w fun e w' =>
      e = .returned (.string ⟨#[65, 66]⟩) ∧ Cur w' b ⟨#[49, 50, 65, 66]⟩ 4 ∧ w.grownBy w' (some b) := by
  have h := run_any b ⟨#[49, 50, 65, 66]⟩ 2 1 w (by decide) hc
  rw [show runA ⟨#[49, 50, 65, 66]⟩ (place (⟨#[49, 50, 65, 66]⟩ : ByteArray).size 2).toNat 1 = ⟨#[65, 66]⟩ by decide] at h
  exact h
theorem end4 (b : Nat) (w : World) (hc : Cur w b ⟨#[49, 50, 65, 66]⟩ 4) :
    Calls Try.prog 43 #[.pointer (some ⟨b, 0, none⟩)] w fun e w' =>
      e = .returned (.bool true) ∧ Cur w' b ⟨#[49, 50, 65, 66]⟩ 4 ∧ w.grownBy w' (some b) :=
  end_any b ⟨#[49, 50, 65, 66]⟩ 4 w (by decide) hc

theorem awake_scan (w : World) : Calls Try.prog 14 #[] w fun e w' => e = .returned (.bool true) ∧ Below w.heap.size w w' := by
  have hn := Cur.new w ⟨#[49, 50, 65, 66]⟩ 0
  have HB : Below w.heap.size w (w.alloc (.cells #[.string ⟨#[49, 50, 65, 66]⟩, .int .i64 0] 26)) := (Below.refl _ _).alloc (Nat.le_refl _) _
  have HN := Lib.hid hn
  clear hn
  go_enter Try.func14, Try.ntmps14
  go_wp2_with (first
    | (go_at_call 17; refine (num12 _ _ HN.out).mono ?_; rintro e w1 ⟨rfl, hc1, hg1⟩; have k1 := hc1.at_; have k2 := hc1.text)
    | (go_at_call 15; refine (runAB _ _ hc1).mono ?_; rintro e w2 ⟨rfl, hc2, hg2⟩)
    | (go_at_call 43; refine (end4 _ _ hc2).mono ?_; rintro e w3 ⟨rfl, hc3, hg3⟩))
  go_ret
  have hz : w.heap.size ≤ (w.alloc (.cells #[.string ⟨#[49, 50, 65, 66]⟩, .int .i64 0] 26)).heap.size := HB.size
  exact ⟨rfl, bel_gr HB hz (gr_trans (gr_trans hg1 hg2) hg3) (Nat.le_refl _)⟩
end Go.Proofs.Ytlaieijlengojaa
