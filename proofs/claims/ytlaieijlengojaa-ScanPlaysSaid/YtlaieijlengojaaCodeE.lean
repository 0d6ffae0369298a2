/- The contract of code.Free. -/
import Derived.Test.YtlaieijlengojaaCodeD
namespace Go.Proofs.Ytlaieijlengojaa
open Go.RowKit

/-- A byte of a free text that is no blank. -/
def bF (c : UInt8) : Bool := bL c || bD c || c.toNat == 46 || c.toNat == 45 || c.toNat == 47
def freeGo : Bool → List UInt8 → Bool
  | b, [] => !b
  | b, c :: t => if bF c then freeGo false t else if c.toNat == 32 && !b then freeGo true t else false
def freeS (l : List UInt8) : Bool := decide (1 ≤ l.length ∧ l.length ≤ 40) && freeGo true l

theorem drop_cons (l : List UInt8) (k : Nat) (h : k < l.length) : l.drop k = l.getD k 0 :: l.drop (k + 1) := by
  rw [List.drop_eq_getElem_cons h]; simp [List.getD, h]

theorem freeGo_f {c : UInt8} (h : bF c = true) (b : Bool) (t : List UInt8) : freeGo b (c :: t) = freeGo false t := by simp [freeGo, h]
theorem freeGo_b {c : UInt8} (h : bF c = false) (h2 : c.toNat = 32) (t : List UInt8) : freeGo false (c :: t) = freeGo true t := by simp [freeGo, h, h2]
theorem freeGo_bb {c : UInt8} (h : bF c = false) (t : List UInt8) : freeGo true (c :: t) = false := by simp [freeGo, h]
theorem freeGo_n {c : UInt8} (h : bF c = false) (h2 : c.toNat ≠ 32) (b : Bool) (t : List UInt8) : freeGo b (c :: t) = false := by simp [freeGo, h, h2]

set_option maxHeartbeats 1000000 in
theorem free_any (s : ByteArray) (w : World) (hs : s.size ≤ maxLen) :
    Calls Try.prog 37 #[.string s] w fun e w' => e = .returned (.bool (freeS s.data.toList)) ∧ Below w.heap.size w w' := by
  unfold maxLen at hs
  have hlen : s.data.toList.length = s.size := by simp
  by_cases h1 : s.size = 0
  · have he : s = ⟨#[]⟩ := by
      obtain ⟨d⟩ := s
      simp [ByteArray.size] at h1
      rw [h1]
    subst he
    go_enter Try.func37, Try.ntmps37
    go_wp2
    go_ret
    exact ⟨rfl, Below.refl _ _⟩
  have hne : s.toList.isEmpty = false := by
    rw [ByteArray.toList_eq]
    cases hq : s.data.toList with
    | nil => rw [hq] at hlen; simp at hlen; omega
    | cons a t => rfl
  by_cases h2 : 40 < (s.size : Int)
  · have k : freeS s.data.toList = false := by unfold freeS; rw [hlen, decide_eq_false (by omega)]; rfl
    have K := Lib.hid k
    clear k hlen
    go_enter Try.func37, Try.ntmps37
    go_wp2
    go_ret
    exact ⟨ret_bool K.out.symm, Below.refl _ _⟩
  obtain ⟨w1, cap, hcv, hb, hz, hcell⟩ := bytes_conv s w
  have e : freeS s.data.toList = freeGo true s.data.toList := by unfold freeS; rw [hlen, decide_eq_true (by omega)]; rfl
  have HE := Lib.hid e
  have HL := Lib.hid hlen
  clear hlen e
  go_enter Try.func37, Try.ntmps37
  go_wp2
  go_loop [3, 16] (fun bl i => ∃ (k : Nat) (b : Bool), k ≤ s.size ∧ i = .int .i64 k ∧ bl = .bool b ∧ freeGo b (s.data.toList.drop k) = freeGo true s.data.toList) (fun _ i => s.size - (intOf i).toNat)
  case atStart => exact ⟨0, true, Nat.zero_le _, rfl, rfl, rfl⟩
  case round =>
    obtain ⟨k, bl, hk, rfl, rfl, hfg⟩ := hrel
    by_cases hlt : k < s.size
    · rw [drop_cons _ _ (by rw [HL.out]; exact hlt)] at hfg
      have hc := hcell k hlt
      have hbb := byte_hi (s.data.toList.getD k 0)
      generalize hg : s.data.toList.getD k 0 = b at hc hbb hfg
      have HG := Lib.hid hg
      clear hg hcell
      have hb0 : (0 : Int) ≤ (b.toNat : Int) := by omega
      have HFG := Lib.hid hfg
      clear hfg
      cases hB : isL (b.toNat : Int)
      case true =>
        have hf : bF b = true := by simp [bF, bL, hB]
        have HF := Lib.hid hf
        clear hf
        go_wp2_with (first
          | (go_at_call 57; refine (letter_any _ _ hb0 hbb).mono ?_; rintro e w' ⟨rfl, rfl⟩)
          | (go_at_call 58; refine (digit_any _ _ hb0 hbb).mono ?_; rintro e w' ⟨rfl, rfl⟩))
        go_round
        case rel => exact ⟨k + 1, false, by omega, by go_num, rfl, by rw [← HFG.out, freeGo_f (by exact HF.out)]⟩
        case measure => simp [intOf]; omega
      cases hD : isD (b.toNat : Int)
      case true =>
        have hf : bF b = true := by simp [bF, bD, hD]
        have HF := Lib.hid hf
        clear hf
        go_wp2_with (first
          | (go_at_call 57; refine (letter_any _ _ hb0 hbb).mono ?_; rintro e w' ⟨rfl, rfl⟩)
          | (go_at_call 58; refine (digit_any _ _ hb0 hbb).mono ?_; rintro e w' ⟨rfl, rfl⟩))
        go_round
        case rel => exact ⟨k + 1, false, by omega, by go_num, rfl, by rw [← HFG.out, freeGo_f (by exact HF.out)]⟩
        case measure => simp [intOf]; omega
      by_cases h46 : b.toNat = 46
      · have hf : bF b = true := by simp [bF, h46]
        have HF := Lib.hid hf
        have g46 : ((b.toNat : Int) == 46) = true := by rw [h46]; rfl
        clear hf h46
        go_wp2_with (first
          | (go_at_call 57; refine (letter_any _ _ hb0 hbb).mono ?_; rintro e w' ⟨rfl, rfl⟩)
          | (go_at_call 58; refine (digit_any _ _ hb0 hbb).mono ?_; rintro e w' ⟨rfl, rfl⟩))
        go_round
        case rel => exact ⟨k + 1, false, by omega, by go_num, rfl, by rw [← HFG.out, freeGo_f (by exact HF.out)]⟩
        case measure => simp [intOf]; omega
      have g46 : ((b.toNat : Int) == 46) = false := by simp; omega
      by_cases h45 : b.toNat = 45
      · have hf : bF b = true := by simp [bF, h45]
        have HF := Lib.hid hf
        have g45 : ((b.toNat : Int) == 45) = true := by rw [h45]; rfl
        clear hf h45
        go_wp2_with (first
          | (go_at_call 57; refine (letter_any _ _ hb0 hbb).mono ?_; rintro e w' ⟨rfl, rfl⟩)
          | (go_at_call 58; refine (digit_any _ _ hb0 hbb).mono ?_; rintro e w' ⟨rfl, rfl⟩))
        go_round
        case rel => exact ⟨k + 1, false, by omega, by go_num, rfl, by rw [← HFG.out, freeGo_f (by exact HF.out)]⟩
        case measure => simp [intOf]; omega
      have g45 : ((b.toNat : Int) == 45) = false := by simp; omega
      by_cases h47 : b.toNat = 47
      · have hf : bF b = true := by simp [bF, h47]
        have HF := Lib.hid hf
        have g47 : ((b.toNat : Int) == 47) = true := by rw [h47]; rfl
        clear hf h47
        go_wp2_with (first
          | (go_at_call 57; refine (letter_any _ _ hb0 hbb).mono ?_; rintro e w' ⟨rfl, rfl⟩)
          | (go_at_call 58; refine (digit_any _ _ hb0 hbb).mono ?_; rintro e w' ⟨rfl, rfl⟩))
        go_round
        case rel => exact ⟨k + 1, false, by omega, by go_num, rfl, by rw [← HFG.out, freeGo_f (by exact HF.out)]⟩
        case measure => simp [intOf]; omega
      have g47 : ((b.toNat : Int) == 47) = false := by simp; omega
      have hf : bF b = false := by simp [bF, bL, bD, hB, hD, h46, h45, h47]
      have HF := Lib.hid hf
      clear hf
      by_cases h32 : b.toNat = 32
      · have H32 := Lib.hid h32
        have g32 : ((b.toNat : Int) == 32) = true := by rw [h32]; rfl
        clear h32 h46 h45 h47
        cases bl
        · go_wp2_with (first
            | (go_at_call 57; refine (letter_any _ _ hb0 hbb).mono ?_; rintro e w' ⟨rfl, rfl⟩)
            | (go_at_call 58; refine (digit_any _ _ hb0 hbb).mono ?_; rintro e w' ⟨rfl, rfl⟩))
          go_round
          case rel => exact ⟨k + 1, true, by omega, by go_num, rfl, by rw [← HFG.out, freeGo_b HF.out H32.out]⟩
          case measure => simp [intOf]; omega
        · go_wp2_with (first
            | (go_at_call 57; refine (letter_any _ _ hb0 hbb).mono ?_; rintro e w' ⟨rfl, rfl⟩)
            | (go_at_call 58; refine (digit_any _ _ hb0 hbb).mono ?_; rintro e w' ⟨rfl, rfl⟩))
          go_ret
          exact ⟨ret_bool (by rw [HE.out, ← HFG.out, freeGo_bb HF.out]), hb⟩
      · have H32 := Lib.hid h32
        have g32 : ((b.toNat : Int) == 32) = false := by simp; omega
        clear h32 h46 h45 h47
        go_wp2_with (first
          | (go_at_call 57; refine (letter_any _ _ hb0 hbb).mono ?_; rintro e w' ⟨rfl, rfl⟩)
          | (go_at_call 58; refine (digit_any _ _ hb0 hbb).mono ?_; rintro e w' ⟨rfl, rfl⟩))
        go_ret
        exact ⟨ret_bool (by rw [HE.out, ← HFG.out, freeGo_n HF.out H32.out]), hb⟩
    · go_wp2
      go_ret
      exact ⟨ret_bool (by rw [HE.out, ← hfg, List.drop_of_length_le (by rw [HL.out]; omega)]; rfl), hb⟩
end Go.Proofs.Ytlaieijlengojaa
