/- Contracts of code.City, Person, Locator, Carrier, Agent. -/
import Derived.Test.YtlaieijlengojaaCodeB
namespace Go.Proofs.Ytlaieijlengojaa
open Go.RowKit

theorem city_any (s : ByteArray) (w : World) (hs : s.size ≤ maxLen) :
    Calls Try.prog 27 #[.string s] w fun e w' => e = .returned (.bool (lettersS s.data.toList 3 3)) ∧ Below w.heap.size w w' := by
  go_enter Try.func27, Try.ntmps27
  go_wp2_with (go_at_call 55; refine (letters_any s 3 3 _ hs).mono ?_; rintro e w1 ⟨rfl, hb⟩)
  go_ret
  exact ⟨rfl, hb⟩
theorem person_any (s : ByteArray) (w : World) (hs : s.size ≤ maxLen) :
    Calls Try.prog 33 #[.string s] w fun e w' => e = .returned (.bool (lettersS s.data.toList 1 16)) ∧ Below w.heap.size w w' := by
  go_enter Try.func33, Try.ntmps33
  go_wp2_with (go_at_call 55; refine (letters_any s 1 16 _ hs).mono ?_; rintro e w1 ⟨rfl, hb⟩)
  go_ret
  exact ⟨rfl, hb⟩
theorem locator_any (s : ByteArray) (w : World) (hs : s.size ≤ maxLen) :
    Calls Try.prog 35 #[.string s] w fun e w' => e = .returned (.bool (lettersS s.data.toList 6 6)) ∧ Below w.heap.size w w' := by
  go_enter Try.func35, Try.ntmps35
  go_wp2_with (go_at_call 55; refine (letters_any s 6 6 _ hs).mono ?_; rintro e w1 ⟨rfl, hb⟩)
  go_ret
  exact ⟨rfl, hb⟩

def carrierS : List UInt8 → Bool
  | [a, b] => bL a && (bL b || bD b) || bD a && bL b
  | _ => false

theorem carrierS_len (l : List UInt8) (h : l.length ≠ 2) : carrierS l = false := by
  match l, h with
  | [], _ => rfl
  | [_], _ => rfl
  | [_, _], h => simp at h
  | _ :: _ :: _ :: _, _ => rfl

theorem below_drewN {B : Nat} {a w : World} (h : Below B a w) (n : Nat) : Below B a (w.drewN n) := ⟨h.os, h.tape, h.output, h.size, h.block⟩

theorem carrier_any (s : ByteArray) (w : World) (_hs : s.size ≤ maxLen) :
    Calls Try.prog 29 #[.string s] w fun e w' => e = .returned (.bool (carrierS s.data.toList)) ∧ Below w.heap.size w w' := by
  by_cases h : s.size = 2
  · have hne : ((s.size : Int) != 2) = false := by rw [h]; rfl
    have H := Lib.hid h
    have g0 : (0 : Int) < (s.size : Int) := by omega
    have g1 : (1 : Int) < (s.size : Int) := by omega
    have g2 : 0 < s.size := by omega
    have g3 : 1 < s.size := by omega
    have hl : s.data.toList = [s[0], s[1]] := by
      apply List.ext_getElem
      · simpa using h
      · intro i h1 h2
        match i, h2 with
        | 0, _ => rfl
        | 1, _ => rfl
    have e : carrierS s.data.toList = (isL (s[0].toNat : Int) && (isL (s[1].toNat : Int) || isD (s[1].toNat : Int)) || isD (s[0].toNat : Int) && isL (s[1].toNat : Int)) := by rw [hl]; rfl
    have HE := Lib.hid e
    clear h hl e
    cases hA : isL (s[0].toNat : Int) <;> cases hB : isL (s[1].toNat : Int) <;> cases hC : isD (s[0].toNat : Int) <;> cases hD : isD (s[1].toNat : Int)
    all_goals
      rw [hA, hB, hC, hD] at HE
      go_enter Try.func29, Try.ntmps29
      go_wp2_with fail
      go_quiet (fail)
      go_wp2_with (first
        | (go_at_call 57; refine (letter_any _ _ (by omega) (byte_hi _)).mono ?_; rintro e w' ⟨rfl, rfl⟩)
        | (go_at_call 58; refine (digit_any _ _ (by omega) (byte_hi _)).mono ?_; rintro e w' ⟨rfl, rfl⟩))
      go_ret
      exact ⟨ret_bool HE.out.symm, below_drewN (Below.refl _ _) _⟩
  · go_enter Try.func29, Try.ntmps29
    go_wp2
    go_ret
    exact ⟨ret_bool (by rw [carrierS_len _ (by simpa using h)]), Below.refl _ _⟩
end Go.Proofs.Ytlaieijlengojaa
