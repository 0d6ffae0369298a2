/- The letters of a text of letters and points: the plain law. -/
import Derived.Test.YtpmmjccdogjncaaDoorPlnC
namespace Go.Proofs.YtpmmjccdogjncaaDoor
open Go.RowKit
set_option linter.unusedSimpArgs false

/-- One byte more. -/
def letS (l : List UInt8) (k : Nat) (a : List UInt8) : Option (List UInt8) :=
  if (l.getD k 0).toNat = 46 then (if k = 0 ∨ k + 1 = l.length ∨ (l.getD (k - 1) 0).toNat = 46 then none else some a)
  else if isL (l.getD k 0).toNat = true ∧ (a.length = 0 ∨ (a.getD (a.length - 1) 0).toNat < (l.getD k 0).toNat) then some (a ++ [l.getD k 0]) else none

/-- The letters among the first k bytes. -/
def letK (l : List UInt8) : Nat → Option (List UInt8)
  | 0 => some []
  | k + 1 => (letK l k).bind (letS l k)

/-- The letters of a text, where it is right. -/
def letF (l : List UInt8) : Option (List UInt8) := (letK l l.length).bind fun a => if 0 < a.length ∧ a.length ≤ 10 then some a else none

theorem letK_none {l : List UInt8} {k n : Nat} (h : letK l k = none) (hk : k ≤ n) : letK l n = none := by
  induction n with
  | zero => rw [show k = 0 by omega] at h; exact h
  | succ n ih =>
    rcases Nat.lt_or_ge n k with h1 | h1
    · rw [show n + 1 = k by omega]; exact h
    · rw [letK, ih h1]; rfl

theorem letS_len {l a b : List UInt8} {k : Nat} (h : letS l k a = some b) : a.length ≤ b.length := by
  unfold letS at h
  split at h
  · split at h
    · cases h
    · injection h with h; rw [h]; exact Nat.le_refl _
  · split at h
    · injection h with h; rw [← h]; simp
    · cases h

theorem letK_len {l a b : List UInt8} {k n : Nat} (h : letK l k = some a) (hk : k ≤ n) (hb : letK l n = some b) : a.length ≤ b.length := by
  induction n generalizing b with
  | zero =>
    rw [show k = 0 by omega] at h
    rw [h] at hb
    injection hb with hb
    rw [hb]; exact Nat.le_refl _
  | succ n ih =>
    rcases Nat.lt_or_ge n k with h1 | h1
    · rw [show k = n + 1 by omega, hb] at h
      injection h with h
      rw [h]; exact Nat.le_refl _
    · rw [letK] at hb
      cases hn : letK l n with
      | none => rw [hn] at hb; cases hb
      | some c =>
        rw [hn] at hb
        exact Nat.le_trans (ih h1 hn) (letS_len hb)

/-- Points are no more than letters. -/
theorem letK_dots {l a : List UInt8} {k : Nat} (h : letK l k = some a) : k = 0 ∨ (k ≤ 2 * a.length ∧ ((l.getD (k - 1) 0).toNat ≠ 46 → k + 1 ≤ 2 * a.length)) := by
  induction k generalizing a with
  | zero => exact .inl rfl
  | succ k ih =>
    rw [letK] at h
    cases hn : letK l k with
    | none => rw [hn] at h; cases h
    | some c =>
      rw [hn] at h
      have h' : letS l k c = some a := h
      unfold letS at h'
      refine .inr ?_
      rw [show k + 1 - 1 = k by omega]
      split at h'
      · rename_i h46
        split at h'
        · cases h'
        · rename_i hno
          injection h' with h'
          subst h'
          rcases ih hn with h0 | ⟨h1, h2⟩
          · exact absurd (.inl h0) hno
          · have := h2 (fun e => hno (.inr (.inr e)))
            exact ⟨by omega, fun e => absurd h46 e⟩
      · split at h'
        · injection h' with h'
          have e : a.length = c.length + 1 := by rw [← h']; simp
          rcases ih hn with h0 | ⟨h1, _⟩
          · exact ⟨by omega, fun _ => by omega⟩
          · exact ⟨by omega, fun _ => by omega⟩
        · cases h'

theorem letF_none {l : List UInt8} {k : Nat} (h : letK l k = none) (hk : k ≤ l.length) : letF l = none := by
  unfold letF
  rw [letK_none h hk]
  rfl

theorem letF_many {l a : List UInt8} {k : Nat} (h : letK l k = some a) (hk : k ≤ l.length) (ha : 10 < a.length) : letF l = none := by
  unfold letF
  cases hn : letK l l.length with
  | none => rfl
  | some b =>
    have := letK_len h hk hn
    show (if _ then _ else _) = _
    rw [if_neg (by omega)]

theorem letF_end {l a : List UInt8} (h : letK l l.length = some a) : letF l = if 0 < a.length ∧ a.length ≤ 10 then some a else none := by
  unfold letF
  rw [h]
  rfl

theorem letF_long {l : List UInt8} (h : 20 < l.length) : letF l = none := by
  cases hn : letK l l.length with
  | none => exact letF_none hn (Nat.le_refl _)
  | some a =>
    rw [letF_end hn, if_neg]
    rcases letK_dots hn with h0 | ⟨h1, _⟩ <;> omega

theorem letF_first {l : List UInt8} (h : (l.getD 0 0).toNat = 46) (h0 : 0 < l.length) : letF l = none := by
  refine letF_none (k := 1) ?_ h0
  show letS l 0 [] = none
  unfold letS
  rw [if_pos h, if_pos (.inl rfl)]

theorem letF_last {l : List UInt8} (h0 : 0 < l.length) (h : (l.getD (l.length - 1) 0).toNat = 46) : letF l = none := by
  refine letF_none (k := (l.length - 1) + 1) ?_ (by omega)
  rw [letK]
  cases letK l (l.length - 1) with
  | none => rfl
  | some a =>
    show letS l (l.length - 1) a = none
    unfold letS
    rw [if_pos h, if_pos (.inr (.inl (by omega)))]

theorem letK_dot {l a : List UInt8} {k : Nat} (h : letK l k = some a) (hc : (l.getD k 0).toNat = 46) (h0 : k ≠ 0) (h1 : k + 1 ≠ l.length) (h2 : (l.getD (k - 1) 0).toNat ≠ 46) : letK l (k + 1) = some a := by
  rw [letK, h]
  show letS l k a = _
  unfold letS
  rw [if_pos hc, if_neg (by omega)]

theorem letK_dot_no {l a : List UInt8} {k : Nat} (h : letK l k = some a) (hc : (l.getD k 0).toNat = 46) (h0 : k = 0 ∨ k + 1 = l.length ∨ (l.getD (k - 1) 0).toNat = 46) : letK l (k + 1) = none := by
  rw [letK, h]
  show letS l k a = _
  unfold letS
  rw [if_pos hc, if_pos h0]

theorem letK_let {l a : List UInt8} {k : Nat} (h : letK l k = some a) (hc : (l.getD k 0).toNat ≠ 46) (h0 : isL (l.getD k 0).toNat = true) (h1 : a.length = 0 ∨ (a.getD (a.length - 1) 0).toNat < (l.getD k 0).toNat) : letK l (k + 1) = some (a ++ [l.getD k 0]) := by
  rw [letK, h]
  show letS l k a = _
  unfold letS
  rw [if_neg hc, if_pos ⟨h0, h1⟩]

theorem letK_let_no {l a : List UInt8} {k : Nat} (h : letK l k = some a) (hc : (l.getD k 0).toNat ≠ 46) (h0 : ¬ (isL (l.getD k 0).toNat = true ∧ (a.length = 0 ∨ (a.getD (a.length - 1) 0).toNat < (l.getD k 0).toNat))) : letK l (k + 1) = none := by
  rw [letK, h]
  show letS l k a = _
  unfold letS
  rw [if_neg hc, if_neg h0]

/-- The letters rise, and are letters. -/
theorem letK_rise {l a : List UInt8} {k : Nat} (h : letK l k = some a) : a.Pairwise (fun x y => x.toNat < y.toNat) ∧ ∀ x ∈ a, isL x.toNat = true := by
  induction k generalizing a with
  | zero =>
    injection h with h
    subst h
    exact ⟨List.Pairwise.nil, fun x hx => by cases hx⟩
  | succ k ih =>
    rw [letK] at h
    cases hn : letK l k with
    | none => rw [hn] at h; cases h
    | some c =>
      rw [hn] at h
      have h' : letS l k c = some a := h
      obtain ⟨p1, p2⟩ := ih hn
      unfold letS at h'
      split at h'
      · split at h'
        · cases h'
        · injection h' with h'
          subst h'
          exact ⟨p1, p2⟩
      · split at h'
        · rename_i hh
          injection h' with h'
          subst h'
          refine ⟨List.pairwise_append.2 ⟨p1, List.pairwise_singleton _ _, fun x hx y hy => ?_⟩, fun x hx => ?_⟩
          · rw [List.mem_singleton.1 hy]
            rcases hh.2 with h0 | h1
            · rw [List.length_eq_zero_iff.1 h0] at hx; cases hx
            · obtain ⟨i, hi, rfl⟩ := List.getElem_of_mem hx
              rcases Nat.lt_or_ge i (c.length - 1) with h2 | h2
              · have := List.pairwise_iff_getElem.1 p1 i (c.length - 1) hi (by omega) h2
                rw [List.getD_eq_getElem?_getD, List.getElem?_eq_getElem (by omega)] at h1
                exact Nat.lt_trans this h1
              · have e : i = c.length - 1 := by omega
                subst e
                rw [List.getD_eq_getElem?_getD, List.getElem?_eq_getElem hi] at h1
                exact h1
          · rcases List.mem_append.1 hx with h1 | h1
            · exact p2 x h1
            · rw [List.mem_singleton.1 h1]; exact hh.1
        · cases h'

theorem letF_some {l a : List UInt8} (h : letF l = some a) : 0 < a.length ∧ a.length ≤ 10 ∧ a.Pairwise (fun x y => x.toNat < y.toNat) ∧ ∀ x ∈ a, isL x.toNat = true := by
  cases hn : letK l l.length with
  | none => rw [letF_none hn (Nat.le_refl _)] at h; cases h
  | some b =>
    rw [letF_end hn] at h
    split at h
    · injection h with h
      subst h
      rename_i hh
      exact ⟨hh.1, hh.2, (letK_rise hn).1, (letK_rise hn).2⟩
    · cases h
end Go.Proofs.YtpmmjccdogjncaaDoor
