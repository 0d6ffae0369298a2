/- The bits of seats, the seats of bits: the plain laws. -/
import Derived.Test.YtpmmjccdogjncaaDoorPlnU
namespace Go.Proofs.YtpmmjccdogjncaaDoor
open Go.RowKit
set_option linter.unusedSimpArgs false

/-- The number whose bits below k are q's. -/
def wordK (q : Nat → Bool) : Nat → Nat
  | 0 => 0
  | k + 1 => wordK q k + (if q k = true then 2 ^ k else 0)

theorem wordK_lt (q : Nat → Bool) : ∀ k, wordK q k < 2 ^ k
  | 0 => by simp [wordK]
  | k + 1 => by
    have := wordK_lt q k
    rw [wordK, Nat.pow_succ]
    split <;> omega

theorem wordK_bit (q : Nat → Bool) : ∀ k i, (wordK q k).testBit i = (decide (i < k) && q i)
  | 0, i => by simp [wordK]
  | k + 1, i => by
    have hlt := wordK_lt q k
    rw [wordK]
    by_cases hq : q k = true
    · rw [if_pos hq, Nat.add_comm]
      rcases Nat.lt_trichotomy i k with h | h | h
      · rw [Nat.testBit_two_pow_add_gt h, wordK_bit q k i, decide_eq_true h, decide_eq_true (by omega : i < k + 1)]
      · subst h
        rw [Nat.testBit_two_pow_add_eq, Nat.testBit_lt_two_pow hlt, decide_eq_true (by omega : i < i + 1), hq]
        rfl
      · rw [Nat.testBit_lt_two_pow, decide_eq_false (by omega : ¬ i < k + 1)]
        · rfl
        · calc 2 ^ k + wordK q k < 2 ^ k + 2 ^ k := by omega
            _ = 2 ^ (k + 1) := by rw [Nat.pow_succ]; omega
            _ ≤ 2 ^ i := Nat.pow_le_pow_right (by omega) (by omega)
    · rw [if_neg hq, Nat.add_zero, wordK_bit q k i]
      by_cases h : i < k
      · rw [decide_eq_true h, decide_eq_true (by omega : i < k + 1)]
      · rw [decide_eq_false h]
        by_cases h2 : i = k
        · subst h2
          simp at hq
          rw [hq]; simp
        · rw [decide_eq_false (by omega : ¬ i < k + 1)]

theorem word_ext {a b : Nat} (ha : a < 2 ^ 64) (hb : b < 2 ^ 64) (h : ∀ i, i < 64 → a.testBit i = b.testBit i) : a = b := by
  apply Nat.eq_of_testBit_eq
  intro i
  by_cases hi : i < 64
  · exact h i hi
  · rw [Nat.testBit_lt_two_pow (Nat.lt_of_lt_of_le ha (Nat.pow_le_pow_right (by omega) (by omega))), Nat.testBit_lt_two_pow (Nat.lt_of_lt_of_le hb (Nat.pow_le_pow_right (by omega) (by omega)))]

/-- Is the i-th place among the seats l? -/
def inL (P l : List St) (i : Nat) : Bool := match P[i]? with | some s => decide (s ∈ l) | none => false

def wordN (P l : List St) (j : Nat) : Nat := wordK (fun k => inL P l (64 * j + k)) 64

def nWords (P : List St) : Nat := (P.length + 63) / 64

/-- The bits of the seats l. -/
def wordsN (P l : List St) : List Nat := (List.range (nWords P)).map (wordN P l)

theorem wordN_lt (P l : List St) (j : Nat) : wordN P l j < 2 ^ 64 := wordK_lt _ _

theorem wordN_bit (P l : List St) (j k : Nat) (hk : k < 64) : (wordN P l j).testBit k = inL P l (64 * j + k) := by
  unfold wordN
  rw [wordK_bit, decide_eq_true hk]
  rfl

theorem wordsN_len (P l : List St) : (wordsN P l).length = nWords P := by simp [wordsN]

theorem wordsN_get {P l : List St} {j : Nat} (h : j < nWords P) : (wordsN P l)[j]? = some (wordN P l j) := by simp [wordsN, h]

theorem wordsN_getD {P l : List St} {j : Nat} (h : j < nWords P) : (wordsN P l).getD j 0 = wordN P l j := by
  rw [List.getD_eq_getElem?_getD, wordsN_get h]; rfl

theorem inL_at {P l : List St} {n : Nat} {s : St} (h : P[n]? = some s) : inL P l n = decide (s ∈ l) := by
  unfold inL; rw [h]

theorem inL_nil (P : List St) (i : Nat) : inL P [] i = false := by
  unfold inL
  split <;> simp

theorem wordsN_nil (P : List St) : wordsN P [] = List.replicate (nWords P) 0 := by
  unfold wordsN
  have : wordN P [] = fun _ => 0 := by
    funext j
    unfold wordN
    have e : (fun k => inL P [] (64 * j + k)) = fun _ => false := by funext k; rw [inL_nil]
    rw [e]
    have : ∀ k, wordK (fun _ => false) k = 0 := fun k => by
      induction k with
      | zero => rfl
      | succ k ih => rw [wordK, ih]; rfl
    exact this 64
  rw [this]
  refine List.eq_replicate_iff.2 ⟨by rw [List.length_map, List.length_range], fun b hb => ?_⟩
  obtain ⟨_, _, e⟩ := List.mem_map.1 hb
  exact e.symm

theorem wordN_at {n : Nat} {P : List St} (h : n < P.length) : n / 64 < nWords P := by unfold nWords; omega

theorem inL_push {P : List St} (hn : P.Nodup) {n : Nat} {s : St} (h : P[n]? = some s) (l : List St) (i : Nat) : inL P (l ++ [s]) i = (inL P l i || decide (i = n)) := by
  by_cases hi : i = n
  · subst hi
    rw [inL_at h, decide_eq_true (rfl : i = i), Bool.or_true]
    simp
  · rw [decide_eq_false hi, Bool.or_false]
    unfold inL
    cases hp : P[i]? with
    | none => rfl
    | some t =>
      have hts : t ≠ s := fun e => by
        subst e
        have h1 := idxOf_get hn h
        have h2 := idxOf_get hn hp
        omega
      simp [hts]

/-- One bit more. -/
theorem wordsN_push {P : List St} (hn : P.Nodup) {n : Nat} {s : St} (h : P[n]? = some s) (l : List St) :
    wordsN P (l ++ [s]) = (wordsN P l).set (n / 64) (wordN P l (n / 64) ||| 2 ^ (n % 64)) := by
  apply List.ext_getElem?
  intro j
  rw [List.getElem?_set]
  have hnl : n < P.length := (List.getElem?_eq_some_iff.1 h).1
  have hw := wordN_at hnl
  by_cases hj : j < nWords P
  · rw [wordsN_get hj]
    by_cases hjn : n / 64 = j
    · subst hjn
      rw [if_pos rfl, wordsN_len, if_pos hj]
      congr 1
      refine word_ext (wordN_lt _ _ _) (Nat.or_lt_two_pow (wordN_lt _ _ _) (Nat.pow_lt_pow_right (by omega) (Nat.mod_lt _ (by omega)))) fun i hi => ?_
      rw [Nat.testBit_or, wordN_bit _ _ _ _ hi, wordN_bit _ _ _ _ hi, inL_push hn h, Nat.testBit_two_pow]
      congr 1
      rw [decide_eq_decide]
      omega
    · rw [if_neg hjn, wordsN_get hj]
      congr 1
      refine word_ext (wordN_lt _ _ _) (wordN_lt _ _ _) fun i hi => ?_
      rw [wordN_bit _ _ _ _ hi, wordN_bit _ _ _ _ hi, inL_push hn h, decide_eq_false (by omega), Bool.or_false]
  · rw [List.getElem?_eq_none (by rw [wordsN_len]; omega)]
    split
    · rename_i h1
      omega
    · rw [List.getElem?_eq_none (by rw [wordsN_len]; omega)]

/-- What the bits of seats are refused with. -/
def bitsE (q : St → Bool) (l : List St) : Int := if (l.all q) = true then (if l.Nodup then 0 else 8) else 15

def bitsR (P : List St) (q : St → Bool) (l : List St) : List Nat := if bitsE q l = 0 then wordsN P l else []

theorem bitsE_seat {q : St → Bool} {l : List St} {k : Nat} (hk : k < l.length) (h : q (l.getD k st0) = false) : bitsE q l = 15 := by
  unfold bitsE
  refine if_neg fun hall => ?_
  rw [List.all_eq_true] at hall
  have := hall (l.getD k st0) (by rw [List.getD_eq_getElem?_getD, List.getElem?_eq_getElem hk]; exact List.getElem_mem hk)
  rw [h] at this
  cases this

theorem all_of {q : St → Bool} {l : List St} (h : ∀ k, k < l.length → q (l.getD k st0) = true) : l.all q = true := by
  rw [List.all_eq_true]
  intro s hs
  obtain ⟨k, hk, e⟩ := List.getElem_of_mem hs
  have := h k hk
  rw [List.getD_eq_getElem?_getD, List.getElem?_eq_getElem hk] at this
  rw [← e]; exact this

theorem take_push {l : List St} {k : Nat} (hk : k < l.length) : l.take (k + 1) = l.take k ++ [l.getD k st0] := by
  rw [List.take_add_one, List.getD_eq_getElem?_getD, List.getElem?_eq_getElem hk]; rfl

theorem nodup_step {l : List St} {k : Nat} (hk : k < l.length) (h : (l.take k).Nodup) (hn : l.getD k st0 ∉ l.take k) : (l.take (k + 1)).Nodup := by
  rw [take_push hk]
  refine List.nodup_append.2 ⟨h, List.pairwise_singleton _ _, fun a ha b hb e => hn ?_⟩
  rw [← List.mem_singleton.1 hb, ← e]
  exact ha

theorem bitsE_twice {q : St → Bool} {l : List St} {k : Nat} (hall : l.all q = true) (hk : k < l.length) (h : l.getD k st0 ∈ l.take k) : bitsE q l = 8 := by
  unfold bitsE
  rw [if_pos hall, if_neg]
  intro hn
  have h2 : (l.take (k + 1)).Nodup := hn.sublist (List.take_sublist _ _)
  rw [take_push hk] at h2
  exact (List.nodup_append.1 h2).2.2 _ h _ (by simp) rfl

theorem bitsE_ok {q : St → Bool} {l : List St} (hall : l.all q = true) (h : (l.take l.length).Nodup) : bitsE q l = 0 := by
  unfold bitsE
  rw [List.take_length] at h
  rw [if_pos hall, if_pos h]

theorem bitsR_ok {P : List St} {q : St → Bool} {l : List St} (h : bitsE q l = 0) : bitsR P q l = wordsN P l := if_pos h
theorem bitsR_no {P : List St} {q : St → Bool} {l : List St} {e : Int} (h : bitsE q l = e) (he : e ≠ 0) : bitsR P q l = [] := if_neg (by rw [h]; exact he)

/-- The i-th bit of some words. -/
def bitAt (W : List Nat) (i : Nat) : Bool := (W.getD (i / 64) 0).testBit (i % 64)

/-- The seats of the first n bits, where they are seats. -/
def ofK (P : List St) (q : St → Bool) (W : List Nat) : Nat → Option (List St)
  | 0 => some []
  | i + 1 => (ofK P q W i).bind fun o => if bitAt W i = true then (if i < P.length ∧ q (P.getD i st0) = true then some (o ++ [P.getD i st0]) else none) else some o

def ofE (P : List St) (q : St → Bool) (W : List Nat) : Int := if W.length = nWords P then (match ofK P q W (64 * W.length) with | some _ => 0 | none => 15) else 2

def ofR (P : List St) (q : St → Bool) (W : List Nat) : List St := if W.length = nWords P then (ofK P q W (64 * W.length)).getD [] else []

theorem ofK_no {P : List St} {q : St → Bool} {W : List Nat} {k n : Nat} (h : ofK P q W k = none) (hk : k ≤ n) : ofK P q W n = none := by
  induction n with
  | zero => rw [show k = 0 by omega] at h; exact h
  | succ n ih =>
    rcases Nat.lt_or_ge n k with h1 | h1
    · rw [show n + 1 = k by omega]; exact h
    · rw [ofK, ih h1]; rfl

theorem ofK_skip {P : List St} {q : St → Bool} {W : List Nat} {i : Nat} {o : List St} (h : ofK P q W i = some o) (hb : bitAt W i = false) : ofK P q W (i + 1) = some o := by
  rw [ofK, h]
  show (if bitAt W i = true then _ else _) = _
  rw [hb]; rfl

theorem ofK_take {P : List St} {q : St → Bool} {W : List Nat} {i : Nat} {o : List St} (h : ofK P q W i = some o) (hb : bitAt W i = true) (hi : i < P.length) (hq : q (P.getD i st0) = true) : ofK P q W (i + 1) = some (o ++ [P.getD i st0]) := by
  rw [ofK, h]
  show (if bitAt W i = true then _ else _) = _
  rw [if_pos hb, if_pos ⟨hi, hq⟩]

theorem ofK_bad {P : List St} {q : St → Bool} {W : List Nat} {i : Nat} {o : List St} (h : ofK P q W i = some o) (hb : bitAt W i = true) (hi : ¬ (i < P.length ∧ q (P.getD i st0) = true)) : ofK P q W (i + 1) = none := by
  rw [ofK, h]
  show (if bitAt W i = true then _ else _) = _
  rw [if_pos hb, if_neg hi]

theorem ofE_no {P : List St} {q : St → Bool} {W : List Nat} {k : Nat} (hl : W.length = nWords P) (h : ofK P q W k = none) (hk : k ≤ 64 * W.length) : ofE P q W = 15 ∧ ofR P q W = [] := by
  unfold ofE ofR
  rw [if_pos hl, if_pos hl, ofK_no h hk]
  exact ⟨rfl, rfl⟩

theorem ofE_yes {P : List St} {q : St → Bool} {W : List Nat} {o : List St} (hl : W.length = nWords P) (h : ofK P q W (64 * W.length) = some o) : ofE P q W = 0 ∧ ofR P q W = o := by
  unfold ofE ofR
  rw [if_pos hl, if_pos hl, h]
  exact ⟨rfl, rfl⟩

theorem ofE_size {P : List St} {q : St → Bool} {W : List Nat} (hl : W.length ≠ nWords P) : ofE P q W = 2 ∧ ofR P q W = [] := by
  unfold ofE ofR
  rw [if_neg hl, if_neg hl]
  exact ⟨rfl, rfl⟩
end Go.Proofs.YtpmmjccdogjncaaDoor
