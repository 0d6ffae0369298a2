/- Codec: the plain bytes: numbers, fixed numbers, locators, queues, counts, and what is read of bytes. -/
import Derived.Test.YtjahkaidinahpaaDoorED
namespace Go.Proofs.YtjahkaidinahpaaDoor
open Go.RowKit
set_option linter.unusedSimpArgs false
set_option linter.unusedVariables false
set_option maxRecDepth 20000

/-- A number in as few bytes as it takes. -/
def varL (n : Nat) : List UInt8 := if n < 128 then [UInt8.ofNat n] else UInt8.ofNat (n % 128 + 128) :: varL (n / 128)
termination_by n
decreasing_by omega

/-- A number in so many bytes, the great end first. -/
def beL (n : Nat) : Nat → List UInt8
  | 0 => []
  | k + 1 => beL (n / 256) k ++ [UInt8.ofNat (n % 256)]

theorem beL_len (n k : Nat) : (beL n k).length = k := by
  induction k generalizing n with
  | zero => rfl
  | succ k ih => rw [beL, List.length_append, ih]; rfl

/-- The number of bytes. -/
def valB (l : List UInt8) : Nat := l.foldl (fun x c => x * 256 + c.toNat) 0

/-- The number with which bytes begin, and how many it takes. -/
def rvL (i acc : Nat) : List UInt8 → Option (Nat × Nat)
  | [] => none
  | x :: t => if (i = 9 ∧ 1 < x.toNat) ∨ (0 < i ∧ x.toNat = 0) then none else
      if x.toNat < 128 then some (acc + x.toNat % 128 * 2 ^ (7 * i), i + 1) else rvL (i + 1) (acc + x.toNat % 128 * 2 ^ (7 * i)) t

theorem rvL_lt : ∀ (l : List UInt8) (i acc n k : Nat), i ≤ 9 → acc < 2 ^ (7 * i) → rvL i acc l = some (n, k) → n < 2 ^ 64 ∧ i < k ∧ k ≤ i + l.length ∧ k ≤ 10
  | [], i, acc, n, k, _, _, h => by cases h
  | x :: t, i, acc, n, k, hi, ha, h => by
    rw [rvL] at h
    split at h
    · cases h
    · rename_i h1
      have hx : x.toNat < 256 := x.toNat_lt
      split at h
      · injection h with h
        injection h with h2 h3
        subst h2 h3
        refine ⟨?_, by omega, by rw [List.length_cons]; omega, by omega⟩
        rcases Nat.lt_or_ge i 9 with h9 | h9
        · have hp : 2 ^ (7 * i) ≤ 2 ^ 56 := Nat.pow_le_pow_right (by omega) (by omega)
          have hm : x.toNat % 128 * 2 ^ (7 * i) ≤ 127 * 2 ^ 56 := Nat.mul_le_mul (by omega) hp
          have e1 : (2 : Nat) ^ 56 = 72057594037927936 := by decide
          have e2 : (2 : Nat) ^ 64 = 18446744073709551616 := by decide
          rw [e1] at hm hp
          rw [e2]
          omega
        · have hi9 : i = 9 := by omega
          subst hi9
          have hx1 : x.toNat ≤ 1 := by
            rcases Nat.lt_or_ge 1 x.toNat with h4 | h4
            · exact absurd (.inl ⟨rfl, h4⟩) h1
            · exact h4
          have e1 : (2 : Nat) ^ (7 * 9) = 9223372036854775808 := by decide
          have e2 : (2 : Nat) ^ 64 = 18446744073709551616 := by decide
          rw [e1] at ha ⊢
          rw [e2]
          have : x.toNat % 128 * 9223372036854775808 ≤ 1 * 9223372036854775808 := Nat.mul_le_mul (by omega) (Nat.le_refl _)
          omega
      · rename_i h2
        have hi8 : i + 1 ≤ 9 := by
          rcases Nat.lt_or_ge i 9 with h9 | h9
          · omega
          · exact absurd (.inl ⟨by omega, by omega⟩) h1
        have ha2 : acc + x.toNat % 128 * 2 ^ (7 * i) < 2 ^ (7 * (i + 1)) := by
          have e : (2 : Nat) ^ (7 * (i + 1)) = 2 ^ (7 * i) * 128 := by rw [Nat.mul_succ, Nat.pow_add]
          rw [e]
          have : x.toNat % 128 * 2 ^ (7 * i) ≤ 127 * 2 ^ (7 * i) := Nat.mul_le_mul (by omega) (Nat.le_refl _)
          omega
        obtain ⟨g1, g2, g3, g4⟩ := rvL_lt t (i + 1) _ n k hi8 ha2 h
        exact ⟨g1, by omega, by rw [List.length_cons]; omega, g4⟩

/-- What is read: a number at most so great. -/
def pNum (most : Nat) (l : List UInt8) : Option (Nat × List UInt8) :=
  match rvL 0 0 l with
  | some (n, k) => if n ≤ most then some (n, l.drop k) else none
  | none => none

/-- .. so many bytes as a number. -/
def pFix (size : Nat) (l : List UInt8) : Option (Nat × List UInt8) :=
  if size ≤ l.length then some (valB (l.take size), l.drop size) else none

/-- .. a locator. -/
def pLoc (l : List UInt8) : Option (List UInt8 × List UInt8) :=
  match pFix 4 l with
  | some (n, r) => if n < 308915776 then some (txt (turnN n), r) else none
  | none => none

/-- .. so many locators. -/
def pLocs : Nat → List UInt8 → Option (List (List UInt8) × List UInt8)
  | 0, l => some ([], l)
  | n + 1, l => match pLocs n l with
    | some (o, r) => (match pLoc r with | some (s, r') => some (o ++ [s], r') | none => none)
    | none => none

/-- The bytes of a queue. -/
def queueF (l : List (List UInt8)) : Option (List UInt8) :=
  if l.length ≤ 40 ∧ (l.all fun s => lettersS s 6 6) = true ∧ l.Nodup then some (81 :: varL l.length ++ l.flatMap fun s => beL (numN (valL s)) 4) else none

/-- The bytes of a count. -/
def countF (next now : Int) : Option (List UInt8) :=
  if 0 ≤ next ∧ next ≤ 308915776 ∧ 0 ≤ now ∧ now < 527040 then some (67 :: varL next.toNat ++ varL now.toNat) else none

/-- The queue of bytes. -/
def pQueue (b : List UInt8) : Option (List (List UInt8)) :=
  match b with
  | 81 :: r => (match pNum 40 r with | some (n, r') => (pLocs n r').map (·.1) | none => none)
  | _ => none

def readQ (b : List UInt8) : Option (List (List UInt8)) :=
  match pQueue b with
  | some l => if queueF l = some b then some l else none
  | none => none

/-- The count of bytes. -/
def pCount (b : List UInt8) : Option (Nat × Nat) :=
  match b with
  | 67 :: r => (match pNum 308915776 r with | some (n, r') => (pNum 527039 r').map fun x => (n, x.1) | none => none)
  | _ => none

def readCt (b : List UInt8) : Option (Nat × Nat) :=
  match pCount b with
  | some (n, m) => if countF n m = some b then some (n, m) else none
  | none => none

theorem varL_small {n : Nat} (h : n < 128) : varL n = [UInt8.ofNat n] := by rw [varL, if_pos h]
theorem varL_big {n : Nat} (h : ¬ n < 128) : varL n = UInt8.ofNat (n % 128 + 128) :: varL (n / 128) := by rw [varL, if_neg h]

theorem varL_len : ∀ (k n : Nat), n < 2 ^ (7 * (k + 1)) → (varL n).length ≤ k + 1
  | 0, n, h => by
    rw [varL_small (by simpa using h)]
    exact Nat.le_refl _
  | k + 1, n, h => by
    by_cases h1 : n < 128
    · rw [varL_small h1]
      show 1 ≤ _
      omega
    · rw [varL_big h1, List.length_cons]
      have : n / 128 < 2 ^ (7 * (k + 1)) := by
        rw [Nat.div_lt_iff_lt_mul (by omega)]
        have e : (2 : Nat) ^ (7 * (k + 1 + 1)) = 2 ^ (7 * (k + 1)) * 128 := by rw [Nat.mul_succ, Nat.pow_add]
        rw [← e]
        exact h
      have := varL_len k (n / 128) this
      omega

theorem awake_queue : queueF [[73, 73, 68, 73, 83, 77], [83, 83, 72, 78, 67, 78]] = some [81, 2, 0, 0, 0, 0, 0, 0, 0, 1] := by
  unfold queueF
  rw [if_pos (by decide)]
  rw [varL_small (by decide)]
  decide

theorem awake_count : countF 300 5 = some [67, 172, 2, 5] := by
  unfold countF
  rw [if_pos (by omega)]
  rw [varL_small (n := Int.toNat 5) (by decide), varL_big (n := Int.toNat 300) (by decide), varL_small (n := Int.toNat 300 / 128) (by decide)]
  decide

theorem awake_read : readQ [81, 2, 0, 0, 0, 0, 0, 0, 0, 1] = some [[73, 73, 68, 73, 83, 77], [83, 83, 72, 78, 67, 78]] := by
  have h : pQueue [81, 2, 0, 0, 0, 0, 0, 0, 0, 1] = some [[73, 73, 68, 73, 83, 77], [83, 83, 72, 78, 67, 78]] := by decide
  unfold readQ
  rw [h]
  show (if queueF _ = some _ then some _ else none) = _
  rw [awake_queue, if_pos rfl]
end Go.Proofs.YtjahkaidinahpaaDoor
