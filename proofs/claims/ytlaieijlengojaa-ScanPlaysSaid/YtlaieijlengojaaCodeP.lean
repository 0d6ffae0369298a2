/- The plain law: the two ways to tell a free text are one. -/
import Derived.Test.YtlaieijlengojaaCodeT
namespace Go.Proofs.Ytlaieijlengojaa
open Go.RowKit

def refGo : UInt8 → List UInt8 → Bool
  | p, [] => !(p.toNat == 32)
  | p, c :: t => (bF c || c.toNat == 32) && !(c.toNat == 32 && p.toNat == 32) && refGo c t

theorem bF_32 {c : UInt8} (h : bF c = true) : (c.toNat == 32) = false := by
  by_cases h2 : c.toNat = 32
  · simp [bF, bL, bD, isL, isD, h2] at h
  · exact beq_eq_false_iff_ne.2 h2

theorem freeGo_eq (l : List UInt8) : ∀ p : UInt8, freeGo (p.toNat == 32) l = refGo p l := by
  induction l with
  | nil => intro p; rfl
  | cons c t ih =>
    intro p
    rw [refGo, freeGo, ← ih c]
    cases hf : bF c
    · cases hc : (c.toNat == 32) <;> cases hp : (p.toNat == 32) <;> simp
    · rw [bF_32 hf]; simp

def okAt2 (p : UInt8) (l : List UInt8) (k : Nat) : Bool := (bF (l.getD k 0) || (l.getD k 0).toNat == 32) && !((l.getD k 0).toNat == 32 && (if k = 0 then p else l.getD (k - 1) 0).toNat == 32)

theorem okAt2_succ (p c : UInt8) (t : List UInt8) (k : Nat) : okAt2 p (c :: t) (k + 1) = okAt2 c t k := by
  unfold okAt2
  cases k <;> simp

theorem refGo_range (l : List UInt8) : ∀ p : UInt8, refGo p l = (!(((p :: l).getLastD 0).toNat == 32) && (List.range l.length).all (okAt2 p l)) := by
  induction l with
  | nil => intro p; simp [refGo]
  | cons c t ih =>
    intro p
    rw [refGo, ih c, List.length_cons, List.range_succ_eq_map, List.all_cons, List.all_map]
    have e : (okAt2 p (c :: t) ∘ Nat.succ) = okAt2 c t := funext fun k => okAt2_succ p c t k
    rw [e]
    have e2 : okAt2 p (c :: t) 0 = ((bF c || c.toNat == 32) && !(c.toNat == 32 && p.toNat == 32)) := rfl
    have e3 : (p :: c :: t).getLastD 0 = (c :: t).getLastD 0 := by simp
    rw [e2, e3]
    cases (bF c || c.toNat == 32) && !(c.toNat == 32 && p.toNat == 32) <;> simp

theorem all_congr_range (p q : Nat → Bool) (n : Nat) (h : ∀ k, k < n → p k = q k) : (List.range n).all p = (List.range n).all q := by
  rw [Bool.eq_iff_iff, List.all_eq_true, List.all_eq_true]
  constructor
  · intro h2 x hx; rw [← h x (List.mem_range.1 hx)]; exact h2 x hx
  · intro h2 x hx; rw [h x (List.mem_range.1 hx)]; exact h2 x hx

theorem free_eq (l : List UInt8) : freeS l = refFreeS l := by
  unfold freeS refFreeS
  cases hd : decide (1 ≤ l.length ∧ l.length ≤ 40)
  · rfl
  · have h32 : freeGo true l = refGo 32 l := freeGo_eq l 32
    rw [h32, refGo_range, Bool.true_and, Bool.true_and]
    cases l with
    | nil => simp at hd
    | cons c t =>
      have e1 : ((32 : UInt8) :: c :: t).getLastD 0 = (c :: t).getD ((c :: t).length - 1) 0 := by
        rw [List.getLastD_cons, List.getLastD_eq_getLast?, List.getLast?_eq_getElem?]
        simp [List.getD]
      rw [e1, List.length_cons, List.range_succ_eq_map, List.all_cons, List.all_cons]
      have e2 : okAt2 32 (c :: t) 0 = ((bF c || c.toNat == 32) && !(c.toNat == 32)) := by simp [okAt2]
      have e3 : okAt (c :: t) 0 = (!(c.toNat == 32) && (bF c || c.toNat == 32)) := by simp [okAt]
      have e4 : ∀ k, okAt2 32 (c :: t) (k + 1) = okAt (c :: t) (k + 1) := by intro k; simp [okAt2, okAt, Bool.and_comm]
      have e5 : ((List.range t.length).map Nat.succ).all (okAt2 32 (c :: t)) = ((List.range t.length).map Nat.succ).all (okAt (c :: t)) := by
        rw [List.all_map, List.all_map]
        congr 1
        funext k
        exact e4 k
      rw [e2, e3, e5]
      have e6 : (c :: t).getD 0 0 = c := rfl
      rw [e6]
      cases (c.toNat == 32) <;> cases bF c <;> simp
end Go.Proofs.Ytlaieijlengojaa
