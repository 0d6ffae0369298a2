/- Days and times: the plain functions, and what is known of them by trying each number. -/
import Derived.Test.YtpfgmmmeofnkoaaDoorBase
namespace Go.Proofs.YtpfgmmmeofnkoaaDoor
open Go.RowKit

def isD (c : UInt8) : Bool := decide (48 ≤ c.toNat ∧ c.toNat ≤ 57)
def two (n : Nat) : List UInt8 := [UInt8.ofNat (48 + n / 10), UInt8.ofNat (48 + n % 10)]
def monL : Nat → List UInt8
  | 0 => [74, 65, 78]
  | 1 => [70, 69, 66]
  | 2 => [77, 65, 82]
  | 3 => [65, 80, 82]
  | 4 => [77, 65, 89]
  | 5 => [74, 85, 78]
  | 6 => [74, 85, 76]
  | 7 => [65, 85, 71]
  | 8 => [83, 69, 80]
  | 9 => [79, 67, 84]
  | 10 => [78, 79, 86]
  | _ => [68, 69, 67]
def lenN : Nat → Nat
  | 0 => 31
  | 1 => 29
  | 2 => 31
  | 3 => 30
  | 4 => 31
  | 5 => 30
  | 6 => 31
  | 7 => 31
  | 8 => 30
  | 9 => 31
  | 10 => 30
  | _ => 31
def startN : Nat → Nat
  | 0 => 0
  | m + 1 => startN m + lenN m
/-- The month of what is left of a day, from month m on, at most f months. -/
def monGo : Nat → Nat → Nat → Nat × Nat
  | 0, m, d => (m, d)
  | f + 1, m, d => if lenN m ≤ d then monGo f (m + 1) (d - lenN m) else (m, d)
def monOf (d : Nat) : Nat := (monGo 12 0 d).1
def dayOf (d : Nat) : Nat := (monGo 12 0 d).2
def dtxt (d : Nat) : List UInt8 := two (dayOf d + 1) ++ monL (monOf d)
/-- The number of two digits; -1 of anything else. -/
def numS : List UInt8 → Int
  | [a, b] => if isD a && isD b then ((a.toNat : Int) - 48) * 10 + ((b.toNat : Int) - 48) else -1
  | _ => -1
/-- The month that a text names, from month m on, at most f months. -/
def monFind : Nat → Nat → List UInt8 → Option Nat
  | 0, _, _ => none
  | f + 1, m, l => if l = monL m then some m else monFind f (m + 1) l
def readM (o : Option Nat) (x : Int) : Option Nat :=
  match o with
  | some m => if 1 ≤ x ∧ x ≤ lenN m then some (startN m + x.toNat - 1) else none
  | none => none
def readS (l : List UInt8) : Option Nat := if l.length = 5 then readM (monFind 12 0 (l.drop 2)) (numS (l.take 2)) else none

def ctxt (t : Nat) : List UInt8 := two (t / 60) ++ two (t % 60)
def readC (l : List UInt8) : Option Nat :=
  if l.length = 4 then
    if 0 ≤ numS (l.take 2) ∧ numS (l.take 2) ≤ 23 ∧ 0 ≤ numS (l.drop 2) ∧ numS (l.drop 2) ≤ 59 then some ((numS (l.take 2)).toNat * 60 + (numS (l.drop 2)).toNat) else none
  else none

theorem day_facts : ∀ d, d < 366 → monOf d < 12 ∧ dayOf d < lenN (monOf d) ∧ startN (monOf d) + dayOf d = d ∧ readS (dtxt d) = some d := by
  decide +kernel
theorem mon_facts : ∀ m, m < 12 → ∀ k, k < lenN m → startN m + k < 366 ∧ monOf (startN m + k) = m ∧ dayOf (startN m + k) = k := by
  decide +kernel
theorem len_facts : ∀ m, m < 12 → 29 ≤ lenN m ∧ lenN m ≤ 31 ∧ startN m + lenN m ≤ 366 ∧ startN m ≤ 335 := by decide +kernel
theorem clock_facts : ∀ t, t < 1440 → readC (ctxt t) = some t := by decide +kernel
theorem two_num : ∀ n, n < 100 → numS (two n) = n := by decide +kernel
theorem monFind_lt (l : List UInt8) (m : Nat) : ∀ f s, monFind f s l = some m → s ≤ m ∧ m < s + f ∧ l = monL m := by
  intro f
  induction f with
  | zero => intro s h; cases h
  | succ f ih =>
    intro s h
    rw [monFind] at h
    split at h
    · next he => injection h with h; subst h; exact ⟨Nat.le_refl _, by omega, he⟩
    · have := ih (s + 1) h; exact ⟨by omega, by omega, this.2.2⟩
theorem numS_two (a b : UInt8) : numS [a, b] = if isD a && isD b then ((a.toNat : Int) - 48) * 10 + ((b.toNat : Int) - 48) else -1 := rfl
theorem num_two {a b : UInt8} (h : 0 ≤ numS [a, b]) : two (numS [a, b]).toNat = [a, b] ∧ numS [a, b] ≤ 99 := by
  rw [numS_two] at h ⊢
  split at h
  · next hd =>
    rw [if_pos hd]
    simp only [isD, Bool.and_eq_true, decide_eq_true_eq] at hd
    obtain ⟨⟨a1, a2⟩, b1, b2⟩ := hd
    have e : (((a.toNat : Int) - 48) * 10 + ((b.toNat : Int) - 48)).toNat = (a.toNat - 48) * 10 + (b.toNat - 48) := by omega
    rw [e]
    refine ⟨?_, by omega⟩
    unfold two
    have e1 : 48 + ((a.toNat - 48) * 10 + (b.toNat - 48)) / 10 = a.toNat := by omega
    have e2 : 48 + ((a.toNat - 48) * 10 + (b.toNat - 48)) % 10 = b.toNat := by omega
    rw [e1, e2, UInt8.ofNat_toNat, UInt8.ofNat_toNat]
  · omega
theorem numS_len {l : List UInt8} (h : 0 ≤ numS l) : ∃ a b, l = [a, b] := by
  match l, h with
  | [a, b], _ => exact ⟨a, b, rfl⟩
theorem read_only {l : List UInt8} {d : Nat} (h : readS l = some d) : d < 366 ∧ dtxt d = l := by
  unfold readS at h
  split at h
  · next hl =>
    unfold readM at h
    split at h
    · next m hm =>
      split at h
      · next hn =>
        injection h with h
        obtain ⟨_, m2, m3⟩ := monFind_lt _ _ _ _ hm
        have hm12 : m < 12 := by omega
        obtain ⟨x, y, hxy⟩ := numS_len (l := l.take 2) (by omega)
        rw [hxy] at h hn
        have ht := num_two (a := x) (b := y) (by omega)
        generalize hk : (numS [x, y]).toNat = k at ht h
        have hk1 : 1 ≤ k := by omega
        have hkl : k - 1 < lenN m := by omega
        obtain ⟨f1, f2, f3⟩ := mon_facts m hm12 (k - 1) hkl
        have hd : d = startN m + (k - 1) := by omega
        subst hd
        refine ⟨f1, ?_⟩
        unfold dtxt
        rw [f2, f3, ← m3, show k - 1 + 1 = k by omega, ht.1, ← hxy, List.take_append_drop]
      · cases h
    · cases h
  · cases h
theorem readC_only {l : List UInt8} {t : Nat} (h : readC l = some t) : t < 1440 ∧ ctxt t = l := by
  unfold readC at h
  split at h
  · next hl =>
    split at h
    · next hn =>
      injection h with h
      obtain ⟨x, y, hxy⟩ := numS_len (l := l.take 2) (by omega)
      obtain ⟨p, q, hpq⟩ := numS_len (l := l.drop 2) (by omega)
      rw [hxy, hpq] at h hn
      have h1 := num_two (a := x) (b := y) (by omega)
      have h2 := num_two (a := p) (b := q) (by omega)
      generalize hk : (numS [x, y]).toNat = k at h1 h
      generalize hj : (numS [p, q]).toNat = j at h2 h
      subst h
      refine ⟨by omega, ?_⟩
      unfold ctxt
      rw [show (k * 60 + j) / 60 = k by omega, show (k * 60 + j) % 60 = j by omega, h1.1, h2.1, ← hxy, ← hpq, List.take_append_drop]
    · cases h
  · cases h
end Go.Proofs.YtpfgmmmeofnkoaaDoor
