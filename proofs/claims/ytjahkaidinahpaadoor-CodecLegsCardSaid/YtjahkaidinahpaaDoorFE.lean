/- Legs: the plain law (their bytes, and the legs of bytes); parsers in stages. -/
import Derived.Test.YtjahkaidinahpaaDoorFB
import Derived.Test.YtjahkaidinahpaaDoorFD
namespace Go.Proofs.YtjahkaidinahpaaDoor
open Go.RowKit Go.ChangeMaps
set_option linter.unusedSimpArgs false
set_option linter.unusedVariables false
set_option maxRecDepth 20000

/- Parsers in stages. -/
def bindP {α β : Type} (o : Option (α × List UInt8)) (K : α → List UInt8 → Option β) : Option β :=
  match o with
  | some (a, r) => K a r
  | none => none

theorem bindP_some {α β : Type} {o : Option (α × List UInt8)} {K : α → List UInt8 → Option β} {a : α} {r : List UInt8} (h : o = some (a, r)) : bindP o K = K a r := by rw [h]; rfl
theorem bindP_none {α β : Type} {o : Option (α × List UInt8)} {K : α → List UInt8 → Option β} (h : o = none) : bindP o K = none := by rw [h]; rfl

/-- The first byte. -/
def pTag (c : UInt8) : List UInt8 → Option (Unit × List UInt8)
  | x :: r => if x = c then some ((), r) else none
  | [] => none

theorem pTag_yes {c : UInt8} {l r : List UInt8} (h : l = c :: r) : pTag c l = some ((), r) := by rw [h]; exact if_pos rfl
theorem pTag_no {c : UInt8} {l : List UInt8} (h : ∀ r, l ≠ c :: r) : pTag c l = none := by
  cases l with
  | nil => rfl
  | cons x r => exact if_neg fun e => h r (by rw [e])

/-- n times, from 'acc' on. -/
def pRun {α β : Type} (f : List UInt8 → Option (α × List UInt8)) (K : List α → List UInt8 → Option β) : Nat → List α → List UInt8 → Option β
  | 0, acc, r => K acc r
  | n + 1, acc, r => bindP (f r) fun s r' => pRun f K n (acc ++ [s]) r'

/-- Where a reader stands: not bad, 'x' is what is to come; bad, there is none. -/
def Stg {β : Type} (o : Option β) (bad : Bool) (x : Option β) : Prop := (bad = false → o = x) ∧ (bad = true → o = none)

theorem Stg.step {α β : Type} {o : Option β} {bad b2 : Bool} {p : Option (α × List UInt8)} {K : α → List UInt8 → Option β} {a : α} {r : List UInt8} (h : Stg o bad (bindP p K)) (h1 : b2 = false → bad = false ∧ p = some (a, r)) (h2 : b2 = true → bad = true ∨ p = none) : Stg o b2 (K a r) := by
  refine ⟨fun e => ?_, fun e => ?_⟩
  · obtain ⟨h3, h4⟩ := h1 e
    rw [h.1 h3, bindP_some h4]
  · rcases h2 e with h3 | h3
    · exact h.2 h3
    · cases hb : bad with
      | true => exact h.2 hb
      | false => rw [h.1 hb, bindP_none h3]

theorem Stg.start {α β : Type} {o : Option β} {b2 : Bool} {c : UInt8} {l r : List UInt8} {K : Unit → List UInt8 → Option β} (h : o = bindP (pTag c l) K) (h1 : b2 = false → l = c :: r) (h2 : b2 = true → ∀ r, l ≠ c :: r) : Stg o b2 (K () r) := by
  refine ⟨fun e => ?_, fun e => ?_⟩
  · rw [h, bindP_some (pTag_yes (h1 e))]
  · rw [h, bindP_none (pTag_no (h2 e))]

/-- Two steps as one. -/
theorem stg_two {α β γ : Type} {bad b1 b2 : Bool} {p : Option (α × List UInt8)} {q : List UInt8 → Option (β × List UInt8)} {F : α → β → γ} {a : α} {r : List UInt8} {b : β} {r2 : List UInt8}
    (h1 : b1 = false → bad = false ∧ p = some (a, r)) (h2 : b1 = true → bad = true ∨ p = none) (k1 : b2 = false → b1 = false ∧ q r = some (b, r2)) (k2 : b2 = true → b1 = true ∨ q r = none) :
    (b2 = false → bad = false ∧ bindP p (fun a r => bindP (q r) fun b r2 => some (F a b, r2)) = some (F a b, r2)) ∧ (b2 = true → bad = true ∨ bindP p (fun a r => bindP (q r) fun b r2 => some (F a b, r2)) = none) := by
  refine ⟨fun e => ?_, fun e => ?_⟩
  · obtain ⟨e1, e2⟩ := k1 e
    obtain ⟨e3, e4⟩ := h1 e1
    exact ⟨e3, by rw [bindP_some e4, bindP_some e2]⟩
  · rcases k2 e with e1 | e1
    · rcases h2 e1 with e2 | e2
      · exact .inl e2
      · exact .inr (bindP_none e2)
    · cases hb : b1 with
      | true =>
        rcases h2 hb with e2 | e2
        · exact .inl e2
        · exact .inr (bindP_none e2)
      | false =>
        obtain ⟨e3, e4⟩ := h1 hb
        exact .inr (by rw [bindP_some e4, bindP_none e1])

/- Legs. -/
structure SoldT where
  c : UInt8
  n : Int
structure HeldT where
  row : Int
  c : UInt8
  loc : ByteArray
  pax : Int

def soldC (x : SoldT) : List Value := [.int .u8 x.c.toNat, .int .i64 x.n]
def heldC (x : HeldT) : List Value := [.int .i64 x.row, .int .u8 x.c.toNat, .string x.loc, .int .i64 x.pax]
theorem soldC_len (x : SoldT) : (soldC x).length = 2 := rfl
theorem heldC_len (x : HeldT) : (heldC x).length = 4 := rfl
theorem soldC_one (x : SoldT) : ∀ v ∈ soldC x, v.oneCell' = true := by
  intro v hv
  simp [soldC] at hv
  rcases hv with rfl | rfl <;> rfl
theorem heldC_one (x : HeldT) : ∀ v ∈ heldC x, v.oneCell' = true := by
  intro v hv
  simp [heldC] at hv
  rcases hv with rfl | rfl | rfl | rfl <;> rfl

/-- A seat in bits. -/
def bitsN (pax row : Int) (c : UInt8) : Nat := (pax * 4096 + row * 32 + (c.toNat - 65)).toNat

def soldB (x : SoldT) : List UInt8 := x.c :: varL x.n.toNat
def heldB (x : HeldT) : List UInt8 := beL (bitsN x.pax x.row x.c) 2 ++ beL (numN (valL (toL x.loc))) 4

/-- Is what is sold right by itself? -/
def oneS (x : SoldT) : Prop := bL x.c = true ∧ 1 ≤ x.n ∧ x.n ≤ 400
def oneH (x : HeldT) : Prop := (1 ≤ x.row ∧ x.row ≤ 99 ∧ bL x.c = true) ∧ lettersS (toL x.loc) 6 6 = true ∧ 1 ≤ x.pax ∧ x.pax ≤ 9
def lowS (x y : SoldT) : Prop := x.c.toNat < y.c.toNat
def lowH (x y : HeldT) : Prop := x.row < y.row ∨ (x.row = y.row ∧ x.c.toNat < y.c.toNat)

/-- Each is right, and lower than the next one. -/
def Rise {α : Type} (one : α → Prop) (low : α → α → Prop) (l : List α) : Prop := ∀ i x, l[i]? = some x → one x ∧ ∀ y, 0 < i → l[i - 1]? = some y → low y x

theorem Rise.nil {α : Type} {one : α → Prop} {low : α → α → Prop} {l : List α} : Rise one low (l.take 0) := by
  intro i x h
  simp at h

theorem take_at {α : Type} {l : List α} {i j : Nat} (h : j < i) : (l.take i)[j]? = l[j]? := by rw [List.getElem?_take, if_pos h]

theorem Rise.next {α : Type} {one : α → Prop} {low : α → α → Prop} {l : List α} {i : Nat} {x : α} (h : Rise one low (l.take i)) (hx : l[i]? = some x) (h1 : one x) (h2 : ∀ y, 0 < i → l[i - 1]? = some y → low y x) : Rise one low (l.take (i + 1)) := by
  intro j z hz
  have hj : j < i + 1 := by
    rcases Nat.lt_or_ge j (i + 1) with h | h
    · exact h
    · rw [List.getElem?_take, if_neg (by omega)] at hz; cases hz
  rw [take_at hj] at hz
  rcases Nat.lt_or_ge j i with hji | hji
  · obtain ⟨k1, k2⟩ := h j z (by rw [take_at hji]; exact hz)
    refine ⟨k1, fun y hj0 hy => k2 y hj0 ?_⟩
    rw [take_at (by omega)] at hy ⊢
    exact hy
  · have e : j = i := by omega
    subst e
    rw [hx] at hz
    injection hz with hz
    subst hz
    exact ⟨h1, fun y hj0 hy => h2 y hj0 (by rw [take_at (by omega)] at hy; exact hy)⟩

def SoundL (s : List SoldT) (h : List HeldT) : Prop := s.length ≤ 6 ∧ h.length ≤ 600 ∧ Rise oneS lowS s ∧ Rise oneH lowH h

def legB (s : List SoldT) (h : List HeldT) : List UInt8 := (76 :: varL s.length ++ s.flatMap soldB) ++ varL h.length ++ h.flatMap heldB

open Classical in
/-- A leg's bytes, if it is sound. -/
noncomputable def legF (s : List SoldT) (h : List HeldT) : Option (List UInt8) := if SoundL s h then some (legB s h) else none
theorem legF_yes {s : List SoldT} {h : List HeldT} (k : SoundL s h) : legF s h = some (legB s h) := if_pos k
theorem legF_no {s : List SoldT} {h : List HeldT} (k : ¬ SoundL s h) : legF s h = none := if_neg k

def pSold (l : List UInt8) : Option (SoldT × List UInt8) := bindP (pFix 1 l) fun c r => bindP (pNum 400 r) fun n r2 => some (⟨UInt8.ofNat c, n⟩, r2)
def pHeld (l : List UInt8) : Option (HeldT × List UInt8) := bindP (pFix 2 l) fun x r => bindP (pLoc r) fun s r2 => some (⟨((x / 32 % 128 : Nat) : Int), UInt8.ofNat (65 + x % 32), ⟨s.toArray⟩, ((x / 4096 : Nat) : Int)⟩, r2)

/-- The leg of bytes. -/
def pLegH (s : List SoldT) (r : List UInt8) : Option (List SoldT × List HeldT) := bindP (pNum 600 r) fun m r2 => pRun pHeld (fun h _ => some (s, h)) m [] r2
def pLegS (r : List UInt8) : Option (List SoldT × List HeldT) := bindP (pNum 6 r) fun n r2 => pRun pSold pLegH n [] r2
def pLeg (b : List UInt8) : Option (List SoldT × List HeldT) := bindP (pTag 76 b) fun _ r => pLegS r

open Classical in
noncomputable def readLg (b : List UInt8) : Option (List SoldT × List HeldT) :=
  match pLeg b with
  | some (s, h) => if legF s h = some b then some (s, h) else none
  | none => none

theorem readLg_none {b : List UInt8} (h : pLeg b = none) : readLg b = none := by unfold readLg; rw [h]
theorem readLg_some {b : List UInt8} {s : List SoldT} {h : List HeldT} (k : pLeg b = some (s, h)) (hq : legF s h = some b) : readLg b = some (s, h) := by unfold readLg; rw [k]; exact if_pos hq
theorem readLg_other {b : List UInt8} {s : List SoldT} {h : List HeldT} (k : pLeg b = some (s, h)) (hq : legF s h ≠ some b) : readLg b = none := by unfold readLg; rw [k]; exact if_neg hq
end Go.Proofs.YtjahkaidinahpaaDoor
