/- (codec.Leg).sound. -/
import Derived.Test.YtjahkaidinahpaaDoorFF
namespace Go.Proofs.YtjahkaidinahpaaDoor
open Go.RowKit Go.ChangeMaps
set_option linter.unusedSimpArgs false
set_option linter.unusedVariables false
set_option maxRecDepth 20000

def s0 : SoldT := ⟨0, 0⟩
def h0 : HeldT := ⟨0, 0, ⟨#[]⟩, 0⟩

theorem info_sold : (Tryd.prog.info? 144).map (·.size) = some 2 := by kernel_rfl
theorem info_held : (Tryd.prog.info? 148).map (·.size) = some 4 := by kernel_rfl

theorem info_seat2 : (Tryd.prog.info? 39).map (·.size) = some 2 := by kernel_rfl
theorem seat2_one (r : Int) (c : Int) : ∀ v ∈ ([.int .i64 r, .int .u8 c] : List Value), v.oneCell' = true := by
  intro v hv
  simp at hv
  rcases hv with rfl | rfl <;> rfl

theorem getD_at {α : Type} {l : List α} {i : Nat} (d : α) (hi : i < l.length) : l[i]? = some (l.getD i d) := by rw [List.getD_eq_getElem?_getD, List.getElem?_eq_getElem hi]; rfl

theorem sold_at {w : World} {p : Option Addr} {n c : Nat} {l : List SoldT} (h : HasE soldC w (.slice p n c) l) {i : Nat} (hi : i < l.length) : ∃ b off, p = some ⟨b, off, none⟩ ∧ w.rangeAt b (off + i * 2) (soldC (l.getD i s0)) ∧ w.cell? ⟨b, off + i * 2, none⟩ = some (.int .u8 (l.getD i s0).c.toNat) ∧ w.cell? ⟨b, off + i * 2 + 1, none⟩ = some (.int .i64 (l.getD i s0).n) := by
  obtain ⟨b, off, h1, h2⟩ := h.at soldC_len (getD_at s0 hi)
  have c0 := h2 0 _ (by decide) rfl
  have c1 := h2 1 _ (by decide) rfl
  rw [← Nat.add_assoc] at c0 c1
  refine ⟨b, off, h1, fun j u hj => ?_, c0, c1⟩
  match j, hj with
  | 0, hj => injection hj with hj; rw [← hj]; exact c0
  | 1, hj => injection hj with hj; rw [← hj]; exact c1
  | j + 2, hj => simp [soldC] at hj

theorem held_at {w : World} {p : Option Addr} {n c : Nat} {l : List HeldT} (h : HasE heldC w (.slice p n c) l) {i : Nat} (hi : i < l.length) : ∃ b off, p = some ⟨b, off, none⟩ ∧ w.rangeAt b (off + i * 4) (heldC (l.getD i h0)) ∧ w.cell? ⟨b, off + i * 4, none⟩ = some (.int .i64 (l.getD i h0).row) ∧ w.cell? ⟨b, off + i * 4 + 1, none⟩ = some (.int .u8 (l.getD i h0).c.toNat) ∧ w.cell? ⟨b, off + i * 4 + 2, none⟩ = some (.string (l.getD i h0).loc) ∧ w.cell? ⟨b, off + i * 4 + 3, none⟩ = some (.int .i64 (l.getD i h0).pax) := by
  obtain ⟨b, off, h1, h2⟩ := h.at heldC_len (getD_at h0 hi)
  have c0 := h2 0 _ (by decide) rfl
  have c1 := h2 1 _ (by decide) rfl
  have c2 := h2 2 _ (by decide) rfl
  have c3 := h2 3 _ (by decide) rfl
  rw [← Nat.add_assoc] at c0 c1 c2 c3
  refine ⟨b, off, h1, fun j u hj => ?_, c0, c1, c2, c3⟩
  match j, hj with
  | 0, hj => injection hj with hj; rw [← hj]; exact c0
  | 1, hj => injection hj with hj; rw [← hj]; exact c1
  | 2, hj => injection hj with hj; rw [← hj]; exact c2
  | 3, hj => injection hj with hj; rw [← hj]; exact c3
  | j + 4, hj => simp [heldC] at hj

theorem leg_boxed (w : World) (T : TypeId) (a b : Value) : ∃ w1, w.alloc (.cells #[a, b] T) = w1 ∧ w1.cell? ⟨w.heap.size, 0, none⟩ = some a ∧ w1.cell? ⟨w.heap.size, 1, none⟩ = some b ∧ Below w.heap.size w w1 ∧ w1.heap.size = w.heap.size + 1 :=
  ⟨_, rfl, World.cell?_alloc_new _ _ _ _, World.cell?_alloc_new _ _ _ _, (Below.refl _ _).alloc (Nat.le_refl _) _, by simp⟩

theorem Rise.bad1 {α : Type} {one : α → Prop} {low : α → α → Prop} {l : List α} {i : Nat} {x : α} (hx : l[i]? = some x) (h1 : ¬ one x) : ¬ Rise one low l := fun h => h1 (h i x hx).1
theorem Rise.bad2 {α : Type} {one : α → Prop} {low : α → α → Prop} {l : List α} {i : Nat} {x y : α} (hx : l[i]? = some x) (h0 : 0 < i) (hy : l[i - 1]? = some y) (h1 : ¬ low y x) : ¬ Rise one low l := fun h => h1 ((h i x hx).2 y h0 hy)

open Classical in
noncomputable def soundLB (s : List SoldT) (h : List HeldT) : Bool := decide (SoundL s h)
theorem soundLB_yes {s : List SoldT} {h : List HeldT} (k : SoundL s h) : soundLB s h = true := by unfold soundLB; simp [k]
theorem soundLB_no {s : List SoldT} {h : List HeldT} (k : ¬ SoundL s h) : soundLB s h = false := by unfold soundLB; simp [k]

/-- The letter ahead of place i. -/
def lastS (s : List SoldT) : Nat → Int
  | 0 => 0
  | i + 1 => ((s.getD i s0).c.toNat : Int)
def lastR (h : List HeldT) : Nat → Int
  | 0 => 0
  | i + 1 => (h.getD i h0).row
def lastC (h : List HeldT) : Nat → UInt8
  | 0 => 0
  | i + 1 => (h.getD i h0).c

theorem lastS_zero (s : List SoldT) : lastS s 0 = 0 := rfl
theorem lastS_succ (s : List SoldT) (i : Nat) : lastS s (i + 1) = ((s.getD i s0).c.toNat : Int) := rfl
theorem lastR_zero (s : List HeldT) : lastR s 0 = 0 := rfl
theorem lastR_succ (s : List HeldT) (i : Nat) : lastR s (i + 1) = (s.getD i h0).row := rfl
theorem lastC_zero (s : List HeldT) : lastC s 0 = 0 := rfl
theorem lastC_succ (s : List HeldT) (i : Nat) : lastC s (i + 1) = (s.getD i h0).c := rfl

theorem last_low {s : List SoldT} {i : Nat} (hi : i < s.length) (ho : oneS (s.getD i s0)) (h : lastS s i < ((s.getD i s0).c.toNat : Int)) : ∀ y, 0 < i → s[i - 1]? = some y → lowS y (s.getD i s0) := by
  intro y h0 hy
  obtain ⟨j, rfl⟩ : ∃ j, i = j + 1 := ⟨i - 1, by omega⟩
  rw [show j + 1 - 1 = j by omega, getD_at s0 (by omega)] at hy
  injection hy with hy
  subst hy
  rw [lastS_succ] at h
  show (s.getD j s0).c.toNat < _
  omega

theorem bL_lo {c : UInt8} (h : bL c = true) : 65 ≤ (c.toNat : Int) ∧ (c.toNat : Int) ≤ 90 := by
  unfold bL isL at h
  exact of_decide_eq_true h

theorem last_not {s : List SoldT} {i : Nat} (hi : i < s.length) (hb : bL (s.getD i s0).c = true) (h : ((s.getD i s0).c.toNat : Int) ≤ lastS s i) : ¬ Rise oneS lowS s := by
  cases i with
  | zero =>
    have := bL_lo hb
    rw [lastS_zero] at h
    omega
  | succ j =>
    refine Rise.bad2 (getD_at s0 hi) (Nat.succ_pos _) (show s[j + 1 - 1]? = some (s.getD j s0) from getD_at s0 (by omega)) fun hl => ?_
    unfold lowS at hl
    rw [lastS_succ] at h
    omega

theorem lasth_low {s : List HeldT} {i : Nat} (hi : i < s.length) (h : lastR s i < (s.getD i h0).row ∨ (lastR s i = (s.getD i h0).row ∧ ((lastC s i).toNat : Int) < ((s.getD i h0).c.toNat : Int))) : ∀ y, 0 < i → s[i - 1]? = some y → lowH y (s.getD i h0) := by
  intro y k0 hy
  obtain ⟨j, rfl⟩ : ∃ j, i = j + 1 := ⟨i - 1, by omega⟩
  rw [show j + 1 - 1 = j by omega, getD_at h0 (by omega)] at hy
  injection hy with hy
  subst hy
  rw [lastR_succ, lastC_succ] at h
  rcases h with h | ⟨h, k⟩
  · exact .inl h
  · exact .inr ⟨h, by omega⟩

theorem lasth_not {s : List HeldT} {i : Nat} (hi : i < s.length) (hb : 1 ≤ (s.getD i h0).row) (h : ¬ (lastR s i < (s.getD i h0).row ∨ (lastR s i = (s.getD i h0).row ∧ ((lastC s i).toNat : Int) < ((s.getD i h0).c.toNat : Int)))) : ¬ Rise oneH lowH s := by
  cases i with
  | zero => exact absurd (.inl (by rw [lastR_zero]; omega)) h
  | succ j =>
    refine Rise.bad2 (getD_at h0 hi) (Nat.succ_pos _) (show s[j + 1 - 1]? = some (s.getD j h0) from getD_at h0 (by omega)) fun hl => h ?_
    unfold lowH at hl
    rw [lastR_succ, lastC_succ]
    rcases hl with hl | ⟨hl, k⟩
    · exact .inl hl
    · exact .inr ⟨hl, by omega⟩

theorem seatT_empty {r : Int} {c : UInt8} : ((seatT r c).toList == []) = !decide (1 ≤ r ∧ r ≤ 99 ∧ bL c = true) := by
  by_cases h : 1 ≤ r ∧ r ≤ 99 ∧ bL c = true
  · rw [decide_eq_true h]
    unfold seatT
    have h' : 1 ≤ r ∧ r ≤ 99 ∧ isL c.toNat = true := h
    rw [if_pos h', beq_eq_false_iff_ne.2]
    · rfl
    · intro e
      have e2 := congrArg List.length e
      rw [ByteArray.toList_eq] at e2
      have : (digA r.toNat ++ ⟨#[c]⟩ : ByteArray).data.toList.length = (digA r.toNat).data.toList.length + 1 := by simp
      rw [this] at e2
      simp at e2
  · rw [decide_eq_false h]
    rw [seatT_no (show ¬ (1 ≤ r ∧ r ≤ 99 ∧ isL c.toNat = true) from h)]
    rw [ByteArray.toList_eq]
    rfl
end Go.Proofs.YtjahkaidinahpaaDoor
