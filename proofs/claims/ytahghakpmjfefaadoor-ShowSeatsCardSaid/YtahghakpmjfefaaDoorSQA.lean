/- A map of seats shows as many signs as there are seats: the plain law. -/
import Derived.Test.YtahghakpmjfefaaDoorSV
namespace Go.Proofs.YtahghakpmjfefaaDoor.Sh
open Go.RowKit Go.ChangeMaps En
set_option linter.unusedSimpArgs false
set_option linter.unusedVariables false
set_option maxRecDepth 20000

theorem take_getD {α : Type} (d : α) {l : List α} {i : Nat} (h : i < l.length) : l.take (i + 1) = l.take i ++ [l.getD i d] := by
  rw [List.take_succ_eq_append_getElem h]
  simp [List.getD, h]
theorem letK_filter {l : List UInt8} : ∀ {k : Nat} {a : List UInt8}, k ≤ l.length → letK l k = some a → a = (l.take k).filter fun c => decide (c.toNat ≠ 46)
  | 0, a, _, h => by
    injection h with h
    subst h
    rfl
  | k + 1, a, hk, h => by
    rw [letK] at h
    cases hn : letK l k with
    | none => rw [hn] at h; cases h
    | some c =>
      rw [hn] at h
      have h' : letS l k c = some a := h
      have ih := letK_filter (Nat.le_of_succ_le hk) hn
      rw [take_getD 0 hk, List.filter_append, ← ih]
      unfold letS at h'
      by_cases h46 : (l.getD k 0).toNat = 46
      · rw [if_pos h46] at h'
        split at h'
        · cases h'
        · injection h' with h'
          rw [List.filter_cons_of_neg (by simpa using h46)]
          simp [h']
      · rw [if_neg h46] at h'
        split at h'
        · injection h' with h'
          rw [List.filter_cons_of_pos (by simpa using h46), List.filter_nil]
          exact h'.symm
        · cases h'
theorem letF_filter {l a : List UInt8} (h : letF l = some a) : a = l.filter fun c => decide (c.toNat ≠ 46) := by
  unfold letF at h
  cases hn : letK l l.length with
  | none => rw [hn] at h; cases h
  | some c =>
    rw [hn] at h
    have h' : (if 0 < c.length ∧ c.length ≤ 10 then some c else none) = some a := h
    split at h'
    · injection h' with h'
      have := letK_filter (Nat.le_refl _) hn
      rw [List.take_length] at this
      rw [← h', this]
    · cases h'

theorem count_dots (f : UInt8 → UInt8) (hf : ∀ c : UInt8, c.toNat = 46 → f c = 32) (b : UInt8) (hb : b ≠ 32) (L : List UInt8) : (L.map f).count b = (L.filter fun c => decide (c.toNat ≠ 46)).countP fun c => f c == b := by
  induction L with
  | nil => rfl
  | cons c t ih =>
    rw [List.map_cons, List.count_cons, ih]
    by_cases h : c.toNat = 46
    · rw [List.filter_cons_of_neg (by simpa using h), hf c h]
      have : ((32 : UInt8) == b) = false := by rw [beq_eq_false_iff_ne]; exact fun e => hb e.symm
      simp [this]
    · rw [List.filter_cons_of_pos (by simpa using h), List.countP_cons]
def marksA (p : Pl) (l : List UInt8) (held : List HeT) (loc : ByteArray) (r : Int) : List UInt8 := p.lets.data.toList.map fun c => markC p l held loc (r, c)
theorem count_all {p : Pl} {l : List UInt8} {held : List HeT} {loc : ByteArray} (hl : letF p.lets.data.toList = some l) (b : UInt8) (hb : b ≠ 32) (R : List Int) :
    (R.flatMap (marksA p l held loc)).count b = (R.flatMap fun r => l.map fun c => (r, c)).countP fun s => markC p l held loc s == b := by
  have hlf := letF_filter hl
  induction R with
  | nil => rfl
  | cons r t ih =>
    rw [List.flatMap_cons, List.count_append, ih, List.flatMap_cons, List.countP_append, List.countP_map]
    congr 1
    unfold marksA
    rw [count_dots (fun c => markC p l held loc (r, c)) (fun c hc => mark_dot (s := (r, c)) hc) b hb, ← hlf]
    rfl
def wantB (held : List HeT) (s : St) : Bool := (whoH held s).isSome
def ownB (held : List HeT) (loc : ByteArray) (s : St) : Bool := (whoH held s).isSome && decide ((hoOf held s).1 = loc)
theorem seats_sum {p : Pl} {l : List UInt8} {held : List HeT} {loc : ByteArray} (P : List St) (hP : ∀ s ∈ P, s.2.toNat ≠ 46) :
    (P.countP (fun s => markC p l held loc s == 111) + P.countP (fun s => markC p l held loc s == 88) + P.countP (fun s => markC p l held loc s == 43) = (P.filter (hasB p l)).length ∧
    P.countP (fun s => markC p l held loc s == 88) + P.countP (fun s => markC p l held loc s == 43) = (P.filter (hasB p l)).countP (wantB held) ∧
    P.countP (fun s => markC p l held loc s == 43) = (P.filter (hasB p l)).countP (ownB held loc)) := by
  induction P with
  | nil => exact ⟨rfl, rfl, rfl⟩
  | cons s t ih =>
    obtain ⟨i1, i2, i3⟩ := ih fun x hx => hP x (List.mem_cons_of_mem _ hx)
    have h46 := hP s List.mem_cons_self
    simp only [List.countP_cons, List.filter_cons]
    cases hB : hasB p l s with
    | false =>
      rw [mark_none h46 hB]
      simp
      exact ⟨i1, i2, i3⟩
    | true =>
      cases hw : (whoH held s).isSome with
      | false =>
        rw [mark_free h46 hB hw]
        simp [List.countP_cons, wantB, ownB, hw]
        exact ⟨by rw [← i1]; omega, i2, i3⟩
      | true =>
        by_cases hl : (hoOf held s).1 = loc
        · rw [mark_mine h46 hB hw hl]
          simp [List.countP_cons, wantB, ownB, hw, hl]
          exact ⟨by rw [← i1]; omega, by rw [← show _ = List.countP (wantB held) _ from i2]; omega, i3⟩
        · rw [mark_other h46 hB hw hl]
          simp [List.countP_cons, wantB, ownB, hw, hl]
          exact ⟨by rw [← i1]; omega, by rw [← show _ = List.countP (wantB held) _ from i2]; omega, i3⟩
def K8 (b : UInt8) (T : List UInt8) : Int := (T.count b : Nat)
theorem K8_snoc (b x : UInt8) (T : List UInt8) : K8 b (T ++ [x]) = K8 b T + if x = b then 1 else 0 := by
  unfold K8
  rw [List.count_append, List.count_singleton]
  by_cases h : x = b
  · rw [if_pos h]; simp [h]
  · rw [if_neg h]; simp [h]
theorem K8_le (b : UInt8) (T : List UInt8) : 0 ≤ K8 b T ∧ K8 b T ≤ (T.length : Int) := by
  unfold K8
  exact ⟨Int.natCast_nonneg _, by exact_mod_cast List.count_le_length⟩
theorem seats_plain {p : Pl} {l : List UInt8} {held : List HeT} {loc : ByteArray} (hl : letF p.lets.data.toList = some l) :
    K8 111 ((rowsL p.first p.last).flatMap (marksA p l held loc)) + K8 88 ((rowsL p.first p.last).flatMap (marksA p l held loc)) + K8 43 ((rowsL p.first p.last).flatMap (marksA p l held loc)) = (((placesL p.first p.last l).filter fun s => !decide (s ∈ p.bks)).length : Int) ∧
    K8 88 ((rowsL p.first p.last).flatMap (marksA p l held loc)) + K8 43 ((rowsL p.first p.last).flatMap (marksA p l held loc)) = ((((placesL p.first p.last l).filter fun s => !decide (s ∈ p.bks)).countP (wantB held) : Nat) : Int) ∧
    K8 43 ((rowsL p.first p.last).flatMap (marksA p l held loc)) = ((((placesL p.first p.last l).filter fun s => !decide (s ∈ p.bks)).countP (ownB held loc) : Nat) : Int) := by
  have hP : ∀ s ∈ placesL p.first p.last l, s.2.toNat ≠ 46 := by
    intro s hs
    obtain ⟨r, _, hs⟩ := List.mem_flatMap.1 hs
    obtain ⟨c, hc, rfl⟩ := List.mem_map.1 hs
    exact let_not46 hl hc
  have hf : (placesL p.first p.last l).filter (fun s => !decide (s ∈ p.bks)) = (placesL p.first p.last l).filter (hasB p l) := List.filter_congr fun s hs => by
    unfold hasB
    rw [decide_eq_true hs]
    rfl
  have hs := seats_sum (p := p) (l := l) (held := held) (loc := loc) _ hP
  rw [hf]
  unfold K8
  rw [count_all hl 111 (by decide), count_all hl 88 (by decide), count_all hl 43 (by decide)]
  obtain ⟨h1, h2, h3⟩ := hs
  unfold placesL at h1 h2 h3 ⊢
  refine ⟨?_, ?_, ?_⟩
  · rw [← h1]; push_cast; rfl
  · rw [← h2]; push_cast; rfl
  · rw [← h3]
end Go.Proofs.YtahghakpmjfefaaDoor.Sh
