/- Plans, their places and marks: the plain laws. -/
import Derived.Test.YtpmmjccdogjncaaDoorPlnE
import Derived.Test.YtpmmjccdogjncaaDoorPlnM
namespace Go.Proofs.YtpmmjccdogjncaaDoor
open Go.RowKit
set_option linter.unusedSimpArgs false

abbrev St := Int × UInt8

def rowsL (a b : Int) : List Int := (List.range (b + 1 - a).toNat).map fun (k : Nat) => a + (k : Int)

/-- All places of a plan. -/
def placesL (a b : Int) (l : List UInt8) : List St := (rowsL a b).flatMap fun r => l.map fun c => (r, c)

theorem rowsL_len (a b : Int) : (rowsL a b).length = (b + 1 - a).toNat := by simp [rowsL]

theorem rowsL_get {a b : Int} {i : Nat} (h : i < (b + 1 - a).toNat) : (rowsL a b)[i]? = some (a + (i : Int)) := by
  simp [rowsL, h]

theorem flat_len (rs : List Int) (l : List UInt8) : (rs.flatMap fun r => l.map fun c => ((r, c) : St)).length = rs.length * l.length := by
  induction rs with
  | nil => simp
  | cons r rs ih => simp only [List.flatMap_cons, List.length_append, List.length_map, ih, List.length_cons, Nat.succ_mul]; omega

theorem placesL_len (a b : Int) (l : List UInt8) : (placesL a b l).length = (b + 1 - a).toNat * l.length := by
  unfold placesL
  rw [flat_len, rowsL_len]

theorem flat_get (rs : List Int) (l : List UInt8) (i j : Nat) (r : Int) (c : UInt8) (hi : rs[i]? = some r) (hj : l[j]? = some c) : (rs.flatMap fun r => l.map fun c => ((r, c) : St))[i * l.length + j]? = some (r, c) := by
  have hjl : j < l.length := (List.getElem?_eq_some_iff.1 hj).1
  induction rs generalizing i with
  | nil => simp at hi
  | cons x rs ih =>
    cases i with
    | zero =>
      simp at hi
      subst hi
      rw [List.flatMap_cons, List.getElem?_append_left (by simp; omega)]
      simp [hj]
    | succ i =>
      simp at hi
      rw [List.flatMap_cons, List.getElem?_append_right (by simp [Nat.succ_mul]; omega)]
      have := ih i hi
      rw [← this]
      congr 1
      simp [Nat.succ_mul]
      omega

theorem placesL_get {a b : Int} {l : List UInt8} {i j : Nat} {c : UInt8} (hi : i < (b + 1 - a).toNat) (hj : l[j]? = some c) : (placesL a b l)[i * l.length + j]? = some (a + (i : Int), c) :=
  flat_get _ _ i j _ c (rowsL_get hi) hj

theorem mem_rowsL {a b r : Int} : r ∈ rowsL a b ↔ a ≤ r ∧ r ≤ b := by
  unfold rowsL
  simp only [List.mem_map, List.mem_range]
  constructor
  · rintro ⟨k, hk, rfl⟩; omega
  · rintro ⟨h1, h2⟩; exact ⟨(r - a).toNat, by omega, by omega⟩

theorem mem_placesL {a b : Int} {l : List UInt8} {s : St} : s ∈ placesL a b l ↔ a ≤ s.1 ∧ s.1 ≤ b ∧ s.2 ∈ l := by
  obtain ⟨r, c⟩ := s
  unfold placesL
  simp only [List.mem_flatMap, List.mem_map, mem_rowsL]
  constructor
  · rintro ⟨r', ⟨h1, h2⟩, c', hc, e⟩
    injection e with e1 e2
    subst e1; subst e2
    exact ⟨h1, h2, hc⟩
  · rintro ⟨h1, h2, hc⟩
    exact ⟨r, ⟨h1, h2⟩, c, hc, rfl⟩

/-- Letters that rise. -/
def Rises (l : List UInt8) : Prop := l.Pairwise fun a b => a.toNat < b.toNat

theorem Rises.nodup {l : List UInt8} (h : Rises l) : l.Nodup := by
  unfold Rises at h
  rw [List.nodup_iff_pairwise_ne]
  refine h.imp ?_
  intro a b h e
  rw [e] at h
  omega

theorem rows_nodup (a b : Int) : (rowsL a b).Nodup := by
  unfold rowsL
  rw [List.nodup_iff_pairwise_ne, List.pairwise_map]
  have : (List.range (b + 1 - a).toNat).Pairwise (· < ·) := List.pairwise_lt_range
  exact this.imp (fun h e => by omega)

def stLt (s t : St) : Prop := s.1 < t.1 ∨ s.1 = t.1 ∧ s.2.toNat < t.2.toNat

instance (s t : St) : Decidable (stLt s t) := by unfold stLt; infer_instance

theorem stLt_irr (s : St) : ¬ stLt s s := by unfold stLt; omega

theorem flat_rise (rs : List Int) (l : List UInt8) (hr : rs.Pairwise (· < ·)) (hl : Rises l) : (rs.flatMap fun r => l.map fun c => ((r, c) : St)).Pairwise stLt := by
  induction rs with
  | nil => simp
  | cons r rs ih =>
    obtain ⟨h1, h2⟩ := List.pairwise_cons.1 hr
    rw [List.flatMap_cons, List.pairwise_append]
    refine ⟨?_, ih h2, ?_⟩
    · rw [List.pairwise_map]
      exact List.Pairwise.imp (fun {a b} h => .inr ⟨rfl, h⟩) hl
    · intro x hx y hy
      simp only [List.mem_map, List.mem_flatMap] at hx hy
      obtain ⟨c, _, rfl⟩ := hx
      obtain ⟨r', hr', c', _, rfl⟩ := hy
      exact .inl (h1 r' hr')

theorem placesL_rise (a b : Int) {l : List UInt8} (hl : Rises l) : (placesL a b l).Pairwise stLt := by
  refine flat_rise _ _ ?_ hl
  unfold rowsL
  rw [List.pairwise_map]
  have : (List.range (b + 1 - a).toNat).Pairwise (· < ·) := List.pairwise_lt_range
  exact this.imp (fun h => by omega)

theorem placesL_nodup (a b : Int) {l : List UInt8} (hl : Rises l) : (placesL a b l).Nodup := by
  rw [List.nodup_iff_pairwise_ne]
  refine (placesL_rise a b hl).imp ?_
  intro s t h e
  rw [e] at h
  exact stLt_irr t h

/-- The place of a seat in a list, -1: it isn't there. -/
def atL (l : List St) (s : St) : Int := if s ∈ l then (l.idxOf s : Int) else -1

theorem idxOf_get {l : List St} (hn : l.Nodup) {k : Nat} {s : St} (h : l[k]? = some s) : l.idxOf s = k := by
  induction l generalizing k with
  | nil => simp at h
  | cons a t ih =>
    obtain ⟨h1, h2⟩ := List.nodup_cons.1 hn
    rw [List.idxOf_cons]
    cases k with
    | zero => simp at h; subst h; simp
    | succ k =>
      simp at h
      have : (a == s) = false := by rw [beq_eq_false_iff_ne]; exact fun e => h1 (e ▸ List.mem_of_getElem? h)
      rw [this, ih h2 h]
      rfl

theorem get_idxOf {l : List St} {s : St} (h : s ∈ l) : l[l.idxOf s]? = some s := by
  have := List.idxOf_lt_length_of_mem h
  rw [List.getElem?_eq_getElem this, List.getElem_idxOf]

theorem atL_get {l : List St} (hn : l.Nodup) {k : Nat} {s : St} (h : l[k]? = some s) : atL l s = k := by
  unfold atL
  rw [if_pos (List.mem_of_getElem? h), idxOf_get hn h]

theorem atL_neg {l : List St} {s : St} : atL l s < 0 ↔ s ∉ l := by
  unfold atL
  by_cases h : s ∈ l
  · rw [if_pos h]; simp [h]
  · rw [if_neg h]; simp [h]

theorem atL_nn {l : List St} {s : St} : 0 ≤ atL l s ↔ s ∈ l := by
  unfold atL
  by_cases h : s ∈ l
  · rw [if_pos h]; simp [h]
  · rw [if_neg h]; simp [h]

theorem atL_lt (l : List St) (s : St) : atL l s < l.length ∧ -1 ≤ atL l s := by
  unfold atL
  by_cases h : s ∈ l
  · rw [if_pos h]
    have := List.idxOf_lt_length_of_mem h
    omega
  · rw [if_neg h]; omega

/-- Of two places the one that stands ahead is the less. -/
theorem atL_less {l : List St} (hr : l.Pairwise stLt) {s t : St} (hs : s ∈ l) (ht : t ∈ l) : atL l s < atL l t ↔ stLt s t := by
  unfold atL
  rw [if_pos hs, if_pos ht]
  have h1 := List.idxOf_lt_length_of_mem hs
  have h2 := List.idxOf_lt_length_of_mem ht
  have e1 := List.getElem_idxOf h1
  have e2 := List.getElem_idxOf h2
  rw [List.pairwise_iff_getElem] at hr
  constructor
  · intro h
    have := hr _ _ h1 h2 (by omega)
    rwa [e1, e2] at this
  · intro h
    rcases Nat.lt_trichotomy (l.idxOf s) (l.idxOf t) with hc | hc | hc
    · omega
    · exfalso
      have : s = t := by
        have q1 := get_idxOf hs
        have q2 := get_idxOf ht
        rw [hc, q2] at q1
        injection q1 with q1
        exact q1.symm
      subst this
      exact stLt_irr _ h
    · exfalso
      have := hr _ _ h2 h1 hc
      rw [e1, e2] at this
      unfold stLt at h this
      omega

/-- The exits of a plan are right, up to k. -/
def exOk (a b : Int) (x : List Int) (i : Nat) : Prop := a ≤ x.getD i 0 ∧ x.getD i 0 ≤ b ∧ (i = 0 ∨ x.getD (i - 1) 0 < x.getD i 0)

instance (a b : Int) (x : List Int) (i : Nat) : Decidable (exOk a b x i) := by unfold exOk; infer_instance

def st0 : St := (0, 0)

/-- The blocked places are right: as plan.Check asks it. -/
def bkOk (a b : Int) (l : List UInt8) (bk : List St) (i : Nat) : Prop := a ≤ (bk.getD i st0).1 ∧ (bk.getD i st0).1 ≤ b ∧ (bk.getD i st0).2 ∈ l ∧ (i = 0 ∨ stLt (bk.getD (i - 1) st0) (bk.getD i st0))

instance (a b : Int) (l : List UInt8) (bk : List St) (i : Nat) : Decidable (bkOk a b l bk i) := by unfold bkOk; infer_instance

/-- .. as the reference asks it. -/
def lastAt (all bk : List St) : Nat → Int
  | 0 => -1
  | i + 1 => atL all (bk.getD i st0)

def bkAt (all bk : List St) (i : Nat) : Prop := lastAt all bk i < atL all (bk.getD i st0)

instance (all bk : List St) (i : Nat) : Decidable (bkAt all bk i) := by unfold bkAt; infer_instance

theorem bk_same {a b : Int} {l : List UInt8} {bk : List St} (hl : Rises l) (n : Nat) : (∀ i, i < n → bkOk a b l bk i) ↔ ∀ i, i < n → bkAt (placesL a b l) bk i := by
  have hr := placesL_rise a b hl
  induction n with
  | zero => simp
  | succ n ih =>
    have split : ∀ (p : Nat → Prop), (∀ i, i < n + 1 → p i) ↔ (∀ i, i < n → p i) ∧ p n := fun p =>
      ⟨fun h => ⟨fun i hi => h i (by omega), h n (by omega)⟩, fun h i hi => by
        rcases Nat.lt_or_ge i n with h1 | h1
        · exact h.1 i h1
        · rw [show i = n by omega]; exact h.2⟩
    rw [split, split]
    refine (and_congr_left' ih).trans (and_congr_right fun hprev => ?_)
    replace hprev := ih.2 hprev
    cases n with
    | zero =>
      unfold bkOk bkAt
      rw [show lastAt (placesL a b l) bk 0 = -1 from rfl]
      have := @atL_nn (placesL a b l) (bk.getD 0 st0)
      rw [mem_placesL] at this
      constructor
      · intro h; have := this.2 ⟨h.1, h.2.1, h.2.2.1⟩; omega
      · intro h; obtain ⟨h1, h2, h3⟩ := this.1 (by omega); exact ⟨h1, h2, h3, .inl rfl⟩
    | succ n =>
      have hp : bk.getD n st0 ∈ placesL a b l := by
        have := hprev n (by omega)
        exact mem_placesL.2 ⟨this.1, this.2.1, this.2.2.1⟩
      have hp0 := atL_nn.2 hp
      have hi := @atL_nn (placesL a b l) (bk.getD (n + 1) st0)
      unfold bkOk bkAt
      rw [show lastAt (placesL a b l) bk (n + 1) = atL (placesL a b l) (bk.getD n st0) from rfl]
      rw [show n + 1 - 1 = n by omega]
      constructor
      · rintro ⟨h1, h2, h3, h4⟩
        have hm : bk.getD (n + 1) st0 ∈ placesL a b l := mem_placesL.2 ⟨h1, h2, h3⟩
        exact (atL_less hr hp hm).2 (h4.resolve_left (by omega))
      · intro h
        have hm := hi.1 (by omega)
        obtain ⟨h1, h2, h3⟩ := mem_placesL.1 hm
        exact ⟨h1, h2, h3, .inr ((atL_less hr hp hm).1 h)⟩

/-- A plan. -/
structure Pl where
  first : Int
  last : Int
  lets : ByteArray
  exits : List Int
  bks : List St
theorem letF_rises {l a : List UInt8} (h : letF l = some a) : Rises a := (letF_some h).2.2.1

/-- Where the letters of a text stand. -/
theorem letK_at {l a : List UInt8} {k : Nat} (h : letK l k = some a) :
    (∀ i, i < k → (l.getD i 0).toNat ≠ 46 → l.getD i 0 ∈ a) ∧ (∀ c ∈ a, ∃ i, i < k ∧ l.getD i 0 = c) ∧
    ∀ i j, i < j → j < k → (l.getD i 0).toNat ≠ 46 → (l.getD j 0).toNat ≠ 46 → (l.getD i 0).toNat < (l.getD j 0).toNat := by
  induction k generalizing a with
  | zero =>
    injection h with h
    subst h
    exact ⟨fun i hi => absurd hi (Nat.not_lt_zero _), fun c hc => (by cases hc), fun i j _ hj => absurd hj (Nat.not_lt_zero _)⟩
  | succ k ih =>
    have hr := (letK_rise h).1
    rw [letK] at h
    cases hn : letK l k with
    | none => rw [hn] at h; cases h
    | some c =>
      rw [hn] at h
      have h' : letS l k c = some a := h
      obtain ⟨p1, p2, p3⟩ := ih hn
      unfold letS at h'
      split at h'
      · rename_i h46
        split at h'
        · cases h'
        · injection h' with h'
          subst h'
          refine ⟨fun i hi hne => ?_, fun x hx => ?_, fun i j hij hj h1 h2 => ?_⟩
          · rcases Nat.lt_or_ge i k with hk | hk
            · exact p1 i hk hne
            · rw [show i = k by omega] at hne; exact absurd h46 hne
          · obtain ⟨i, hi, e⟩ := p2 x hx
            exact ⟨i, by omega, e⟩
          · rcases Nat.lt_or_ge j k with hk | hk
            · exact p3 i j hij hk h1 h2
            · rw [show j = k by omega] at h2; exact absurd h46 h2
      · split at h'
        · injection h' with h'
          subst h'
          have hlt : ∀ y ∈ c, y.toNat < (l.getD k 0).toNat := fun y hy => (List.pairwise_append.1 hr).2.2 y hy _ (by simp)
          refine ⟨fun i hi hne => ?_, fun x hx => ?_, fun i j hij hj h1 h2 => ?_⟩
          · rcases Nat.lt_or_ge i k with hk | hk
            · exact List.mem_append_left _ (p1 i hk hne)
            · rw [show i = k by omega]; simp
          · rcases List.mem_append.1 hx with h1 | h1
            · obtain ⟨i, hi, e⟩ := p2 x h1
              exact ⟨i, by omega, e⟩
            · exact ⟨k, by omega, (List.mem_singleton.1 h1).symm⟩
          · rcases Nat.lt_or_ge j k with hk | hk
            · exact p3 i j hij hk h1 h2
            · rw [show j = k by omega]
              exact hlt _ (p1 i (by omega) h1)
        · cases h'

/-- A letter of a text stands in it once. -/
theorem letF_at {l a : List UInt8} (h : letF l = some a) : (∀ i, i < l.length → (l.getD i 0).toNat ≠ 46 → l.getD i 0 ∈ a) ∧ (∀ c ∈ a, ∃ i, i < l.length ∧ l.getD i 0 = c) ∧
    ∀ i j, i < l.length → j < l.length → (l.getD i 0).toNat ≠ 46 → l.getD i 0 = l.getD j 0 → i = j := by
  cases hn : letK l l.length with
  | none => rw [letF_none hn (Nat.le_refl _)] at h; cases h
  | some b =>
    rw [letF_end hn] at h
    split at h
    · injection h with h
      subst h
      obtain ⟨p1, p2, p3⟩ := letK_at hn
      refine ⟨p1, p2, fun i j hi hj hne he => ?_⟩
      rcases Nat.lt_trichotomy i j with hc | hc | hc
      · have := p3 i j hc hj hne (by rw [← he]; exact hne)
        rw [he] at this; omega
      · exact hc
      · have := p3 j i hc hi (by rw [← he]; exact hne) hne
        rw [he] at this; omega
    · cases h

theorem let_not46 {l a : List UInt8} (h : letF l = some a) {c : UInt8} (hc : c ∈ a) : c.toNat ≠ 46 := by
  have := (letF_some h).2.2.2 c hc
  unfold isL at this
  have := of_decide_eq_true this
  omega

/-- The place of a byte in a text. -/
theorem idx_letter {l a : List UInt8} (h : letF l = some a) {c : UInt8} (hc : c ∈ a) : l.idxOf c < l.length ∧ l.getD (l.idxOf c) 0 = c ∧ ∀ i, i < l.length → (l.getD i 0 = c ↔ i = l.idxOf c) := by
  obtain ⟨p1, p2, p3⟩ := letF_at h
  obtain ⟨i, hi, e⟩ := p2 c hc
  have hm : c ∈ l := by
    rw [← e, List.getD_eq_getElem?_getD, List.getElem?_eq_getElem hi]
    exact List.getElem_mem hi
  have h1 := List.idxOf_lt_length_of_mem hm
  have h2 : l.getD (l.idxOf c) 0 = c := by
    rw [List.getD_eq_getElem?_getD, List.getElem?_eq_getElem h1]
    exact List.getElem_idxOf h1
  refine ⟨h1, h2, fun j hj => ⟨fun e => ?_, fun e => by rw [e]; exact h2⟩⟩
  exact p3 j _ hj h1 (by rw [e]; exact let_not46 h hc) (e.trans h2.symm)

def wOf (bs : List UInt8) (k : Nat) : Bool := decide (k = 0 ∨ k + 1 = bs.length)
def aOf (bs : List UInt8) (k : Nat) : Bool := decide (0 < k ∧ (bs.getD (k - 1) 0).toNat = 46 ∨ k + 1 < bs.length ∧ (bs.getD (k + 1) 0).toNat = 46)

/-- As many E as there are exits of this row. -/
def exE (x : List Int) (r : Int) : List UInt8 := (x.filter fun y => decide (y = r)).map fun _ => 69

/-- The marks of a place. -/
def marksL (bs : List UInt8) (x : List Int) (s : St) : List UInt8 :=
  (if wOf bs (bs.idxOf s.2) = true then [87] else []) ++ (if aOf bs (bs.idxOf s.2) = true then [65] else []) ++ exE x s.1

theorem exE_len (x : List Int) (r : Int) : (exE x r).length ≤ x.length := by
  unfold exE
  rw [List.length_map]
  exact List.length_filter_le _ _

theorem exE_take {x : List Int} {k : Nat} (hk : k < x.length) (r : Int) : exE (x.take (k + 1)) r = if x.getD k 0 = r then exE (x.take k) r ++ [69] else exE (x.take k) r := by
  unfold exE
  have e : x.take (k + 1) = x.take k ++ [x.getD k 0] := by
    rw [List.take_add_one, List.getD_eq_getElem?_getD, List.getElem?_eq_getElem hk]
    rfl
  rw [e, List.filter_append, List.map_append]
  by_cases h : x.getD k 0 = r
  · rw [if_pos h]; simp only [h, List.filter_cons, List.filter_nil, decide_true, if_true, List.map_cons, List.map_nil]
  · rw [if_neg h]; simp only [h, List.filter_cons, List.filter_nil, decide_false, Bool.false_eq_true, if_false, List.map_nil, List.append_nil]

theorem exE_all (x : List Int) (r : Int) : exE (x.take x.length) r = exE x r := by rw [List.take_length]

def rightP (p : Pl) (l : List UInt8) : Prop := 1 ≤ p.first ∧ p.first ≤ p.last ∧ p.last ≤ 60 ∧ p.bks.length ≤ 40 ∧ (∀ i, i < p.exits.length → exOk p.first p.last p.exits i) ∧ ∀ i, i < p.bks.length → bkOk p.first p.last l p.bks i

instance (p : Pl) (l : List UInt8) : Decidable (rightP p l) := by unfold rightP; infer_instance

/-- Is a plan right? -/
def rightB (p : Pl) : Bool := match letF p.lets.data.toList with | none => false | some l => decide (rightP p l)

theorem rightB_some {p : Pl} (h : rightB p = true) : ∃ l, letF p.lets.data.toList = some l ∧ rightP p l := by
  unfold rightB at h
  split at h
  · cases h
  · rename_i l hl
    exact ⟨l, hl, of_decide_eq_true h⟩

theorem rightB_of {p : Pl} {l : List UInt8} (hl : letF p.lets.data.toList = some l) : rightB p = decide (rightP p l) := by
  unfold rightB
  rw [hl]

theorem rightB_none {p : Pl} (hl : letF p.lets.data.toList = none) : rightB p = false := by
  unfold rightB
  rw [hl]

theorem exits_few {a b : Int} {x : List Int} (h : ∀ i, i < x.length → exOk a b x i) : ∀ i, i < x.length → a + (i : Int) ≤ x.getD i 0 := by
  intro i
  induction i with
  | zero => intro hi; have := (h 0 hi).1; omega
  | succ i ih =>
    intro hi
    have h1 := ih (by omega)
    have h2 := (h (i + 1) hi).2.2
    rw [show i + 1 - 1 = i by omega] at h2
    omega

/-- The exits of a plan that is right are 60 at most. -/
theorem right_exits {p : Pl} {l : List UInt8} (h : rightP p l) : p.exits.length ≤ 60 := by
  obtain ⟨h1, h2, h3, _, h5, _⟩ := h
  rcases Nat.eq_zero_or_pos p.exits.length with h0 | h0
  · omega
  · have a1 := exits_few h5 (p.exits.length - 1) (by omega)
    have a2 := (h5 (p.exits.length - 1) (by omega)).2.1
    omega

theorem right_places {p : Pl} {l : List UInt8} (h : rightP p l) (hl : letF p.lets.data.toList = some l) : 0 < (placesL p.first p.last l).length ∧ (placesL p.first p.last l).length ≤ 600 := by
  obtain ⟨h1, h2, h3, _⟩ := h
  obtain ⟨l1, l2, _⟩ := letF_some hl
  rw [placesL_len]
  have : 0 < (p.last + 1 - p.first).toNat := by omega
  constructor
  · exact Nat.mul_pos this l1
  · calc (p.last + 1 - p.first).toNat * l.length ≤ 60 * 10 := Nat.mul_le_mul (by omega) l2
      _ = 600 := rfl
end Go.Proofs.YtpmmjccdogjncaaDoor
