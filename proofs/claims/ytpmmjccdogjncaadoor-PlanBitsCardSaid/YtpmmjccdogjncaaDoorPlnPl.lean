/- The laws PlanBack and PlanRows: the plain laws. -/
import Derived.Test.YtpmmjccdogjncaaDoorPlnAD
namespace Go.Proofs.YtpmmjccdogjncaaDoor
open Go.RowKit
set_option linter.unusedSimpArgs false
set_option linter.unusedVariables false

/-! Seats come back from their bits. -/

theorem bit_words {P L : List St} {i : Nat} (h : i < 64 * nWords P) : bitAt (wordsN P L) i = inL P L i := by
  unfold bitAt
  rw [wordsN_getD (by omega), wordN_bit _ _ _ _ (Nat.mod_lt _ (by omega))]
  congr 1
  omega

theorem take_some {P : List St} {i : Nat} {s : St} (h : P[i]? = some s) : P.take (i + 1) = P.take i ++ [s] := by
  rw [List.take_add_one, h]; rfl

theorem ofK_words {P L : List St} {q : St → Bool} (hq : ∀ s ∈ L, q s = true) : ∀ i, i ≤ 64 * nWords P → ofK P q (wordsN P L) i = some ((P.take i).filter fun s => decide (s ∈ L))
  | 0, _ => by simp [ofK]
  | i + 1, h => by
    have ih := ofK_words (P := P) hq i (by omega)
    have hb := bit_words (P := P) (L := L) (i := i) (by omega)
    cases hp : P[i]? with
    | none =>
      have hlen : P.length ≤ i := by
        rcases Nat.lt_or_ge i P.length with h1 | h1
        · rw [List.getElem?_eq_getElem h1] at hp; cases hp
        · exact h1
      have hf : bitAt (wordsN P L) i = false := by rw [hb]; unfold inL; rw [hp]
      rw [ofK_skip ih hf, List.take_of_length_le (by omega), List.take_of_length_le (by omega)]
    | some s =>
      have hlen : i < P.length := (List.getElem?_eq_some_iff.1 hp).1
      have hd : P.getD i st0 = s := by rw [List.getD_eq_getElem?_getD, hp]; rfl
      rw [inL_at hp] at hb
      rw [take_some hp, List.filter_append]
      by_cases hs : s ∈ L
      · have hbt : bitAt (wordsN P L) i = true := by rw [hb, decide_eq_true hs]
        rw [ofK_take ih hbt hlen (by rw [hd]; exact hq s hs), hd]
        simp [hs]
      · have hbf : bitAt (wordsN P L) i = false := by rw [hb, decide_eq_false hs]
        rw [ofK_skip ih hbf]
        simp [hs]

/-- The bits of seats, and the seats of these bits. -/
theorem back_seats {P L : List St} {q : St → Bool} (hq : ∀ s ∈ L, q s = true) (hn : L.Nodup) :
    bitsE q L = 0 ∧ bitsR P q L = wordsN P L ∧ ofE P q (wordsN P L) = 0 ∧ ofR P q (wordsN P L) = P.filter fun s => decide (s ∈ L) := by
  have hall : L.all q = true := by rw [List.all_eq_true]; exact hq
  have h0 : bitsE q L = 0 := bitsE_ok hall (by rw [List.take_length]; exact hn)
  have h1 := ofK_words (P := P) hq (64 * nWords P) (Nat.le_refl _)
  rw [List.take_of_length_le (by unfold nWords; omega)] at h1
  have h2 := ofE_yes (q := q) (o := P.filter fun s => decide (s ∈ L)) (wordsN_len P L) (by rw [wordsN_len]; exact h1)
  exact ⟨h0, bitsR_ok h0, h2.1, h2.2⟩

theorem filter_twice {P L : List St} {q : St → Bool} (hq : ∀ s ∈ L, q s = true) : (P.filter fun s => decide (s ∈ L)) = (P.filter q).filter fun s => decide (s ∈ L) := by
  rw [List.filter_filter]
  congr 1
  funext s
  by_cases h : s ∈ L
  · simp [h, hq s h]
  · simp [h]

/-- What the seats of bits are. -/
theorem ofK_inv {P : List St} {q : St → Bool} {W : List Nat} (hn : P.Nodup) : ∀ (i : Nat) (o : List St), ofK P q W i = some o →
    (∀ s ∈ o, s ∈ P.take i ∧ q s = true) ∧ o.Nodup ∧ ∀ j, j < i → bitAt W j = inL P o j
  | 0, o, h => by
    simp [ofK] at h
    subst h
    exact ⟨fun s hs => by simp at hs, List.nodup_nil, fun j hj => absurd hj (Nat.not_lt_zero _)⟩
  | i + 1, o, h => by
    cases hk : ofK P q W i with
    | none => rw [ofK_no hk (Nat.le_succ i)] at h; cases h
    | some o' =>
      obtain ⟨h1, h2, h3⟩ := ofK_inv hn i o' hk
      have hmono : ∀ s, s ∈ P.take i → s ∈ P.take (i + 1) := fun s hs => (List.take_subset_take_left P (Nat.le_succ i)) hs
      cases hb : bitAt W i with
      | false =>
        rw [ofK_skip hk hb] at h
        injection h with h
        subst h
        refine ⟨fun s hs => ⟨hmono s (h1 s hs).1, (h1 s hs).2⟩, h2, fun j hj => ?_⟩
        rcases Nat.lt_or_ge j i with hji | hji
        · exact h3 j hji
        · have hj' : j = i := by omega
          subst hj'
          rw [hb]
          unfold inL
          cases hp : P[j]? with
          | none => rfl
          | some s =>
            symm
            refine decide_eq_false fun hs => ?_
            have hm := (h1 s hs).1
            obtain ⟨k, hk1, hk2⟩ := List.getElem_of_mem hm
            have hk3 : P[k]? = some s := by
              have hkl : k < j := by rw [List.length_take] at hk1; omega
              rw [← List.getElem?_take_of_lt hkl, List.getElem?_eq_getElem hk1, hk2]
            have e1 := idxOf_get hn hp
            have e2 := idxOf_get hn hk3
            rw [List.length_take] at hk1
            omega
      | true =>
        by_cases hi : i < P.length ∧ q (P.getD i st0) = true
        · rw [ofK_take hk hb hi.1 hi.2] at h
          injection h with h
          subst h
          have hp : P[i]? = some (P.getD i st0) := by rw [List.getD_eq_getElem?_getD, List.getElem?_eq_getElem hi.1]; rfl
          generalize P.getD i st0 = s at *
          have hns : s ∉ o' := fun hs => by
            have hm := (h1 s hs).1
            obtain ⟨k, hk1, hk2⟩ := List.getElem_of_mem hm
            have hkl : k < i := by rw [List.length_take] at hk1; omega
            have hk3 : P[k]? = some s := by rw [← List.getElem?_take_of_lt hkl, List.getElem?_eq_getElem hk1, hk2]
            have e1 := idxOf_get hn hp
            have e2 := idxOf_get hn hk3
            omega
          refine ⟨fun t ht => ?_, List.nodup_append.2 ⟨h2, List.pairwise_singleton _ _, fun a ha b hb e => hns (by rw [← List.mem_singleton.1 hb, ← e]; exact ha)⟩, fun j hj => ?_⟩
          · rcases List.mem_append.1 ht with h4 | h4
            · exact ⟨hmono t (h1 t h4).1, (h1 t h4).2⟩
            · have : t = s := List.mem_singleton.1 h4
              subst this
              refine ⟨?_, hi.2⟩
              rw [take_some hp]
              simp
          · rw [inL_push hn hp]
            rcases Nat.lt_or_ge j i with hji | hji
            · rw [h3 j hji, decide_eq_false (by omega), Bool.or_false]
            · have hj' : j = i := by omega
              subst hj'
              rw [hb, decide_eq_true rfl, Bool.or_true]
        · rw [ofK_bad hk hb hi] at h
          cases h

theorem bitAt_at {W : List Nat} {j k : Nat} (hk : k < 64) : bitAt W (64 * j + k) = (W.getD j 0).testBit k := by
  unfold bitAt
  rw [show (64 * j + k) / 64 = j by omega, show (64 * j + k) % 64 = k by omega]

/-- The seats of bits, and the bits of these seats. -/
theorem back_bits {P : List St} {q : St → Bool} {W : List Nat} (hn : P.Nodup) (hwf : ∀ x ∈ W, x < 2 ^ 64) (h : ofE P q W = 0) :
    bitsE q (ofR P q W) = 0 ∧ bitsR P q (ofR P q W) = W := by
  unfold ofE at h
  split at h
  · rename_i hl
    cases hk : ofK P q W (64 * W.length) with
    | none => rw [hk] at h; simp at h
    | some x =>
      have hr : ofR P q W = x := (ofE_yes hl hk).2
      obtain ⟨h1, h2, h3⟩ := ofK_inv hn _ x hk
      have hall : x.all q = true := by rw [List.all_eq_true]; exact fun s hs => (h1 s hs).2
      have h0 : bitsE q x = 0 := bitsE_ok hall (by rw [List.take_length]; exact h2)
      rw [hr]
      refine ⟨h0, ?_⟩
      rw [bitsR_ok h0]
      apply List.ext_getElem?
      intro j
      by_cases hj : j < W.length
      · rw [wordsN_get (by omega), List.getElem?_eq_getElem hj]
        congr 1
        refine word_ext (wordN_lt _ _ _) (hwf _ (List.getElem_mem hj)) fun k hk => ?_
        rw [wordN_bit _ _ _ _ hk, ← h3 (64 * j + k) (by omega), bitAt_at hk, List.getD_eq_getElem?_getD, List.getElem?_eq_getElem hj]
        rfl
      · rw [List.getElem?_eq_none (by rw [wordsN_len]; omega), List.getElem?_eq_none (by omega)]
  · cases h

theorem ofK_few {P : List St} {q : St → Bool} {W : List Nat} : ∀ (i : Nat) (o : List St), ofK P q W i = some o → o.length ≤ i ∧ o.length ≤ P.length
  | 0, o, h => by
    simp [ofK] at h
    subst h
    exact ⟨Nat.le_refl _, Nat.zero_le _⟩
  | i + 1, o, h => by
    cases hk : ofK P q W i with
    | none => rw [ofK_no hk (Nat.le_succ i)] at h; cases h
    | some o' =>
      obtain ⟨h1, h2⟩ := ofK_few i o' hk
      cases hb : bitAt W i with
      | false =>
        rw [ofK_skip hk hb] at h
        injection h with h
        subst h
        exact ⟨by omega, h2⟩
      | true =>
        by_cases hi : i < P.length ∧ q (P.getD i st0) = true
        · rw [ofK_take hk hb hi.1 hi.2] at h
          injection h with h
          subst h
          rw [List.length_append, List.length_singleton]
          omega
        · rw [ofK_bad hk hb hi] at h
          cases h

theorem ofR_len {P : List St} {q : St → Bool} {W : List Nat} (hn : P.Nodup) : (ofR P q W).length ≤ P.length ∧ ∀ s ∈ ofR P q W, s ∈ P := by
  unfold ofR
  split
  · cases hk : ofK P q W (64 * W.length) with
    | none => exact ⟨Nat.zero_le _, fun s hs => by cases hs⟩
    | some x =>
      obtain ⟨h1, h2, _⟩ := ofK_inv hn _ x hk
      have hsub : ∀ s ∈ x, s ∈ P := fun s hs => List.mem_of_mem_take (h1 s hs).1
      exact ⟨(ofK_few _ x hk).2, hsub⟩
  · exact ⟨Nat.zero_le _, fun s hs => by cases hs⟩

theorem ofR_no {P : List St} {q : St → Bool} {W : List Nat} (h : ofE P q W ≠ 0) : ofR P q W = [] := by
  unfold ofE at h
  unfold ofR
  split at h
  · rename_i hl
    rw [if_pos hl]
    cases hk : ofK P q W (64 * W.length) with
    | none => rfl
    | some x => rw [hk] at h; simp at h
  · rename_i hl
    rw [if_neg hl]

/-! The places of a plan, row for row. -/

def nd (c : UInt8) : Bool := decide (c.toNat ≠ 46)
def cntL (bs : List UInt8) (i : Nat) : Nat := ((bs.take i).filter nd).length

theorem nd_yes {c : UInt8} (h : c.toNat ≠ 46) : [c].filter nd = [c] := by simp [nd, h]
theorem nd_no {c : UInt8} (h : c.toNat = 46) : [c].filter nd = [] := by simp [nd, h]
theorem nd_get (pre post : List UInt8) (c : UInt8) (h : c.toNat ≠ 46) : ((pre ++ c :: post).filter nd)[(pre.filter nd).length]? = some c := by
  rw [List.filter_append, List.filter_cons, if_pos (by simpa [nd] using h), List.getElem?_append_right (Nat.le_refl _), Nat.sub_self]
  rfl

theorem letK_filter {bs : List UInt8} : ∀ {k : Nat} {a : List UInt8}, k ≤ bs.length → letK bs k = some a → a = (bs.take k).filter nd
  | 0, a, _, h => by injection h with h; subst h; simp
  | k + 1, a, hk, h => by
    rw [letK] at h
    cases hn : letK bs k with
    | none => rw [hn] at h; cases h
    | some c =>
      rw [hn] at h
      have ih := letK_filter (a := c) (by omega) hn
      have h' : letS bs k c = some a := h
      have hg : bs[k]? = some (bs.getD k 0) := by rw [List.getD_eq_getElem?_getD, List.getElem?_eq_getElem (by omega)]; rfl
      have ht : bs.take (k + 1) = bs.take k ++ [bs.getD k 0] := by rw [List.take_add_one, hg]; rfl
      rw [ht, List.filter_append, ← ih]
      unfold letS at h'
      split at h'
      · rename_i h46
        split at h'
        · cases h'
        · injection h' with h'
          subst h'
          rw [nd_no h46, List.append_nil]
      · rename_i h46
        split at h'
        · injection h' with h'
          subst h'
          rw [nd_yes h46]
        · cases h'

theorem letF_filter {bs a : List UInt8} (h : letF bs = some a) : a = bs.filter nd := by
  cases hn : letK bs bs.length with
  | none => rw [letF_none hn (Nat.le_refl _)] at h; cases h
  | some b =>
    rw [letF_end hn] at h
    split at h
    · injection h with h
      subst h
      have := letK_filter (a := b) (Nat.le_refl _) hn
      rwa [List.take_length] at this
    · cases h

theorem cntL_next {bs : List UInt8} {i : Nat} (h : i < bs.length) : cntL bs (i + 1) = cntL bs i + (if (bs.getD i 0).toNat = 46 then 0 else 1) := by
  have hg : bs[i]? = some (bs.getD i 0) := by rw [List.getD_eq_getElem?_getD, List.getElem?_eq_getElem h]; rfl
  have ht : bs.take (i + 1) = bs.take i ++ [bs.getD i 0] := by rw [List.take_add_one, hg]; rfl
  unfold cntL
  rw [ht, List.filter_append, List.length_append]
  by_cases h46 : (bs.getD i 0).toNat = 46
  · rw [if_pos h46, nd_no h46]; rfl
  · rw [if_neg h46, nd_yes h46]; rfl

theorem cntL_le (bs : List UInt8) (i : Nat) : cntL bs i ≤ i := by
  unfold cntL
  have := List.length_filter_le nd (bs.take i)
  rw [List.length_take] at this
  omega

theorem cntL_all {bs a : List UInt8} (h : letF bs = some a) : cntL bs bs.length = a.length := by
  unfold cntL
  rw [List.take_length, ← letF_filter h]

theorem letter_at {bs a : List UInt8} (h : letF bs = some a) {i : Nat} (hi : i < bs.length) (h46 : (bs.getD i 0).toNat ≠ 46) : a[cntL bs i]? = some (bs.getD i 0) := by
  have hg : bs[i]? = some (bs.getD i 0) := by rw [List.getD_eq_getElem?_getD, List.getElem?_eq_getElem hi]; rfl
  have hsplit : bs = bs.take i ++ (bs.getD i 0) :: bs.drop (i + 1) := by
    have h1 := (List.take_append_drop i bs).symm
    have h2 : bs.drop i = bs.getD i 0 :: bs.drop (i + 1) := by
      rw [List.drop_eq_getElem_cons hi, List.getD_eq_getElem?_getD, List.getElem?_eq_getElem hi]; rfl
    rw [h2] at h1
    exact h1
  have := nd_get (bs.take i) (bs.drop (i + 1)) (bs.getD i 0) h46
  rw [← hsplit, ← letF_filter h] at this
  exact this

/-- The number of a place, row for row. -/
theorem number_at {p : Pl} {l : List UInt8} (hl : letF p.lets.data.toList = some l) {k i : Nat} (hk : p.first + (k : Int) ≤ p.last) (hi : i < p.lets.data.toList.length) (h46 : (p.lets.data.toList.getD i 0).toNat ≠ 46) :
    atL (placesL p.first p.last l) (p.first + (k : Int), p.lets.data.toList.getD i 0) = ((k * l.length + cntL p.lets.data.toList i : Nat) : Int) :=
  atL_get (placesL_nodup _ _ (letF_rises hl)) (placesL_get (by omega) (letter_at hl hi h46))

theorem place_at {p : Pl} {l : List UInt8} (hl : letF p.lets.data.toList = some l) {k i : Nat} (hk : p.first + (k : Int) ≤ p.last) (hi : i < p.lets.data.toList.length) (h46 : (p.lets.data.toList.getD i 0).toNat ≠ 46) :
    (p.first + (k : Int), p.lets.data.toList.getD i 0) ∈ placesL p.first p.last l :=
  List.mem_of_getElem? (placesL_get (by omega) (letter_at hl hi h46))

theorem marks_no {p : Pl} {l : List UInt8} {s : St} (h : hasB p l s = false) : mksT p l s = ⟨#[]⟩ := by
  unfold mksT
  rw [h]; rfl

/-- The marks of a seat: its window, its exit. -/
theorem marks_yes {p : Pl} {l : List UInt8} (hl : letF p.lets.data.toList = some l) {r : Int} {i : Nat} (hi : i < p.lets.data.toList.length) (h46 : (p.lets.data.toList.getD i 0).toNat ≠ 46)
    (h : hasB p l (r, p.lets.data.toList.getD i 0) = true) :
    (decide (0 < (mksT p l (r, p.lets.data.toList.getD i 0)).data.toList.length ∧ ((mksT p l (r, p.lets.data.toList.getD i 0)).data.toList.getD 0 0).toNat = 87) = decide (i = 0 ∨ i + 1 = p.lets.data.toList.length)) ∧
    (decide (0 < (mksT p l (r, p.lets.data.toList.getD i 0)).data.toList.length ∧ ((mksT p l (r, p.lets.data.toList.getD i 0)).data.toList.getD ((mksT p l (r, p.lets.data.toList.getD i 0)).data.toList.length - 1) 0).toNat = 69) = p.exits.any fun y => decide (y = r)) := by
  generalize hbs : p.lets.data.toList = bs at *
  have hidx : bs.idxOf (bs.getD i 0) = i := by
    have hm : bs.getD i 0 ∈ l := (letF_at hl).1 i hi h46
    exact (((idx_letter hl hm).2.2 i hi).1 rfl).symm
  have hM : (mksT p l (r, bs.getD i 0)).data.toList = (if wOf bs i = true then [87] else []) ++ (if aOf bs i = true then [65] else []) ++ exE p.exits r := by
    unfold mksT
    rw [if_pos h, hbs]
    show marksL bs p.exits (r, bs.getD i 0) = _
    unfold marksL
    simp only
    rw [hidx]
  rw [hM]
  have hW : wOf bs i = decide (i = 0 ∨ i + 1 = bs.length) := rfl
  have hE : (exE p.exits r = [] ∧ (p.exits.any fun y => decide (y = r)) = false) ∨ (∃ n, exE p.exits r = List.replicate (n + 1) 69 ∧ (p.exits.any fun y => decide (y = r)) = true) := by
    unfold exE
    cases hf : p.exits.filter fun y => decide (y = r) with
    | nil =>
      left
      refine ⟨rfl, ?_⟩
      rw [List.any_eq_false]
      intro y hy
      have := List.filter_eq_nil_iff.1 hf y hy
      simpa using this
    | cons y t =>
      right
      refine ⟨t.length, ?_, ?_⟩
      · rw [List.map_const', List.length_cons]
      · rw [List.any_eq_true]
        have hy : y ∈ p.exits.filter fun y => decide (y = r) := by rw [hf]; simp
        obtain ⟨h1, h2⟩ := List.mem_filter.1 hy
        exact ⟨y, h1, h2⟩
  rw [← hW]
  have hlast : ∀ (n : Nat) (t : List UInt8), (t ++ List.replicate (n + 1) (69 : UInt8)).getD ((t ++ List.replicate (n + 1) (69 : UInt8)).length - 1) 0 = 69 := by
    intro n t
    rw [List.getD_eq_getElem?_getD, List.length_append, List.length_replicate, List.getElem?_append_right (by omega), List.getElem?_replicate, if_pos (by omega)]
    rfl
  rcases hE with ⟨e1, e2⟩ | ⟨n, e1, e2⟩
  · rw [e1, e2]
    cases wOf bs i <;> cases aOf bs i <;> exact ⟨by decide, by decide⟩
  · rw [e1, e2]
    constructor
    · cases wOf bs i <;> cases aOf bs i <;> simp [List.replicate_succ]
    · rw [hlast]
      simp
      omega
end Go.Proofs.YtpmmjccdogjncaaDoor
