/- The walks of the laws of package code: CodeUpper, CodeFree, CodeJoins. -/
import Derived.Test.YtlaieijlengojaaLawCodeA
namespace Go.Proofs.Ytlaieijlengojaa
open Go.RowKit

def upA (s : ByteArray) : ByteArray := ⟨(upS s.data.toList).toArray⟩
theorem upB_idem (b : UInt8) : upB (upB b) = upB b := by
  by_cases h : 97 ≤ (b.toNat : Int) ∧ (b.toNat : Int) ≤ 122
  · have := upB_hi h.1 h.2
    exact upB_lo (by omega)
  · rw [upB_lo h, upB_lo h]
theorem upA_idem (s : ByteArray) : upA (upA s) = upA s := by
  have e : ((upS s.data.toList).map upB).toArray = (upS s.data.toList).toArray := by
    rw [show (upS s.data.toList).map upB = upS s.data.toList by unfold upS; rw [List.map_map]; congr 1; funext b; exact upB_idem b]
  show ByteArray.mk ((upS s.data.toList).map upB).toArray = ByteArray.mk _
  rw [e]
theorem upA_size (s : ByteArray) : (upA s).size = s.size := by
  show (upS s.data.toList).toArray.size = s.data.size
  simp [upS]
theorem upperA_any (s : ByteArray) (w : World) (hs : s.size ≤ maxLen) :
    Calls Try.prog 39 #[.string s] w fun e w' => e = .returned (.string (upA s)) ∧ Below w.heap.size w w' := upper_any s w hs
theorem refUpperA_any (s : ByteArray) (w : World) (hs : s.size ≤ 1000000) :
    Calls Try.prog 40 #[.string s] w fun e w' => e = .returned (.string (upA s)) ∧ Below w.heap.size w w' := refUpper_any s w hs

theorem upper_walk (s : ByteArray) (hs : s.size ≤ maxLen) (c : Int) (hc : (Lit.int .u8 c).wf = true) (w : World) :
    Calls Try.prog 11 #[.string s, .int .u8 c] w fun e w' => e = .returned (.bool true) ∧ Below w.heap.size w w' := by
  simp [Lit.wf, IntKind.min, IntKind.max, IntKind.signed, IntKind.bits] at hc
  obtain ⟨c0, c1⟩ := hc
  have c2 : c ≤ 255 := by omega
  have hb := Below.refl w.heap.size w
  have hi := upA_idem s
  have hz := upA_size s
  have HZ := Lib.hid hz
  clear hz c1
  by_cases hl : (20000 : Int) < (s.size : Int)
  · go_enter Try.func11, Try.ntmps11
    go_wp2_with (first
      | (go_at_call 25; refine (awake_code _).mono ?_; rintro e w1 ⟨rfl, hb1⟩; replace hb := bel_trans hb hb1; clear hb1)
      | (go_at_call 26; refine (long_any _ _ hs).mono ?_; rintro e w1 ⟨rfl, rfl⟩))
    go_ret
    exact ⟨rfl, hb⟩
  · have hs1 : s.size ≤ 1000000 := by omega
    have hs2 : (upA s).size ≤ maxLen := by rw [HZ.out]; exact hs
    go_enter Try.func11, Try.ntmps11
    go_wp2_with (first
      | (go_at_call 25; refine (awake_code _).mono ?_; rintro e w1 ⟨rfl, hb1⟩; replace hb := bel_trans hb hb1; clear hb1)
      | (go_at_call 26; refine (long_any _ _ hs).mono ?_; rintro e w1 ⟨rfl, rfl⟩)
      | (go_at_call 39; refine (upperA_any _ _ (by assumption)).mono ?_; rintro e w1 ⟨rfl, hb1⟩; replace hb := bel_trans hb hb1; clear hb1)
      | (go_at_call 41; refine (class_any _ _ c0 c2).mono ?_; rintro e w1 ⟨rfl, rfl⟩)
      | (go_at_call 42; refine (refClass_any _ _ c0 c2).mono ?_; rintro e w1 ⟨rfl, rfl⟩)
      | (go_at_call 40; refine (refUpperA_any _ _ hs1).mono ?_; rintro e w1 ⟨rfl, hb1⟩; replace hb := bel_trans hb hb1; clear hb1))
    go_ret
    exact ⟨rfl, hb⟩

theorem freeGo_false (l : List UInt8) (h : l.all bF = true) : freeGo false l = true := by
  induction l with
  | nil => rfl
  | cons c t ih =>
    rw [List.all_cons, Bool.and_eq_true] at h
    rw [freeGo_f h.1, ih h.2]
theorem freeGo_of (l : List UInt8) (h : l.all bF = true) (hn : l ≠ []) : freeGo true l = true := by
  cases l with
  | nil => exact absurd rfl hn
  | cons c t =>
    rw [List.all_cons, Bool.and_eq_true] at h
    rw [freeGo_f h.1, freeGo_false t h.2]
theorem all_mono {p q : UInt8 → Bool} (h : ∀ x, p x = true → q x = true) {l : List UInt8} (hl : l.all p = true) : l.all q = true := by
  rw [List.all_eq_true] at hl ⊢
  intro x hx; exact h x (hl x hx)
theorem bL_F {x : UInt8} (h : bL x = true) : bF x = true := by unfold bF; rw [h]; rfl
theorem bLD_F {x : UInt8} (h : bLD x = true) : bF x = true := by
  unfold bF; unfold bLD at h
  rw [h]; rfl
theorem free_letters {l : List UInt8} {a b : Int} (ha : 1 ≤ a) (hb : b ≤ 40) (h : lettersS l a b = true) : freeS l = true := by
  unfold lettersS at h
  rw [Bool.and_eq_true, decide_eq_true_eq] at h
  unfold freeS
  rw [decide_eq_true (by omega), freeGo_of l (all_mono (fun _ => bL_F) h.2) (by intro e; subst e; simp at h; omega)]
  rfl
theorem free_agent {l : List UInt8} (h : agentS l = true) : freeS l = true := by
  cases l with
  | nil => exact h
  | cons a t =>
    rw [agentS_cons, Bool.and_eq_true, Bool.and_eq_true, decide_eq_true_eq] at h
    unfold freeS
    rw [decide_eq_true (by simp; omega), freeGo_of _ ?_ (by simp)]
    · rfl
    · rw [List.all_cons, bL_F h.1.2, all_mono (fun _ => bLD_F) h.2]; rfl
theorem person_of {l : List UInt8} {a b : Int} (ha : 1 ≤ a) (hb : b ≤ 16) (h : lettersS l a b = true) : lettersS l 1 16 = true := by
  unfold lettersS at h ⊢
  rw [Bool.and_eq_true, decide_eq_true_eq] at h
  rw [decide_eq_true (by omega), h.2]; rfl
theorem city_len {l : List UInt8} {n : Nat} (h : lettersS l n n = true) : l.length = n := by
  unfold lettersS at h
  rw [Bool.and_eq_true, decide_eq_true_eq] at h
  omega
theorem carrier_city {l : List UInt8} (h : lettersS l 3 3 = true) : carrierS l = false := carrierS_len l (by rw [city_len (n := 3) h]; decide)
theorem city_loc {l : List UInt8} (h : lettersS l 3 3 = true) : lettersS l 6 6 = false := by
  have := city_len (n := 3) h
  unfold lettersS
  rw [decide_eq_false (by omega)]; rfl

theorem cfree_walk (s : ByteArray) (hs : s.size ≤ maxLen) (w : World) :
    Calls Try.prog 12 #[.string s] w fun e w' => e = .returned (.bool true) ∧ Below w.heap.size w w' := by
  have hb := Below.refl w.heap.size w
  by_cases hl : (20000 : Int) < (s.size : Int)
  · go_enter Try.func12, Try.ntmps12
    go_wp2_with (first
      | (go_at_call 25; refine (awake_code _).mono ?_; rintro e w1 ⟨rfl, hb1⟩; replace hb := bel_trans hb hb1; clear hb1)
      | (go_at_call 26; refine (long_any _ _ hs).mono ?_; rintro e w1 ⟨rfl, rfl⟩))
    go_ret
    exact ⟨rfl, hb⟩
  · have f1 := @free_letters s.data.toList 3 3 (by decide) (by decide)
    have f2 := @free_letters s.data.toList 6 6 (by decide) (by decide)
    have f3 := @free_letters s.data.toList 1 16 (by decide) (by decide)
    have f4 := @free_agent s.data.toList
    have f5 := @person_of s.data.toList 3 3 (by decide) (by decide)
    have f6 := @person_of s.data.toList 6 6 (by decide) (by decide)
    have f7 := @carrier_city s.data.toList
    have f8 := @city_loc s.data.toList
    have key : (lettersS s.data.toList 3 3 = true ∧ lettersS s.data.toList 6 6 = false ∧ lettersS s.data.toList 1 16 = true ∧ freeS s.data.toList = true ∧ carrierS s.data.toList = false) ∨
        (lettersS s.data.toList 3 3 = false ∧ lettersS s.data.toList 6 6 = true ∧ lettersS s.data.toList 1 16 = true ∧ freeS s.data.toList = true) ∨
        (lettersS s.data.toList 3 3 = false ∧ lettersS s.data.toList 6 6 = false ∧ lettersS s.data.toList 1 16 = true ∧ freeS s.data.toList = true) ∨
        (lettersS s.data.toList 3 3 = false ∧ lettersS s.data.toList 6 6 = false ∧ lettersS s.data.toList 1 16 = false ∧ agentS s.data.toList = true ∧ freeS s.data.toList = true) ∨
        (lettersS s.data.toList 3 3 = false ∧ lettersS s.data.toList 6 6 = false ∧ lettersS s.data.toList 1 16 = false ∧ agentS s.data.toList = false) := by
      cases h1 : lettersS s.data.toList 3 3 <;> cases h2 : lettersS s.data.toList 6 6 <;> cases h3 : lettersS s.data.toList 1 16 <;> cases h4 : agentS s.data.toList <;> simp_all
    clear f1 f2 f3 f4 f5 f6 f7 f8
    cases ha : agentS s.data.toList
    all_goals
      rcases key with ⟨k1, k2, k3, k4, k5⟩ | ⟨k1, k2, k3, k4⟩ | ⟨k1, k2, k3, k4⟩ | ⟨k1, k2, k3, k4, k5⟩ | ⟨k1, k2, k3, k4⟩
      all_goals
        first
          | (rw [ha] at k4; cases k4; done)
          | (go_enter Try.func12, Try.ntmps12
             go_wp2_with (first
              | (go_at_call 25; refine (awake_code _).mono ?_; rintro e w1 ⟨rfl, hb1⟩; replace hb := bel_trans hb hb1; clear hb1)
              | (go_at_call 26; refine (long_any _ _ hs).mono ?_; rintro e w1 ⟨rfl, rfl⟩)
              | (go_at_call 27; refine (city_any _ _ hs).mono ?_; rintro e w1 ⟨rfl, hb1⟩; replace hb := bel_trans hb hb1; clear hb1)
              | (go_at_call 29; refine (carrier_any _ _ hs).mono ?_; rintro e w1 ⟨rfl, hb1⟩; replace hb := bel_trans hb hb1; clear hb1)
              | (go_at_call 31; refine (agent_any _ _ hs).mono ?_; rintro e w1 ⟨rfl, hb1⟩; replace hb := bel_trans hb hb1; clear hb1)
              | (go_at_call 33; refine (person_any _ _ hs).mono ?_; rintro e w1 ⟨rfl, hb1⟩; replace hb := bel_trans hb hb1; clear hb1)
              | (go_at_call 35; refine (locator_any _ _ hs).mono ?_; rintro e w1 ⟨rfl, hb1⟩; replace hb := bel_trans hb hb1; clear hb1)
              | (go_at_call 37; refine (free_any _ _ hs).mono ?_; rintro e w1 ⟨rfl, hb1⟩; replace hb := bel_trans hb hb1; clear hb1))
             all_goals (go_ret; exact ⟨rfl, hb⟩))

theorem freeGo_join (a b : List UInt8) : ∀ x, freeGo x a = true → freeGo x (a ++ 32 :: b) = freeGo true b := by
  induction a with
  | nil =>
    intro x h
    simp [freeGo] at h
    subst h
    exact freeGo_b (by decide) (by decide) b
  | cons c t ih =>
    intro x h
    rw [List.cons_append]
    rw [freeGo] at h ⊢
    split at h
    · next hf => rw [if_pos hf]; exact ih _ h
    · next hf =>
      rw [if_neg hf]
      split at h
      · next hc => rw [if_pos hc]; exact ih _ h
      · cases h
theorem freeGo_split (p q : List UInt8) : ∀ x, freeGo x (p ++ 32 :: q) = true → freeGo x p = true ∧ freeGo true q = true := by
  induction p with
  | nil =>
    intro x h
    cases x
    · rw [List.nil_append, freeGo_b (by decide) (by decide)] at h
      exact ⟨rfl, h⟩
    · rw [List.nil_append, freeGo_bb (by decide)] at h
      cases h
  | cons c t ih =>
    intro x h
    rw [List.cons_append] at h
    rw [freeGo] at h ⊢
    split at h
    · next hf => rw [if_pos hf]; exact ih _ h
    · next hf =>
      rw [if_neg hf]
      split at h
      · next hc => rw [if_pos hc]; exact ih _ h
      · cases h
theorem free_ne {l : List UInt8} (h : freeGo true l = true) : 1 ≤ l.length := by
  cases l with
  | nil => cases h
  | cons a t => simp
theorem freeS_go {l : List UInt8} (h : freeS l = true) : freeGo true l = true ∧ l.length ≤ 40 := by
  unfold freeS at h
  rw [Bool.and_eq_true, decide_eq_true_eq] at h
  exact ⟨h.2, h.1.2⟩
theorem freeS_mk {l : List UInt8} (h : freeGo true l = true) (hl : l.length ≤ 40) : freeS l = true := by
  unfold freeS
  rw [h, decide_eq_true ⟨free_ne h, hl⟩]; rfl
theorem free_joined {a b : List UInt8} (ha : freeS a = true) (hb : freeS b = true) : freeS (a ++ 32 :: b) = decide ((a ++ 32 :: b).length ≤ 40) := by
  have h := freeGo_join a b true (freeS_go ha).1
  rw [(freeS_go hb).1] at h
  unfold freeS
  rw [h, Bool.and_true]
  apply decide_eq_decide.2
  have : 1 ≤ (a ++ 32 :: b).length := by simp; omega
  omega
theorem free_cut {p q : List UInt8} (h : freeS (p ++ 32 :: q) = true) : freeS p = true ∧ freeS q = true := by
  have h1 := freeGo_split p q true (freeS_go h).1
  have h2 := (freeS_go h).2
  simp at h2
  exact ⟨freeS_mk h1.1 (by omega), freeS_mk h1.2 (by omega)⟩

theorem append_list (a b : ByteArray) : (a ++ b).data.toList = a.data.toList ++ b.data.toList := by simp

theorem join_free (a b : ByteArray) (w : World) (ha : (a.size : Int) ≤ 20000) (hb : (b.size : Int) ≤ 20000) (fa : freeS a.data.toList = true) (fb : freeS b.data.toList = true) :
    Calls Try.prog 37 #[.string (a ++ ⟨#[32]⟩ ++ b)] w fun e w' => e = .returned (.bool (decide ((a.size : Int) + 1 + (b.size : Int) ≤ 40))) ∧ Below w.heap.size w w' := by
  have e : (a ++ ⟨#[32]⟩ ++ b : ByteArray).data.toList = a.data.toList ++ 32 :: b.data.toList := by simp
  have hz : (a ++ ⟨#[32]⟩ ++ b : ByteArray).size = a.size + 1 + b.size := by
    rw [ByteArray.size_append, ByteArray.size_append]; rfl
  have hm : (a ++ ⟨#[32]⟩ ++ b : ByteArray).size ≤ maxLen := by unfold maxLen; omega
  have hj : freeS (a ++ ⟨#[32]⟩ ++ b : ByteArray).data.toList = decide ((a.size : Int) + 1 + (b.size : Int) ≤ 40) := by
    rw [e, free_joined fa fb]
    apply decide_eq_decide.2
    rw [List.length_append, List.length_cons]
    have h1 : a.data.toList.length = a.size := by simp
    have h2 : b.data.toList.length = b.size := by simp
    omega
  generalize (a ++ ⟨#[32]⟩ ++ b : ByteArray) = j at hm hj ⊢
  have h0 := free_any j w hm
  rw [hj] at h0
  exact h0

set_option maxHeartbeats 2000000 in
theorem joins_walk (a : ByteArray) (ha : a.size ≤ maxLen) (b : ByteArray) (hbs : b.size ≤ maxLen) (cut : Int) (_hc : (Lit.int .i64 cut).wf = true) (w : World) :
    Calls Try.prog 13 #[.string a, .string b, .int .i64 cut] w fun e w' => e = .returned (.bool true) ∧ Below w.heap.size w w' := by
  have hb := Below.refl w.heap.size w
  by_cases hl : (20000 : Int) < (a.size : Int)
  · go_enter Try.func13, Try.ntmps13
    go_wp2_with (first
      | (go_at_call 25; refine (awake_code _).mono ?_; rintro e w1 ⟨rfl, hb1⟩; replace hb := bel_trans hb hb1; clear hb1)
      | (go_at_call 26; refine (long_any _ _ ha).mono ?_; rintro e w1 ⟨rfl, rfl⟩))
    go_ret
    exact ⟨rfl, hb⟩
  by_cases hl2 : (20000 : Int) < (b.size : Int)
  · go_enter Try.func13, Try.ntmps13
    go_wp2_with (first
      | (go_at_call 25; refine (awake_code _).mono ?_; rintro e w1 ⟨rfl, hb1⟩; replace hb := bel_trans hb hb1; clear hb1)
      | (go_at_call 26; refine (long_any _ _ (by assumption)).mono ?_; rintro e w1 ⟨rfl, rfl⟩))
    go_ret
    exact ⟨rfl, hb⟩
  cases hfa : freeS a.data.toList
  · go_enter Try.func13, Try.ntmps13
    go_wp2_with (first
      | (go_at_call 25; refine (awake_code _).mono ?_; rintro e w1 ⟨rfl, hb1⟩; replace hb := bel_trans hb hb1; clear hb1)
      | (go_at_call 26; refine (long_any _ _ (by assumption)).mono ?_; rintro e w1 ⟨rfl, rfl⟩)
      | (go_at_call 37; refine (free_any _ _ ha).mono ?_; rintro e w1 ⟨rfl, hb1⟩; replace hb := bel_trans hb hb1; clear hb1))
    go_ret
    exact ⟨rfl, hb⟩
  have hla : (a.size : Int) ≤ 20000 := by omega
  have hlb : (b.size : Int) ≤ 20000 := by omega
  have hcases : (freeS b.data.toList = false) ∨ (freeS b.data.toList = true ∧ (a.size : Int) + 1 + (b.size : Int) ≤ 40) ∨ (freeS b.data.toList = true ∧ ¬ (a.size : Int) + 1 + (b.size : Int) ≤ 40) := by
    cases freeS b.data.toList
    · exact .inl rfl
    · by_cases h : (a.size : Int) + 1 + (b.size : Int) ≤ 40
      · exact .inr (.inl ⟨rfl, h⟩)
      · exact .inr (.inr ⟨rfl, h⟩)
  by_cases hc1 : cut < 0
  · rcases hcases with hfb | ⟨hfb, h40⟩ | ⟨hfb, h40⟩
    all_goals
      go_enter Try.func13, Try.ntmps13
      go_wp2_with (first
        | (go_at_call 25; refine (awake_code _).mono ?_; rintro e w1 ⟨rfl, hb1⟩; replace hb := bel_trans hb hb1; clear hb1)
        | (go_at_call 26; refine (long_any _ _ (by assumption)).mono ?_; rintro e w1 ⟨rfl, rfl⟩)
        | (go_at_call 37; (with_reducible refine (free_any a _ ha).mono ?_); rintro e w1 ⟨rfl, hb1⟩; replace hb := bel_trans hb hb1; clear hb1)
        | (go_at_call 37; (with_reducible refine (free_any b _ hbs).mono ?_); rintro e w1 ⟨rfl, hb1⟩; replace hb := bel_trans hb hb1; clear hb1)
        | (go_at_call 37; (with_reducible refine (join_free a b _ (by assumption) (by assumption) hfa hfb).mono ?_); rintro e w1 ⟨rfl, hb1⟩; replace hb := bel_trans hb hb1; clear hb1))
      go_ret
      exact ⟨rfl, hb⟩
  by_cases hc2 : (a.size : Int) ≤ cut
  · rcases hcases with hfb | ⟨hfb, h40⟩ | ⟨hfb, h40⟩
    all_goals
      go_enter Try.func13, Try.ntmps13
      go_wp2_with (first
        | (go_at_call 25; refine (awake_code _).mono ?_; rintro e w1 ⟨rfl, hb1⟩; replace hb := bel_trans hb hb1; clear hb1)
        | (go_at_call 26; refine (long_any _ _ (by assumption)).mono ?_; rintro e w1 ⟨rfl, rfl⟩)
        | (go_at_call 37; (with_reducible refine (free_any a _ ha).mono ?_); rintro e w1 ⟨rfl, hb1⟩; replace hb := bel_trans hb hb1; clear hb1)
        | (go_at_call 37; (with_reducible refine (free_any b _ hbs).mono ?_); rintro e w1 ⟨rfl, hb1⟩; replace hb := bel_trans hb hb1; clear hb1)
        | (go_at_call 37; (with_reducible refine (join_free a b _ (by assumption) (by assumption) hfa hfb).mono ?_); rintro e w1 ⟨rfl, hb1⟩; replace hb := bel_trans hb hb1; clear hb1))
      go_ret
      exact ⟨rfl, hb⟩
  obtain ⟨k, rfl⟩ := Int.eq_ofNat_of_zero_le (show 0 ≤ cut by omega)
  have hk : k < a.size := by omega
  have hix := get_list a k hk
  generalize hg : a.data.toList.getD k 0 = c at hix
  have HG := Lib.hid hg
  clear hg
  by_cases hc32 : c.toNat = 32
  · have H32 := Lib.hid hc32
    have g32 : ((c.toNat : Int) != 32) = false := by rw [hc32]; rfl
    clear hc32
    have hsplit : a.data.toList = (a.extract 0 k).data.toList ++ 32 :: (a.extract (k + 1) a.size).data.toList := by
      have h1 : (32 : UInt8) = a.data.toList.getD k 0 := by
        rw [HG.out]; exact UInt8.toNat_inj.1 H32.out.symm
      have h2 : k < a.data.toList.length := by simpa using hk
      rw [h1]
      have h3 : (a.extract 0 k).data.toList = a.data.toList.take k := by simp
      have h4 : (a.extract (k + 1) a.size).data.toList = a.data.toList.drop (k + 1) := by
        simp
        exact List.take_of_length_le (by simp)
      rw [h3, h4, ← drop_cons _ _ h2, List.take_append_drop]
    have hcut := free_cut (p := (a.extract 0 k).data.toList) (q := (a.extract (k + 1) a.size).data.toList) (by rw [← hsplit]; exact hfa)
    have cut_lo : ∀ W : World, Calls Try.prog 37 #[.string (a.extract 0 k)] W fun e w' => e = .returned (.bool true) ∧ Below W.heap.size W w' := fun W => by
      have h0 := free_any (a.extract 0 k) W (by unfold maxLen at *; simp; omega)
      rw [hcut.1] at h0; exact h0
    have cut_hi : ∀ W : World, Calls Try.prog 37 #[.string (a.extract (k + 1) a.size)] W fun e w' => e = .returned (.bool true) ∧ Below W.heap.size W w' := fun W => by
      have h0 := free_any (a.extract (k + 1) a.size) W (by unfold maxLen at *; simp; omega)
      rw [hcut.2] at h0; exact h0
    have CL := Lib.hid cut_lo
    have CH := Lib.hid cut_hi
    clear hsplit hcut cut_lo cut_hi
    rcases hcases with hfb | ⟨hfb, h40⟩ | ⟨hfb, h40⟩
    all_goals
      go_enter Try.func13, Try.ntmps13
      go_wp2_with (first
        | (go_at_call 25; refine (awake_code _).mono ?_; rintro e w1 ⟨rfl, hb1⟩; replace hb := bel_trans hb hb1; clear hb1)
        | (go_at_call 26; refine (long_any _ _ (by assumption)).mono ?_; rintro e w1 ⟨rfl, rfl⟩)
        | (go_at_call 37; (with_reducible refine (free_any a _ ha).mono ?_); rintro e w1 ⟨rfl, hb1⟩; replace hb := bel_trans hb hb1; clear hb1)
        | (go_at_call 37; (with_reducible refine (free_any b _ hbs).mono ?_); rintro e w1 ⟨rfl, hb1⟩; replace hb := bel_trans hb hb1; clear hb1)
        | (go_at_call 37; (with_reducible refine (join_free a b _ (by assumption) (by assumption) hfa hfb).mono ?_); rintro e w1 ⟨rfl, hb1⟩; replace hb := bel_trans hb hb1; clear hb1)
        | (go_at_call 37; (with_reducible refine (CL.out _).mono ?_); rintro e w1 ⟨rfl, hb1⟩; replace hb := bel_trans hb hb1; clear hb1)
        | (go_at_call 37; (with_reducible refine (CH.out _).mono ?_); rintro e w1 ⟨rfl, hb1⟩; replace hb := bel_trans hb hb1; clear hb1))
      go_ret
      exact ⟨rfl, hb⟩
  · have g32 : ((c.toNat : Int) != 32) = true := by rw [bne_iff_ne]; omega
    rcases hcases with hfb | ⟨hfb, h40⟩ | ⟨hfb, h40⟩
    all_goals
      go_enter Try.func13, Try.ntmps13
      go_wp2_with (first
        | (go_at_call 25; refine (awake_code _).mono ?_; rintro e w1 ⟨rfl, hb1⟩; replace hb := bel_trans hb hb1; clear hb1)
        | (go_at_call 26; refine (long_any _ _ (by assumption)).mono ?_; rintro e w1 ⟨rfl, rfl⟩)
        | (go_at_call 37; (with_reducible refine (free_any a _ ha).mono ?_); rintro e w1 ⟨rfl, hb1⟩; replace hb := bel_trans hb hb1; clear hb1)
        | (go_at_call 37; (with_reducible refine (free_any b _ hbs).mono ?_); rintro e w1 ⟨rfl, hb1⟩; replace hb := bel_trans hb hb1; clear hb1)
        | (go_at_call 37; (with_reducible refine (join_free a b _ (by assumption) (by assumption) hfa hfb).mono ?_); rintro e w1 ⟨rfl, hb1⟩; replace hb := bel_trans hb hb1; clear hb1))
      go_ret
      exact ⟨rfl, hb⟩
end Go.Proofs.Ytlaieijlengojaa
