/- Letters, cities, persons, locators: the program and the reference. -/
import Derived.Test.YtjahkaidinahpaaDoorEA
namespace Go.Proofs.YtjahkaidinahpaaDoor
open Go.RowKit
set_option linter.unusedSimpArgs false
set_option linter.unusedVariables false
set_option maxRecDepth 20000

/-- Is a byte a great letter? -/
def isL (c : Int) : Bool := decide (65 ≤ c ∧ c ≤ 90)

/-- Is a byte a digit? -/
def isD (c : Int) : Bool := decide (48 ≤ c ∧ c ≤ 57)

/-- The same of a byte. -/
def bL (b : UInt8) : Bool := isL (b.toNat : Int)

def bD (b : UInt8) : Bool := isD (b.toNat : Int)

theorem letter_any (c : Int) (w : World) (h0 : 0 ≤ c) (h1 : c ≤ 255) :
    Calls Tryd.prog 170 #[.int .u8 c] w fun e w' => e = .returned (.bool (isL c)) ∧ w = w' := by
  go_enter Tryd.func170, Tryd.ntmps170
  go_wp2
  go_ret
  exact ⟨ret_bool (by unfold isL; apply decide_eq_decide.2; omega), rfl⟩

theorem digit_any (c : Int) (w : World) (h0 : 0 ≤ c) (h1 : c ≤ 255) :
    Calls Tryd.prog 174 #[.int .u8 c] w fun e w' => e = .returned (.bool (isD c)) ∧ w = w' := by
  go_enter Tryd.func174, Tryd.ntmps174
  go_wp2
  go_ret
  exact ⟨ret_bool (by unfold isD; apply decide_eq_decide.2; omega), rfl⟩

theorem class_any (c : Int) (w : World) (h0 : 0 ≤ c) (h1 : c ≤ 255) :
    Calls Tryd.prog 132 #[.int .u8 c] w fun e w' => e = .returned (.bool (isL c)) ∧ w = w' := by
  go_enter Tryd.func132, Tryd.ntmps132
  go_wp2_with (go_at_call 170; refine (letter_any _ _ h0 h1).mono ?_; rintro e w' ⟨rfl, rfl⟩)
  go_ret
  exact ⟨rfl, rfl⟩

theorem refLetter_any (c : Int) (w : World) (h0 : 0 ≤ c) (h1 : c ≤ 255) :
    Calls Tryd.prog 153 #[.int .u8 c] w fun e w' => e = .returned (.bool (isL c)) ∧ w = w' := by
  go_enter Tryd.func153, Tryd.ntmps153
  go_wp2
  all_goals
    go_ret
    exact ⟨ret_bool (by unfold isL; first | (symm; apply decide_eq_true; omega) | (symm; apply decide_eq_false; omega) | (apply decide_eq_decide.2; omega)), rfl⟩

theorem refDigit_any (c : Int) (w : World) (h0 : 0 ≤ c) (h1 : c ≤ 255) :
    Calls Tryd.prog 167 #[.int .u8 c] w fun e w' => e = .returned (.bool (isD c)) ∧ w = w' := by
  go_enter Tryd.func167, Tryd.ntmps167
  go_wp2
  all_goals
    go_ret
    exact ⟨ret_bool (by unfold isD; first | (symm; apply decide_eq_true; omega) | (symm; apply decide_eq_false; omega) | (apply decide_eq_decide.2; omega)), rfl⟩

def lettersS (l : List UInt8) (least most : Int) : Bool := decide (least ≤ (l.length : Int) ∧ (l.length : Int) ≤ most) && l.all bL

theorem all_take_succ (p : UInt8 → Bool) (l : List UInt8) (k : Nat) (h : k < l.length) : (l.take (k + 1)).all p = ((l.take k).all p && p (l.getD k 0)) := by
  rw [List.take_succ_eq_append_getElem h, List.all_append]
  simp [List.getD, h]

theorem all_false_of (p : UInt8 → Bool) (l : List UInt8) (k : Nat) (h : k < l.length) (hp : p (l.getD k 0) = false) : l.all p = false := by
  rw [List.all_eq_false]
  refine ⟨l.getD k 0, ?_, by rw [hp]; decide⟩
  simp [List.getD, h]

theorem letters_any (s : ByteArray) (least most : Int) (w : World) (hs : s.size ≤ maxLen) :
    Calls Tryd.prog 110 #[.string s, .int .i64 least, .int .i64 most] w fun e w' => e = .returned (.bool (lettersS s.data.toList least most)) ∧ Below w.heap.size w w' := by
  unfold maxLen at hs
  obtain ⟨w1, cap, hcv, hb, hz, hcell⟩ := bytes_conv s w
  have hlen : s.data.toList.length = s.size := by simp
  by_cases h1 : (s.size : Int) < least
  · go_enter Tryd.func110, Tryd.ntmps110
    go_wp2
    go_ret
    exact ⟨ret_bool (by unfold lettersS; rw [hlen, decide_eq_false (by omega)]; rfl), Below.refl _ _⟩
  by_cases h2 : most < (s.size : Int)
  · go_enter Tryd.func110, Tryd.ntmps110
    go_wp2
    go_ret
    exact ⟨ret_bool (by unfold lettersS; rw [hlen, decide_eq_false (by omega)]; rfl), Below.refl _ _⟩
  have hd : decide (least ≤ (s.data.toList.length : Int) ∧ (s.data.toList.length : Int) ≤ most) = true := by rw [hlen]; exact decide_eq_true (by omega)
  have HD := Lib.hid hd
  clear hd
  have HL := Lib.hid hlen
  clear hlen
  go_enter Tryd.func110, Tryd.ntmps110
  go_wp2
  go_loop [22] (fun i => ∃ k : Nat, k ≤ s.size ∧ i = .int .i64 k ∧ (s.data.toList.take k).all bL = true) (fun i => s.size - (intOf i).toNat)
  case atStart => exact ⟨0, Nat.zero_le _, rfl, rfl⟩
  case round =>
    obtain ⟨k, hk, rfl, hall⟩ := hrel
    have HA := Lib.hid hall
    clear hall
    by_cases hlt : k < s.size
    · have hc := hcell k hlt
      have hbb := byte_hi (s.data.toList.getD k 0)
      generalize hg : s.data.toList.getD k 0 = b at hc hbb
      have HG := Lib.hid hg
      clear hg hcell
      have hb0 : (0 : Int) ≤ (b.toNat : Int) := by omega
      cases hB : isL (b.toNat : Int)
      · go_wp2_with (go_at_call 170; refine (letter_any _ _ hb0 hbb).mono ?_; rintro e w' ⟨rfl, rfl⟩)
        go_ret
        exact ⟨ret_bool (by unfold lettersS; rw [HD.out, all_false_of bL _ k (by rw [HL.out]; exact hlt) (by rw [HG.out]; exact hB)]; rfl), hb⟩
      · go_wp2_with (go_at_call 170; refine (letter_any _ _ hb0 hbb).mono ?_; rintro e w' ⟨rfl, rfl⟩)
        go_round
        case rel => exact ⟨k + 1, by omega, by go_num, by rw [all_take_succ _ _ _ (by rw [HL.out]; exact hlt), HA.out, HG.out]; exact hB⟩
        case measure => simp [intOf]; omega
    · go_wp2
      go_ret
      exact ⟨ret_bool (by unfold lettersS; rw [HD.out]; have := HA.out; rw [List.take_of_length_le (by rw [HL.out]; omega)] at this; rw [this]; rfl), hb⟩

theorem city_any (s : ByteArray) (w : World) (hs : s.size ≤ maxLen) :
    Calls Tryd.prog 157 #[.string s] w fun e w' => e = .returned (.bool (lettersS s.data.toList 3 3)) ∧ Below w.heap.size w w' := by
  go_enter Tryd.func157, Tryd.ntmps157
  go_wp2_with (go_at_call 110; refine (letters_any s 3 3 _ hs).mono ?_; rintro e w1 ⟨rfl, hb⟩)
  go_ret
  exact ⟨rfl, hb⟩

theorem person_any (s : ByteArray) (w : World) (hs : s.size ≤ maxLen) :
    Calls Tryd.prog 158 #[.string s] w fun e w' => e = .returned (.bool (lettersS s.data.toList 1 16)) ∧ Below w.heap.size w w' := by
  go_enter Tryd.func158, Tryd.ntmps158
  go_wp2_with (go_at_call 110; refine (letters_any s 1 16 _ hs).mono ?_; rintro e w1 ⟨rfl, hb⟩)
  go_ret
  exact ⟨rfl, hb⟩

theorem locator_any (s : ByteArray) (w : World) (hs : s.size ≤ maxLen) :
    Calls Tryd.prog 45 #[.string s] w fun e w' => e = .returned (.bool (lettersS s.data.toList 6 6)) ∧ Below w.heap.size w w' := by
  go_enter Tryd.func45, Tryd.ntmps45
  go_wp2_with (go_at_call 110; refine (letters_any s 6 6 _ hs).mono ?_; rintro e w1 ⟨rfl, hb⟩)
  go_ret
  exact ⟨rfl, hb⟩

def cntL (l : List UInt8) : Nat := (l.filter bL).length

theorem cntL_le (l : List UInt8) : cntL l ≤ l.length := List.length_filter_le _ _

theorem cntL_take (l : List UInt8) (k : Nat) (h : k < l.length) : cntL (l.take (k + 1)) = cntL (l.take k) + if bL (l.getD k 0) then 1 else 0 := by
  unfold cntL
  rw [List.take_succ_eq_append_getElem h, List.filter_append, List.length_append]
  simp only [List.getD, List.getElem?_eq_getElem h, Option.getD_some, List.filter_cons]
  split <;> simp

theorem refLetters_any (s : ByteArray) (w : World) (hs : s.size ≤ maxLen) :
    Calls Tryd.prog 113 #[.string s] w fun e w' => e = .returned (.int .i64 (cntL s.data.toList)) ∧ w = w' := by
  unfold maxLen at hs
  have hlen : s.data.toList.length = s.size := by simp
  have HL := Lib.hid hlen
  clear hlen
  go_enter Tryd.func113, Tryd.ntmps113
  go_wp2
  go_loop [3, 4] (fun n i => ∃ k : Nat, k ≤ s.size ∧ i = .int .i64 k ∧ n = .int .i64 (cntL (s.data.toList.take k))) (fun _ i => s.size - (intOf i).toNat)
  case atStart => exact ⟨0, Nat.zero_le _, rfl, rfl⟩
  case round =>
    obtain ⟨k, hk, rfl, rfl⟩ := hrel
    by_cases hlt : k < s.size
    · have hix := get_list s k hlt
      have hst := cntL_take s.data.toList k (by rw [HL.out]; exact hlt)
      have hle := cntL_le (s.data.toList.take k)
      rw [List.length_take] at hle
      have hbb := byte_hi (s.data.toList.getD k 0)
      generalize s.data.toList.getD k 0 = b at hix hst hbb
      have HS := Lib.hid hst
      clear hst
      generalize cntL (s.data.toList.take k) = c at HS hle
      have hc : c ≤ k := by omega
      clear hle
      have hb0 : (0 : Int) ≤ (b.toNat : Int) := by omega
      cases hB : isL (b.toNat : Int)
      all_goals
        go_wp2_with (go_at_call 153; refine (refLetter_any _ _ hb0 hbb).mono ?_; rintro e w' ⟨rfl, rfl⟩)
        go_round
        case rel => exact ⟨k + 1, by omega, by go_num, by rw [HS.out]; simp [bL, hB]⟩
        case measure => simp [intOf]; omega
    · go_wp2
      go_ret
      exact ⟨ret_int (by rw [List.take_of_length_le (by rw [HL.out]; omega)]), rfl⟩

theorem cntL_all (l : List UInt8) : (cntL l = l.length) ↔ l.all bL = true := by
  unfold cntL
  constructor
  · intro h
    have h2 := List.filter_sublist (p := bL) (l := l) |>.eq_of_length h
    rw [List.all_eq_true]
    intro x hx
    have := List.filter_eq_self.1 h2 x hx
    simpa using this
  · intro h
    rw [List.filter_eq_self.2 (by simpa using h)]

theorem refCity_any (s : ByteArray) (w : World) (hs : s.size ≤ maxLen) :
    Calls Tryd.prog 95 #[.string s] w fun e w' => e = .returned (.bool (lettersS s.data.toList 3 3)) ∧ w = w' := by
  have hlen : s.data.toList.length = s.size := by simp
  by_cases h : s.size = 3
  · have h3 : ((s.size : Int) == 3) = true := by rw [h]; rfl
    have e : lettersS s.data.toList 3 3 = ((cntL s.data.toList : Int) == 3) := by
      unfold lettersS
      rw [hlen, decide_eq_true (by omega), Bool.true_and, Bool.eq_iff_iff, ← cntL_all, hlen, h]
      simp; omega
    have HE := Lib.hid e
    clear h e hlen
    go_enter Tryd.func95, Tryd.ntmps95
    go_wp2_with (go_at_call 113; refine (refLetters_any _ _ hs).mono ?_; rintro e w' ⟨rfl, rfl⟩)
    go_ret
    exact ⟨ret_bool HE.out.symm, rfl⟩
  · have h3 : ((s.size : Int) == 3) = false := by simp; omega
    go_enter Tryd.func95, Tryd.ntmps95
    go_wp2
    go_ret
    exact ⟨ret_bool (by unfold lettersS; rw [hlen, decide_eq_false (by omega)]; rfl), rfl⟩

theorem refLocator_any (s : ByteArray) (w : World) (hs : s.size ≤ maxLen) :
    Calls Tryd.prog 49 #[.string s] w fun e w' => e = .returned (.bool (lettersS s.data.toList 6 6)) ∧ w = w' := by
  have hlen : s.data.toList.length = s.size := by simp
  by_cases h : s.size = 6
  · have h3 : ((s.size : Int) == 6) = true := by rw [h]; rfl
    have e : lettersS s.data.toList 6 6 = ((cntL s.data.toList : Int) == 6) := by
      unfold lettersS
      rw [hlen, decide_eq_true (by omega), Bool.true_and, Bool.eq_iff_iff, ← cntL_all, hlen, h]
      simp; omega
    have HE := Lib.hid e
    clear h e hlen
    go_enter Tryd.func49, Tryd.ntmps49
    go_wp2_with (go_at_call 113; refine (refLetters_any _ _ hs).mono ?_; rintro e w' ⟨rfl, rfl⟩)
    go_ret
    exact ⟨ret_bool HE.out.symm, rfl⟩
  · have h3 : ((s.size : Int) == 6) = false := by simp; omega
    go_enter Tryd.func49, Tryd.ntmps49
    go_wp2
    go_ret
    exact ⟨ret_bool (by unfold lettersS; rw [hlen, decide_eq_false (by omega)]; rfl), rfl⟩

end Go.Proofs.YtjahkaidinahpaaDoor
