/- The contracts of the reference of package code: City, Carrier, Agent, Person, Locator, Class. -/
import Derived.Test.YtlaieijlengojaaCodeR
namespace Go.Proofs.Ytlaieijlengojaa
open Go.RowKit

theorem cntL_all (l : List UInt8) : (cntL l = l.length) ↔ l.all bL = true := by
  unfold cntL
  constructor
  · intro h
    have h2 := List.filter_sublist (p := bL) (l := l) |>.eq_of_length h
    rw [List.all_eq_true]
    intro x hx
    have := List.filter_eq_self.1 h2 x hx
    simpa using this
  · intro h
    rw [List.filter_eq_self.2 (by simpa using h)]

theorem refCity_any (s : ByteArray) (w : World) (hs : s.size ≤ maxLen) :
    Calls Try.prog 28 #[.string s] w fun e w' => e = .returned (.bool (lettersS s.data.toList 3 3)) ∧ w = w' := by
  have hlen : s.data.toList.length = s.size := by simp
  by_cases h : s.size = 3
  · have h3 : ((s.size : Int) == 3) = true := by rw [h]; rfl
    have e : lettersS s.data.toList 3 3 = ((cntL s.data.toList : Int) == 3) := by
      unfold lettersS
      rw [hlen, decide_eq_true (by omega), Bool.true_and, Bool.eq_iff_iff, ← cntL_all, hlen, h]
      simp; omega
    have HE := Lib.hid e
    clear h e hlen
    go_enter Try.func28, Try.ntmps28
    go_wp2_with (go_at_call 56; refine (refLetters_any _ _ hs).mono ?_; rintro e w' ⟨rfl, rfl⟩)
    go_ret
    exact ⟨ret_bool HE.out.symm, rfl⟩
  · have h3 : ((s.size : Int) == 3) = false := by simp; omega
    go_enter Try.func28, Try.ntmps28
    go_wp2
    go_ret
    exact ⟨ret_bool (by unfold lettersS; rw [hlen, decide_eq_false (by omega)]; rfl), rfl⟩

theorem refLocator_any (s : ByteArray) (w : World) (hs : s.size ≤ maxLen) :
    Calls Try.prog 36 #[.string s] w fun e w' => e = .returned (.bool (lettersS s.data.toList 6 6)) ∧ w = w' := by
  have hlen : s.data.toList.length = s.size := by simp
  by_cases h : s.size = 6
  · have h3 : ((s.size : Int) == 6) = true := by rw [h]; rfl
    have e : lettersS s.data.toList 6 6 = ((cntL s.data.toList : Int) == 6) := by
      unfold lettersS
      rw [hlen, decide_eq_true (by omega), Bool.true_and, Bool.eq_iff_iff, ← cntL_all, hlen, h]
      simp; omega
    have HE := Lib.hid e
    clear h e hlen
    go_enter Try.func36, Try.ntmps36
    go_wp2_with (go_at_call 56; refine (refLetters_any _ _ hs).mono ?_; rintro e w' ⟨rfl, rfl⟩)
    go_ret
    exact ⟨ret_bool HE.out.symm, rfl⟩
  · have h3 : ((s.size : Int) == 6) = false := by simp; omega
    go_enter Try.func36, Try.ntmps36
    go_wp2
    go_ret
    exact ⟨ret_bool (by unfold lettersS; rw [hlen, decide_eq_false (by omega)]; rfl), rfl⟩

theorem refPerson_any (s : ByteArray) (w : World) (hs : s.size ≤ maxLen) :
    Calls Try.prog 34 #[.string s] w fun e w' => e = .returned (.bool (lettersS s.data.toList 1 16)) ∧ w = w' := by
  have hlen : s.data.toList.length = s.size := by simp
  have hLD : s.data.toList.all bL = true → s.data.toList.all bLD = true := by
    intro h
    rw [List.all_eq_true] at h ⊢
    intro x hx
    simp [bLD, h x hx]
  cases hm : mixedS s.data.toList 1 16
  · have e : lettersS s.data.toList 1 16 = false := by
      unfold mixedS at hm
      unfold lettersS
      cases hd : decide ((1 : Int) ≤ (s.data.toList.length : Int) ∧ (s.data.toList.length : Int) ≤ 16)
      · rfl
      · rw [hd, Bool.true_and] at hm
        cases ha : s.data.toList.all bL
        · rfl
        · rw [hLD ha] at hm; cases hm
    have HE := Lib.hid e
    clear e hlen hLD
    go_enter Try.func34, Try.ntmps34
    go_wp2_with (go_at_call 59; refine (mixed_any _ _ _ _ hs).mono ?_; rintro e w' ⟨rfl, rfl⟩)
    go_ret
    exact ⟨ret_bool HE.out.symm, rfl⟩
  · have e : lettersS s.data.toList 1 16 = ((cntL s.data.toList : Int) == (s.size : Int)) := by
      unfold mixedS at hm
      rw [Bool.and_eq_true] at hm
      unfold lettersS
      rw [hm.1, Bool.true_and, Bool.eq_iff_iff, ← cntL_all, hlen, beq_iff_eq]
      omega
    have HE := Lib.hid e
    clear e hlen hLD
    go_enter Try.func34, Try.ntmps34
    go_wp2_with (first
      | (go_at_call 59; refine (mixed_any _ _ _ _ hs).mono ?_; rintro e w' ⟨rfl, rfl⟩)
      | (go_at_call 56; refine (refLetters_any _ _ hs).mono ?_; rintro e w' ⟨rfl, rfl⟩))
    go_ret
    exact ⟨ret_bool HE.out.symm, rfl⟩

theorem refAgent_any (s : ByteArray) (w : World) (hs : s.size ≤ maxLen) :
    Calls Try.prog 32 #[.string s] w fun e w' => e = .returned (.bool (agentS s.data.toList)) ∧ w = w' := by
  have hlen : s.data.toList.length = s.size := by simp
  cases hm : mixedS s.data.toList 2 6
  · have e : agentS s.data.toList = false := by
      cases hl : s.data.toList with
      | nil => rfl
      | cons a t =>
        rw [hl] at hm
        unfold mixedS at hm
        rw [agentS_cons]
        cases hd : decide (1 ≤ t.length ∧ t.length ≤ 5)
        · rfl
        · rw [decide_eq_true (by simp at hd ⊢; omega), Bool.true_and, List.all_cons] at hm
          cases ha : bL a
          · rfl
          · unfold bLD at hm
            rw [ha, Bool.true_or, Bool.true_and] at hm
            exact hm
    have HE := Lib.hid e
    clear e hlen
    go_enter Try.func32, Try.ntmps32
    go_wp2_with (go_at_call 59; refine (mixed_any _ _ _ _ hs).mono ?_; rintro e w' ⟨rfl, rfl⟩)
    go_ret
    exact ⟨ret_bool HE.out.symm, rfl⟩
  · have hm' := hm
    unfold mixedS at hm'
    rw [Bool.and_eq_true, decide_eq_true_eq, hlen] at hm'
    have g0 : 0 < s.size := by omega
    have hix := get_list s 0 g0
    have e : agentS s.data.toList = isL ((s.data.toList.getD 0 0).toNat : Int) := by
      cases hl : s.data.toList with
      | nil => rw [hl] at hlen; simp at hlen; omega
      | cons a t =>
        rw [hl] at hm' hlen
        simp at hlen
        rw [agentS_cons, decide_eq_true (by omega), Bool.true_and]
        have h2 := hm'.2
        rw [List.all_cons, Bool.and_eq_true] at h2
        have h3 : t.all bLD = true := h2.2
        rw [h3, Bool.and_true]
        rfl
    have hbb := byte_hi (s.data.toList.getD 0 0)
    have HE := Lib.hid e
    generalize s.data.toList.getD 0 0 = b at hix hbb HE
    clear e hlen hm'
    go_enter Try.func32, Try.ntmps32
    go_wp2_with (first
      | (go_at_call 59; refine (mixed_any _ _ _ _ hs).mono ?_; rintro e w' ⟨rfl, rfl⟩)
      | (go_at_call 60; refine (refLetter_any _ _ (by omega) hbb).mono ?_; rintro e w' ⟨rfl, rfl⟩))
    go_ret
    exact ⟨ret_bool HE.out.symm, rfl⟩

theorem refCarrier_any (s : ByteArray) (w : World) (hs : s.size ≤ maxLen) :
    Calls Try.prog 30 #[.string s] w fun e w' => e = .returned (.bool (carrierS s.data.toList)) ∧ w = w' := by
  have hlen : s.data.toList.length = s.size := by simp
  have hne : mixedS s.data.toList 2 2 = false → carrierS s.data.toList = false := by
    intro hm
    by_cases h2 : s.data.toList.length = 2
    · match hl : s.data.toList, h2 with
      | [a, b], _ =>
        rw [hl] at hm
        simp [mixedS, bLD] at hm
        simp only [carrierS]
        cases ha : bL a <;> cases hb : bL b <;> cases hc : bD a <;> cases hd : bD b <;> simp_all
    · exact carrierS_len _ h2
  cases hm : mixedS s.data.toList 2 2
  · have HE := Lib.hid (hne hm)
    clear hlen hne
    go_enter Try.func30, Try.ntmps30
    go_wp2_with (go_at_call 59; refine (mixed_any _ _ _ _ hs).mono ?_; rintro e w' ⟨rfl, rfl⟩)
    go_ret
    exact ⟨ret_bool HE.out.symm, rfl⟩
  · have e : carrierS s.data.toList = decide (0 < cntL s.data.toList) := by
      have hm' := hm
      unfold mixedS at hm'
      rw [Bool.and_eq_true, decide_eq_true_eq, hlen] at hm'
      match hl : s.data.toList, (by omega : s.data.toList.length = 2) with
      | [a, b], _ =>
        rw [hl] at hm'
        obtain ⟨_, h2⟩ := hm'
        simp [bLD] at h2
        simp only [carrierS, cntL, List.filter_cons, List.filter_nil]
        cases ha : bL a <;> cases hb : bL b <;> cases hc : bD a <;> cases hd : bD b <;> simp_all
    have HE := Lib.hid e
    clear e hlen hne
    go_enter Try.func30, Try.ntmps30
    go_wp2_with (first
      | (go_at_call 59; refine (mixed_any _ _ _ _ hs).mono ?_; rintro e w' ⟨rfl, rfl⟩)
      | (go_at_call 56; refine (refLetters_any _ _ hs).mono ?_; rintro e w' ⟨rfl, rfl⟩))
    go_ret
    exact ⟨ret_bool HE.out.symm, rfl⟩

theorem refClass_any (c : Int) (w : World) (h0 : 0 ≤ c) (h1 : c ≤ 255) :
    Calls Try.prog 42 #[.int .u8 c] w fun e w' => e = .returned (.bool (isL c)) ∧ w = w' := by
  go_enter Try.func42, Try.ntmps42
  go_wp2_with (go_at_call 60; refine (refLetter_any _ _ h0 h1).mono ?_; rintro e w' ⟨rfl, rfl⟩)
  go_ret
  exact ⟨rfl, rfl⟩
end Go.Proofs.Ytlaieijlengojaa
