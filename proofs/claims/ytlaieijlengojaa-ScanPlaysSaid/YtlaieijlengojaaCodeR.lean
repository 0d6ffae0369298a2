/- The contracts of the reference of package code: letters, Mixed, City, Carrier, Agent, Person, Locator, Class. -/
import Derived.Test.YtlaieijlengojaaCodeE
namespace Go.Proofs.Ytlaieijlengojaa
open Go.RowKit

def cntL (l : List UInt8) : Nat := (l.filter bL).length
def mixedS (l : List UInt8) (least most : Int) : Bool := decide (least ≤ (l.length : Int) ∧ (l.length : Int) ≤ most) && l.all bLD

theorem cntL_le (l : List UInt8) : cntL l ≤ l.length := List.length_filter_le _ _
theorem cntL_take (l : List UInt8) (k : Nat) (h : k < l.length) : cntL (l.take (k + 1)) = cntL (l.take k) + if bL (l.getD k 0) then 1 else 0 := by
  unfold cntL
  rw [List.take_succ_eq_append_getElem h, List.filter_append, List.length_append]
  simp only [List.getD, List.getElem?_eq_getElem h, Option.getD_some, List.filter_cons]
  split <;> simp
theorem get_list (s : ByteArray) (k : Nat) (h : k < s.size) : s[k] = s.data.toList.getD k 0 := by
  simp [List.getD, h]; rfl

theorem refLetters_any (s : ByteArray) (w : World) (hs : s.size ≤ maxLen) :
    Calls Try.prog 56 #[.string s] w fun e w' => e = .returned (.int .i64 (cntL s.data.toList)) ∧ w = w' := by
  unfold maxLen at hs
  have hlen : s.data.toList.length = s.size := by simp
  have HL := Lib.hid hlen
  clear hlen
  go_enter Try.func56, Try.ntmps56
  go_wp2
  go_loop [3, 4] (fun n i => ∃ k : Nat, k ≤ s.size ∧ i = .int .i64 k ∧ n = .int .i64 (cntL (s.data.toList.take k))) (fun _ i => s.size - (intOf i).toNat)
  case atStart => exact ⟨0, Nat.zero_le _, rfl, rfl⟩
  case round =>
    obtain ⟨k, hk, rfl, rfl⟩ := hrel
    by_cases hlt : k < s.size
    · have hix := get_list s k hlt
      have hst := cntL_take s.data.toList k (by rw [HL.out]; exact hlt)
      have hle := cntL_le (s.data.toList.take k)
      rw [List.length_take] at hle
      have hbb := byte_hi (s.data.toList.getD k 0)
      generalize s.data.toList.getD k 0 = b at hix hst hbb
      have HS := Lib.hid hst
      clear hst
      generalize cntL (s.data.toList.take k) = c at HS hle
      have hc : c ≤ k := by omega
      clear hle
      have hb0 : (0 : Int) ≤ (b.toNat : Int) := by omega
      cases hB : isL (b.toNat : Int)
      all_goals
        go_wp2_with (go_at_call 60; refine (refLetter_any _ _ hb0 hbb).mono ?_; rintro e w' ⟨rfl, rfl⟩)
        go_round
        case rel => exact ⟨k + 1, by omega, by go_num, by rw [HS.out]; simp [bL, hB]⟩
        case measure => simp [intOf]; omega
    · go_wp2
      go_ret
      exact ⟨ret_int (by rw [List.take_of_length_le (by rw [HL.out]; omega)]), rfl⟩

theorem mixed_any (s : ByteArray) (least most : Int) (w : World) (hs : s.size ≤ maxLen) :
    Calls Try.prog 59 #[.string s, .int .i64 least, .int .i64 most] w fun e w' => e = .returned (.bool (mixedS s.data.toList least most)) ∧ w = w' := by
  unfold maxLen at hs
  have hlen : s.data.toList.length = s.size := by simp
  by_cases h1 : (s.size : Int) < least
  · go_enter Try.func59, Try.ntmps59
    go_wp2
    go_ret
    exact ⟨ret_bool (by unfold mixedS; rw [hlen, decide_eq_false (by omega)]; rfl), rfl⟩
  by_cases h2 : most < (s.size : Int)
  · go_enter Try.func59, Try.ntmps59
    go_wp2
    go_ret
    exact ⟨ret_bool (by unfold mixedS; rw [hlen, decide_eq_false (by omega)]; rfl), rfl⟩
  have hd : decide (least ≤ (s.data.toList.length : Int) ∧ (s.data.toList.length : Int) ≤ most) = true := by rw [hlen]; exact decide_eq_true (by omega)
  have HD := Lib.hid hd
  clear hd
  have HL := Lib.hid hlen
  clear hlen
  go_enter Try.func59, Try.ntmps59
  go_wp2
  go_loop [7] (fun i => ∃ k : Nat, k ≤ s.size ∧ i = .int .i64 k ∧ (s.data.toList.take k).all bLD = true) (fun i => s.size - (intOf i).toNat)
  case atStart => exact ⟨0, Nat.zero_le _, rfl, rfl⟩
  case round =>
    obtain ⟨k, hk, rfl, hall⟩ := hrel
    have HA := Lib.hid hall
    clear hall
    by_cases hlt : k < s.size
    · have hix := get_list s k hlt
      have hbb := byte_hi (s.data.toList.getD k 0)
      generalize hg : s.data.toList.getD k 0 = b at hix hbb
      have HG := Lib.hid hg
      clear hg
      have hb0 : (0 : Int) ≤ (b.toNat : Int) := by omega
      cases hB : isL (b.toNat : Int) <;> cases hD : isD (b.toNat : Int)
      · go_wp2_with (first
          | (go_at_call 60; refine (refLetter_any _ _ hb0 hbb).mono ?_; rintro e w' ⟨rfl, rfl⟩)
          | (go_at_call 61; refine (refDigit_any _ _ hb0 hbb).mono ?_; rintro e w' ⟨rfl, rfl⟩))
        go_ret
        exact ⟨ret_bool (by unfold mixedS; rw [HD.out, all_false_of bLD _ k (by rw [HL.out]; omega) (by rw [HG.out]; simp [bLD, bL, bD, hB, hD])]; rfl), rfl⟩
      all_goals
        go_wp2_with (first
          | (go_at_call 60; refine (refLetter_any _ _ hb0 hbb).mono ?_; rintro e w' ⟨rfl, rfl⟩)
          | (go_at_call 61; refine (refDigit_any _ _ hb0 hbb).mono ?_; rintro e w' ⟨rfl, rfl⟩))
        go_round
        case rel => exact ⟨k + 1, by omega, by go_num, by rw [all_take_succ _ _ _ (by rw [HL.out]; omega), HA.out, HG.out]; simp [bLD, bL, bD, hB, hD]⟩
        case measure => simp [intOf]; omega
    · go_wp2
      go_ret
      exact ⟨ret_bool (by unfold mixedS; rw [HD.out]; have := HA.out; rw [List.take_of_length_le (by rw [HL.out]; omega)] at this; rw [this]; rfl), rfl⟩
end Go.Proofs.Ytlaieijlengojaa
