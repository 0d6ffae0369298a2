/- The contracts of the reference's Free and Upper. -/
import Derived.Test.YtlaieijlengojaaCodeS
import Derived.Test.YtlaieijlengojaaCodeF
namespace Go.Proofs.Ytlaieijlengojaa
open Go.RowKit

/-- What the reference asks of each byte. -/
def okAt (l : List UInt8) (k : Nat) : Bool := !((l.getD k 0).toNat == 32 && (l.getD (k - 1) 0).toNat == 32) && (bF (l.getD k 0) || (l.getD k 0).toNat == 32)
def refFreeS (l : List UInt8) : Bool := decide (1 ≤ l.length ∧ l.length ≤ 40) && !((l.getD 0 0).toNat == 32) && !((l.getD (l.length - 1) 0).toNat == 32) && (List.range l.length).all (okAt l)

theorem range_take_all (p : Nat → Bool) (k : Nat) (hp : (List.range k).all p = true) (hk : p k = true) : (List.range (k + 1)).all p = true := by
  rw [List.range_succ, List.all_append, hp]; simp [hk]
theorem range_all_false (p : Nat → Bool) (n k : Nat) (h : k < n) (hk : p k = false) : (List.range n).all p = false := by
  rw [List.all_eq_false]; exact ⟨k, List.mem_range.2 h, by rw [hk]; decide⟩

theorem refFreeS_len (l : List UInt8) (h : ¬ (1 ≤ l.length ∧ l.length ≤ 40)) : refFreeS l = false := by unfold refFreeS; rw [decide_eq_false h]; rfl
theorem refFreeS_first (l : List UInt8) (h : (l.getD 0 0).toNat = 32) : refFreeS l = false := by unfold refFreeS; rw [h]; simp
theorem refFreeS_last (l : List UInt8) (h : (l.getD (l.length - 1) 0).toNat = 32) : refFreeS l = false := by unfold refFreeS; rw [h]; simp
theorem refFreeS_at (l : List UInt8) (k : Nat) (hk : k < l.length) (h : okAt l k = false) : refFreeS l = false := by unfold refFreeS; rw [range_all_false _ _ k hk h]; simp
theorem refFreeS_yes (l : List UInt8) (h1 : 1 ≤ l.length ∧ l.length ≤ 40) (h2 : (l.getD 0 0).toNat ≠ 32) (h3 : (l.getD (l.length - 1) 0).toNat ≠ 32) (h4 : (List.range l.length).all (okAt l) = true) : refFreeS l = true := by
  unfold refFreeS; rw [decide_eq_true h1, h4, beq_eq_false_iff_ne.2 h2, beq_eq_false_iff_ne.2 h3]; rfl

theorem okAt_blank (l : List UInt8) (k : Nat) (h : (l.getD k 0).toNat = 32) : ((l.getD (k - 1) 0).toNat ≠ 32 → okAt l k = true) ∧ ((l.getD (k - 1) 0).toNat = 32 → okAt l k = false) := by
  unfold okAt
  rw [h]
  exact ⟨fun h2 => by rw [beq_eq_false_iff_ne.2 h2]; simp, fun h2 => by rw [h2]; rfl⟩
theorem okAt_other (l : List UInt8) (k : Nat) (h : (l.getD k 0).toNat ≠ 32) : okAt l k = bF (l.getD k 0) := by
  unfold okAt
  rw [beq_eq_false_iff_ne.2 h]
  simp

set_option maxHeartbeats 2000000 in
theorem refFree_any (s : ByteArray) (w : World) (hs : s.size ≤ maxLen) :
    Calls Try.prog 38 #[.string s] w fun e w' => e = .returned (.bool (refFreeS s.data.toList)) ∧ w = w' := by
  unfold maxLen at hs
  have hlen : s.data.toList.length = s.size := by simp
  by_cases h1 : s.size < 1
  · have HE := Lib.hid (refFreeS_len s.data.toList (by omega))
    have g1 : (s.size : Int) < 1 := by omega
    clear hlen
    go_enter Try.func38, Try.ntmps38
    go_wp2
    go_ret
    exact ⟨ret_bool HE.out.symm, rfl⟩
  by_cases h2 : 40 < s.size
  · have HE := Lib.hid (refFreeS_len s.data.toList (by omega))
    have g1 : (40 : Int) < (s.size : Int) := by omega
    clear hlen
    go_enter Try.func38, Try.ntmps38
    go_wp2
    go_ret
    exact ⟨ret_bool HE.out.symm, rfl⟩
  have g0 : 0 < s.size := by omega
  have gl : s.size - 1 < s.size := by omega
  have hi0 := get_list s 0 g0
  have hil := get_list s (s.size - 1) gl
  have hlast := refFreeS_last s.data.toList
  have hfirst := refFreeS_first s.data.toList
  have hyes := refFreeS_yes s.data.toList (by omega)
  rw [hlen] at hlast hyes
  generalize s.data.toList.getD 0 0 = b0 at hi0 hfirst hyes
  generalize s.data.toList.getD (s.size - 1) 0 = bl at hil hlast hyes
  have HL := Lib.hid hlen
  have HFI := Lib.hid hfirst
  have HLA := Lib.hid hlast
  have HY := Lib.hid hyes
  clear hlen hfirst hlast hyes
  by_cases h3 : b0.toNat = 32
  · have g3 : ((b0.toNat : Int) == 32) = true := by rw [h3]; rfl
    have H3 := Lib.hid h3
    clear h3
    go_enter Try.func38, Try.ntmps38
    go_wp2
    go_ret
    exact ⟨ret_bool (HFI.out H3.out).symm, rfl⟩
  have g3 : ((b0.toNat : Int) == 32) = false := by simp; omega
  by_cases h4 : bl.toNat = 32
  · have g4 : ((bl.toNat : Int) == 32) = true := by rw [h4]; rfl
    have H4 := Lib.hid h4
    clear h4
    go_enter Try.func38, Try.ntmps38
    go_wp2
    go_ret
    exact ⟨ret_bool (HLA.out H4.out).symm, rfl⟩
  have g4 : ((bl.toNat : Int) == 32) = false := by simp; omega
  have H4 := Lib.hid h4
  clear h4
  go_enter Try.func38, Try.ntmps38
  go_wp2
  go_loop [3] (fun i => ∃ k : Nat, k ≤ s.size ∧ i = .int .i64 k ∧ (List.range k).all (okAt s.data.toList) = true) (fun i => s.size - (intOf i).toNat)
  case atStart => exact ⟨0, Nat.zero_le _, rfl, rfl⟩
  case round =>
    obtain ⟨k, hk, rfl, hall⟩ := hrel
    have HA := Lib.hid hall
    clear hall
    by_cases hlt : k < s.size
    · have hix := get_list s k hlt
      have hbb := byte_hi (s.data.toList.getD k 0)
      generalize hg : s.data.toList.getD k 0 = b at hix hbb
      have HG := Lib.hid hg
      clear hg
      have hb0 : (0 : Int) ≤ (b.toNat : Int) := by omega
      by_cases h32 : b.toNat = 32
      · have hk1 : 1 ≤ k := by
          rcases Nat.eq_zero_or_pos k with h | h
          · subst h
            rw [hi0] at hix
            subst hix
            exact absurd h32 h3
          · exact h
        have gk : k - 1 < s.size := by omega
        have hip := get_list s (k - 1) gk
        have hok := okAt_blank s.data.toList k (by rw [HG.out]; exact h32)
        generalize s.data.toList.getD (k - 1) 0 = p at hip hok
        have HO := Lib.hid hok
        have H32 := Lib.hid h32
        have g32 : ((b.toNat : Int) == 32) = true := by rw [h32]; rfl
        have g32n : ((b.toNat : Int) != 32) = false := by rw [h32]; rfl
        have hB : isL (b.toNat : Int) = false := by rw [h32]; rfl
        have hD : isD (b.toNat : Int) = false := by rw [h32]; rfl
        have g46 : ((b.toNat : Int) != 46) = true := by rw [h32]; rfl
        have g45 : ((b.toNat : Int) != 45) = true := by rw [h32]; rfl
        have g47 : ((b.toNat : Int) != 47) = true := by rw [h32]; rfl
        clear h32 hok
        by_cases hp : p.toNat = 32
        · have gp : ((p.toNat : Int) == 32) = true := by rw [hp]; rfl
          have HK := Lib.hid (HO.out.2 hp)
          clear hp
          go_wp2_with (first
            | (go_at_call 60; refine (refLetter_any _ _ hb0 hbb).mono ?_; rintro e w' ⟨rfl, rfl⟩)
            | (go_at_call 61; refine (refDigit_any _ _ hb0 hbb).mono ?_; rintro e w' ⟨rfl, rfl⟩))
          go_ret
          exact ⟨ret_bool (refFreeS_at _ k (by rw [HL.out]; exact hlt) HK.out).symm, rfl⟩
        · have gp : ((p.toNat : Int) == 32) = false := by simp; omega
          have HK := Lib.hid (HO.out.1 hp)
          clear hp
          go_wp2_with (first
            | (go_at_call 60; refine (refLetter_any _ _ hb0 hbb).mono ?_; rintro e w' ⟨rfl, rfl⟩)
            | (go_at_call 61; refine (refDigit_any _ _ hb0 hbb).mono ?_; rintro e w' ⟨rfl, rfl⟩))
          go_round
          case rel => exact ⟨k + 1, by omega, by go_num, range_take_all _ k HA.out HK.out⟩
          case measure => simp [intOf]; omega
  
      have g32 : ((b.toNat : Int) == 32) = false := by simp; omega
      have g32n : ((b.toNat : Int) != 32) = true := by rw [bne_iff_ne]; omega
      have hok := okAt_other s.data.toList k (by rw [HG.out]; exact h32)
      rw [HG.out] at hok
      have HO := Lib.hid hok
      clear hok
      have H32 := Lib.hid h32
      clear h32
      cases hB : isL (b.toNat : Int)
      case true =>
        have HK := Lib.hid (HO.out.trans (show bF b = true by simp [bF, bL, hB]))
        go_wp2_with (first
          | (go_at_call 60; refine (refLetter_any _ _ hb0 hbb).mono ?_; rintro e w' ⟨rfl, rfl⟩)
          | (go_at_call 61; refine (refDigit_any _ _ hb0 hbb).mono ?_; rintro e w' ⟨rfl, rfl⟩))
        go_round
        case rel => exact ⟨k + 1, by omega, by go_num, range_take_all _ k HA.out HK.out⟩
        case measure => simp [intOf]; omega
      cases hD : isD (b.toNat : Int)
      case true =>
        have HK := Lib.hid (HO.out.trans (show bF b = true by simp [bF, bD, hD]))
        go_wp2_with (first
          | (go_at_call 60; refine (refLetter_any _ _ hb0 hbb).mono ?_; rintro e w' ⟨rfl, rfl⟩)
          | (go_at_call 61; refine (refDigit_any _ _ hb0 hbb).mono ?_; rintro e w' ⟨rfl, rfl⟩))
        go_round
        case rel => exact ⟨k + 1, by omega, by go_num, range_take_all _ k HA.out HK.out⟩
        case measure => simp [intOf]; omega
      by_cases h46 : b.toNat = 46
      · have HK := Lib.hid (HO.out.trans (show bF b = true by simp [bF, h46]))
        have g46 : ((b.toNat : Int) != 46) = false := by rw [h46]; rfl
        clear h46
        go_wp2_with (first
          | (go_at_call 60; refine (refLetter_any _ _ hb0 hbb).mono ?_; rintro e w' ⟨rfl, rfl⟩)
          | (go_at_call 61; refine (refDigit_any _ _ hb0 hbb).mono ?_; rintro e w' ⟨rfl, rfl⟩))
        go_round
        case rel => exact ⟨k + 1, by omega, by go_num, range_take_all _ k HA.out HK.out⟩
        case measure => simp [intOf]; omega
      have g46 : ((b.toNat : Int) != 46) = true := by rw [bne_iff_ne]; omega
      by_cases h45 : b.toNat = 45
      · have HK := Lib.hid (HO.out.trans (show bF b = true by simp [bF, h45]))
        have g45 : ((b.toNat : Int) != 45) = false := by rw [h45]; rfl
        clear h45
        go_wp2_with (first
          | (go_at_call 60; refine (refLetter_any _ _ hb0 hbb).mono ?_; rintro e w' ⟨rfl, rfl⟩)
          | (go_at_call 61; refine (refDigit_any _ _ hb0 hbb).mono ?_; rintro e w' ⟨rfl, rfl⟩))
        go_round
        case rel => exact ⟨k + 1, by omega, by go_num, range_take_all _ k HA.out HK.out⟩
        case measure => simp [intOf]; omega
      have g45 : ((b.toNat : Int) != 45) = true := by rw [bne_iff_ne]; omega
      by_cases h47 : b.toNat = 47
      · have HK := Lib.hid (HO.out.trans (show bF b = true by simp [bF, h47]))
        have g47 : ((b.toNat : Int) != 47) = false := by rw [h47]; rfl
        clear h47
        go_wp2_with (first
          | (go_at_call 60; refine (refLetter_any _ _ hb0 hbb).mono ?_; rintro e w' ⟨rfl, rfl⟩)
          | (go_at_call 61; refine (refDigit_any _ _ hb0 hbb).mono ?_; rintro e w' ⟨rfl, rfl⟩))
        go_round
        case rel => exact ⟨k + 1, by omega, by go_num, range_take_all _ k HA.out HK.out⟩
        case measure => simp [intOf]; omega
      have g47 : ((b.toNat : Int) != 47) = true := by rw [bne_iff_ne]; omega
      have HK := Lib.hid (HO.out.trans (show bF b = false by simp [bF, bL, bD, hB, hD, h46, h45, h47]))
      clear h46 h45 h47
      go_wp2_with (first
        | (go_at_call 60; refine (refLetter_any _ _ hb0 hbb).mono ?_; rintro e w' ⟨rfl, rfl⟩)
        | (go_at_call 61; refine (refDigit_any _ _ hb0 hbb).mono ?_; rintro e w' ⟨rfl, rfl⟩))
      go_ret
      exact ⟨ret_bool (refFreeS_at _ k (by rw [HL.out]; exact hlt) HK.out).symm, rfl⟩
    · go_wp2
      go_ret
      exact ⟨ret_bool (HY.out h3 H4.out (by have := HA.out; rw [show k = s.size by omega] at this; exact this)).symm, rfl⟩
end Go.Proofs.Ytlaieijlengojaa
