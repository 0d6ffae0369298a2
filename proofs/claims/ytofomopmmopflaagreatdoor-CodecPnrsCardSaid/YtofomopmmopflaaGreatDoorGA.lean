/- Carriers, agents, persons, free texts. -/
import Derived.Test.YtofomopmmopflaaGreatDoorMA
import Derived.Test.YtofomopmmopflaaGreatDoorMB
import Derived.Test.YtofomopmmopflaaGreatDoorMC
import Derived.Test.YtofomopmmopflaaGreatDoorME
import Derived.Test.YtofomopmmopflaaGreatDoorFN
import Derived.Test.YtofomopmmopflaaGreatDoorRows
import Derived.WalkKit
import Derived.WalkSpells
import Derived.WalkLawsBesides
import Derived.Lib.ConvBytes
import Derived.Lib.Hide
import Derived.Lib.SliceRun
import Derived.IntWalk
import Derived.BigQuiet
import Derived.Deep.QuietTactic
import Derived.Deep.RegionWith
import Derived.Deep.RegionHeld3
import Derived.Deep.LoopGhost
import Derived.Deep.CutRange
import Derived.Deep.CutBlock
import Derived.Deep.MidRow
import Derived.Laws.OwnMore
import Derived.OwnWalk
import Derived.Laws.AppendOwnNone
import Derived.Laws.Rows
import Derived.Laws.MakeOwn
import Derived.Laws.CopyOwn
import Derived.Laws.BitsAllLaws
import Derived.DeepKeys5
import Derived.Maps.OwnOps
import Derived.Handy
namespace Go.Proofs.YtofomopmmopflaaGreatDoor
open Go.RowKit
set_option linter.unusedSimpArgs false
set_option linter.unusedVariables false

def carrierS : List UInt8 → Bool
  | [a, b] => bL a && (bL b || bD b) || bD a && bL b
  | _ => false

theorem carrierS_len (l : List UInt8) (h : l.length ≠ 2) : carrierS l = false := by
  match l, h with
  | [], _ => rfl
  | [_], _ => rfl
  | [_, _], h => simp at h
  | _ :: _ :: _ :: _, _ => rfl

theorem carrier_any (s : ByteArray) (w : World) (_hs : s.size ≤ maxLen) :
    Calls Tryz.prog 79 #[.string s] w fun e w' => e = .returned (.bool (carrierS s.data.toList)) ∧ Below w.heap.size w w' := by
  by_cases h : s.size = 2
  · have hne : ((s.size : Int) != 2) = false := by rw [h]; rfl
    have H := Lib.hid h
    have g0 : (0 : Int) < (s.size : Int) := by omega
    have g1 : (1 : Int) < (s.size : Int) := by omega
    have g2 : 0 < s.size := by omega
    have g3 : 1 < s.size := by omega
    have hl : s.data.toList = [s[0], s[1]] := by
      apply List.ext_getElem
      · simpa using h
      · intro i h1 h2
        match i, h2 with
        | 0, _ => rfl
        | 1, _ => rfl
    have e : carrierS s.data.toList = (isL (s[0].toNat : Int) && (isL (s[1].toNat : Int) || isD (s[1].toNat : Int)) || isD (s[0].toNat : Int) && isL (s[1].toNat : Int)) := by rw [hl]; rfl
    have HE := Lib.hid e
    clear h hl e
    cases hA : isL (s[0].toNat : Int) <;> cases hB : isL (s[1].toNat : Int) <;> cases hC : isD (s[0].toNat : Int) <;> cases hD : isD (s[1].toNat : Int)
    all_goals
      rw [hA, hB, hC, hD] at HE
      go_enter Tryz.func79, Tryz.ntmps79
      go_wp2_with fail
      go_quiet (fail)
      go_wp2_with (first
        | (go_at_call 82; refine (letter_any _ _ (by omega) (byte_hi _)).mono ?_; rintro e w' ⟨rfl, rfl⟩)
        | (go_at_call 83; refine (digit_any _ _ (by omega) (byte_hi _)).mono ?_; rintro e w' ⟨rfl, rfl⟩))
      go_ret
      exact ⟨ret_bool HE.out.symm, below_drewN (Below.refl _ _) _⟩
  · go_enter Tryz.func79, Tryz.ntmps79
    go_wp2
    go_ret
    exact ⟨ret_bool (by rw [carrierS_len _ (by simpa using h)]), Below.refl _ _⟩

def bLD (b : UInt8) : Bool := bL b || bD b

/-- A byte of a free text that is no blank. -/
def bF (c : UInt8) : Bool := bL c || bD c || c.toNat == 46 || c.toNat == 45 || c.toNat == 47

def freeGo : Bool → List UInt8 → Bool
  | b, [] => !b
  | b, c :: t => if bF c then freeGo false t else if c.toNat == 32 && !b then freeGo true t else false

def freeS (l : List UInt8) : Bool := decide (1 ≤ l.length ∧ l.length ≤ 40) && freeGo true l

theorem freeGo_f {c : UInt8} (h : bF c = true) (b : Bool) (t : List UInt8) : freeGo b (c :: t) = freeGo false t := by simp [freeGo, h]

theorem freeGo_b {c : UInt8} (h : bF c = false) (h2 : c.toNat = 32) (t : List UInt8) : freeGo false (c :: t) = freeGo true t := by simp [freeGo, h, h2]

theorem freeGo_bb {c : UInt8} (h : bF c = false) (t : List UInt8) : freeGo true (c :: t) = false := by simp [freeGo, h]

theorem freeGo_n {c : UInt8} (h : bF c = false) (h2 : c.toNat ≠ 32) (b : Bool) (t : List UInt8) : freeGo b (c :: t) = false := by simp [freeGo, h, h2]

set_option maxHeartbeats 1000000 in
theorem free_any (s : ByteArray) (w : World) (hs : s.size ≤ maxLen) :
    Calls Tryz.prog 52 #[.string s] w fun e w' => e = .returned (.bool (freeS s.data.toList)) ∧ Below w.heap.size w w' := by
  unfold maxLen at hs
  have hlen : s.data.toList.length = s.size := by simp
  by_cases h1 : s.size = 0
  · have he : s = ⟨#[]⟩ := by
      obtain ⟨d⟩ := s
      simp [ByteArray.size] at h1
      rw [h1]
    subst he
    go_enter Tryz.func52, Tryz.ntmps52
    go_wp2
    go_ret
    exact ⟨rfl, Below.refl _ _⟩
  have hne : s.toList.isEmpty = false := by
    rw [ByteArray.toList_eq]
    cases hq : s.data.toList with
    | nil => rw [hq] at hlen; simp at hlen; omega
    | cons a t => rfl
  by_cases h2 : 40 < (s.size : Int)
  · have k : freeS s.data.toList = false := by unfold freeS; rw [hlen, decide_eq_false (by omega)]; rfl
    have K := Lib.hid k
    clear k hlen
    go_enter Tryz.func52, Tryz.ntmps52
    go_wp2
    go_ret
    exact ⟨ret_bool K.out.symm, Below.refl _ _⟩
  obtain ⟨w1, cap, hcv, hb, hz, hcell⟩ := bytes_conv s w
  have e : freeS s.data.toList = freeGo true s.data.toList := by unfold freeS; rw [hlen, decide_eq_true (by omega)]; rfl
  have HE := Lib.hid e
  have HL := Lib.hid hlen
  clear hlen e
  go_enter Tryz.func52, Tryz.ntmps52
  go_wp2
  go_loop [3, 16] (fun bl i => ∃ (k : Nat) (b : Bool), k ≤ s.size ∧ i = .int .i64 k ∧ bl = .bool b ∧ freeGo b (s.data.toList.drop k) = freeGo true s.data.toList) (fun _ i => s.size - (intOf i).toNat)
  case atStart => exact ⟨0, true, Nat.zero_le _, rfl, rfl, rfl⟩
  case round =>
    obtain ⟨k, bl, hk, rfl, rfl, hfg⟩ := hrel
    by_cases hlt : k < s.size
    · rw [drop_cons _ _ (by rw [HL.out]; exact hlt)] at hfg
      have hc := hcell k hlt
      have hbb := byte_hi (s.data.toList.getD k 0)
      generalize hg : s.data.toList.getD k 0 = b at hc hbb hfg
      have HG := Lib.hid hg
      clear hg hcell
      have hb0 : (0 : Int) ≤ (b.toNat : Int) := by omega
      have HFG := Lib.hid hfg
      clear hfg
      cases hB : isL (b.toNat : Int)
      case true =>
        have hf : bF b = true := by simp [bF, bL, hB]
        have HF := Lib.hid hf
        clear hf
        go_wp2_with (first
          | (go_at_call 82; refine (letter_any _ _ hb0 hbb).mono ?_; rintro e w' ⟨rfl, rfl⟩)
          | (go_at_call 83; refine (digit_any _ _ hb0 hbb).mono ?_; rintro e w' ⟨rfl, rfl⟩))
        go_round
        case rel => exact ⟨k + 1, false, by omega, by go_num, rfl, by rw [← HFG.out, freeGo_f (by exact HF.out)]⟩
        case measure => simp [intOf]; omega
      cases hD : isD (b.toNat : Int)
      case true =>
        have hf : bF b = true := by simp [bF, bD, hD]
        have HF := Lib.hid hf
        clear hf
        go_wp2_with (first
          | (go_at_call 82; refine (letter_any _ _ hb0 hbb).mono ?_; rintro e w' ⟨rfl, rfl⟩)
          | (go_at_call 83; refine (digit_any _ _ hb0 hbb).mono ?_; rintro e w' ⟨rfl, rfl⟩))
        go_round
        case rel => exact ⟨k + 1, false, by omega, by go_num, rfl, by rw [← HFG.out, freeGo_f (by exact HF.out)]⟩
        case measure => simp [intOf]; omega
      by_cases h46 : b.toNat = 46
      · have hf : bF b = true := by simp [bF, h46]
        have HF := Lib.hid hf
        have g46 : ((b.toNat : Int) == 46) = true := by rw [h46]; rfl
        clear hf h46
        go_wp2_with (first
          | (go_at_call 82; refine (letter_any _ _ hb0 hbb).mono ?_; rintro e w' ⟨rfl, rfl⟩)
          | (go_at_call 83; refine (digit_any _ _ hb0 hbb).mono ?_; rintro e w' ⟨rfl, rfl⟩))
        go_round
        case rel => exact ⟨k + 1, false, by omega, by go_num, rfl, by rw [← HFG.out, freeGo_f (by exact HF.out)]⟩
        case measure => simp [intOf]; omega
      have g46 : ((b.toNat : Int) == 46) = false := by simp; omega
      by_cases h45 : b.toNat = 45
      · have hf : bF b = true := by simp [bF, h45]
        have HF := Lib.hid hf
        have g45 : ((b.toNat : Int) == 45) = true := by rw [h45]; rfl
        clear hf h45
        go_wp2_with (first
          | (go_at_call 82; refine (letter_any _ _ hb0 hbb).mono ?_; rintro e w' ⟨rfl, rfl⟩)
          | (go_at_call 83; refine (digit_any _ _ hb0 hbb).mono ?_; rintro e w' ⟨rfl, rfl⟩))
        go_round
        case rel => exact ⟨k + 1, false, by omega, by go_num, rfl, by rw [← HFG.out, freeGo_f (by exact HF.out)]⟩
        case measure => simp [intOf]; omega
      have g45 : ((b.toNat : Int) == 45) = false := by simp; omega
      by_cases h47 : b.toNat = 47
      · have hf : bF b = true := by simp [bF, h47]
        have HF := Lib.hid hf
        have g47 : ((b.toNat : Int) == 47) = true := by rw [h47]; rfl
        clear hf h47
        go_wp2_with (first
          | (go_at_call 82; refine (letter_any _ _ hb0 hbb).mono ?_; rintro e w' ⟨rfl, rfl⟩)
          | (go_at_call 83; refine (digit_any _ _ hb0 hbb).mono ?_; rintro e w' ⟨rfl, rfl⟩))
        go_round
        case rel => exact ⟨k + 1, false, by omega, by go_num, rfl, by rw [← HFG.out, freeGo_f (by exact HF.out)]⟩
        case measure => simp [intOf]; omega
      have g47 : ((b.toNat : Int) == 47) = false := by simp; omega
      have hf : bF b = false := by simp [bF, bL, bD, hB, hD, h46, h45, h47]
      have HF := Lib.hid hf
      clear hf
      by_cases h32 : b.toNat = 32
      · have H32 := Lib.hid h32
        have g32 : ((b.toNat : Int) == 32) = true := by rw [h32]; rfl
        clear h32 h46 h45 h47
        cases bl
        · go_wp2_with (first
            | (go_at_call 82; refine (letter_any _ _ hb0 hbb).mono ?_; rintro e w' ⟨rfl, rfl⟩)
            | (go_at_call 83; refine (digit_any _ _ hb0 hbb).mono ?_; rintro e w' ⟨rfl, rfl⟩))
          go_round
          case rel => exact ⟨k + 1, true, by omega, by go_num, rfl, by rw [← HFG.out, freeGo_b HF.out H32.out]⟩
          case measure => simp [intOf]; omega
        · go_wp2_with (first
            | (go_at_call 82; refine (letter_any _ _ hb0 hbb).mono ?_; rintro e w' ⟨rfl, rfl⟩)
            | (go_at_call 83; refine (digit_any _ _ hb0 hbb).mono ?_; rintro e w' ⟨rfl, rfl⟩))
          go_ret
          exact ⟨ret_bool (by rw [HE.out, ← HFG.out, freeGo_bb HF.out]), hb⟩
      · have H32 := Lib.hid h32
        have g32 : ((b.toNat : Int) == 32) = false := by simp; omega
        clear h32 h46 h45 h47
        go_wp2_with (first
          | (go_at_call 82; refine (letter_any _ _ hb0 hbb).mono ?_; rintro e w' ⟨rfl, rfl⟩)
          | (go_at_call 83; refine (digit_any _ _ hb0 hbb).mono ?_; rintro e w' ⟨rfl, rfl⟩))
        go_ret
        exact ⟨ret_bool (by rw [HE.out, ← HFG.out, freeGo_n HF.out H32.out]), hb⟩
    · go_wp2
      go_ret
      exact ⟨ret_bool (by rw [HE.out, ← hfg, List.drop_of_length_le (by rw [HL.out]; omega)]; rfl), hb⟩

def mixedS (l : List UInt8) (least most : Int) : Bool := decide (least ≤ (l.length : Int) ∧ (l.length : Int) ≤ most) && l.all bLD

theorem mixed_any (s : ByteArray) (least most : Int) (w : World) (hs : s.size ≤ maxLen) :
    Calls Tryz.prog 86 #[.string s, .int .i64 least, .int .i64 most] w fun e w' => e = .returned (.bool (mixedS s.data.toList least most)) ∧ w = w' := by
  unfold maxLen at hs
  have hlen : s.data.toList.length = s.size := by simp
  by_cases h1 : (s.size : Int) < least
  · go_enter Tryz.func86, Tryz.ntmps86
    go_wp2
    go_ret
    exact ⟨ret_bool (by unfold mixedS; rw [hlen, decide_eq_false (by omega)]; rfl), rfl⟩
  by_cases h2 : most < (s.size : Int)
  · go_enter Tryz.func86, Tryz.ntmps86
    go_wp2
    go_ret
    exact ⟨ret_bool (by unfold mixedS; rw [hlen, decide_eq_false (by omega)]; rfl), rfl⟩
  have hd : decide (least ≤ (s.data.toList.length : Int) ∧ (s.data.toList.length : Int) ≤ most) = true := by rw [hlen]; exact decide_eq_true (by omega)
  have HD := Lib.hid hd
  clear hd
  have HL := Lib.hid hlen
  clear hlen
  go_enter Tryz.func86, Tryz.ntmps86
  go_wp2
  go_loop [7] (fun i => ∃ k : Nat, k ≤ s.size ∧ i = .int .i64 k ∧ (s.data.toList.take k).all bLD = true) (fun i => s.size - (intOf i).toNat)
  case atStart => exact ⟨0, Nat.zero_le _, rfl, rfl⟩
  case round =>
    obtain ⟨k, hk, rfl, hall⟩ := hrel
    have HA := Lib.hid hall
    clear hall
    by_cases hlt : k < s.size
    · have hix := get_list s k hlt
      have hbb := byte_hi (s.data.toList.getD k 0)
      generalize hg : s.data.toList.getD k 0 = b at hix hbb
      have HG := Lib.hid hg
      clear hg
      have hb0 : (0 : Int) ≤ (b.toNat : Int) := by omega
      cases hB : isL (b.toNat : Int) <;> cases hD : isD (b.toNat : Int)
      · go_wp2_with (first
          | (go_at_call 90; refine (refLetter_any _ _ hb0 hbb).mono ?_; rintro e w' ⟨rfl, rfl⟩)
          | (go_at_call 91; refine (refDigit_any _ _ hb0 hbb).mono ?_; rintro e w' ⟨rfl, rfl⟩))
        go_ret
        exact ⟨ret_bool (by unfold mixedS; rw [HD.out, all_false_of bLD _ k (by rw [HL.out]; omega) (by rw [HG.out]; simp [bLD, bL, bD, hB, hD])]; rfl), rfl⟩
      all_goals
        go_wp2_with (first
          | (go_at_call 90; refine (refLetter_any _ _ hb0 hbb).mono ?_; rintro e w' ⟨rfl, rfl⟩)
          | (go_at_call 91; refine (refDigit_any _ _ hb0 hbb).mono ?_; rintro e w' ⟨rfl, rfl⟩))
        go_round
        case rel => exact ⟨k + 1, by omega, by go_num, by rw [all_take_succ _ _ _ (by rw [HL.out]; omega), HA.out, HG.out]; simp [bLD, bL, bD, hB, hD]⟩
        case measure => simp [intOf]; omega
    · go_wp2
      go_ret
      exact ⟨ret_bool (by unfold mixedS; rw [HD.out]; have := HA.out; rw [List.take_of_length_le (by rw [HL.out]; omega)] at this; rw [this]; rfl), rfl⟩

theorem refPerson_any (s : ByteArray) (w : World) (hs : s.size ≤ maxLen) :
    Calls Tryz.prog 59 #[.string s] w fun e w' => e = .returned (.bool (lettersS s.data.toList 1 16)) ∧ w = w' := by
  have hlen : s.data.toList.length = s.size := by simp
  have hLD : s.data.toList.all bL = true → s.data.toList.all bLD = true := by
    intro h
    rw [List.all_eq_true] at h ⊢
    intro x hx
    simp [bLD, h x hx]
  cases hm : mixedS s.data.toList 1 16
  · have e : lettersS s.data.toList 1 16 = false := by
      unfold mixedS at hm
      unfold lettersS
      cases hd : decide ((1 : Int) ≤ (s.data.toList.length : Int) ∧ (s.data.toList.length : Int) ≤ 16)
      · rfl
      · rw [hd, Bool.true_and] at hm
        cases ha : s.data.toList.all bL
        · rfl
        · rw [hLD ha] at hm; cases hm
    have HE := Lib.hid e
    clear e hlen hLD
    go_enter Tryz.func59, Tryz.ntmps59
    go_wp2_with (go_at_call 86; refine (mixed_any _ _ _ _ hs).mono ?_; rintro e w' ⟨rfl, rfl⟩)
    go_ret
    exact ⟨ret_bool HE.out.symm, rfl⟩
  · have e : lettersS s.data.toList 1 16 = ((cntL s.data.toList : Int) == (s.size : Int)) := by
      unfold mixedS at hm
      rw [Bool.and_eq_true] at hm
      unfold lettersS
      rw [hm.1, Bool.true_and, Bool.eq_iff_iff, ← cntL_all, hlen, beq_iff_eq]
      omega
    have HE := Lib.hid e
    clear e hlen hLD
    go_enter Tryz.func59, Tryz.ntmps59
    go_wp2_with (first
      | (go_at_call 86; refine (mixed_any _ _ _ _ hs).mono ?_; rintro e w' ⟨rfl, rfl⟩)
      | (go_at_call 85; refine (refLetters_any _ _ hs).mono ?_; rintro e w' ⟨rfl, rfl⟩))
    go_ret
    exact ⟨ret_bool HE.out.symm, rfl⟩

theorem refCarrier_any (s : ByteArray) (w : World) (hs : s.size ≤ maxLen) :
    Calls Tryz.prog 87 #[.string s] w fun e w' => e = .returned (.bool (carrierS s.data.toList)) ∧ w = w' := by
  have hlen : s.data.toList.length = s.size := by simp
  have hne : mixedS s.data.toList 2 2 = false → carrierS s.data.toList = false := by
    intro hm
    by_cases h2 : s.data.toList.length = 2
    · match hl : s.data.toList, h2 with
      | [a, b], _ =>
        rw [hl] at hm
        simp [mixedS, bLD] at hm
        simp only [carrierS]
        cases ha : bL a <;> cases hb : bL b <;> cases hc : bD a <;> cases hd : bD b <;> simp_all
    · exact carrierS_len _ h2
  cases hm : mixedS s.data.toList 2 2
  · have HE := Lib.hid (hne hm)
    clear hlen hne
    go_enter Tryz.func87, Tryz.ntmps87
    go_wp2_with (go_at_call 86; refine (mixed_any _ _ _ _ hs).mono ?_; rintro e w' ⟨rfl, rfl⟩)
    go_ret
    exact ⟨ret_bool HE.out.symm, rfl⟩
  · have e : carrierS s.data.toList = decide (0 < cntL s.data.toList) := by
      have hm' := hm
      unfold mixedS at hm'
      rw [Bool.and_eq_true, decide_eq_true_eq, hlen] at hm'
      match hl : s.data.toList, (by omega : s.data.toList.length = 2) with
      | [a, b], _ =>
        rw [hl] at hm'
        obtain ⟨_, h2⟩ := hm'
        simp [bLD] at h2
        simp only [carrierS, cntL, List.filter_cons, List.filter_nil]
        cases ha : bL a <;> cases hb : bL b <;> cases hc : bD a <;> cases hd : bD b <;> simp_all
    have HE := Lib.hid e
    clear e hlen hne
    go_enter Tryz.func87, Tryz.ntmps87
    go_wp2_with (first
      | (go_at_call 86; refine (mixed_any _ _ _ _ hs).mono ?_; rintro e w' ⟨rfl, rfl⟩)
      | (go_at_call 85; refine (refLetters_any _ _ hs).mono ?_; rintro e w' ⟨rfl, rfl⟩))
    go_ret
    exact ⟨ret_bool HE.out.symm, rfl⟩

/-- What the reference asks of each byte. -/
def okAt (l : List UInt8) (k : Nat) : Bool := !((l.getD k 0).toNat == 32 && (l.getD (k - 1) 0).toNat == 32) && (bF (l.getD k 0) || (l.getD k 0).toNat == 32)

def refFreeS (l : List UInt8) : Bool := decide (1 ≤ l.length ∧ l.length ≤ 40) && !((l.getD 0 0).toNat == 32) && !((l.getD (l.length - 1) 0).toNat == 32) && (List.range l.length).all (okAt l)

theorem range_take_all (p : Nat → Bool) (k : Nat) (hp : (List.range k).all p = true) (hk : p k = true) : (List.range (k + 1)).all p = true := by
  rw [List.range_succ, List.all_append, hp]; simp [hk]

theorem range_all_false (p : Nat → Bool) (n k : Nat) (h : k < n) (hk : p k = false) : (List.range n).all p = false := by
  rw [List.all_eq_false]; exact ⟨k, List.mem_range.2 h, by rw [hk]; decide⟩

theorem refFreeS_len (l : List UInt8) (h : ¬ (1 ≤ l.length ∧ l.length ≤ 40)) : refFreeS l = false := by unfold refFreeS; rw [decide_eq_false h]; rfl

theorem refFreeS_first (l : List UInt8) (h : (l.getD 0 0).toNat = 32) : refFreeS l = false := by unfold refFreeS; rw [h]; simp

theorem refFreeS_last (l : List UInt8) (h : (l.getD (l.length - 1) 0).toNat = 32) : refFreeS l = false := by unfold refFreeS; rw [h]; simp

theorem refFreeS_at (l : List UInt8) (k : Nat) (hk : k < l.length) (h : okAt l k = false) : refFreeS l = false := by unfold refFreeS; rw [range_all_false _ _ k hk h]; simp

theorem refFreeS_yes (l : List UInt8) (h1 : 1 ≤ l.length ∧ l.length ≤ 40) (h2 : (l.getD 0 0).toNat ≠ 32) (h3 : (l.getD (l.length - 1) 0).toNat ≠ 32) (h4 : (List.range l.length).all (okAt l) = true) : refFreeS l = true := by
  unfold refFreeS; rw [decide_eq_true h1, h4, beq_eq_false_iff_ne.2 h2, beq_eq_false_iff_ne.2 h3]; rfl

theorem okAt_blank (l : List UInt8) (k : Nat) (h : (l.getD k 0).toNat = 32) : ((l.getD (k - 1) 0).toNat ≠ 32 → okAt l k = true) ∧ ((l.getD (k - 1) 0).toNat = 32 → okAt l k = false) := by
  unfold okAt
  rw [h]
  exact ⟨fun h2 => by rw [beq_eq_false_iff_ne.2 h2]; simp, fun h2 => by rw [h2]; rfl⟩

theorem okAt_other (l : List UInt8) (k : Nat) (h : (l.getD k 0).toNat ≠ 32) : okAt l k = bF (l.getD k 0) := by
  unfold okAt
  rw [beq_eq_false_iff_ne.2 h]
  simp

set_option maxHeartbeats 2000000 in
theorem refFree_any (s : ByteArray) (w : World) (hs : s.size ≤ maxLen) :
    Calls Tryz.prog 63 #[.string s] w fun e w' => e = .returned (.bool (refFreeS s.data.toList)) ∧ w = w' := by
  unfold maxLen at hs
  have hlen : s.data.toList.length = s.size := by simp
  by_cases h1 : s.size < 1
  · have HE := Lib.hid (refFreeS_len s.data.toList (by omega))
    have g1 : (s.size : Int) < 1 := by omega
    clear hlen
    go_enter Tryz.func63, Tryz.ntmps63
    go_wp2
    go_ret
    exact ⟨ret_bool HE.out.symm, rfl⟩
  by_cases h2 : 40 < s.size
  · have HE := Lib.hid (refFreeS_len s.data.toList (by omega))
    have g1 : (40 : Int) < (s.size : Int) := by omega
    clear hlen
    go_enter Tryz.func63, Tryz.ntmps63
    go_wp2
    go_ret
    exact ⟨ret_bool HE.out.symm, rfl⟩
  have g0 : 0 < s.size := by omega
  have gl : s.size - 1 < s.size := by omega
  have hi0 := get_list s 0 g0
  have hil := get_list s (s.size - 1) gl
  have hlast := refFreeS_last s.data.toList
  have hfirst := refFreeS_first s.data.toList
  have hyes := refFreeS_yes s.data.toList (by omega)
  rw [hlen] at hlast hyes
  generalize s.data.toList.getD 0 0 = b0 at hi0 hfirst hyes
  generalize s.data.toList.getD (s.size - 1) 0 = bl at hil hlast hyes
  have HL := Lib.hid hlen
  have HFI := Lib.hid hfirst
  have HLA := Lib.hid hlast
  have HY := Lib.hid hyes
  clear hlen hfirst hlast hyes
  by_cases h3 : b0.toNat = 32
  · have g3 : ((b0.toNat : Int) == 32) = true := by rw [h3]; rfl
    have H3 := Lib.hid h3
    clear h3
    go_enter Tryz.func63, Tryz.ntmps63
    go_wp2
    go_ret
    exact ⟨ret_bool (HFI.out H3.out).symm, rfl⟩
  have g3 : ((b0.toNat : Int) == 32) = false := by simp; omega
  by_cases h4 : bl.toNat = 32
  · have g4 : ((bl.toNat : Int) == 32) = true := by rw [h4]; rfl
    have H4 := Lib.hid h4
    clear h4
    go_enter Tryz.func63, Tryz.ntmps63
    go_wp2
    go_ret
    exact ⟨ret_bool (HLA.out H4.out).symm, rfl⟩
  have g4 : ((bl.toNat : Int) == 32) = false := by simp; omega
  have H4 := Lib.hid h4
  clear h4
  go_enter Tryz.func63, Tryz.ntmps63
  go_wp2
  go_loop [3] (fun i => ∃ k : Nat, k ≤ s.size ∧ i = .int .i64 k ∧ (List.range k).all (okAt s.data.toList) = true) (fun i => s.size - (intOf i).toNat)
  case atStart => exact ⟨0, Nat.zero_le _, rfl, rfl⟩
  case round =>
    obtain ⟨k, hk, rfl, hall⟩ := hrel
    have HA := Lib.hid hall
    clear hall
    by_cases hlt : k < s.size
    · have hix := get_list s k hlt
      have hbb := byte_hi (s.data.toList.getD k 0)
      generalize hg : s.data.toList.getD k 0 = b at hix hbb
      have HG := Lib.hid hg
      clear hg
      have hb0 : (0 : Int) ≤ (b.toNat : Int) := by omega
      by_cases h32 : b.toNat = 32
      · have hk1 : 1 ≤ k := by
          rcases Nat.eq_zero_or_pos k with h | h
          · subst h
            rw [hi0] at hix
            subst hix
            exact absurd h32 h3
          · exact h
        have gk : k - 1 < s.size := by omega
        have hip := get_list s (k - 1) gk
        have hok := okAt_blank s.data.toList k (by rw [HG.out]; exact h32)
        generalize s.data.toList.getD (k - 1) 0 = p at hip hok
        have HO := Lib.hid hok
        have H32 := Lib.hid h32
        have g32 : ((b.toNat : Int) == 32) = true := by rw [h32]; rfl
        have g32n : ((b.toNat : Int) != 32) = false := by rw [h32]; rfl
        have hB : isL (b.toNat : Int) = false := by rw [h32]; rfl
        have hD : isD (b.toNat : Int) = false := by rw [h32]; rfl
        have g46 : ((b.toNat : Int) != 46) = true := by rw [h32]; rfl
        have g45 : ((b.toNat : Int) != 45) = true := by rw [h32]; rfl
        have g47 : ((b.toNat : Int) != 47) = true := by rw [h32]; rfl
        clear h32 hok
        by_cases hp : p.toNat = 32
        · have gp : ((p.toNat : Int) == 32) = true := by rw [hp]; rfl
          have HK := Lib.hid (HO.out.2 hp)
          clear hp
          go_wp2_with (first
            | (go_at_call 90; refine (refLetter_any _ _ hb0 hbb).mono ?_; rintro e w' ⟨rfl, rfl⟩)
            | (go_at_call 91; refine (refDigit_any _ _ hb0 hbb).mono ?_; rintro e w' ⟨rfl, rfl⟩))
          go_ret
          exact ⟨ret_bool (refFreeS_at _ k (by rw [HL.out]; exact hlt) HK.out).symm, rfl⟩
        · have gp : ((p.toNat : Int) == 32) = false := by simp; omega
          have HK := Lib.hid (HO.out.1 hp)
          clear hp
          go_wp2_with (first
            | (go_at_call 90; refine (refLetter_any _ _ hb0 hbb).mono ?_; rintro e w' ⟨rfl, rfl⟩)
            | (go_at_call 91; refine (refDigit_any _ _ hb0 hbb).mono ?_; rintro e w' ⟨rfl, rfl⟩))
          go_round
          case rel => exact ⟨k + 1, by omega, by go_num, range_take_all _ k HA.out HK.out⟩
          case measure => simp [intOf]; omega
  
      have g32 : ((b.toNat : Int) == 32) = false := by simp; omega
      have g32n : ((b.toNat : Int) != 32) = true := by rw [bne_iff_ne]; omega
      have hok := okAt_other s.data.toList k (by rw [HG.out]; exact h32)
      rw [HG.out] at hok
      have HO := Lib.hid hok
      clear hok
      have H32 := Lib.hid h32
      clear h32
      cases hB : isL (b.toNat : Int)
      case true =>
        have HK := Lib.hid (HO.out.trans (show bF b = true by simp [bF, bL, hB]))
        go_wp2_with (first
          | (go_at_call 90; refine (refLetter_any _ _ hb0 hbb).mono ?_; rintro e w' ⟨rfl, rfl⟩)
          | (go_at_call 91; refine (refDigit_any _ _ hb0 hbb).mono ?_; rintro e w' ⟨rfl, rfl⟩))
        go_round
        case rel => exact ⟨k + 1, by omega, by go_num, range_take_all _ k HA.out HK.out⟩
        case measure => simp [intOf]; omega
      cases hD : isD (b.toNat : Int)
      case true =>
        have HK := Lib.hid (HO.out.trans (show bF b = true by simp [bF, bD, hD]))
        go_wp2_with (first
          | (go_at_call 90; refine (refLetter_any _ _ hb0 hbb).mono ?_; rintro e w' ⟨rfl, rfl⟩)
          | (go_at_call 91; refine (refDigit_any _ _ hb0 hbb).mono ?_; rintro e w' ⟨rfl, rfl⟩))
        go_round
        case rel => exact ⟨k + 1, by omega, by go_num, range_take_all _ k HA.out HK.out⟩
        case measure => simp [intOf]; omega
      by_cases h46 : b.toNat = 46
      · have HK := Lib.hid (HO.out.trans (show bF b = true by simp [bF, h46]))
        have g46 : ((b.toNat : Int) != 46) = false := by rw [h46]; rfl
        clear h46
        go_wp2_with (first
          | (go_at_call 90; refine (refLetter_any _ _ hb0 hbb).mono ?_; rintro e w' ⟨rfl, rfl⟩)
          | (go_at_call 91; refine (refDigit_any _ _ hb0 hbb).mono ?_; rintro e w' ⟨rfl, rfl⟩))
        go_round
        case rel => exact ⟨k + 1, by omega, by go_num, range_take_all _ k HA.out HK.out⟩
        case measure => simp [intOf]; omega
      have g46 : ((b.toNat : Int) != 46) = true := by rw [bne_iff_ne]; omega
      by_cases h45 : b.toNat = 45
      · have HK := Lib.hid (HO.out.trans (show bF b = true by simp [bF, h45]))
        have g45 : ((b.toNat : Int) != 45) = false := by rw [h45]; rfl
        clear h45
        go_wp2_with (first
          | (go_at_call 90; refine (refLetter_any _ _ hb0 hbb).mono ?_; rintro e w' ⟨rfl, rfl⟩)
          | (go_at_call 91; refine (refDigit_any _ _ hb0 hbb).mono ?_; rintro e w' ⟨rfl, rfl⟩))
        go_round
        case rel => exact ⟨k + 1, by omega, by go_num, range_take_all _ k HA.out HK.out⟩
        case measure => simp [intOf]; omega
      have g45 : ((b.toNat : Int) != 45) = true := by rw [bne_iff_ne]; omega
      by_cases h47 : b.toNat = 47
      · have HK := Lib.hid (HO.out.trans (show bF b = true by simp [bF, h47]))
        have g47 : ((b.toNat : Int) != 47) = false := by rw [h47]; rfl
        clear h47
        go_wp2_with (first
          | (go_at_call 90; refine (refLetter_any _ _ hb0 hbb).mono ?_; rintro e w' ⟨rfl, rfl⟩)
          | (go_at_call 91; refine (refDigit_any _ _ hb0 hbb).mono ?_; rintro e w' ⟨rfl, rfl⟩))
        go_round
        case rel => exact ⟨k + 1, by omega, by go_num, range_take_all _ k HA.out HK.out⟩
        case measure => simp [intOf]; omega
      have g47 : ((b.toNat : Int) != 47) = true := by rw [bne_iff_ne]; omega
      have HK := Lib.hid (HO.out.trans (show bF b = false by simp [bF, bL, bD, hB, hD, h46, h45, h47]))
      clear h46 h45 h47
      go_wp2_with (first
        | (go_at_call 90; refine (refLetter_any _ _ hb0 hbb).mono ?_; rintro e w' ⟨rfl, rfl⟩)
        | (go_at_call 91; refine (refDigit_any _ _ hb0 hbb).mono ?_; rintro e w' ⟨rfl, rfl⟩))
      go_ret
      exact ⟨ret_bool (refFreeS_at _ k (by rw [HL.out]; exact hlt) HK.out).symm, rfl⟩
    · go_wp2
      go_ret
      exact ⟨ret_bool (HY.out h3 H4.out (by have := HA.out; rw [show k = s.size by omega] at this; exact this)).symm, rfl⟩

def refGo : UInt8 → List UInt8 → Bool
  | p, [] => !(p.toNat == 32)
  | p, c :: t => (bF c || c.toNat == 32) && !(c.toNat == 32 && p.toNat == 32) && refGo c t

theorem bF_32 {c : UInt8} (h : bF c = true) : (c.toNat == 32) = false := by
  by_cases h2 : c.toNat = 32
  · simp [bF, bL, bD, isL, isD, h2] at h
  · exact beq_eq_false_iff_ne.2 h2

theorem freeGo_eq (l : List UInt8) : ∀ p : UInt8, freeGo (p.toNat == 32) l = refGo p l := by
  induction l with
  | nil => intro p; rfl
  | cons c t ih =>
    intro p
    rw [refGo, freeGo, ← ih c]
    cases hf : bF c
    · cases hc : (c.toNat == 32) <;> cases hp : (p.toNat == 32) <;> simp
    · rw [bF_32 hf]; simp

def okAt2 (p : UInt8) (l : List UInt8) (k : Nat) : Bool := (bF (l.getD k 0) || (l.getD k 0).toNat == 32) && !((l.getD k 0).toNat == 32 && (if k = 0 then p else l.getD (k - 1) 0).toNat == 32)

theorem okAt2_succ (p c : UInt8) (t : List UInt8) (k : Nat) : okAt2 p (c :: t) (k + 1) = okAt2 c t k := by
  unfold okAt2
  cases k <;> simp

theorem refGo_range (l : List UInt8) : ∀ p : UInt8, refGo p l = (!(((p :: l).getLastD 0).toNat == 32) && (List.range l.length).all (okAt2 p l)) := by
  induction l with
  | nil => intro p; simp [refGo]
  | cons c t ih =>
    intro p
    rw [refGo, ih c, List.length_cons, List.range_succ_eq_map, List.all_cons, List.all_map]
    have e : (okAt2 p (c :: t) ∘ Nat.succ) = okAt2 c t := funext fun k => okAt2_succ p c t k
    rw [e]
    have e2 : okAt2 p (c :: t) 0 = ((bF c || c.toNat == 32) && !(c.toNat == 32 && p.toNat == 32)) := rfl
    have e3 : (p :: c :: t).getLastD 0 = (c :: t).getLastD 0 := by simp
    rw [e2, e3]
    cases (bF c || c.toNat == 32) && !(c.toNat == 32 && p.toNat == 32) <;> simp

theorem free_eq (l : List UInt8) : freeS l = refFreeS l := by
  unfold freeS refFreeS
  cases hd : decide (1 ≤ l.length ∧ l.length ≤ 40)
  · rfl
  · have h32 : freeGo true l = refGo 32 l := freeGo_eq l 32
    rw [h32, refGo_range, Bool.true_and, Bool.true_and]
    cases l with
    | nil => simp at hd
    | cons c t =>
      have e1 : ((32 : UInt8) :: c :: t).getLastD 0 = (c :: t).getD ((c :: t).length - 1) 0 := by
        rw [List.getLastD_cons, List.getLastD_eq_getLast?, List.getLast?_eq_getElem?]
        simp [List.getD]
      rw [e1, List.length_cons, List.range_succ_eq_map, List.all_cons, List.all_cons]
      have e2 : okAt2 32 (c :: t) 0 = ((bF c || c.toNat == 32) && !(c.toNat == 32)) := by simp [okAt2]
      have e3 : okAt (c :: t) 0 = (!(c.toNat == 32) && (bF c || c.toNat == 32)) := by simp [okAt]
      have e4 : ∀ k, okAt2 32 (c :: t) (k + 1) = okAt (c :: t) (k + 1) := by intro k; simp [okAt2, okAt, Bool.and_comm]
      have e5 : ((List.range t.length).map Nat.succ).all (okAt2 32 (c :: t)) = ((List.range t.length).map Nat.succ).all (okAt (c :: t)) := by
        rw [List.all_map, List.all_map]
        congr 1
        funext k
        exact e4 k
      rw [e2, e3, e5]
      have e6 : (c :: t).getD 0 0 = c := rfl
      rw [e6]
      cases (c.toNat == 32) <;> cases bF c <;> simp

theorem refFree_any2 (s : ByteArray) (w : World) (hs : s.size ≤ maxLen) :
    Calls Tryz.prog 63 #[.string s] w fun e w' => e = .returned (.bool (freeS s.data.toList)) ∧ w = w' := by
  rw [free_eq]; exact refFree_any s w hs

end Go.Proofs.YtofomopmmopflaaGreatDoor
