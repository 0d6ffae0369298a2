/- Contracts of code.Agent, Free. -/
import Derived.Test.YtlaieijlengojaaCodeC
namespace Go.Proofs.Ytlaieijlengojaa
open Go.RowKit

def bLD (b : UInt8) : Bool := bL b || bD b
def agentS : List UInt8 → Bool
  | [] => false
  | a :: t => decide (1 ≤ t.length ∧ t.length ≤ 5) && bL a && t.all bLD

theorem agentS_cons (a : UInt8) (t : List UInt8) : agentS (a :: t) = (decide (1 ≤ t.length ∧ t.length ≤ 5) && bL a && t.all bLD) := rfl

theorem agent_any (s : ByteArray) (w : World) (hs : s.size ≤ maxLen) :
    Calls Try.prog 31 #[.string s] w fun e w' => e = .returned (.bool (agentS s.data.toList)) ∧ Below w.heap.size w w' := by
  unfold maxLen at hs
  have hlen : s.data.toList.length = s.size := by simp
  by_cases h1 : (s.size : Int) < 2
  · have k : agentS s.data.toList = false := by
      cases hl : s.data.toList with
      | nil => rfl
      | cons a t => rw [hl] at hlen; simp at hlen; rw [agentS_cons, decide_eq_false (by omega)]; rfl
    have K := Lib.hid k
    clear k hlen
    go_enter Try.func31, Try.ntmps31
    go_wp2
    go_ret
    exact ⟨ret_bool K.out.symm, Below.refl _ _⟩
  by_cases h2 : 6 < (s.size : Int)
  · have k : agentS s.data.toList = false := by
      cases hl : s.data.toList with
      | nil => rfl
      | cons a t => rw [hl] at hlen; simp at hlen; rw [agentS_cons, decide_eq_false (by omega)]; rfl
    have K := Lib.hid k
    clear k hlen
    go_enter Try.func31, Try.ntmps31
    go_wp2
    go_ret
    exact ⟨ret_bool K.out.symm, Below.refl _ _⟩
  have g0 : 0 < s.size := by omega
  have hl : s.data.toList = s[0] :: (s.extract 1 s.size).data.toList := by
    apply List.ext_getElem
    · simp; omega
    · intro i h1 h2
      match i, h2 with
      | 0, _ => rfl
      | i + 1, h2 => simp
  have e : agentS s.data.toList = (isL (s[0].toNat : Int) && (s.extract 1 s.size).data.toList.all bLD) := by
    rw [hl, agentS_cons, decide_eq_true (by simp; omega), Bool.true_and]
    rfl
  have HE := Lib.hid e
  clear hl e hlen
  obtain ⟨w1, cap, hcv, hb, hz, hcell⟩ := bytes_conv (s.extract 1 s.size) w
  have hsz : (s.extract 1 s.size).size = s.size - 1 := by simp
  rw [hsz] at hcell hcv
  have HZ := Lib.hid hsz
  clear hsz
  cases hA : isL (s[0].toNat : Int)
  · rw [hA] at HE
    go_enter Try.func31, Try.ntmps31
    go_wp2_with (go_at_call 57; refine (letter_any _ _ (by omega) (byte_hi _)).mono ?_; rintro e w' ⟨rfl, rfl⟩)
    go_ret
    exact ⟨ret_bool HE.out.symm, Below.refl _ _⟩
  · rw [hA] at HE
    go_enter Try.func31, Try.ntmps31
    go_wp2_with (go_at_call 57; refine (letter_any _ _ (by omega) (byte_hi _)).mono ?_; rintro e w' ⟨rfl, rfl⟩)
    generalize s.extract 1 s.size = r at HE hcell HZ ⊢
    go_loop [23] (fun i => ∃ k : Nat, k ≤ s.size - 1 ∧ i = .int .i64 k ∧ (r.data.toList.take k).all bLD = true) (fun i => s.size - 1 - (intOf i).toNat)
    case atStart => exact ⟨0, Nat.zero_le _, rfl, rfl⟩
    case round =>
      obtain ⟨k, hk, rfl, hall⟩ := hrel
      have HA := Lib.hid hall
      clear hall
      by_cases hlt : k < s.size - 1
      · have hc := hcell k hlt
        have hbb := byte_hi (r.data.toList.getD k 0)
        generalize hg : r.data.toList.getD k 0 = b at hc hbb
        have HG := Lib.hid hg
        clear hg hcell
        have hb0 : (0 : Int) ≤ (b.toNat : Int) := by omega
        cases hB : isL (b.toNat : Int) <;> cases hD : isD (b.toNat : Int)
        · go_wp2_with (first
            | (go_at_call 57; refine (letter_any _ _ hb0 hbb).mono ?_; rintro e w' ⟨rfl, rfl⟩)
            | (go_at_call 58; refine (digit_any _ _ hb0 hbb).mono ?_; rintro e w' ⟨rfl, rfl⟩))
          go_ret
          exact ⟨ret_bool (by rw [HE.out, all_false_of bLD _ k (by simp [HZ.out]; omega) (by rw [HG.out]; simp [bLD, bL, bD, hB, hD])]; rfl), hb⟩
        all_goals
          go_wp2_with (first
            | (go_at_call 57; refine (letter_any _ _ hb0 hbb).mono ?_; rintro e w' ⟨rfl, rfl⟩)
            | (go_at_call 58; refine (digit_any _ _ hb0 hbb).mono ?_; rintro e w' ⟨rfl, rfl⟩))
          go_round
          case rel => exact ⟨k + 1, by omega, by go_num, by rw [all_take_succ _ _ _ (by simp [HZ.out]; omega), HA.out, HG.out]; simp [bLD, bL, bD, hB, hD]⟩
          case measure => simp [intOf]; omega
      · go_wp2
        go_ret
        exact ⟨ret_bool (by rw [HE.out]; have := HA.out; rw [List.take_of_length_le (by simp [HZ.out]; omega)] at this; rw [this]; rfl), hb⟩
end Go.Proofs.Ytlaieijlengojaa
