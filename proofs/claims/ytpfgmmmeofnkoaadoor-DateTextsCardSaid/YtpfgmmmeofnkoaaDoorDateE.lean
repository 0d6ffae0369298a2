/- The contract of the reference's Text: two loops. -/
import Derived.Test.YtpfgmmmeofnkoaaDoorDateD
namespace Go.Proofs.YtpfgmmmeofnkoaaDoor
open Go.RowKit

theorem start_succ (m : Nat) : startN (m + 1) = startN m + lenN m := rfl
theorem start_12 : startN 12 = 366 := by decide

set_option maxHeartbeats 1000000 in
theorem rtext_any (D : Nat) (w : World) (h : D < 366) :
    Calls Tryd.prog 10 #[.int .i64 D] w fun e w' => e = .returned (.tuple #[.string (twoA (dayOf D + 1) ++ monA (monOf D)), .int .i64 0]) ∧ Below w.heap.size w w' := by
  go_enter Tryd.func10, Tryd.ntmps10
  go_wp2
  go_loop [4, 5] (fun n i => ∃ m : Nat, m ≤ 12 ∧ i = .int .i64 m ∧ n = .int .i64 (startN m) ∧ startN m ≤ D) (fun _ i => 12 - (intOf i).toNat)
  case atStart => exact ⟨0, by omega, rfl, rfl, Nat.zero_le _⟩
  case round =>
    obtain ⟨m, hm, rfl, rfl, hs⟩ := hrel
    have hm12 : m < 12 := by
      rcases Nat.lt_or_ge m 12 with h1 | h1
      · exact h1
      · have : m = 12 := by omega
        subst this
        rw [start_12] at hs
        omega
    obtain ⟨l1, l2, l3, l4⟩ := len_facts m hm12
    go_wp2_with (go_at_call 23; refine (month_any m _).mono ?_; rintro e w1 ⟨rfl, rfl⟩)
    go_loop [4, 8] (fun n i => ∃ k : Nat, 1 ≤ k ∧ k ≤ lenN m + 1 ∧ i = .int .i64 k ∧ n = .int .i64 ((startN m + (k - 1) : Nat) : Int) ∧ startN m + (k - 1) ≤ D) (fun _ i => lenN m + 1 - (intOf i).toNat)
    case atStart => exact ⟨1, by omega, by omega, rfl, rfl, hs⟩
    case round =>
      obtain ⟨k, hk1, hk2, rfl, rfl, hkD⟩ := hrel
      by_cases hlt : k ≤ lenN m
      · by_cases heq : startN m + (k - 1) = D
        · obtain ⟨f1, f2, f3⟩ := mon_facts m hm12 (k - 1) (by omega)
          rw [heq] at f2 f3
          have hq : (((startN m + (k - 1) : Nat) : Int) == (D : Int)) = true := by rw [heq]; simp
          have e1 : ((k : Int)).toNat = dayOf D + 1 := by omega
          have c1 : ∀ W : World, Calls Tryd.prog 24 #[.int .i64 (k : Int)] W fun e w' => e = .returned (.string (twoA (dayOf D + 1))) ∧ Below W.heap.size W w' := fun W => by
            have h0 := rtwo_any (k : Int) W (by omega) (by omega)
            rw [e1] at h0; exact h0
          have z1 := twoA_size (dayOf D + 1)
          have z2 := monA_size m
          have C1 := Lib.hid c1
          have F2 := Lib.hid f2
          generalize startN m + (k - 1) = x at hq
          clear c1 e1 f2 f3 heq f1
          go_wp2_with (go_at_call 24; (with_reducible refine (C1.out _).mono ?_); rintro e w1 ⟨rfl, hb⟩)
          go_ret2
          exact ⟨by rw [F2.out]; rfl, hb⟩
        · have hq : (((startN m + (k - 1) : Nat) : Int) == (D : Int)) = false := by rw [beq_eq_false_iff_ne]; omega
          have hx : startN m + (k - 1) + 1 = startN m + (k + 1 - 1) := by omega
          have hxl : startN m + (k - 1) < D := by omega
          have hxs : startN m + (k - 1) < 400 := by omega
          have HX := Lib.hid hx
          clear hx heq hkD
          generalize startN m + (k - 1) = x at hq HX hxl hxs ⊢
          go_wp2
          go_round
          case rel => exact ⟨k + 1, by omega, by omega, by go_num, by rw [← HX.out]; go_num, by rw [← HX.out]; omega⟩
          case measure => simp [intOf]; omega
      · have hx : startN m + (k - 1) = startN (m + 1) := by rw [start_succ]; omega
        rw [hx] at hkD ⊢
        clear hx
        go_wp2
        go_round
        case rel => exact ⟨m + 1, by omega, by go_num, rfl, hkD⟩
        case measure => simp [intOf]; omega
end Go.Proofs.YtpfgmmmeofnkoaaDoor
