/- The walk of LocatorSums. -/
import Derived.Test.YtlaieijlengojaaLocE
namespace Go.Proofs.Ytlaieijlengojaa
open Go.RowKit

theorem turn_sum (k y : Nat) : ((turnN (k + y) : Int) - (turnN k : Int) + 308915776) % 308915776 = (y : Int) * 123456789 % 308915776 := by
  unfold turnN
  omega

def turnZ (n : Int) : Int := (turnN n.toNat : Int)
theorem turnZ_lt (n : Int) : turnZ n < 308915776 := by have := turn_lt n.toNat; unfold turnZ; omega
theorem turnZ_ge (n : Int) : 0 ≤ turnZ n := by unfold turnZ; omega
theorem turnZ_sum (a y : Int) (ha : 0 ≤ a) (hy : 0 ≤ y) : (turnZ (a + y) - turnZ a + 308915776) % 308915776 = y * 123456789 % 308915776 := by
  obtain ⟨k, rfl⟩ := Int.eq_ofNat_of_zero_le ha
  obtain ⟨m, rfl⟩ := Int.eq_ofNat_of_zero_le hy
  have := turn_sum k m
  unfold turnZ
  rw [show ((k : Int) + (m : Int)).toNat = k + m by omega, Int.toNat_natCast]
  exact this
theorem value_int (n : Int) (w : World) (h0 : 0 ≤ n) (h : n < 308915776) :
    Calls Try.prog 23 #[.int .i64 n] w fun e w' => e = .returned (.int .i64 (turnZ n)) ∧ Below w.heap.size w w' := by
  obtain ⟨k, rfl⟩ := Int.eq_ofNat_of_zero_le h0
  unfold turnZ
  rw [Int.toNat_natCast]
  exact value_any k w (by omega)

set_option maxRecDepth 100000 in
set_option maxHeartbeats 1000000 in
theorem sums_walk (a : Int) (_ha : (Lit.int .i64 a).wf = true) (b : Int) (_hb : (Lit.int .i64 b).wf = true) (y : Int) (_hy : (Lit.int .i64 y).wf = true) (w : World) :
    Calls Try.prog 8 #[.int .i64 a, .int .i64 b, .int .i64 y] w fun e w' => e = .returned (.bool true) ∧ Below w.heap.size w w' := by
  have hb := Below.refl w.heap.size w
  by_cases t0 : a < 0
  · go_enter Try.func8, Try.ntmps8
    go_wp2_with (go_at_call 18; refine (awake_loc _).mono ?_; rintro e w1 ⟨rfl, hb1⟩; replace hb := bel_trans hb hb1; clear hb1)
    go_ret
    exact ⟨rfl, hb⟩
  by_cases t1 : b < 0
  · go_enter Try.func8, Try.ntmps8
    go_wp2_with (go_at_call 18; refine (awake_loc _).mono ?_; rintro e w1 ⟨rfl, hb1⟩; replace hb := bel_trans hb hb1; clear hb1)
    go_ret
    exact ⟨rfl, hb⟩
  by_cases t2 : y < 0
  · go_enter Try.func8, Try.ntmps8
    go_wp2_with (go_at_call 18; refine (awake_loc _).mono ?_; rintro e w1 ⟨rfl, hb1⟩; replace hb := bel_trans hb hb1; clear hb1)
    go_ret
    exact ⟨rfl, hb⟩
  by_cases t3 : 308915776 ≤ a
  · go_enter Try.func8, Try.ntmps8
    go_wp2_with (go_at_call 18; refine (awake_loc _).mono ?_; rintro e w1 ⟨rfl, hb1⟩; replace hb := bel_trans hb hb1; clear hb1)
    go_ret
    exact ⟨rfl, hb⟩
  by_cases t4 : 308915776 ≤ b
  · go_enter Try.func8, Try.ntmps8
    go_wp2_with (go_at_call 18; refine (awake_loc _).mono ?_; rintro e w1 ⟨rfl, hb1⟩; replace hb := bel_trans hb hb1; clear hb1)
    go_ret
    exact ⟨rfl, hb⟩
  by_cases t5 : 308915776 ≤ y
  · go_enter Try.func8, Try.ntmps8
    go_wp2_with (go_at_call 18; refine (awake_loc _).mono ?_; rintro e w1 ⟨rfl, hb1⟩; replace hb := bel_trans hb hb1; clear hb1)
    go_ret
    exact ⟨rfl, hb⟩
  by_cases t6 : 308915776 ≤ a + y
  · go_enter Try.func8, Try.ntmps8
    go_wp2_with (go_at_call 18; refine (awake_loc _).mono ?_; rintro e w1 ⟨rfl, hb1⟩; replace hb := bel_trans hb hb1; clear hb1)
    go_ret
    exact ⟨rfl, hb⟩
  by_cases t7 : 308915776 ≤ b + y
  · go_enter Try.func8, Try.ntmps8
    go_wp2_with (go_at_call 18; refine (awake_loc _).mono ?_; rintro e w1 ⟨rfl, hb1⟩; replace hb := bel_trans hb hb1; clear hb1)
    go_ret
    exact ⟨rfl, hb⟩
  have c1 := fun W => value_int (a + y) W (by omega) (by omega)
  have c2 := fun W => value_int (b + y) W (by omega) (by omega)
  have c3 := fun W => value_int a W (by omega) (by omega)
  have c4 := fun W => value_int b W (by omega) (by omega)
  have e : ((turnZ (a + y) - turnZ a) % 308915776 == (turnZ (b + y) - turnZ b) % 308915776) = true := by
    rw [← Int.add_emod_right (turnZ (a + y) - turnZ a), ← Int.add_emod_right (turnZ (b + y) - turnZ b), turnZ_sum a y (by omega) (by omega), turnZ_sum b y (by omega) (by omega), beq_iff_eq]
  have l1 := turnZ_lt (a + y)
  have l2 := turnZ_lt a
  have l3 := turnZ_lt (b + y)
  have l4 := turnZ_lt b
  have g1 := turnZ_ge (a + y)
  have g2 := turnZ_ge a
  have g3 := turnZ_ge (b + y)
  have g4 := turnZ_ge b
  generalize turnZ (a + y) = p1 at e l1 g1 c1
  generalize turnZ a = p2 at e l2 g2 c3
  generalize turnZ (b + y) = p3 at e l3 g3 c2
  generalize turnZ b = p4 at e l4 g4 c4
  have C1 := Lib.hid c1
  have C2 := Lib.hid c2
  have C3 := Lib.hid c3
  have C4 := Lib.hid c4
  clear c1 c2 c3 c4
  go_enter Try.func8, Try.ntmps8
  go_wp2_with (first
    | (go_at_call 18; refine (awake_loc _).mono ?_; rintro e w1 ⟨rfl, hb1⟩; replace hb := bel_trans hb hb1; clear hb1)
    | (go_at_call 23; (with_reducible refine (C1.out _).mono ?_); rintro e w1 ⟨rfl, hb1⟩; replace hb := bel_trans hb hb1; clear hb1)
    | (go_at_call 23; (with_reducible refine (C2.out _).mono ?_); rintro e w1 ⟨rfl, hb1⟩; replace hb := bel_trans hb hb1; clear hb1)
    | (go_at_call 23; (with_reducible refine (C3.out _).mono ?_); rintro e w1 ⟨rfl, hb1⟩; replace hb := bel_trans hb hb1; clear hb1)
    | (go_at_call 23; (with_reducible refine (C4.out _).mono ?_); rintro e w1 ⟨rfl, hb1⟩; replace hb := bel_trans hb hb1; clear hb1))
  go_ret
  exact ⟨rfl, hb⟩
end Go.Proofs.Ytlaieijlengojaa
