/- The contracts of date.Clock, Weekday, Split, Join, and of the reference's Clock, Weekday, Join, Text. -/
import Derived.Test.YtpfgmmmeofnkoaaDoorDateC
namespace Go.Proofs.YtpfgmmmeofnkoaaDoor
open Go.RowKit

theorem text_no (n : Int) (w : World) (h : n < 0 ∨ 366 ≤ n) :
    Calls Tryd.prog 9 #[.int .i64 n] w fun e w' => e = .returned (.tuple #[.string ⟨#[]⟩, .int .i64 1]) ∧ Below w.heap.size w w' := by
  rcases h with h | h
  · go_enter Tryd.func9, Tryd.ntmps9
    go_wp2
    go_ret2
    exact ⟨rfl, Below.refl _ _⟩
  · have h2 : ¬ n < 0 := by omega
    go_enter Tryd.func9, Tryd.ntmps9
    go_wp2
    go_ret2
    exact ⟨rfl, Below.refl _ _⟩
theorem rtext_no (n : Int) (w : World) (h : n < 0 ∨ 366 ≤ n) :
    Calls Tryd.prog 10 #[.int .i64 n] w fun e w' => e = .returned (.tuple #[.string ⟨#[]⟩, .int .i64 1]) ∧ Below w.heap.size w w' := by
  rcases h with h | h
  · go_enter Tryd.func10, Tryd.ntmps10
    go_wp2
    go_ret2
    exact ⟨rfl, Below.refl _ _⟩
  · have h2 : ¬ n < 0 := by omega
    go_enter Tryd.func10, Tryd.ntmps10
    go_wp2
    go_ret2
    exact ⟨rfl, Below.refl _ _⟩
theorem clock_no (n : Int) (w : World) (h : n < 0 ∨ 1440 ≤ n) :
    Calls Tryd.prog 11 #[.int .i64 n] w fun e w' => e = .returned (.tuple #[.string ⟨#[]⟩, .int .i64 1]) ∧ Below w.heap.size w w' := by
  rcases h with h | h
  · go_enter Tryd.func11, Tryd.ntmps11
    go_wp2
    go_ret2
    exact ⟨rfl, Below.refl _ _⟩
  · have h2 : ¬ n < 0 := by omega
    go_enter Tryd.func11, Tryd.ntmps11
    go_wp2
    go_ret2
    exact ⟨rfl, Below.refl _ _⟩
theorem rclock_no (n : Int) (w : World) (h : n < 0 ∨ 1440 ≤ n) :
    Calls Tryd.prog 12 #[.int .i64 n] w fun e w' => e = .returned (.tuple #[.string ⟨#[]⟩, .int .i64 1]) ∧ Below w.heap.size w w' := by
  rcases h with h | h
  · go_enter Tryd.func12, Tryd.ntmps12
    go_wp2
    go_ret2
    exact ⟨rfl, Below.refl _ _⟩
  · have h2 : ¬ n < 0 := by omega
    go_enter Tryd.func12, Tryd.ntmps12
    go_wp2
    go_ret2
    exact ⟨rfl, Below.refl _ _⟩
theorem clock_any (t : Nat) (w : World) (h : t < 1440) :
    Calls Tryd.prog 11 #[.int .i64 t] w fun e w' => e = .returned (.tuple #[.string (twoA (t / 60) ++ twoA (t % 60)), .int .i64 0]) ∧ Below w.heap.size w w' := by
  have e1 : ((t : Int) / 60).toNat = t / 60 := by omega
  have e2 : ((t : Int) % 60).toNat = t % 60 := by omega
  have z1 := twoA_size (t / 60)
  have z2 := twoA_size (t % 60)
  have hb := Below.refl w.heap.size w
  have c1 : ∀ W : World, Calls Tryd.prog 22 #[.int .i64 ((t : Int) / 60)] W fun e w' => e = .returned (.string (twoA (t / 60))) ∧ Below W.heap.size W w' := fun W => by
    have h0 := two_any ((t : Int) / 60) W (by omega) (by omega)
    rw [e1] at h0; exact h0
  have c2 : ∀ W : World, Calls Tryd.prog 22 #[.int .i64 ((t : Int) % 60)] W fun e w' => e = .returned (.string (twoA (t % 60))) ∧ Below W.heap.size W w' := fun W => by
    have h0 := two_any ((t : Int) % 60) W (by omega) (by omega)
    rw [e2] at h0; exact h0
  have C1 := Lib.hid c1
  have C2 := Lib.hid c2
  clear c1 c2 e1 e2
  go_enter Tryd.func11, Tryd.ntmps11
  go_wp2_with (first
    | (go_at_call 22; (with_reducible refine (C1.out _).mono ?_); rintro e w1 ⟨rfl, hb1⟩; replace hb := bel_trans hb hb1; clear hb1)
    | (go_at_call 22; (with_reducible refine (C2.out _).mono ?_); rintro e w1 ⟨rfl, hb1⟩; replace hb := bel_trans hb hb1; clear hb1))
  go_ret2
  exact ⟨rfl, hb⟩
theorem rclock_any (t : Nat) (w : World) (h : t < 1440) :
    Calls Tryd.prog 12 #[.int .i64 t] w fun e w' => e = .returned (.tuple #[.string (twoA (t / 60) ++ twoA (t % 60)), .int .i64 0]) ∧ Below w.heap.size w w' := by
  have e1 : ((t : Int) / 60).toNat = t / 60 := by omega
  have e2 : ((t : Int) - (t : Int) / 60 * 60).toNat = t % 60 := by omega
  have z1 := twoA_size (t / 60)
  have z2 := twoA_size (t % 60)
  have hb := Below.refl w.heap.size w
  have c1 : ∀ W : World, Calls Tryd.prog 24 #[.int .i64 ((t : Int) / 60)] W fun e w' => e = .returned (.string (twoA (t / 60))) ∧ Below W.heap.size W w' := fun W => by
    have h0 := rtwo_any ((t : Int) / 60) W (by omega) (by omega)
    rw [e1] at h0; exact h0
  have c2 : ∀ W : World, Calls Tryd.prog 24 #[.int .i64 ((t : Int) - (t : Int) / 60 * 60)] W fun e w' => e = .returned (.string (twoA (t % 60))) ∧ Below W.heap.size W w' := fun W => by
    have h0 := rtwo_any ((t : Int) - (t : Int) / 60 * 60) W (by omega) (by omega)
    rw [e2] at h0; exact h0
  have C1 := Lib.hid c1
  have C2 := Lib.hid c2
  clear c1 c2 e1 e2
  go_enter Tryd.func12, Tryd.ntmps12
  go_wp2_with (first
    | (go_at_call 24; (with_reducible refine (C1.out _).mono ?_); rintro e w1 ⟨rfl, hb1⟩; replace hb := bel_trans hb hb1; clear hb1)
    | (go_at_call 24; (with_reducible refine (C2.out _).mono ?_); rintro e w1 ⟨rfl, hb1⟩; replace hb := bel_trans hb hb1; clear hb1))
  go_ret2
  exact ⟨rfl, hb⟩

/-- The weekday of any number. -/
def wday (n : Int) : Int := if 0 ≤ n ∧ n < 366 then n % 7 + 1 else 0
theorem week_any (n : Int) (w : World) :
    Calls Tryd.prog 13 #[.int .i64 n] w fun e w' => e = .returned (.int .i64 (wday n)) ∧ w = w' := by
  by_cases h1 : n < 0
  · go_enter Tryd.func13, Tryd.ntmps13
    go_wp2
    go_ret
    exact ⟨ret_int (by unfold wday; rw [if_neg (by omega)]), rfl⟩
  by_cases h2 : 366 ≤ n
  · go_enter Tryd.func13, Tryd.ntmps13
    go_wp2
    go_ret
    exact ⟨ret_int (by unfold wday; rw [if_neg (by omega)]), rfl⟩
  go_enter Tryd.func13, Tryd.ntmps13
  go_wp2
  go_ret
  exact ⟨ret_int (by unfold wday; rw [if_pos (by omega)]), rfl⟩
theorem rweek_any (n : Int) (w : World) :
    Calls Tryd.prog 14 #[.int .i64 n] w fun e w' => e = .returned (.int .i64 (wday n)) ∧ w = w' := by
  by_cases h1 : n < 0
  · go_enter Tryd.func14, Tryd.ntmps14
    go_wp2
    go_ret
    exact ⟨ret_int (by unfold wday; rw [if_neg (by omega)]), rfl⟩
  by_cases h2 : 366 ≤ n
  · go_enter Tryd.func14, Tryd.ntmps14
    go_wp2
    go_ret
    exact ⟨ret_int (by unfold wday; rw [if_neg (by omega)]), rfl⟩
  go_enter Tryd.func14, Tryd.ntmps14
  go_wp2
  go_ret
  exact ⟨ret_int (by unfold wday; rw [if_pos (by omega)]; omega), rfl⟩

theorem join_yes (d m : Int) (w : World) (h1 : 0 ≤ d) (h2 : d < 366) (h3 : 0 ≤ m) (h4 : m < 1440) :
    Calls Tryd.prog 20 #[.int .i64 d, .int .i64 m] w fun e w' => e = .returned (.tuple #[.int .i64 (d * 1440 + m), .int .i64 0]) ∧ w = w' := by
  go_enter Tryd.func20, Tryd.ntmps20
  go_wp2
  go_ret2
  exact ⟨rfl, rfl⟩
theorem rjoin_yes (d m : Int) (w : World) (h1 : 0 ≤ d) (h2 : d < 366) (h3 : 0 ≤ m) (h4 : m < 1440) :
    Calls Tryd.prog 21 #[.int .i64 d, .int .i64 m] w fun e w' => e = .returned (.tuple #[.int .i64 (d * 1440 + m), .int .i64 0]) ∧ w = w' := by
  go_enter Tryd.func21, Tryd.ntmps21
  go_wp2
  go_ret2
  exact ⟨rfl, rfl⟩
theorem join_no (d m : Int) (w : World) (h : d < 0 ∨ 366 ≤ d ∨ m < 0 ∨ 1440 ≤ m) :
    Calls Tryd.prog 20 #[.int .i64 d, .int .i64 m] w fun e w' => e = .returned (.tuple #[.int .i64 0, .int .i64 1]) ∧ w = w' := by
  by_cases h1 : d < 0
  · go_enter Tryd.func20, Tryd.ntmps20; go_wp2; go_ret2; exact ⟨rfl, rfl⟩
  by_cases h2 : 366 ≤ d
  · go_enter Tryd.func20, Tryd.ntmps20; go_wp2; go_ret2; exact ⟨rfl, rfl⟩
  by_cases h3 : m < 0
  · go_enter Tryd.func20, Tryd.ntmps20; go_wp2; go_ret2; exact ⟨rfl, rfl⟩
  have h4 : 1440 ≤ m := by omega
  clear h
  go_enter Tryd.func20, Tryd.ntmps20; go_wp2; go_ret2; exact ⟨rfl, rfl⟩
theorem rjoin_no (d m : Int) (w : World) (h : d < 0 ∨ 366 ≤ d ∨ m < 0 ∨ 1440 ≤ m) :
    Calls Tryd.prog 21 #[.int .i64 d, .int .i64 m] w fun e w' => e = .returned (.tuple #[.int .i64 0, .int .i64 1]) ∧ w = w' := by
  by_cases h1 : d < 0
  · go_enter Tryd.func21, Tryd.ntmps21; go_wp2; go_ret2; exact ⟨rfl, rfl⟩
  by_cases h2 : 366 ≤ d
  · go_enter Tryd.func21, Tryd.ntmps21; go_wp2; go_ret2; exact ⟨rfl, rfl⟩
  by_cases h3 : m < 0
  · go_enter Tryd.func21, Tryd.ntmps21; go_wp2; go_ret2; exact ⟨rfl, rfl⟩
  have h4 : 1440 ≤ m := by omega
  clear h
  go_enter Tryd.func21, Tryd.ntmps21; go_wp2; go_ret2; exact ⟨rfl, rfl⟩
theorem split_yes (n : Int) (w : World) (h1 : 0 ≤ n) (h2 : n < 527040) :
    Calls Tryd.prog 19 #[.int .i64 n] w fun e w' => e = .returned (.tuple #[.int .i64 (n / 1440), .int .i64 (n % 1440), .int .i64 0]) ∧ w = w' := by
  go_enter Tryd.func19, Tryd.ntmps19
  go_wp2
  go_ret3
  exact ⟨rfl, rfl⟩
theorem split_no (n : Int) (w : World) (h : n < 0 ∨ 527040 ≤ n) :
    Calls Tryd.prog 19 #[.int .i64 n] w fun e w' => e = .returned (.tuple #[.int .i64 0, .int .i64 0, .int .i64 1]) ∧ w = w' := by
  rcases h with h | h
  · go_enter Tryd.func19, Tryd.ntmps19; go_wp2; go_ret3; exact ⟨rfl, rfl⟩
  · have h2 : ¬ n < 0 := by omega
    go_enter Tryd.func19, Tryd.ntmps19; go_wp2; go_ret3; exact ⟨rfl, rfl⟩
end Go.Proofs.YtpfgmmmeofnkoaaDoor
