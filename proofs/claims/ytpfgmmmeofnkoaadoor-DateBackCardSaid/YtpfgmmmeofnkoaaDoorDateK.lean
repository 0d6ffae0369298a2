/- The walks of DateMoments and DateRises. -/
import Derived.Test.YtpfgmmmeofnkoaaDoorDateJ
namespace Go.Proofs.YtpfgmmmeofnkoaaDoor
open Go.RowKit

set_option maxHeartbeats 1000000 in
theorem moments_walk (d : Int) (_hd : (Lit.int .i64 d).wf = true) (m : Int) (_hm : (Lit.int .i64 m).wf = true) (w : World) (ht : LenTab w) :
    Calls Tryd.prog 7 #[.int .i64 d, .int .i64 m] w fun e w' => e = .returned (.bool true) ∧ Below w.heap.size w w' := by
  have hb := Below.refl w.heap.size w
  have HT := Lib.hid ht
  clear ht
  by_cases hs : 0 ≤ d ∧ d < 527040
  · obtain ⟨s1, s2⟩ := hs
    have p1 : 0 ≤ d / 1440 := by omega
    have p2 : d / 1440 < 366 := by omega
    have p3 : 0 ≤ d % 1440 := by omega
    have p4 : d % 1440 < 1440 := by omega
    have e1 : (d / 1440 * 1440 + d % 1440 == d) = true := by rw [beq_iff_eq]; omega
    have e2 : (d / 1440 * 1440 + d % 1440 != d) = false := by rw [bne_eq_false_iff_eq]; omega
    by_cases hj : d < 366 ∧ 0 ≤ m ∧ m < 1440
    · obtain ⟨j1, j2, j3⟩ := hj
      have e3 : ((d * 1440 + m) / 1440 == d) = true := by rw [beq_iff_eq]; omega
      have e4 : ((d * 1440 + m) % 1440 == m) = true := by rw [beq_iff_eq]; omega
      have q1 : 0 ≤ d * 1440 + m := by omega
      have q2 : d * 1440 + m < 527040 := by omega
      go_enter Tryd.func7, Tryd.ntmps7
      go_wp2_with (first
        | (go_at_call 8; refine (awake_any _ (HT.out.keep hb)).mono ?_; rintro e w1 ⟨rfl, hb1⟩; replace hb := bel_trans hb hb1; clear hb1)
        | (go_at_call 20; (with_reducible refine (join_yes d m _ s1 j1 j2 j3).mono ?_); rintro e w1 ⟨rfl, rfl⟩)
        | (go_at_call 20; (with_reducible refine (join_yes _ _ _ p1 p2 p3 p4).mono ?_); rintro e w1 ⟨rfl, rfl⟩)
        | (go_at_call 21; (with_reducible refine (rjoin_yes d m _ s1 j1 j2 j3).mono ?_); rintro e w1 ⟨rfl, rfl⟩)
        | (go_at_call 19; (with_reducible refine (split_yes d _ s1 s2).mono ?_); rintro e w1 ⟨rfl, rfl⟩)
        | (go_at_call 19; (with_reducible refine (split_yes _ _ q1 q2).mono ?_); rintro e w1 ⟨rfl, rfl⟩))
      go_ret
      exact ⟨rfl, hb⟩
    · have hjn : d < 0 ∨ 366 ≤ d ∨ m < 0 ∨ 1440 ≤ m := by omega
      have HJ := Lib.hid hjn
      clear hj hjn
      go_enter Tryd.func7, Tryd.ntmps7
      go_wp2_with (first
        | (go_at_call 8; refine (awake_any _ (HT.out.keep hb)).mono ?_; rintro e w1 ⟨rfl, hb1⟩; replace hb := bel_trans hb hb1; clear hb1)
        | (go_at_call 20; (with_reducible refine (join_no d m _ HJ.out).mono ?_); rintro e w1 ⟨rfl, rfl⟩)
        | (go_at_call 20; (with_reducible refine (join_yes _ _ _ p1 p2 p3 p4).mono ?_); rintro e w1 ⟨rfl, rfl⟩)
        | (go_at_call 21; (with_reducible refine (rjoin_no d m _ HJ.out).mono ?_); rintro e w1 ⟨rfl, rfl⟩)
        | (go_at_call 19; (with_reducible refine (split_yes d _ s1 s2).mono ?_); rintro e w1 ⟨rfl, rfl⟩))
      go_ret
      exact ⟨rfl, hb⟩
  · have hjn : d < 0 ∨ 366 ≤ d ∨ m < 0 ∨ 1440 ≤ m := by omega
    have hsn : d < 0 ∨ 527040 ≤ d := by omega
    have HJ := Lib.hid hjn
    have HS := Lib.hid hsn
    clear hjn hsn
    by_cases hd0 : d < 0
    · clear hs
      go_enter Tryd.func7, Tryd.ntmps7
      go_wp2_with (first
        | (go_at_call 8; refine (awake_any _ (HT.out.keep hb)).mono ?_; rintro e w1 ⟨rfl, hb1⟩; replace hb := bel_trans hb hb1; clear hb1)
        | (go_at_call 20; (with_reducible refine (join_no d m _ HJ.out).mono ?_); rintro e w1 ⟨rfl, rfl⟩)
        | (go_at_call 21; (with_reducible refine (rjoin_no d m _ HJ.out).mono ?_); rintro e w1 ⟨rfl, rfl⟩)
        | (go_at_call 19; (with_reducible refine (split_no d _ HS.out).mono ?_); rintro e w1 ⟨rfl, rfl⟩))
      go_ret
      exact ⟨rfl, hb⟩
    · have hd1 : 527040 ≤ d := by omega
      clear hs
      go_enter Tryd.func7, Tryd.ntmps7
      go_wp2_with (first
        | (go_at_call 8; refine (awake_any _ (HT.out.keep hb)).mono ?_; rintro e w1 ⟨rfl, hb1⟩; replace hb := bel_trans hb hb1; clear hb1)
        | (go_at_call 20; (with_reducible refine (join_no d m _ HJ.out).mono ?_); rintro e w1 ⟨rfl, rfl⟩)
        | (go_at_call 21; (with_reducible refine (rjoin_no d m _ HJ.out).mono ?_); rintro e w1 ⟨rfl, rfl⟩)
        | (go_at_call 19; (with_reducible refine (split_no d _ HS.out).mono ?_); rintro e w1 ⟨rfl, rfl⟩))
      go_ret
      exact ⟨rfl, hb⟩

theorem wday_in {d : Int} (h0 : 0 ≤ d) (h1 : d < 366) : wday d = d % 7 + 1 := by unfold wday; rw [if_pos ⟨h0, h1⟩]
theorem week_in (d : Int) (w : World) (h0 : 0 ≤ d) (h1 : d < 366) :
    Calls Tryd.prog 13 #[.int .i64 d] w fun e w' => e = .returned (.int .i64 (d % 7 + 1)) ∧ w = w' := by
  have h := week_any d w
  rw [wday_in h0 h1] at h
  exact h

set_option maxHeartbeats 4000000 in
theorem rises_walk (a : Int) (_ha : (Lit.int .i64 a).wf = true) (b : Int) (_hbw : (Lit.int .i64 b).wf = true) (w : World) (ht : LenTab w) :
    Calls Tryd.prog 6 #[.int .i64 a, .int .i64 b] w fun e w' => e = .returned (.bool true) ∧ Below w.heap.size w w' := by
  have hb := Below.refl w.heap.size w
  have HT := Lib.hid ht
  clear ht
  by_cases ha : 0 ≤ a ∧ a < 527040
  · obtain ⟨a1, a2⟩ := ha
    by_cases hbb : 0 ≤ b ∧ b < 527040
    · obtain ⟨b1, b2⟩ := hbb
      have p1 : 0 ≤ a / 1440 := by omega
      have p2 : a / 1440 < 366 := by omega
      have key : (a < b ∧ a / 1440 < b / 1440) ∨ (a < b ∧ ¬ a / 1440 < b / 1440 ∧ a / 1440 = b / 1440 ∧ a % 1440 < b % 1440) ∨ (¬ a < b ∧ ¬ a / 1440 < b / 1440 ∧ a / 1440 = b / 1440 ∧ ¬ a % 1440 < b % 1440) ∨ (¬ a < b ∧ ¬ a / 1440 < b / 1440 ∧ a / 1440 ≠ b / 1440) := by omega
      generalize hd : a / 1440 = d at *
      generalize hm : a % 1440 = m at *
      generalize hx : b / 1440 = x at *
      generalize hy : b % 1440 = y at *
      have c1 : ∀ W : World, Calls Tryd.prog 19 #[.int .i64 a] W fun e w' => e = .returned (.tuple #[.int .i64 d, .int .i64 m, .int .i64 0]) ∧ W = w' := fun W => by
        have h0 := split_yes a W a1 a2
        rw [hd, hm] at h0
        exact h0
      have c2 : ∀ W : World, Calls Tryd.prog 19 #[.int .i64 b] W fun e w' => e = .returned (.tuple #[.int .i64 x, .int .i64 y, .int .i64 0]) ∧ W = w' := fun W => by
        have h0 := split_yes b W b1 b2
        rw [hx, hy] at h0
        exact h0
      have C1 := Lib.hid c1
      have C2 := Lib.hid c2
      clear c1 c2 hd hm hx hy a1 a2 b1 b2
      have k1 : 1 ≤ d % 7 + 1 := by omega
      have k2 : d % 7 + 1 ≤ 7 := by omega
      have k3 : (d % 7 + 1 != (d + 1) % 7 + 1) = true := by rw [bne_iff_ne]; omega
      have k4 : (d % 7 + 1 == (d + 7) % 7 + 1) = true := by rw [beq_iff_eq]; omega
      have k5 : (d % 7 == (d + 7) % 7) = true := by rw [beq_iff_eq]; omega
      have k6 : (d % 7 != (d + 1) % 7) = true := by rw [bne_iff_ne]; omega
      have key2 : (a < b ∧ d < x) ∨ (¬ d < x ∧ d = x ∧ (!decide (a < b) == (decide (d < x) || decide (m < y))) = false) ∨ (¬ d < x ∧ d ≠ x ∧ (!decide (a < b) == decide (d < x)) = false) := by
        rcases key with ⟨l1, l2⟩ | ⟨l1, l2, l3, l4⟩ | ⟨l1, l2, l3, l4⟩ | ⟨l1, l2, l3⟩
        · exact .inl ⟨l1, l2⟩
        · exact .inr (.inl ⟨l2, l3, by rw [decide_eq_true l1, decide_eq_false l2, decide_eq_true l4]; rfl⟩)
        · exact .inr (.inl ⟨l2, l3, by rw [decide_eq_false l1, decide_eq_false l2, decide_eq_false l4]; rfl⟩)
        · exact .inr (.inr ⟨l2, l3, by rw [decide_eq_false l1, decide_eq_false l2]; rfl⟩)
      clear key
      rcases key2 with ⟨l1, l2⟩ | ⟨l2, l3, l4⟩ | ⟨l2, l3, l4⟩
      all_goals
        first
          | (have l5 : (d == x) = true := (by rw [beq_iff_eq]; exact l3))
          | (have l5 : (d == x) = false := (by rw [beq_eq_false_iff_ne]; first | exact l3 | omega))
        try clear l3
        rcases (by omega : d < 359 ∨ (359 ≤ d ∧ d < 365) ∨ 365 ≤ d) with g1 | ⟨g1, g2⟩ | g1
        · have g3 : d < 365 := by omega
          go_enter Tryd.func6, Tryd.ntmps6
          go_wp2_with (first
            | (go_at_call 8; refine (awake_any _ (HT.out.keep hb)).mono ?_; rintro e w1 ⟨rfl, hb1⟩; replace hb := bel_trans hb hb1; clear hb1)
            | (go_at_call 19; (with_reducible refine (C1.out _).mono ?_); rintro e w1 ⟨rfl, rfl⟩)
            | (go_at_call 19; (with_reducible refine (C2.out _).mono ?_); rintro e w1 ⟨rfl, rfl⟩)
            | (go_at_call 13; (with_reducible refine (week_in d _ p1 p2).mono ?_); rintro e w1 ⟨rfl, rfl⟩)
            | (go_at_call 13; (with_reducible refine (week_in (d + 1) _ (by omega) (by omega)).mono ?_); rintro e w1 ⟨rfl, rfl⟩)
            | (go_at_call 13; (with_reducible refine (week_in (d + 7) _ (by omega) (by omega)).mono ?_); rintro e w1 ⟨rfl, rfl⟩))
          go_ret
          exact ⟨rfl, hb⟩
        · go_enter Tryd.func6, Tryd.ntmps6
          go_wp2_with (first
            | (go_at_call 8; refine (awake_any _ (HT.out.keep hb)).mono ?_; rintro e w1 ⟨rfl, hb1⟩; replace hb := bel_trans hb hb1; clear hb1)
            | (go_at_call 19; (with_reducible refine (C1.out _).mono ?_); rintro e w1 ⟨rfl, rfl⟩)
            | (go_at_call 19; (with_reducible refine (C2.out _).mono ?_); rintro e w1 ⟨rfl, rfl⟩)
            | (go_at_call 13; (with_reducible refine (week_in d _ p1 p2).mono ?_); rintro e w1 ⟨rfl, rfl⟩)
            | (go_at_call 13; (with_reducible refine (week_in (d + 1) _ (by omega) (by omega)).mono ?_); rintro e w1 ⟨rfl, rfl⟩))
          go_ret
          exact ⟨rfl, hb⟩
        · have g3 : 359 ≤ d := by omega
          go_enter Tryd.func6, Tryd.ntmps6
          go_wp2_with (first
            | (go_at_call 8; refine (awake_any _ (HT.out.keep hb)).mono ?_; rintro e w1 ⟨rfl, hb1⟩; replace hb := bel_trans hb hb1; clear hb1)
            | (go_at_call 19; (with_reducible refine (C1.out _).mono ?_); rintro e w1 ⟨rfl, rfl⟩)
            | (go_at_call 19; (with_reducible refine (C2.out _).mono ?_); rintro e w1 ⟨rfl, rfl⟩)
            | (go_at_call 13; (with_reducible refine (week_in d _ p1 p2).mono ?_); rintro e w1 ⟨rfl, rfl⟩))
          go_ret
          exact ⟨rfl, hb⟩
    · have hsn : b < 0 ∨ 527040 ≤ b := by omega
      have HS := Lib.hid hsn
      clear hsn hbb
      go_enter Tryd.func6, Tryd.ntmps6
      go_wp2_with (first
        | (go_at_call 8; refine (awake_any _ (HT.out.keep hb)).mono ?_; rintro e w1 ⟨rfl, hb1⟩; replace hb := bel_trans hb hb1; clear hb1)
        | (go_at_call 19; (with_reducible refine (split_yes a _ a1 a2).mono ?_); rintro e w1 ⟨rfl, rfl⟩)
        | (go_at_call 19; (with_reducible refine (split_no b _ HS.out).mono ?_); rintro e w1 ⟨rfl, rfl⟩))
      go_ret
      exact ⟨rfl, hb⟩
  · have hsn : a < 0 ∨ 527040 ≤ a := by omega
    have HS := Lib.hid hsn
    clear hsn ha
    by_cases hbb : 0 ≤ b ∧ b < 527040
    · obtain ⟨b1, b2⟩ := hbb
      go_enter Tryd.func6, Tryd.ntmps6
      go_wp2_with (first
        | (go_at_call 8; refine (awake_any _ (HT.out.keep hb)).mono ?_; rintro e w1 ⟨rfl, hb1⟩; replace hb := bel_trans hb hb1; clear hb1)
        | (go_at_call 19; (with_reducible refine (split_no a _ HS.out).mono ?_); rintro e w1 ⟨rfl, rfl⟩)
        | (go_at_call 19; (with_reducible refine (split_yes b _ b1 b2).mono ?_); rintro e w1 ⟨rfl, rfl⟩))
      go_ret
      exact ⟨rfl, hb⟩
    · have hsn : b < 0 ∨ 527040 ≤ b := by omega
      have HS2 := Lib.hid hsn
      clear hsn hbb
      go_enter Tryd.func6, Tryd.ntmps6
      go_wp2_with (first
        | (go_at_call 8; refine (awake_any _ (HT.out.keep hb)).mono ?_; rintro e w1 ⟨rfl, hb1⟩; replace hb := bel_trans hb hb1; clear hb1)
        | (go_at_call 19; (with_reducible refine (split_no a _ HS.out).mono ?_); rintro e w1 ⟨rfl, rfl⟩)
        | (go_at_call 19; (with_reducible refine (split_no b _ HS2.out).mono ?_); rintro e w1 ⟨rfl, rfl⟩))
      go_ret
      exact ⟨rfl, hb⟩
end Go.Proofs.YtpfgmmmeofnkoaaDoor
