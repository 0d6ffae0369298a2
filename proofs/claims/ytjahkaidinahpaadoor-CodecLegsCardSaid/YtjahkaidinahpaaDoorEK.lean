/- codec.OfCount. -/
import Derived.Test.YtjahkaidinahpaaDoorEJ
namespace Go.Proofs.YtjahkaidinahpaaDoor
open Go.RowKit Go.ChangeMaps
set_option linter.unusedSimpArgs false
set_option linter.unusedVariables false
set_option maxRecDepth 20000

theorem split_yes (n : Int) (w : World) (h1 : 0 ≤ n) (h2 : n < 527040) :
    Calls Tryd.prog 52 #[.int .i64 n] w fun e w' => e = .returned (.tuple #[.int .i64 (n / 1440), .int .i64 (n % 1440), .int .i64 0]) ∧ w = w' := by
  go_enter Tryd.func52, Tryd.ntmps52
  go_wp2
  go_ret3
  exact ⟨rfl, rfl⟩

theorem split_no (n : Int) (w : World) (h : n < 0 ∨ 527040 ≤ n) :
    Calls Tryd.prog 52 #[.int .i64 n] w fun e w' => e = .returned (.tuple #[.int .i64 0, .int .i64 0, .int .i64 1]) ∧ w = w' := by
  rcases h with h | h
  · go_enter Tryd.func52, Tryd.ntmps52; go_wp2; go_ret3; exact ⟨rfl, rfl⟩
  · have h2 : ¬ n < 0 := by omega
    go_enter Tryd.func52, Tryd.ntmps52; go_wp2; go_ret3; exact ⟨rfl, rfl⟩

theorem count_boxed (w : World) (a b : Int) : ∃ w1, w.alloc (.cells #[.int .i64 a, .int .i64 b] 58) = w1 ∧ w1.cell? ⟨w.heap.size, 0, none⟩ = some (.int .i64 a) ∧ w1.cell? ⟨w.heap.size, 1, none⟩ = some (.int .i64 b) ∧ Below w.heap.size w w1 ∧ w1.heap.size = w.heap.size + 1 :=
  ⟨_, rfl, World.cell?_alloc_new _ _ _ _, World.cell?_alloc_new _ _ _ _, (Below.refl _ _).alloc (Nat.le_refl _) _, by simp⟩

theorem countF_yes {a b : Int} (h : 0 ≤ a ∧ a ≤ 308915776 ∧ 0 ≤ b ∧ b < 527040) : countF a b = some (67 :: varL a.toNat ++ varL b.toNat) := if_pos h
theorem countF_no {a b : Int} (h : ¬ (0 ≤ a ∧ a ≤ 308915776 ∧ 0 ≤ b ∧ b < 527040)) : countF a b = none := if_neg h

set_option maxHeartbeats 8000000 in
theorem ofCount_any (a b : Int) (w : World) :
    Calls Tryd.prog 21 #[.agg #[.int .i64 a, .int .i64 b]] w fun e w' => byP w.heap.size (countF a b) e w' ∧ Below w.heap.size w w' := by
  obtain ⟨w1, e1, k0, k1, kb, kz⟩ := count_boxed w a b
  have HB := Lib.hid kb
  by_cases hb : b < 0 ∨ 527040 ≤ b
  · have HF := Lib.hid (countF_no (a := a) (b := b) (by omega))
    have HS := Lib.hid fun W => split_no b W hb
    clear hb kb kz
    go_enter Tryd.func21, Tryd.ntmps21
    go_wp2_with (first
      | (go_at_call 52; (with_reducible refine (HS.out _).mono ?_); rintro e w2 ⟨rfl, rfl⟩))
    go_ret2
    exact ⟨.inr ⟨HF.out, rfl⟩, HB.out⟩
  · have hb0 : 0 ≤ b := by omega
    have hb1 : b < 527040 := by omega
    have HS := Lib.hid fun W => split_yes b W hb0 hb1
    by_cases ha0 : a < 0
    · have HF := Lib.hid (countF_no (a := a) (b := b) (by omega))
      clear hb kb kz hb0 hb1
      go_enter Tryd.func21, Tryd.ntmps21
      go_wp2_with (first
        | (go_at_call 52; (with_reducible refine (HS.out _).mono ?_); rintro e w2 ⟨rfl, rfl⟩))
      go_ret2
      exact ⟨.inr ⟨HF.out, rfl⟩, HB.out⟩
    · by_cases ha1 : 308915776 < a
      · have HF := Lib.hid (countF_no (a := a) (b := b) (by omega))
        clear hb kb kz hb0 hb1
        go_enter Tryd.func21, Tryd.ntmps21
        go_wp2_with (first
          | (go_at_call 52; (with_reducible refine (HS.out _).mono ?_); rintro e w2 ⟨rfl, rfl⟩))
        go_ret2
        exact ⟨.inr ⟨HF.out, rfl⟩, HB.out⟩
      · have HF := Lib.hid (countF_yes (a := a) (b := b) ⟨by omega, by omega, hb0, hb1⟩)
        have HNEW : RowKit.Hid (Calls Tryd.prog 44 #[.pointer (some ⟨w1.heap.size + 1, 0, none⟩), .int .i64 a] ((w1.alloc (.cells #[.int .u8 67] 5)).alloc (.cells #[.slice (some ⟨w1.heap.size, 0, none⟩) 1 1] 105)) fun e w' =>
            e = .returned (.tuple #[]) ∧ ∃ v', Blk w' (w1.heap.size + 1) 105 [v'] ∧ OwnB w' (w1.heap.size + 2) v' (67 :: varL a.toNat) ∧ Below w1.heap.size w1 w' ∧ w1.heap.size + 2 ≤ w'.heap.size) := Lib.hid (wnew_any w1 67 67 rfl a (by omega) (by omega))
        have hvl : (varL a.toNat).length ≤ 10 := varL_len 9 _ (by omega)
        have HN2 : RowKit.Hid (∀ W v', Blk W (w1.heap.size + 1) 105 [v'] → HasE byteC W v' (67 :: varL a.toNat) → Calls Tryd.prog 44 #[.pointer (some ⟨w1.heap.size + 1, 0, none⟩), .int .i64 b] W fun e w' => e = .returned (.tuple #[]) ∧ (∃ v', Blk w' (w1.heap.size + 1) 105 [v'] ∧ OwnB w' W.heap.size v' (67 :: varL a.toNat ++ varL b.toNat)) ∧ W.grownBy w' (some (w1.heap.size + 1))) := Lib.hid fun W v' h1 h2 => wnum_any (w1.heap.size + 1) v' _ b W h1 h2 (by rw [List.length_cons]; omega) hb0 (by omega)
        have k02 : ((w1.alloc (.cells #[.int .u8 67] 5)).alloc (.cells #[.slice (some ⟨w1.heap.size, 0, none⟩) 1 1] 105)).cell? ⟨w.heap.size, 0, none⟩ = some (.int .i64 a) := cell_bel (((Below.refl _ _).alloc (Nat.le_refl _) _).alloc (by simp) _) k0
        generalize varL a.toNat = va at *
        generalize 67 :: va ++ varL b.toNat = X at *
        generalize va.length = la at *
        have HKZ := Lib.hid kz
        clear hb kb hb0 hb1 hvl kz
        go_enter Tryd.func21, Tryd.ntmps21
        go_wp2_with (first
          | (go_at_call 52; (with_reducible refine (HS.out _).mono ?_); rintro e w2 ⟨rfl, rfl⟩)
          | (go_at_call 44; (with_reducible refine HNEW.out.mono ?_); rintro e w3 ⟨rfl, v3, hg3, ho3, hb3, hz3⟩; have k13 := cell_bel hb3 k1)
          | (go_at_call 44; (with_reducible refine (HN2.out _ _ hg3 ho3.has).mono ?_); rintro e w4 ⟨rfl, ⟨v4, hg4, ho4⟩, hgr4⟩; have k4 := (hg4.cell 0).trans rfl; obtain ⟨p4, c4, rfl⟩ := ho4.has.len; generalize X.length = nX at ho4 hg4 k4 ⊢))
        go_ret2
        refine ⟨.inl ⟨_, _, HF.out, rfl, ho4.low ?_⟩, ?_⟩
        · have := hb3.size; have := HKZ.out; omega
        · have h1 := bel_trans HB.out hb3
          refine h1.grown hgr4 h1.size fun k hk => ?_
          injection hk with hk
          have := HKZ.out
          omega
end Go.Proofs.YtjahkaidinahpaaDoor
