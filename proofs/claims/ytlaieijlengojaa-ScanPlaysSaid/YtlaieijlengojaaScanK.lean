/- The contract of play, kind by kind. -/
import Derived.Test.YtlaieijlengojaaScanJ
namespace Go.Proofs.Ytlaieijlengojaa
open Go.RowKit
set_option linter.unusedSimpArgs false

theorem quietly {P : Program} {f : Nat} {xs : Array Value} {W : World} {v : Ending} (h : Calls P f xs W fun e w' => e = v ∧ W = w') : Calls P f xs W fun e w' => e = v ∧ ∃ n, w' = W.drewN n :=
  h.mono fun _ _ ⟨h, e⟩ => ⟨h, 0, by subst e; rfl⟩

set_option maxRecDepth 100000 in
set_option maxHeartbeats 8000000 in
theorem play1 (b : Nat) (s : ByteArray) (p : Int) (n : Int) (q : ByteArray) (w : World) (hs : s.size ≤ 5000) (hc : Cur w b s p) :
    Calls Try.prog 24 #[.pointer (some ⟨b, 0, none⟩), .agg #[.int .i64 1, .int .i64 n, .string q]] w fun e w' => e = .returned (.bool true) ∧ (∃ p', Cur w' b s p') ∧ w.grownBy w' (some b) := by
  have hm : s.size ≤ maxLen := by unfold maxLen; omega
  have hca := hc.alloc (.cells #[.int .i64 1, .int .i64 n, .string q] 47)
  have k1 := hca.text
  have k2 := hca.at_
  have HP : RowKit.Hid (∀ W, _) := Lib.hid fun W => quietly (rplace_any s p W hm)
  have HE : RowKit.Hid (∀ W, Cur W b s p → _) := Lib.hid fun W h => rest_any b s p W hm h
  have hx0 := place_ge s.size p
  have hx1 := place_le s.size p
  have HC := Lib.hid hca
  clear hca hc
  generalize place s.size p = x at *
  obtain ⟨j, rfl⟩ := Int.eq_ofNat_of_zero_le hx0
  rw [Int.toNat_natCast] at HE
  have hj : j ≤ s.size := by omega
  generalize hr : s.extract j s.size = r at *
  have HR := Lib.hid hr
  go_enter Try.func24, Try.ntmps24
  go_wp2_with fail
  go_quiet (first | (go_at_call 47; (with_reducible refine Calls.quiet_of (HP.out _))))
  have hq0 : Cur ((w.alloc (.cells #[.int .i64 1, .int .i64 n, .string q] 47)).drewN nq) b s p := HC.out.drewN _
  have q1 := hq0.text
  have q2 := hq0.at_
  have q3 := hq0.frozen 1
  have b0 : ((w.alloc (.cells #[.int .i64 1, .int .i64 n, .string q] 47)).drewN nq).cell? ⟨w.heap.size, 0, none⟩ = some (.int .i64 1) := by simp
  have b1 : ((w.alloc (.cells #[.int .i64 1, .int .i64 n, .string q] 47)).drewN nq).cell? ⟨w.heap.size, 1, none⟩ = some (.int .i64 n) := by simp
  have b2 : ((w.alloc (.cells #[.int .i64 1, .int .i64 n, .string q] 47)).drewN nq).cell? ⟨w.heap.size, 2, none⟩ = some (.string q) := by simp
  have hgq : w.grownBy ((w.alloc (.cells #[.int .i64 1, .int .i64 n, .string q] 47)).drewN nq) (some b) := gr_drewN (World.grownBy_alloc w _ _) _
  clear HC
  generalize (w.alloc (.cells #[.int .i64 1, .int .i64 n, .string q] 47)).drewN nq = wq at *
  have HC := Lib.hid hq0
  have HG := Lib.hid hgq
  clear hq0 hgq
  go_wp2_with fail
  refine wp_region_noPanic ?_
  refine wp_region_held_drew (S := fun W => W.cell? ⟨b, 0, none⟩ = some (.string s)) (by kernel_rfl) (by exact q1) (fun hHeld => ?_)
  refine wpAnyH_take (i := 0) (oi := _) (v := ?_) rfl (by kernel_rfl) (by kernel_rfl) (by kernel_rfl) (fun _ _ _ h => h) (Or.inl ⟨by rfl, ?_⟩) (by assumption) ?_
  rotate_left
  · intro w hSw
    (try dsimp only at hSw)
    go_simp
    (try with_reducible rfl)
  try simp only [Act.put, List.getElem_toArray, List.getElem_cons_succ, List.getElem_cons_zero, List.setIfInBounds_toArray, List.set_cons_zero, List.set_cons_succ]
  refine wpAnyH_take (i := 2) (oi := _) (v := ?_) rfl (by kernel_rfl) (by kernel_rfl) (by kernel_rfl) (fun _ _ _ h => h) (Or.inl ⟨by rfl, ?_⟩) (by assumption) ?_
  rotate_left
  · intro w hSw
    (try dsimp only at hSw)
    go_simp
    (try with_reducible rfl)
  try simp only [Act.put, List.getElem_toArray, List.getElem_cons_succ, List.getElem_cons_zero, List.setIfInBounds_toArray, List.set_cons_zero, List.set_cons_succ]
  refine wpAnyH_take (i := 3) (oi := _) (v := ?_) rfl (by kernel_rfl) (by kernel_rfl) (by kernel_rfl) (fun _ _ _ h => h) (Or.inl ⟨by rfl, ?_⟩) (by assumption) ?_
  rotate_left
  · intro w hSw
    (try dsimp only at hSw)
    go_simp
    (try with_reducible rfl)
  try simp only [Act.put, List.getElem_toArray, List.getElem_cons_succ, List.getElem_cons_zero, List.setIfInBounds_toArray, List.set_cons_zero, List.set_cons_succ]
  refine wpAnyH_take (i := 4) (oi := _) (v := ?_) rfl (by kernel_rfl) (by kernel_rfl) (by kernel_rfl) (fun _ _ _ h => h) (Or.inl ⟨by rfl, ?_⟩) (by assumption) ?_
  rotate_left
  · intro w hSw
    (try dsimp only at hSw)
    go_simp
    (try with_reducible rfl)
  try simp only [Act.put, List.getElem_toArray, List.getElem_cons_succ, List.getElem_cons_zero, List.setIfInBounds_toArray, List.set_cons_zero, List.set_cons_succ]
  refine wpAnyH_take (i := 5) (oi := _) (v := ?_) rfl (by kernel_rfl) (by kernel_rfl) (by kernel_rfl) (fun _ _ _ h => h) (Or.inl ⟨by rfl, ?_⟩) (by assumption) ?_
  rotate_left
  · intro w hSw
    (try dsimp only at hSw)
    go_simp
    (try with_reducible rfl)
  try simp only [Act.put, List.getElem_toArray, List.getElem_cons_succ, List.getElem_cons_zero, List.setIfInBounds_toArray, List.set_cons_zero, List.set_cons_succ]
  refine wpAnyH_take (i := 6) (oi := _) (v := ?_) rfl (by kernel_rfl) (by kernel_rfl) (by kernel_rfl) (fun _ _ _ h => h) (Or.inl ⟨by rfl, ?_⟩) (by assumption) ?_
  rotate_left
  · intro w hSw
    (try dsimp only at hSw)
    go_simp
    (try with_reducible rfl)
  try simp only [Act.put, List.getElem_toArray, List.getElem_cons_succ, List.getElem_cons_zero, List.setIfInBounds_toArray, List.set_cons_zero, List.set_cons_succ]
  refine wpAnyH_take (i := 7) (oi := _) (v := ?_) rfl (by kernel_rfl) (by kernel_rfl) (by kernel_rfl) (fun _ _ _ h => h) (Or.inl ⟨by rfl, ?_⟩) (by assumption) ?_
  rotate_left
  · intro w hSw
    (try dsimp only at hSw)
    go_simp
    (try with_reducible rfl)
  try simp only [Act.put, List.getElem_toArray, List.getElem_cons_succ, List.getElem_cons_zero, List.setIfInBounds_toArray, List.set_cons_zero, List.set_cons_succ]
  refine wpAnyH_ready (rs := [1]) (by kernel_rfl) (by simp) ?_
  refine AllReadyH.cons (o := _) rfl (fun K hK => ?_) AllReadyH.nil
  go_simp
  go_at_call 48; refine (HE.out _ (HC.out.drewN _)).mono ?_; rintro e w3 ⟨rfl, hc3, hg3⟩; have m1 := hc3.text; have m2 := hc3.at_
  go_simp
  refine hK.out _ _ m1 (fun hHeld => ?_)
  clear hK K
  try simp only [Act.put, List.getElem_toArray, List.getElem_cons_succ, List.getElem_cons_zero, List.setIfInBounds_toArray, List.set_cons_zero, List.set_cons_succ]
  refine wpAnyH_take (i := 8) (oi := _) (v := ?_) rfl (by kernel_rfl) (by kernel_rfl) (by kernel_rfl) (fun _ _ _ h => h) (Or.inl ⟨by rfl, ?_⟩) (by assumption) ?_
  rotate_left
  · intro w hSw
    (try dsimp only at hSw)
    go_simp
    (try with_reducible rfl)
  try simp only [Act.put, List.getElem_toArray, List.getElem_cons_succ, List.getElem_cons_zero, List.setIfInBounds_toArray, List.set_cons_zero, List.set_cons_succ]
  refine wpAnyH_take (i := 9) (oi := _) (v := ?_) rfl (by kernel_rfl) (by kernel_rfl) (by kernel_rfl) (fun _ _ _ h => h) (Or.inl ⟨by rfl, ?_⟩) (by assumption) ?_
  rotate_left
  · intro w hSw
    (try dsimp only at hSw)
    go_simp
    (try with_reducible rfl)
  try simp only [Act.put, List.getElem_toArray, List.getElem_cons_succ, List.getElem_cons_zero, List.setIfInBounds_toArray, List.set_cons_zero, List.set_cons_succ]
  refine wpAnyH_take (i := 10) (oi := _) (v := ?_) rfl (by kernel_rfl) (by kernel_rfl) (by kernel_rfl) (fun _ _ _ h => h) (Or.inl ⟨by rfl, ?_⟩) (by assumption) ?_
  rotate_left
  · intro w hSw
    (try dsimp only at hSw)
    go_simp
    (try with_reducible rfl)
  try simp only [Act.put, List.getElem_toArray, List.getElem_cons_succ, List.getElem_cons_zero, List.setIfInBounds_toArray, List.set_cons_zero, List.set_cons_succ]
  refine wpAnyH_take (i := 11) (oi := _) (v := ?_) rfl (by kernel_rfl) (by kernel_rfl) (by kernel_rfl) (fun _ _ _ h => h) (Or.inl ⟨by rfl, ?_⟩) (by assumption) ?_
  rotate_left
  · intro w hSw
    (try dsimp only at hSw)
    go_simp
    (try with_reducible rfl)
  try simp only [Act.put, List.getElem_toArray, List.getElem_cons_succ, List.getElem_cons_zero, List.setIfInBounds_toArray, List.set_cons_zero, List.set_cons_succ]
  refine wpAnyH_take (i := 12) (oi := _) (v := ?_) rfl (by kernel_rfl) (by kernel_rfl) (by kernel_rfl) (fun _ _ _ h => h) (Or.inl ⟨by rfl, ?_⟩) (by assumption) ?_
  rotate_left
  · intro w hSw
    (try dsimp only at hSw)
    go_simp
    (try with_reducible rfl)
  try simp only [Act.put, List.getElem_toArray, List.getElem_cons_succ, List.getElem_cons_zero, List.setIfInBounds_toArray, List.set_cons_zero, List.set_cons_succ]
  refine wpAnyH_take (i := 14) (oi := _) (v := ?_) rfl (by kernel_rfl) (by kernel_rfl) (by kernel_rfl) (fun _ _ _ h => h) (Or.inl ⟨by rfl, ?_⟩) (by assumption) ?_
  rotate_left
  · intro w hSw
    (try dsimp only at hSw)
    go_simp
    (try with_reducible rfl)
  try simp only [Act.put, List.getElem_toArray, List.getElem_cons_succ, List.getElem_cons_zero, List.setIfInBounds_toArray, List.set_cons_zero, List.set_cons_succ]
  refine wpAnyH_take (i := 15) (oi := _) (v := ?_) rfl (by kernel_rfl) (by kernel_rfl) (by kernel_rfl) (fun _ _ _ h => h) (Or.inl ⟨by rfl, ?_⟩) (by assumption) ?_
  rotate_left
  · intro w hSw
    (try dsimp only at hSw)
    go_simp
    (try with_reducible rfl)
  try simp only [Act.put, List.getElem_toArray, List.getElem_cons_succ, List.getElem_cons_zero, List.setIfInBounds_toArray, List.set_cons_zero, List.set_cons_succ]
  refine wpAnyH_take (i := 16) (oi := _) (v := ?_) rfl (by kernel_rfl) (by kernel_rfl) (by kernel_rfl) (fun _ _ _ h => h) (Or.inl ⟨by rfl, ?_⟩) (by assumption) ?_
  rotate_left
  · intro w hSw
    (try dsimp only at hSw)
    go_simp
    (try with_reducible rfl)
  try simp only [Act.put, List.getElem_toArray, List.getElem_cons_succ, List.getElem_cons_zero, List.setIfInBounds_toArray, List.set_cons_zero, List.set_cons_succ]
  refine wpAnyH_take (i := 17) (oi := _) (v := ?_) rfl (by kernel_rfl) (by kernel_rfl) (by kernel_rfl) (fun _ _ _ h => h) (Or.inl ⟨by rfl, ?_⟩) (by assumption) ?_
  rotate_left
  · intro w hSw
    (try dsimp only at hSw)
    go_simp
    (try with_reducible rfl)
  try simp only [Act.put, List.getElem_toArray, List.getElem_cons_succ, List.getElem_cons_zero, List.setIfInBounds_toArray, List.set_cons_zero, List.set_cons_succ]
  refine wpAnyH_take (i := 18) (oi := _) (v := ?_) rfl (by kernel_rfl) (by kernel_rfl) (by kernel_rfl) (fun _ _ _ h => h) (Or.inl ⟨by rfl, ?_⟩) (by assumption) ?_
  rotate_left
  · intro w hSw
    (try dsimp only at hSw)
    go_simp
    (try with_reducible rfl)
  try simp only [Act.put, List.getElem_toArray, List.getElem_cons_succ, List.getElem_cons_zero, List.setIfInBounds_toArray, List.set_cons_zero, List.set_cons_succ]
  refine wpAnyH_ready (rs := [13]) (by kernel_rfl) (by simp) ?_
  refine AllReadyH.cons (o := _) rfl (fun K hK => ?_) AllReadyH.nil
  go_simp
  refine hK.out _ _ m1 (fun hHeld => ?_)
  clear hK K
  try simp only [Act.put, List.getElem_toArray, List.getElem_cons_succ, List.getElem_cons_zero, List.setIfInBounds_toArray, List.set_cons_zero, List.set_cons_succ]
  refine wpAnyH_take (i := 19) (oi := _) (v := ?_) rfl (by kernel_rfl) (by kernel_rfl) (by kernel_rfl) (fun _ _ _ h => h) (Or.inl ⟨by rfl, ?_⟩) (by assumption) ?_
  rotate_left
  · intro w hSw
    (try dsimp only at hSw)
    go_simp
    (try with_reducible rfl)
  try simp only [Act.put, List.getElem_toArray, List.getElem_cons_succ, List.getElem_cons_zero, List.setIfInBounds_toArray, List.set_cons_zero, List.set_cons_succ]
  refine wpAnyH_take (i := 20) (oi := _) (v := ?_) rfl (by kernel_rfl) (by kernel_rfl) (by kernel_rfl) (fun _ _ _ h => h) (Or.inl ⟨by rfl, ?_⟩) (by assumption) ?_
  rotate_left
  · intro w hSw
    (try dsimp only at hSw)
    go_simp
    (try with_reducible rfl)
  try simp only [Act.put, List.getElem_toArray, List.getElem_cons_succ, List.getElem_cons_zero, List.setIfInBounds_toArray, List.set_cons_zero, List.set_cons_succ]
  refine wpAnyH_take (i := 21) (oi := _) (v := ?_) rfl (by kernel_rfl) (by kernel_rfl) (by kernel_rfl) (fun _ _ _ h => h) (Or.inl ⟨by rfl, ?_⟩) (by assumption) ?_
  rotate_left
  · intro w hSw
    (try dsimp only at hSw)
    go_simp
    (try with_reducible rfl)
  try simp only [Act.put, List.getElem_toArray, List.getElem_cons_succ, List.getElem_cons_zero, List.setIfInBounds_toArray, List.set_cons_zero, List.set_cons_succ]
  refine wpAnyH_done (by kernel_rfl) ?_ _
  refine NoPanic.normal ?_
  go_wp2
  go_ret
  exact ⟨rfl, ⟨_, hc3⟩, gr_trans (gr_drewN HG.out _) hg3⟩

set_option maxRecDepth 100000 in
set_option maxHeartbeats 8000000 in
theorem play0 (b : Nat) (s : ByteArray) (p : Int) (n : Int) (q : ByteArray) (w : World) (hs : s.size ≤ 5000) (hc : Cur w b s p) :
    Calls Try.prog 24 #[.pointer (some ⟨b, 0, none⟩), .agg #[.int .i64 0, .int .i64 n, .string q]] w fun e w' => e = .returned (.bool true) ∧ (∃ p', Cur w' b s p') ∧ w.grownBy w' (some b) := by
  have hm : s.size ≤ maxLen := by unfold maxLen; omega
  have hca := hc.alloc (.cells #[.int .i64 0, .int .i64 n, .string q] 47)
  have k1 := hca.text
  have k2 := hca.at_
  have HP : RowKit.Hid (∀ W, _) := Lib.hid fun W => quietly (rplace_any s p W hm)
  have HE : RowKit.Hid (∀ W, Cur W b s p → _) := Lib.hid fun W h => end_any b s p W hm h
  have HC := Lib.hid hca
  clear hca hc
  generalize place s.size p = x at *
  go_enter Try.func24, Try.ntmps24
  go_wp2_with fail
  go_quiet (first | (go_at_call 47; (with_reducible refine Calls.quiet_of (HP.out _))))
  have hq0 : Cur ((w.alloc (.cells #[.int .i64 0, .int .i64 n, .string q] 47)).drewN nq) b s p := HC.out.drewN _
  have q1 := hq0.text
  have q2 := hq0.at_
  have q3 := hq0.frozen 1
  have b0 : ((w.alloc (.cells #[.int .i64 0, .int .i64 n, .string q] 47)).drewN nq).cell? ⟨w.heap.size, 0, none⟩ = some (.int .i64 0) := by simp
  have b1 : ((w.alloc (.cells #[.int .i64 0, .int .i64 n, .string q] 47)).drewN nq).cell? ⟨w.heap.size, 1, none⟩ = some (.int .i64 n) := by simp
  have b2 : ((w.alloc (.cells #[.int .i64 0, .int .i64 n, .string q] 47)).drewN nq).cell? ⟨w.heap.size, 2, none⟩ = some (.string q) := by simp
  have hgq : w.grownBy ((w.alloc (.cells #[.int .i64 0, .int .i64 n, .string q] 47)).drewN nq) (some b) := gr_drewN (World.grownBy_alloc w _ _) _
  clear HC
  generalize (w.alloc (.cells #[.int .i64 0, .int .i64 n, .string q] 47)).drewN nq = wq at *
  have HC := Lib.hid hq0
  have HG := Lib.hid hgq
  clear hq0 hgq
  go_wp2_with fail
  refine wp_region_noPanic ?_
  refine wp_region_held_drew (S := fun W => W.cell? ⟨b, 0, none⟩ = some (.string s)) (by kernel_rfl) (by exact q1) (fun hHeld => ?_)
  refine wpAnyH_take (i := 0) (oi := _) (v := ?_) rfl (by kernel_rfl) (by kernel_rfl) (by kernel_rfl) (fun _ _ _ h => h) (Or.inl ⟨by rfl, ?_⟩) (by assumption) ?_
  rotate_left
  · intro w hSw
    (try dsimp only at hSw)
    go_simp
    (try with_reducible rfl)
  try simp only [Act.put, List.getElem_toArray, List.getElem_cons_succ, List.getElem_cons_zero, List.setIfInBounds_toArray, List.set_cons_zero, List.set_cons_succ]
  refine wpAnyH_take (i := 2) (oi := _) (v := ?_) rfl (by kernel_rfl) (by kernel_rfl) (by kernel_rfl) (fun _ _ _ h => h) (Or.inl ⟨by rfl, ?_⟩) (by assumption) ?_
  rotate_left
  · intro w hSw
    (try dsimp only at hSw)
    go_simp
    (try with_reducible rfl)
  try simp only [Act.put, List.getElem_toArray, List.getElem_cons_succ, List.getElem_cons_zero, List.setIfInBounds_toArray, List.set_cons_zero, List.set_cons_succ]
  refine wpAnyH_take (i := 3) (oi := _) (v := ?_) rfl (by kernel_rfl) (by kernel_rfl) (by kernel_rfl) (fun _ _ _ h => h) (Or.inl ⟨by rfl, ?_⟩) (by assumption) ?_
  rotate_left
  · intro w hSw
    (try dsimp only at hSw)
    go_simp
    (try with_reducible rfl)
  try simp only [Act.put, List.getElem_toArray, List.getElem_cons_succ, List.getElem_cons_zero, List.setIfInBounds_toArray, List.set_cons_zero, List.set_cons_succ]
  refine wpAnyH_take (i := 4) (oi := _) (v := ?_) rfl (by kernel_rfl) (by kernel_rfl) (by kernel_rfl) (fun _ _ _ h => h) (Or.inl ⟨by rfl, ?_⟩) (by assumption) ?_
  rotate_left
  · intro w hSw
    (try dsimp only at hSw)
    go_simp
    (try with_reducible rfl)
  try simp only [Act.put, List.getElem_toArray, List.getElem_cons_succ, List.getElem_cons_zero, List.setIfInBounds_toArray, List.set_cons_zero, List.set_cons_succ]
  refine wpAnyH_take (i := 5) (oi := _) (v := ?_) rfl (by kernel_rfl) (by kernel_rfl) (by kernel_rfl) (fun _ _ _ h => h) (Or.inl ⟨by rfl, ?_⟩) (by assumption) ?_
  rotate_left
  · intro w hSw
    (try dsimp only at hSw)
    go_simp
    (try with_reducible rfl)
  try simp only [Act.put, List.getElem_toArray, List.getElem_cons_succ, List.getElem_cons_zero, List.setIfInBounds_toArray, List.set_cons_zero, List.set_cons_succ]
  refine wpAnyH_take (i := 6) (oi := _) (v := ?_) rfl (by kernel_rfl) (by kernel_rfl) (by kernel_rfl) (fun _ _ _ h => h) (Or.inl ⟨by rfl, ?_⟩) (by assumption) ?_
  rotate_left
  · intro w hSw
    (try dsimp only at hSw)
    go_simp
    (try with_reducible rfl)
  try simp only [Act.put, List.getElem_toArray, List.getElem_cons_succ, List.getElem_cons_zero, List.setIfInBounds_toArray, List.set_cons_zero, List.set_cons_succ]
  refine wpAnyH_take (i := 7) (oi := _) (v := ?_) rfl (by kernel_rfl) (by kernel_rfl) (by kernel_rfl) (fun _ _ _ h => h) (Or.inl ⟨by rfl, ?_⟩) (by assumption) ?_
  rotate_left
  · intro w hSw
    (try dsimp only at hSw)
    go_simp
    (try with_reducible rfl)
  try simp only [Act.put, List.getElem_toArray, List.getElem_cons_succ, List.getElem_cons_zero, List.setIfInBounds_toArray, List.set_cons_zero, List.set_cons_succ]
  refine wpAnyH_take (i := 8) (oi := _) (v := ?_) rfl (by kernel_rfl) (by kernel_rfl) (by kernel_rfl) (fun _ _ _ h => h) (Or.inl ⟨by rfl, ?_⟩) (by assumption) ?_
  rotate_left
  · intro w hSw
    (try dsimp only at hSw)
    go_simp
    (try with_reducible rfl)
  try simp only [Act.put, List.getElem_toArray, List.getElem_cons_succ, List.getElem_cons_zero, List.setIfInBounds_toArray, List.set_cons_zero, List.set_cons_succ]
  refine wpAnyH_ready (rs := [1]) (by kernel_rfl) (by simp) ?_
  refine AllReadyH.cons (o := _) rfl (fun K hK => ?_) AllReadyH.nil
  go_simp
  go_at_call 43; refine (HE.out _ (HC.out.drewN _)).mono ?_; rintro e w3 ⟨rfl, hc3, hg3⟩; have m1 := hc3.text; have m2 := hc3.at_
  go_simp
  refine hK.out _ _ m1 (fun hHeld => ?_)
  clear hK K
  try simp only [Act.put, List.getElem_toArray, List.getElem_cons_succ, List.getElem_cons_zero, List.setIfInBounds_toArray, List.set_cons_zero, List.set_cons_succ]
  refine wpAnyH_take (i := 9) (oi := _) (v := ?_) rfl (by kernel_rfl) (by kernel_rfl) (by kernel_rfl) (fun _ _ _ h => h) (Or.inl ⟨by rfl, ?_⟩) (by assumption) ?_
  rotate_left
  · intro w hSw
    (try dsimp only at hSw)
    go_simp
    (try with_reducible rfl)
  try simp only [Act.put, List.getElem_toArray, List.getElem_cons_succ, List.getElem_cons_zero, List.setIfInBounds_toArray, List.set_cons_zero, List.set_cons_succ]
  refine wpAnyH_take (i := 10) (oi := _) (v := ?_) rfl (by kernel_rfl) (by kernel_rfl) (by kernel_rfl) (fun _ _ _ h => h) (Or.inl ⟨by rfl, ?_⟩) (by assumption) ?_
  rotate_left
  · intro w hSw
    (try dsimp only at hSw)
    go_simp
    (try with_reducible rfl)
  try simp only [Act.put, List.getElem_toArray, List.getElem_cons_succ, List.getElem_cons_zero, List.setIfInBounds_toArray, List.set_cons_zero, List.set_cons_succ]
  refine wpAnyH_take (i := 11) (oi := _) (v := ?_) rfl (by kernel_rfl) (by kernel_rfl) (by kernel_rfl) (fun _ _ _ h => h) (Or.inl ⟨by rfl, ?_⟩) (by assumption) ?_
  rotate_left
  · intro w hSw
    (try dsimp only at hSw)
    go_simp
    (try with_reducible rfl)
  try simp only [Act.put, List.getElem_toArray, List.getElem_cons_succ, List.getElem_cons_zero, List.setIfInBounds_toArray, List.set_cons_zero, List.set_cons_succ]
  refine wpAnyH_take (i := 12) (oi := _) (v := ?_) rfl (by kernel_rfl) (by kernel_rfl) (by kernel_rfl) (fun _ _ _ h => h) (Or.inl ⟨by rfl, ?_⟩) (by assumption) ?_
  rotate_left
  · intro w hSw
    (try dsimp only at hSw)
    go_simp
    (try with_reducible rfl)
  try simp only [Act.put, List.getElem_toArray, List.getElem_cons_succ, List.getElem_cons_zero, List.setIfInBounds_toArray, List.set_cons_zero, List.set_cons_succ]
  refine wpAnyH_take (i := 13) (oi := _) (v := ?_) rfl (by kernel_rfl) (by kernel_rfl) (by kernel_rfl) (fun _ _ _ h => h) (Or.inl ⟨by rfl, ?_⟩) (by assumption) ?_
  rotate_left
  · intro w hSw
    (try dsimp only at hSw)
    go_simp
    (try with_reducible rfl)
  try simp only [Act.put, List.getElem_toArray, List.getElem_cons_succ, List.getElem_cons_zero, List.setIfInBounds_toArray, List.set_cons_zero, List.set_cons_succ]
  refine wpAnyH_take (i := 15) (oi := _) (v := ?_) rfl (by kernel_rfl) (by kernel_rfl) (by kernel_rfl) (fun _ _ _ h => h) (Or.inl ⟨by rfl, ?_⟩) (by assumption) ?_
  rotate_left
  · intro w hSw
    (try dsimp only at hSw)
    go_simp
    (try with_reducible rfl)
  try simp only [Act.put, List.getElem_toArray, List.getElem_cons_succ, List.getElem_cons_zero, List.setIfInBounds_toArray, List.set_cons_zero, List.set_cons_succ]
  refine wpAnyH_ready (rs := [14]) (by kernel_rfl) (by simp) ?_
  refine AllReadyH.cons (o := _) rfl (fun K hK => ?_) AllReadyH.nil
  go_simp
  refine hK.out _ _ m1 (fun hHeld => ?_)
  clear hK K
  try simp only [Act.put, List.getElem_toArray, List.getElem_cons_succ, List.getElem_cons_zero, List.setIfInBounds_toArray, List.set_cons_zero, List.set_cons_succ]
  refine wpAnyH_take (i := 16) (oi := _) (v := ?_) rfl (by kernel_rfl) (by kernel_rfl) (by kernel_rfl) (fun _ _ _ h => h) (Or.inl ⟨by rfl, ?_⟩) (by assumption) ?_
  rotate_left
  · intro w hSw
    (try dsimp only at hSw)
    go_simp
    (try with_reducible rfl)
  try simp only [Act.put, List.getElem_toArray, List.getElem_cons_succ, List.getElem_cons_zero, List.setIfInBounds_toArray, List.set_cons_zero, List.set_cons_succ]
  refine wpAnyH_take (i := 17) (oi := _) (v := ?_) rfl (by kernel_rfl) (by kernel_rfl) (by kernel_rfl) (fun _ _ _ h => h) (Or.inl ⟨by rfl, ?_⟩) (by assumption) ?_
  rotate_left
  · intro w hSw
    (try dsimp only at hSw)
    go_simp
    (try with_reducible rfl)
  try simp only [Act.put, List.getElem_toArray, List.getElem_cons_succ, List.getElem_cons_zero, List.setIfInBounds_toArray, List.set_cons_zero, List.set_cons_succ]
  refine wpAnyH_take (i := 18) (oi := _) (v := ?_) rfl (by kernel_rfl) (by kernel_rfl) (by kernel_rfl) (fun _ _ _ h => h) (Or.inl ⟨by rfl, ?_⟩) (by assumption) ?_
  rotate_left
  · intro w hSw
    (try dsimp only at hSw)
    go_simp
    (try with_reducible rfl)
  try simp only [Act.put, List.getElem_toArray, List.getElem_cons_succ, List.getElem_cons_zero, List.setIfInBounds_toArray, List.set_cons_zero, List.set_cons_succ]
  refine wpAnyH_done (by kernel_rfl) ?_ _
  refine NoPanic.normal ?_
  go_wp2
  go_ret
  exact ⟨rfl, ⟨_, hc3⟩, gr_trans (gr_drewN HG.out _) hg3⟩

set_option maxRecDepth 100000 in
set_option maxHeartbeats 8000000 in
theorem play2 (b : Nat) (s : ByteArray) (p : Int) (n : Int) (q : ByteArray) (w : World) (hs : s.size ≤ 5000) (hq : q.size ≤ maxLen) (hc : Cur w b s p) :
    Calls Try.prog 24 #[.pointer (some ⟨b, 0, none⟩), .agg #[.int .i64 2, .int .i64 n, .string q]] w fun e w' => e = .returned (.bool true) ∧ (∃ p', Cur w' b s p') ∧ w.grownBy w' (some b) := by
  have hm : s.size ≤ maxLen := by unfold maxLen; omega
  have hca := hc.alloc (.cells #[.int .i64 2, .int .i64 n, .string q] 47)
  have k1 := hca.text
  have k2 := hca.at_
  have HP : RowKit.Hid (∀ W, _) := Lib.hid fun W => quietly (rplace_any s p W hm)
  have HE : RowKit.Hid (∀ W, Cur W b s p → _) := Lib.hid fun W h => word_any b s p q W hm hq h
  have HR : RowKit.Hid (∀ W, _) := Lib.hid fun W => quietly (rword_any s p q W hm hq)
  have HC := Lib.hid hca
  clear hca hc
  generalize wordP s (place s.size p).toNat q = y at *
  generalize isPre q.data.toList (s.data.toList.drop (place s.size p).toNat) = ok at *
  generalize place s.size p = x at *
  go_enter Try.func24, Try.ntmps24
  go_wp2_with fail
  go_quiet (first | (go_at_call 47; (with_reducible refine Calls.quiet_of (HP.out _))))
  have hq0 : Cur ((w.alloc (.cells #[.int .i64 2, .int .i64 n, .string q] 47)).drewN nq) b s p := HC.out.drewN _
  have q1 := hq0.text
  have q2 := hq0.at_
  have q3 := hq0.frozen 1
  have b0 : ((w.alloc (.cells #[.int .i64 2, .int .i64 n, .string q] 47)).drewN nq).cell? ⟨w.heap.size, 0, none⟩ = some (.int .i64 2) := by simp
  have b1 : ((w.alloc (.cells #[.int .i64 2, .int .i64 n, .string q] 47)).drewN nq).cell? ⟨w.heap.size, 1, none⟩ = some (.int .i64 n) := by simp
  have b2 : ((w.alloc (.cells #[.int .i64 2, .int .i64 n, .string q] 47)).drewN nq).cell? ⟨w.heap.size, 2, none⟩ = some (.string q) := by simp
  have hgq : w.grownBy ((w.alloc (.cells #[.int .i64 2, .int .i64 n, .string q] 47)).drewN nq) (some b) := gr_drewN (World.grownBy_alloc w _ _) _
  clear HC
  generalize (w.alloc (.cells #[.int .i64 2, .int .i64 n, .string q] 47)).drewN nq = wq at *
  have HC := Lib.hid hq0
  have HG := Lib.hid hgq
  clear hq0 hgq
  go_wp2_with fail
  go_quiet (first | (go_at_call 49; (with_reducible refine Calls.quiet_of (HR.out _))))
  go_wp2_with (first
    | (go_at_call 50; (first | with_reducible refine (HE.out _ HC.out.drew).mono ?_ | with_reducible refine (HE.out _ (HC.out.drewN _)).mono ?_ | with_reducible refine (HE.out _ HC.out).mono ?_); rintro e w3 ⟨rfl, hc3, hg3⟩; have m1 := hc3.text; have m2 := hc3.at_))
  go_ret
  exact ⟨rfl, ⟨_, hc3⟩, gr_trans (gr_drewN HG.out _) hg3⟩

set_option maxRecDepth 100000 in
set_option maxHeartbeats 8000000 in
theorem play3n (b : Nat) (s : ByteArray) (p : Int) (n : Int) (q : ByteArray) (w : World) (hs : s.size ≤ 5000) (hn : n < 0 ∨ (s.size : Int) - place s.size p < n) (hc : Cur w b s p) :
    Calls Try.prog 24 #[.pointer (some ⟨b, 0, none⟩), .agg #[.int .i64 3, .int .i64 n, .string q]] w fun e w' => e = .returned (.bool true) ∧ (∃ p', Cur w' b s p') ∧ w.grownBy w' (some b) := by
  have hm : s.size ≤ maxLen := by unfold maxLen; omega
  have hca := hc.alloc (.cells #[.int .i64 3, .int .i64 n, .string q] 47)
  have k1 := hca.text
  have k2 := hca.at_
  have HP : RowKit.Hid (∀ W, _) := Lib.hid fun W => quietly (rplace_any s p W hm)
  have HE : RowKit.Hid (∀ W, Cur W b s p → _) := Lib.hid fun W h => bytes_no b s p n W hm h hn
  have HR : RowKit.Hid (∀ W, _) := Lib.hid fun W => quietly (rbytes_no s p n W hm hn)
  clear hn
  have HC := Lib.hid hca
  clear hca hc
  generalize place s.size p = x at *
  go_enter Try.func24, Try.ntmps24
  go_wp2_with fail
  go_quiet (first | (go_at_call 47; (with_reducible refine Calls.quiet_of (HP.out _))))
  have hq0 : Cur ((w.alloc (.cells #[.int .i64 3, .int .i64 n, .string q] 47)).drewN nq) b s p := HC.out.drewN _
  have q1 := hq0.text
  have q2 := hq0.at_
  have q3 := hq0.frozen 1
  have b0 : ((w.alloc (.cells #[.int .i64 3, .int .i64 n, .string q] 47)).drewN nq).cell? ⟨w.heap.size, 0, none⟩ = some (.int .i64 3) := by simp
  have b1 : ((w.alloc (.cells #[.int .i64 3, .int .i64 n, .string q] 47)).drewN nq).cell? ⟨w.heap.size, 1, none⟩ = some (.int .i64 n) := by simp
  have b2 : ((w.alloc (.cells #[.int .i64 3, .int .i64 n, .string q] 47)).drewN nq).cell? ⟨w.heap.size, 2, none⟩ = some (.string q) := by simp
  have hgq : w.grownBy ((w.alloc (.cells #[.int .i64 3, .int .i64 n, .string q] 47)).drewN nq) (some b) := gr_drewN (World.grownBy_alloc w _ _) _
  clear HC
  generalize (w.alloc (.cells #[.int .i64 3, .int .i64 n, .string q] 47)).drewN nq = wq at *
  have HC := Lib.hid hq0
  have HG := Lib.hid hgq
  clear hq0 hgq
  go_wp2_with fail
  go_quiet (first | (go_at_call 51; (with_reducible refine Calls.quiet_of (HR.out _))))
  go_wp2_with (first
    | (go_at_call 52; (first | with_reducible refine (HE.out _ HC.out.drew).mono ?_ | with_reducible refine (HE.out _ (HC.out.drewN _)).mono ?_ | with_reducible refine (HE.out _ HC.out).mono ?_); rintro e w3 ⟨rfl, hc3, hg3⟩; have m1 := hc3.text; have m2 := hc3.at_))
  go_ret
  exact ⟨rfl, ⟨_, hc3⟩, gr_trans (gr_drewN HG.out _) hg3⟩

set_option maxRecDepth 100000 in
set_option maxHeartbeats 8000000 in
theorem play3y (b : Nat) (s : ByteArray) (p : Int) (n : Nat) (q : ByteArray) (w : World) (hs : s.size ≤ 5000) (hn : (place s.size p).toNat + n ≤ s.size) (hc : Cur w b s p) :
    Calls Try.prog 24 #[.pointer (some ⟨b, 0, none⟩), .agg #[.int .i64 3, .int .i64 n, .string q]] w fun e w' => e = .returned (.bool true) ∧ (∃ p', Cur w' b s p') ∧ w.grownBy w' (some b) := by
  have hm : s.size ≤ maxLen := by unfold maxLen; omega
  have hca := hc.alloc (.cells #[.int .i64 3, .int .i64 n, .string q] 47)
  have k1 := hca.text
  have k2 := hca.at_
  have HP : RowKit.Hid (∀ W, _) := Lib.hid fun W => quietly (rplace_any s p W hm)
  have HE : RowKit.Hid (∀ W, Cur W b s p → _) := Lib.hid fun W h => bytes_yes b s p n W hm h hn
  have HR : RowKit.Hid (∀ W, _) := Lib.hid fun W => quietly (rbytes_yes s p n W hm hn)
  clear hn
  have HC := Lib.hid hca
  clear hca hc
  generalize s.extract (place s.size p).toNat ((place s.size p).toNat + n) = r at *
  generalize (((place s.size p).toNat + n : Nat) : Int) = y at *
  generalize place s.size p = x at *
  go_enter Try.func24, Try.ntmps24
  go_wp2_with fail
  go_quiet (first | (go_at_call 47; (with_reducible refine Calls.quiet_of (HP.out _))))
  have hq0 : Cur ((w.alloc (.cells #[.int .i64 3, .int .i64 n, .string q] 47)).drewN nq) b s p := HC.out.drewN _
  have q1 := hq0.text
  have q2 := hq0.at_
  have q3 := hq0.frozen 1
  have b0 : ((w.alloc (.cells #[.int .i64 3, .int .i64 n, .string q] 47)).drewN nq).cell? ⟨w.heap.size, 0, none⟩ = some (.int .i64 3) := by simp
  have b1 : ((w.alloc (.cells #[.int .i64 3, .int .i64 n, .string q] 47)).drewN nq).cell? ⟨w.heap.size, 1, none⟩ = some (.int .i64 n) := by simp
  have b2 : ((w.alloc (.cells #[.int .i64 3, .int .i64 n, .string q] 47)).drewN nq).cell? ⟨w.heap.size, 2, none⟩ = some (.string q) := by simp
  have hgq : w.grownBy ((w.alloc (.cells #[.int .i64 3, .int .i64 n, .string q] 47)).drewN nq) (some b) := gr_drewN (World.grownBy_alloc w _ _) _
  clear HC
  generalize (w.alloc (.cells #[.int .i64 3, .int .i64 n, .string q] 47)).drewN nq = wq at *
  have HC := Lib.hid hq0
  have HG := Lib.hid hgq
  clear hq0 hgq
  go_wp2_with fail
  go_quiet (first | (go_at_call 51; (with_reducible refine Calls.quiet_of (HR.out _))))
  go_wp2_with (first
    | (go_at_call 52; (first | with_reducible refine (HE.out _ HC.out.drew).mono ?_ | with_reducible refine (HE.out _ (HC.out.drewN _)).mono ?_ | with_reducible refine (HE.out _ HC.out).mono ?_); rintro e w3 ⟨rfl, hc3, hg3⟩; have m1 := hc3.text; have m2 := hc3.at_))
  go_ret
  exact ⟨rfl, ⟨_, hc3⟩, gr_trans (gr_drewN HG.out _) hg3⟩

set_option maxRecDepth 100000 in
set_option maxHeartbeats 8000000 in
theorem play4 (b : Nat) (s : ByteArray) (p : Int) (n : Int) (q : ByteArray) (w : World) (hs : s.size ≤ 5000) (hc : Cur w b s p) :
    Calls Try.prog 24 #[.pointer (some ⟨b, 0, none⟩), .agg #[.int .i64 4, .int .i64 n, .string q]] w fun e w' => e = .returned (.bool true) ∧ (∃ p', Cur w' b s p') ∧ w.grownBy w' (some b) := by
  have hm : s.size ≤ maxLen := by unfold maxLen; omega
  have hca := hc.alloc (.cells #[.int .i64 4, .int .i64 n, .string q] 47)
  have k1 := hca.text
  have k2 := hca.at_
  have HP : RowKit.Hid (∀ W, _) := Lib.hid fun W => quietly (rplace_any s p W hm)
  have HE : RowKit.Hid (∀ W, Cur W b s p → _) := Lib.hid fun W h => run_any b s p n W hm h
  have HR : RowKit.Hid (∀ W, _) := Lib.hid fun W => quietly (rrun_any s p n W hm)
  have HC := Lib.hid hca
  clear hca hc
  generalize place s.size p + (runA s (place s.size p).toNat n).size = y at *
  generalize runA s (place s.size p).toNat n = r at *
  generalize place s.size p = x at *
  go_enter Try.func24, Try.ntmps24
  go_wp2_with fail
  go_quiet (first | (go_at_call 47; (with_reducible refine Calls.quiet_of (HP.out _))))
  have hq0 : Cur ((w.alloc (.cells #[.int .i64 4, .int .i64 n, .string q] 47)).drewN nq) b s p := HC.out.drewN _
  have q1 := hq0.text
  have q2 := hq0.at_
  have q3 := hq0.frozen 1
  have b0 : ((w.alloc (.cells #[.int .i64 4, .int .i64 n, .string q] 47)).drewN nq).cell? ⟨w.heap.size, 0, none⟩ = some (.int .i64 4) := by simp
  have b1 : ((w.alloc (.cells #[.int .i64 4, .int .i64 n, .string q] 47)).drewN nq).cell? ⟨w.heap.size, 1, none⟩ = some (.int .i64 n) := by simp
  have b2 : ((w.alloc (.cells #[.int .i64 4, .int .i64 n, .string q] 47)).drewN nq).cell? ⟨w.heap.size, 2, none⟩ = some (.string q) := by simp
  have hgq : w.grownBy ((w.alloc (.cells #[.int .i64 4, .int .i64 n, .string q] 47)).drewN nq) (some b) := gr_drewN (World.grownBy_alloc w _ _) _
  clear HC
  generalize (w.alloc (.cells #[.int .i64 4, .int .i64 n, .string q] 47)).drewN nq = wq at *
  have HC := Lib.hid hq0
  have HG := Lib.hid hgq
  clear hq0 hgq
  go_wp2_with fail
  go_quiet (first | (go_at_call 53; (with_reducible refine Calls.quiet_of (HR.out _))))
  go_wp2_with (first
    | (go_at_call 15; (first | with_reducible refine (HE.out _ HC.out.drew).mono ?_ | with_reducible refine (HE.out _ (HC.out.drewN _)).mono ?_ | with_reducible refine (HE.out _ HC.out).mono ?_); rintro e w3 ⟨rfl, hc3, hg3⟩; have m1 := hc3.text; have m2 := hc3.at_))
  go_ret
  exact ⟨rfl, ⟨_, hc3⟩, gr_trans (gr_drewN HG.out _) hg3⟩

set_option maxRecDepth 100000 in
set_option maxHeartbeats 8000000 in
theorem play5 (b : Nat) (s : ByteArray) (p : Int) (n : Int) (q : ByteArray) (w : World) (hs : s.size ≤ 5000) (hc : Cur w b s p) :
    Calls Try.prog 24 #[.pointer (some ⟨b, 0, none⟩), .agg #[.int .i64 5, .int .i64 n, .string q]] w fun e w' => e = .returned (.bool true) ∧ (∃ p', Cur w' b s p') ∧ w.grownBy w' (some b) := by
  have hm : s.size ≤ maxLen := by unfold maxLen; omega
  have hca := hc.alloc (.cells #[.int .i64 5, .int .i64 n, .string q] 47)
  have k1 := hca.text
  have k2 := hca.at_
  have HP : RowKit.Hid (∀ W, _) := Lib.hid fun W => quietly (rplace_any s p W hm)
  have HE : RowKit.Hid (∀ W, Cur W b s p → _) := Lib.hid fun W h => number_any b s p n W hm h
  have HR : RowKit.Hid (∀ W, _) := Lib.hid fun W => quietly (rnumber_any s p n W hm)
  have HC := Lib.hid hca
  clear hca hc
  generalize numAt (place s.size p) (runL 2 (s.data.toList.drop (place s.size p).toNat)) n = y at *
  generalize numRes (runL 2 (s.data.toList.drop (place s.size p).toNat)) n = r at *
  generalize numOk (runL 2 (s.data.toList.drop (place s.size p).toNat)) n = ok at *
  generalize place s.size p = x at *
  go_enter Try.func24, Try.ntmps24
  go_wp2_with fail
  go_quiet (first | (go_at_call 47; (with_reducible refine Calls.quiet_of (HP.out _))))
  have hq0 : Cur ((w.alloc (.cells #[.int .i64 5, .int .i64 n, .string q] 47)).drewN nq) b s p := HC.out.drewN _
  have q1 := hq0.text
  have q2 := hq0.at_
  have q3 := hq0.frozen 1
  have b0 : ((w.alloc (.cells #[.int .i64 5, .int .i64 n, .string q] 47)).drewN nq).cell? ⟨w.heap.size, 0, none⟩ = some (.int .i64 5) := by simp
  have b1 : ((w.alloc (.cells #[.int .i64 5, .int .i64 n, .string q] 47)).drewN nq).cell? ⟨w.heap.size, 1, none⟩ = some (.int .i64 n) := by simp
  have b2 : ((w.alloc (.cells #[.int .i64 5, .int .i64 n, .string q] 47)).drewN nq).cell? ⟨w.heap.size, 2, none⟩ = some (.string q) := by simp
  have hgq : w.grownBy ((w.alloc (.cells #[.int .i64 5, .int .i64 n, .string q] 47)).drewN nq) (some b) := gr_drewN (World.grownBy_alloc w _ _) _
  clear HC
  generalize (w.alloc (.cells #[.int .i64 5, .int .i64 n, .string q] 47)).drewN nq = wq at *
  have HC := Lib.hid hq0
  have HG := Lib.hid hgq
  clear hq0 hgq
  go_wp2_with fail
  go_quiet (first | (go_at_call 54; (with_reducible refine Calls.quiet_of (HR.out _))))
  go_wp2_with (first
    | (go_at_call 17; (first | with_reducible refine (HE.out _ HC.out.drew).mono ?_ | with_reducible refine (HE.out _ (HC.out.drewN _)).mono ?_ | with_reducible refine (HE.out _ HC.out).mono ?_); rintro e w3 ⟨rfl, hc3, hg3⟩; have m1 := hc3.text; have m2 := hc3.at_))
  go_ret
  exact ⟨rfl, ⟨_, hc3⟩, gr_trans (gr_drewN HG.out _) hg3⟩

set_option maxRecDepth 100000 in
set_option maxHeartbeats 8000000 in
theorem play6 (b : Nat) (s : ByteArray) (p : Int) (n kd : Int) (q : ByteArray) (w : World) (hs : s.size ≤ 5000) (h0 : kd ≠ 0) (h1 : kd ≠ 1) (h2 : kd ≠ 2) (h3 : kd ≠ 3) (h4 : kd ≠ 4) (h5 : kd ≠ 5) (hc : Cur w b s p) :
    Calls Try.prog 24 #[.pointer (some ⟨b, 0, none⟩), .agg #[.int .i64 kd, .int .i64 n, .string q]] w fun e w' => e = .returned (.bool true) ∧ (∃ p', Cur w' b s p') ∧ w.grownBy w' (some b) := by
  have hm : s.size ≤ maxLen := by unfold maxLen; omega
  have hca := hc.alloc (.cells #[.int .i64 kd, .int .i64 n, .string q] 47)
  have k1 := hca.text
  have k2 := hca.at_
  have HP : RowKit.Hid (∀ W, _) := Lib.hid fun W => quietly (rplace_any s p W hm)
  have k3 := hca.frozen 1
  have HC := Lib.hid hca
  have e0 : (kd == 0) = false := by rw [beq_eq_false_iff_ne]; exact h0
  have e1 : (kd == 1) = false := by rw [beq_eq_false_iff_ne]; exact h1
  have e2 : (kd == 2) = false := by rw [beq_eq_false_iff_ne]; exact h2
  have e3 : (kd == 3) = false := by rw [beq_eq_false_iff_ne]; exact h3
  have e4 : (kd == 4) = false := by rw [beq_eq_false_iff_ne]; exact h4
  have e5 : (kd == 5) = false := by rw [beq_eq_false_iff_ne]; exact h5
  clear hca hc h0 h1 h2 h3 h4 h5
  generalize place s.size p = x at *
  go_enter Try.func24, Try.ntmps24
  go_wp2_with fail
  go_quiet (first | (go_at_call 47; (with_reducible refine Calls.quiet_of (HP.out _))))
  have hq0 : Cur ((w.alloc (.cells #[.int .i64 kd, .int .i64 n, .string q] 47)).drewN nq) b s p := HC.out.drewN _
  have q1 := hq0.text
  have q2 := hq0.at_
  have q3 := hq0.frozen 1
  have b0 : ((w.alloc (.cells #[.int .i64 kd, .int .i64 n, .string q] 47)).drewN nq).cell? ⟨w.heap.size, 0, none⟩ = some (.int .i64 kd) := by simp
  have b1 : ((w.alloc (.cells #[.int .i64 kd, .int .i64 n, .string q] 47)).drewN nq).cell? ⟨w.heap.size, 1, none⟩ = some (.int .i64 n) := by simp
  have b2 : ((w.alloc (.cells #[.int .i64 kd, .int .i64 n, .string q] 47)).drewN nq).cell? ⟨w.heap.size, 2, none⟩ = some (.string q) := by simp
  have hgq : w.grownBy ((w.alloc (.cells #[.int .i64 kd, .int .i64 n, .string q] 47)).drewN nq) (some b) := gr_drewN (World.grownBy_alloc w _ _) _
  clear HC
  generalize (w.alloc (.cells #[.int .i64 kd, .int .i64 n, .string q] 47)).drewN nq = wq at *
  have HC := Lib.hid hq0
  have HG := Lib.hid hgq
  clear hq0 hgq
  go_wp2_with fail
  go_wp2
  go_ret
  exact ⟨rfl, ⟨_, HC.out.set_ _⟩, gr_setCell (p := ⟨b, 1, none⟩) HG.out (.inl rfl) _⟩

theorem play_any (b : Nat) (s : ByteArray) (p kd n : Int) (q : ByteArray) (w : World) (hs : s.size ≤ 5000) (hq : q.size ≤ maxLen) (hc : Cur w b s p) :
    Calls Try.prog 24 #[.pointer (some ⟨b, 0, none⟩), .agg #[.int .i64 kd, .int .i64 n, .string q]] w fun e w' => e = .returned (.bool true) ∧ (∃ p', Cur w' b s p') ∧ w.grownBy w' (some b) := by
  by_cases h0 : kd = 0
  · subst h0; exact play0 b s p n q w hs hc
  by_cases h1 : kd = 1
  · subst h1; exact play1 b s p n q w hs hc
  by_cases h2 : kd = 2
  · subst h2; exact play2 b s p n q w hs hq hc
  by_cases h3 : kd = 3
  · subst h3
    by_cases hn : n < 0 ∨ (s.size : Int) - place s.size p < n
    · exact play3n b s p n q w hs hn hc
    · have g0 := place_ge s.size p
      have g1 := place_le s.size p
      obtain ⟨m, rfl⟩ := Int.eq_ofNat_of_zero_le (show 0 ≤ n by omega)
      exact play3y b s p m q w hs (by omega) hc
  by_cases h4 : kd = 4
  · subst h4; exact play4 b s p n q w hs hc
  by_cases h5 : kd = 5
  · subst h5; exact play5 b s p n q w hs hc
  exact play6 b s p n kd q w hs h0 h1 h2 h3 h4 h5 hc
end Go.Proofs.Ytlaieijlengojaa
