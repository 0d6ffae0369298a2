/- The walk of ScanRuns. -/
import Derived.Test.YtlaieijlengojaaScanG
namespace Go.Proofs.Ytlaieijlengojaa
open Go.RowKit

theorem run_again (k : Int) (l : List UInt8) : runL k (l.drop (runL k l).length) = [] := by
  unfold runL
  induction l with
  | nil => rfl
  | cons c t ih =>
    cases h : kOk k c
    · have e : (c :: t).takeWhile (kOk k) = [] := by rw [List.takeWhile_cons, h]; rfl
      rw [e]
      show (c :: t).takeWhile (kOk k) = []
      exact e
    · have e : (c :: t).takeWhile (kOk k) = c :: t.takeWhile (kOk k) := by rw [List.takeWhile_cons, h]; rfl
      rw [e]
      exact ih
/-- A row of both kinds is its row of one kind, and the row of both behind it. -/
theorem run_both (k : Int) (hk : k = 1 ∨ k = 2) (l : List UInt8) : runL 3 l = runL k l ++ runL 3 (l.drop (runL k l).length) := by
  have hsub : ∀ c, kOk k c = true → kOk 3 c = true := by
    intro c h
    unfold kOk at h ⊢
    rcases hk with rfl | rfl
    · simp at h ⊢; exact .inl h
    · simp at h ⊢; exact .inr h
  unfold runL
  induction l with
  | nil => rfl
  | cons c t ih =>
    cases h : kOk k c
    · have e : (c :: t).takeWhile (kOk k) = [] := by rw [List.takeWhile_cons, h]; rfl
      rw [e]; rfl
    · have e : (c :: t).takeWhile (kOk k) = c :: t.takeWhile (kOk k) := by rw [List.takeWhile_cons, h]; rfl
      have e3 : (c :: t).takeWhile (kOk 3) = c :: t.takeWhile (kOk 3) := by rw [List.takeWhile_cons, hsub c h]; rfl
      rw [e, e3, List.cons_append]
      congr 1
/-- By turns it goes on, as long as something of both kinds is ahead. -/
theorem run_on (l : List UInt8) (h : runL 3 l ≠ []) : 1 ≤ (runL 1 l).length + (runL 2 (l.drop (runL 1 l).length)).length := by
  cases l with
  | nil => exact absurd rfl h
  | cons c t =>
    unfold runL at *
    cases h1 : kOk 1 c
    · have e : (c :: t).takeWhile (kOk 1) = [] := by rw [List.takeWhile_cons, h1]; rfl
      cases h2 : kOk 2 c
      · have h3 : kOk 3 c = false := by
          unfold kOk at h1 h2 ⊢
          simp at h1 h2 ⊢
          exact ⟨h1, h2⟩
        exact absurd (by rw [List.takeWhile_cons, h3]; rfl) h
      · rw [e]
        show 1 ≤ 0 + ((c :: t).takeWhile (kOk 2)).length
        rw [List.takeWhile_cons, h2]; simp
    · rw [List.takeWhile_cons, h1]; simp; omega

theorem turn_step (L : List UInt8) (J : Nat) :
    runL 3 (L.drop J) = runL 1 (L.drop J) ++ runL 2 (L.drop (J + (runL 1 (L.drop J)).length)) ++ runL 3 (L.drop (J + (runL 1 (L.drop J)).length + (runL 2 (L.drop (J + (runL 1 (L.drop J)).length))).length)) ∧
      (runL 3 (L.drop J) ≠ [] → 1 ≤ (runL 1 (L.drop J)).length + (runL 2 (L.drop (J + (runL 1 (L.drop J)).length))).length) := by
  constructor
  · have h1 := run_both 1 (.inl rfl) (L.drop J)
    rw [List.drop_drop] at h1
    have h2 := run_both 2 (.inr rfl) (L.drop (J + (runL 1 (L.drop J)).length))
    rw [List.drop_drop] at h2
    rw [List.append_assoc, ← h2]
    exact h1
  · intro h
    have := run_on _ h
    rw [List.drop_drop] at this
    exact this

theorem turn_stepA (s : ByteArray) (J : Nat) :
    runL 3 (s.data.toList.drop J) = (runA s J 1).data.toList ++ (runA s (J + (runA s J 1).size) 2).data.toList ++ runL 3 (s.data.toList.drop (J + (runA s J 1).size + (runA s (J + (runA s J 1).size) 2).size)) ∧
      (runL 3 (s.data.toList.drop J) ≠ [] → 1 ≤ (runA s J 1).size + (runA s (J + (runA s J 1).size) 2).size) := by
  simp only [runA_list, runA_size]
  exact turn_step s.data.toList J

theorem run_at (b : Nat) (s : ByteArray) (j : Nat) (k : Int) (w : World) (hs : s.size ≤ maxLen) (hj : j ≤ s.size) (hc : Cur w b s j) :
    Calls Try.prog 15 #[.pointer (some ⟨b, 0, none⟩), .int .i64 k] w fun e w' =>
      e = .returned (.string (runA s j k)) ∧ Cur w' b s ((j + (runA s j k).size : Nat) : Int) ∧ w.grownBy w' (some b) := by
  have h := run_any b s j k w hs hc
  rw [place_in s.size j (by omega) (by omega), Int.toNat_natCast] at h
  exact h
theorem runA_in (s : ByteArray) (j : Nat) (k : Int) (hj : j ≤ s.size) : j + (runA s j k).size ≤ s.size := by
  have := runL_le k (s.data.toList.drop j)
  rw [runA_size]
  simp at this
  omega
theorem runA_again (s : ByteArray) (j : Nat) (k : Int) : runA s (j + (runA s j k).size) k = ⟨#[]⟩ := by
  unfold runA
  rw [show (ByteArray.mk (runL k (s.data.toList.drop j)).toArray).size = (runL k (s.data.toList.drop j)).length from rfl, ← List.drop_drop, run_again]

/-- Run twice: the second time nothing. -/
theorem run_2nd (b : Nat) (s : ByteArray) (p k : Int) (w : World) (hs : s.size ≤ maxLen) (hc : Cur w b s (place s.size p + (runA s (place s.size p).toNat k).size)) :
    Calls Try.prog 15 #[.pointer (some ⟨b, 0, none⟩), .int .i64 k] w fun e w' => e = .returned (.string ⟨#[]⟩) ∧ w.grownBy w' (some b) := by
  have h0 := place_ge s.size p
  have h1 := place_le s.size p
  generalize place s.size p = x at *
  obtain ⟨j, rfl⟩ := Int.eq_ofNat_of_zero_le h0
  rw [Int.toNat_natCast] at hc
  have hj := runA_in s j k (by omega)
  have h := run_at b s (j + (runA s j k).size) k w hs hj hc
  rw [runA_again] at h
  exact h.mono fun _ _ ⟨e, _, g⟩ => ⟨e, g⟩

set_option maxHeartbeats 4000000 in
theorem runs_walk (s : ByteArray) (hs : s.size ≤ maxLen) (p : Int) (_hp : (Lit.int .i64 p).wf = true) (w : World) :
    Calls Try.prog 3 #[.string s, .int .i64 p] w fun e w' => e = .returned (.bool true) ∧ Below w.heap.size w w' := by
  have hb := Below.refl w.heap.size w
  by_cases hl : 5000 < (s.size : Int)
  · go_enter Try.func3, Try.ntmps3
    go_wp2_with (go_at_call 14; refine (awake_scan _).mono ?_; rintro e w1 ⟨rfl, hb1⟩; replace hb := bel_trans hb hb1; clear hb1)
    go_ret
    exact ⟨rfl, hb⟩
  go_enter Try.func3, Try.ntmps3
  go_wp2_with (go_at_call 14; refine (awake_scan _).mono ?_; rintro e w1 ⟨rfl, hb1⟩; replace hb := bel_trans hb hb1; clear hb1)
  go_loopw [5] (fun k wr => ∃ n : Nat, 1 ≤ n ∧ n ≤ 4 ∧ k = .int .i64 n ∧ Below w.heap.size w wr) (fun k _ => 4 - (intOf k).toNat)
  case atStart => exact ⟨1, by omega, by omega, rfl, hb⟩
  case round =>
    obtain ⟨n, hn1, hn4, rfl, hbr⟩ := hrel
    clear hb
    by_cases hlt : n ≤ 3
    · have hsz := hbr.size
      go_wp2_with fail
      refine (run_any _ s p n _ hs (Cur.new _ _ _)).mono ?_
      rintro e w2 ⟨rfl, hc2, hg2⟩
      go_wp2_with fail
      refine (run_2nd _ s p n _ hs hc2).mono ?_
      rintro e w3 ⟨rfl, hg3⟩
      go_wp2
      go_roundw
      case rel => exact ⟨n + 1, by omega, by omega, by go_num, bel_gr (hbr.alloc hsz _) (by simp; omega) (gr_trans hg2 hg3) hsz⟩
      case measure => simp [intOf]; omega
    · have hsz := hbr.size
      obtain ⟨wo, rfl⟩ : ∃ wo : World, wo = wr := ⟨_, rfl⟩
      have hj0 := place_ge s.size p
      have hj1 := place_le s.size p
      have hrun := fun W b (hc : Cur W b s p) => run_any b s p 3 W hs hc
      have hone := fun W b q (hc : Cur W b s q) => run_any b s q 1 W hs hc
      generalize hpj : place s.size p = x at hj0 hj1 hrun
      obtain ⟨j0, rfl⟩ := Int.eq_ofNat_of_zero_le hj0
      have hj0s : j0 ≤ s.size := by omega
      have htwo := fun W b j (hj : j ≤ s.size) (hc : Cur W b s (j : Int)) => run_at b s j 2 W hs hj hc
      have hRB := Lib.hid hrun
      have hR1 := Lib.hid hone
      have hR2 := Lib.hid htwo
      have HPJ := Lib.hid hpj
      have hss : s.size ≤ 5000 := by omega
      clear hrun hone htwo hpj
      go_wp2_with fail
      have hcb := (Cur.new wo s p).alloc (.cells #[.string s, .int .i64 p] 26)
      have hco := Cur.new (wo.alloc (.cells #[.string s, .int .i64 p] 26)) s p
      have hbw : Below w.heap.size w ((wo.alloc (.cells #[.string s, .int .i64 p] 26)).alloc (.cells #[.string s, .int .i64 p] 26)) := (hbr.alloc hsz _).alloc (by simp; omega) _
      have hbw2 : w.heap.size ≤ ((wo.alloc (.cells #[.string s, .int .i64 p] 26)).alloc (.cells #[.string s, .int .i64 p] 26)).heap.size := hbw.size
      rw [World.size_alloc] at hco
      have HCB := Lib.hid hcb
      have HCO := Lib.hid hco
      clear hcb hco
      refine (hRB.out _ _ HCB.out).mono ?_
      rintro e w1 ⟨rfl, hcb1, hg1⟩
      have hco1 := HCO.out.far hg1 (by omega)
      have hb1 := bel_gr hbw hbw2 hg1 hsz
      rw [Int.toNat_natCast] at hcb1 ⊢
      have hW3 : j0 + (runA s j0 3).size ≤ s.size := runA_in s j0 3 hj0s
      clear HCB HCO hg1 hbw hbw2 hbr
      have hsz1 : wo.heap.size + 1 < w1.heap.size := hco1.lt
      go_wp2_with fail
      go_loopw [10, 11] (fun g i wr => ∃ (n : Nat) (gs : ByteArray) (q : Int), n ≤ s.size + 1 ∧ i = .int .i64 n ∧ g = .string gs ∧ place s.size q = ((j0 + gs.size : Nat) : Int) ∧ (1 ≤ n → q = ((j0 + gs.size : Nat) : Int)) ∧
          gs.data.toList ++ runL 3 (s.data.toList.drop (j0 + gs.size)) = runL 3 (s.data.toList.drop j0) ∧ ((runL 3 (s.data.toList.drop (j0 + gs.size))).length + n ≤ s.size ∨ runL 3 (s.data.toList.drop (j0 + gs.size)) = []) ∧
          Cur wr (wo.heap.size + 1) s q ∧ Cur wr wo.heap.size s ((j0 : Int) + (runA s j0 3).size) ∧ Below w.heap.size w wr) (fun _ i _ => s.size + 1 - (intOf i).toNat)
      case atStart => exact ⟨0, ⟨#[]⟩, p, by omega, rfl, rfl, HPJ.out, fun h => absurd h (by omega), rfl, .inl (by have h1 := runL_le 3 (s.data.toList.drop j0); rw [List.length_drop] at h1; have h2 : s.data.toList.length = s.size := (by simp); show (runL 3 (s.data.toList.drop (j0 + 0))).length + 0 ≤ s.size; rw [Nat.add_zero j0]; omega), hco1, hcb1, hb1⟩
      case round =>
        obtain ⟨n, gs, q, hn, rfl, rfl, hpl, hq1, hcat, hfew, hco, hcb, hbr⟩ := hrel
        clear hco1 hcb1 hb1 hsz1
        have hJ : j0 + gs.size ≤ s.size := by have := place_le s.size q; omega
        by_cases hlt2 : n ≤ s.size
        · have hr1 := fun W b hc => hR1.out W b q hc
          simp only [hpl, Int.toNat_natCast] at hr1
          have z1 := runA_in s (j0 + gs.size) 1 hJ
          have z2 := runA_in s (j0 + gs.size + (runA s (j0 + gs.size) 1).size) 2 z1
          have hr2 := fun W b hc => hR2.out W b _ z1 hc
          obtain ⟨hst1, hst2⟩ := turn_stepA s (j0 + gs.size)
          generalize runA s (j0 + gs.size + (runA s (j0 + gs.size) 1).size) 2 = a2 at hr2 z2 hst1 hst2
          generalize runA s (j0 + gs.size) 1 = a1 at hr1 hr2 z1 z2 hst1 hst2
          have HR1 := Lib.hid hr1
          have HR2 := Lib.hid hr2
          have HS1 := Lib.hid hst1
          have HS2 := Lib.hid hst2
          have HCAT := Lib.hid hcat
          have HFEW := Lib.hid hfew
          have hcol := hco.lt
          have hwb := hbr.size
          clear hr1 hr2 hst1 hst2 hcat hfew hpl hq1
          go_wp2_with fail
          (with_reducible refine (HR1.out _ _ hco).mono ?_)
          rintro e w2 ⟨rfl, hco2, hg2⟩
          have hcb2 := hcb.far hg2 (by omega)
          have hbr2 := bel_gr hbr hwb hg2 (by omega)
          go_wp2_with fail
          (with_reducible refine (HR2.out _ _ hco2).mono ?_)
          rintro e w3 ⟨rfl, hco3, hg3⟩
          have hcb3 := hcb2.far hg3 (by omega)
          have hbr3 := bel_gr hbr2 hbr2.size hg3 (by omega)
          clear hco hco2 hcb hcb2 hbr hbr2 hg2 hg3
          go_wp2
          have hgz : (gs ++ a1 ++ a2 : ByteArray).size = gs.size + a1.size + a2.size := by rw [ByteArray.size_append, ByteArray.size_append]
          have hJ2 : j0 + (gs ++ a1 ++ a2 : ByteArray).size = j0 + gs.size + a1.size + a2.size := by omega
          refine ⟨⟨n + 1, gs ++ a1 ++ a2, ((j0 + gs.size + a1.size + a2.size : Nat) : Int), by omega, by go_num, rfl, ?_, fun _ => by rw [hJ2], ?_, ?_, hco3, hcb3, hbr3⟩, by simp [intOf]; omega⟩
          · rw [hJ2]; exact place_in _ _ (by omega) (by omega)
          · rw [hJ2, ← HCAT.out, HS1.out]
            simp
          · rw [hJ2]
            rcases HFEW.out with h1 | h1
            · by_cases hz : runL 3 (s.data.toList.drop (j0 + gs.size)) = []
              · right
                have := HS1.out
                rw [hz] at this
                exact (List.append_eq_nil_iff.1 this.symm).2
              · left
                have h2 := HS2.out hz
                have h3 := congrArg List.length HS1.out
                rw [List.length_append, List.length_append] at h3
                have h4 : a1.data.toList.length = a1.size := by simp
                have h5 : a2.data.toList.length = a2.size := by simp
                omega
            · right
              have := HS1.out
              rw [h1] at this
              exact (List.append_eq_nil_iff.1 this.symm).2
        · have hz : runL 3 (s.data.toList.drop (j0 + gs.size)) = [] := by
            rcases hfew with h1 | h1
            · exact List.eq_nil_of_length_eq_zero (by omega)
            · exact h1
          have hq := hq1 (by omega)
          rw [hz, List.append_nil, ← runA_list] at hcat
          have hgw := bytes_inj hcat
          have heq : (gs.toList == (runA s j0 3).toList) = true := by rw [hgw]; simp
          have hsame : (q == (j0 : Int) + ((runA s j0 3).size : Int)) = true := by rw [← hgw, beq_iff_eq]; omega
          have k1 := hco.at_
          have k2 := hcb.at_
          clear hcat hgw hq hq1 hz hfew hpl
          generalize runA s j0 3 = R at *
          go_wp2_with fail
          go_quiet (fail)
          go_wp2
          go_ret
          exact ⟨rfl, below_drewN hbr _⟩
end Go.Proofs.Ytlaieijlengojaa
