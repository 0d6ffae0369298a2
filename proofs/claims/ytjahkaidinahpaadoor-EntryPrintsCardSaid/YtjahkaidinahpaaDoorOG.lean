/- Entries: the reference's words, begin, seats, parts (printed by gen_rpart2.py). -/
import Derived.Test.YtjahkaidinahpaaDoorOF
namespace Go.Proofs.YtjahkaidinahpaaDoor.En
open Go.RowKit
set_option linter.unusedSimpArgs false
set_option linter.unusedVariables false
set_option maxRecDepth 20000

theorem wordOf_no {k : Int} (h : k ≠ 1 ∧ k ≠ 2 ∧ k ≠ 3 ∧ k ≠ 4 ∧ k ≠ 5 ∧ k ≠ 6 ∧ k ≠ 7 ∧ k ≠ 8 ∧ k ≠ 9 ∧ k ≠ 10 ∧ k ≠ 11 ∧ k ≠ 13 ∧ k ≠ 14 ∧ k ≠ 15 ∧ k ≠ 16 ∧ k ≠ 18 ∧ k ≠ 19 ∧ k ≠ 20 ∧ k ≠ 21 ∧ k ≠ 22 ∧ k ≠ 23 ∧ k ≠ 24 ∧ k ≠ 25 ∧ k ≠ 26 ∧ k ≠ 27 ∧ k ≠ 28 ∧ k ≠ 29) : wordOf k = [] := by
  unfold wordOf
  have e : wordsL.find? (fun x => x.2 == k) = none := by
    rw [List.find?_eq_none]
    intro x hx
    have hm : x.2 ∈ wordsL.map (·.2) := List.mem_map_of_mem hx
    have e2 : wordsL.map (·.2) = [1, 2, 3, 4, 5, 6, 7, 8, 9, 10, 13, 11, 15, 14, 16, 19, 18, 21, 20, 22, 25, 26, 27, 23, 24, 28, 29] := rfl
    rw [e2] at hm
    simp only [List.mem_cons, List.not_mem_nil, or_false] at hm
    simp only [beq_iff_eq]
    omega
  rw [e]
  rfl

set_option maxHeartbeats 8000000 in
theorem word_m (k : Int) (w : World) : Calls Tryd.prog 72 #[.int .i64 k] w fun e w' => e = .returned (txV (wordOf k)) ∧ w = w' := by
  by_cases h1 : k = 1
  · subst h1
    go_enter Tryd.func72, Tryd.ntmps72
    go_wp2
    go_ret
    exact ⟨rfl, rfl⟩
  by_cases h2 : k = 2
  · subst h2
    go_enter Tryd.func72, Tryd.ntmps72
    go_wp2
    go_ret
    exact ⟨rfl, rfl⟩
  by_cases h3 : k = 3
  · subst h3
    go_enter Tryd.func72, Tryd.ntmps72
    go_wp2
    go_ret
    exact ⟨rfl, rfl⟩
  by_cases h4 : k = 4
  · subst h4
    go_enter Tryd.func72, Tryd.ntmps72
    go_wp2
    go_ret
    exact ⟨rfl, rfl⟩
  by_cases h5 : k = 5
  · subst h5
    go_enter Tryd.func72, Tryd.ntmps72
    go_wp2
    go_ret
    exact ⟨rfl, rfl⟩
  by_cases h6 : k = 6
  · subst h6
    go_enter Tryd.func72, Tryd.ntmps72
    go_wp2
    go_ret
    exact ⟨rfl, rfl⟩
  by_cases h7 : k = 7
  · subst h7
    go_enter Tryd.func72, Tryd.ntmps72
    go_wp2
    go_ret
    exact ⟨rfl, rfl⟩
  by_cases h8 : k = 8
  · subst h8
    go_enter Tryd.func72, Tryd.ntmps72
    go_wp2
    go_ret
    exact ⟨rfl, rfl⟩
  by_cases h9 : k = 9
  · subst h9
    go_enter Tryd.func72, Tryd.ntmps72
    go_wp2
    go_ret
    exact ⟨rfl, rfl⟩
  by_cases h10 : k = 10
  · subst h10
    go_enter Tryd.func72, Tryd.ntmps72
    go_wp2
    go_ret
    exact ⟨rfl, rfl⟩
  by_cases h11 : k = 11
  · subst h11
    go_enter Tryd.func72, Tryd.ntmps72
    go_wp2
    go_ret
    exact ⟨rfl, rfl⟩
  by_cases h13 : k = 13
  · subst h13
    go_enter Tryd.func72, Tryd.ntmps72
    go_wp2
    go_ret
    exact ⟨rfl, rfl⟩
  by_cases h14 : k = 14
  · subst h14
    go_enter Tryd.func72, Tryd.ntmps72
    go_wp2
    go_ret
    exact ⟨rfl, rfl⟩
  by_cases h15 : k = 15
  · subst h15
    go_enter Tryd.func72, Tryd.ntmps72
    go_wp2
    go_ret
    exact ⟨rfl, rfl⟩
  by_cases h16 : k = 16
  · subst h16
    go_enter Tryd.func72, Tryd.ntmps72
    go_wp2
    go_ret
    exact ⟨rfl, rfl⟩
  by_cases h18 : k = 18
  · subst h18
    go_enter Tryd.func72, Tryd.ntmps72
    go_wp2
    go_ret
    exact ⟨rfl, rfl⟩
  by_cases h19 : k = 19
  · subst h19
    go_enter Tryd.func72, Tryd.ntmps72
    go_wp2
    go_ret
    exact ⟨rfl, rfl⟩
  by_cases h20 : k = 20
  · subst h20
    go_enter Tryd.func72, Tryd.ntmps72
    go_wp2
    go_ret
    exact ⟨rfl, rfl⟩
  by_cases h21 : k = 21
  · subst h21
    go_enter Tryd.func72, Tryd.ntmps72
    go_wp2
    go_ret
    exact ⟨rfl, rfl⟩
  by_cases h22 : k = 22
  · subst h22
    go_enter Tryd.func72, Tryd.ntmps72
    go_wp2
    go_ret
    exact ⟨rfl, rfl⟩
  by_cases h23 : k = 23
  · subst h23
    go_enter Tryd.func72, Tryd.ntmps72
    go_wp2
    go_ret
    exact ⟨rfl, rfl⟩
  by_cases h24 : k = 24
  · subst h24
    go_enter Tryd.func72, Tryd.ntmps72
    go_wp2
    go_ret
    exact ⟨rfl, rfl⟩
  by_cases h25 : k = 25
  · subst h25
    go_enter Tryd.func72, Tryd.ntmps72
    go_wp2
    go_ret
    exact ⟨rfl, rfl⟩
  by_cases h26 : k = 26
  · subst h26
    go_enter Tryd.func72, Tryd.ntmps72
    go_wp2
    go_ret
    exact ⟨rfl, rfl⟩
  by_cases h27 : k = 27
  · subst h27
    go_enter Tryd.func72, Tryd.ntmps72
    go_wp2
    go_ret
    exact ⟨rfl, rfl⟩
  by_cases h28 : k = 28
  · subst h28
    go_enter Tryd.func72, Tryd.ntmps72
    go_wp2
    go_ret
    exact ⟨rfl, rfl⟩
  by_cases h29 : k = 29
  · subst h29
    go_enter Tryd.func72, Tryd.ntmps72
    go_wp2
    go_ret
    exact ⟨rfl, rfl⟩
  have HE := Lib.hid (wordOf_no ⟨h1, h2, h3, h4, h5, h6, h7, h8, h9, h10, h11, h13, h14, h15, h16, h18, h19, h20, h21, h22, h23, h24, h25, h26, h27, h28, h29⟩)
  have e1 : (k == 1) = false := by simpa using h1
  have e2 : (k == 2) = false := by simpa using h2
  have e3 : (k == 3) = false := by simpa using h3
  have e4 : (k == 4) = false := by simpa using h4
  have e5 : (k == 5) = false := by simpa using h5
  have e6 : (k == 6) = false := by simpa using h6
  have e7 : (k == 7) = false := by simpa using h7
  have e8 : (k == 8) = false := by simpa using h8
  have e9 : (k == 9) = false := by simpa using h9
  have e10 : (k == 10) = false := by simpa using h10
  have e11 : (k == 11) = false := by simpa using h11
  have e13 : (k == 13) = false := by simpa using h13
  have e14 : (k == 14) = false := by simpa using h14
  have e15 : (k == 15) = false := by simpa using h15
  have e16 : (k == 16) = false := by simpa using h16
  have e18 : (k == 18) = false := by simpa using h18
  have e19 : (k == 19) = false := by simpa using h19
  have e20 : (k == 20) = false := by simpa using h20
  have e21 : (k == 21) = false := by simpa using h21
  have e22 : (k == 22) = false := by simpa using h22
  have e23 : (k == 23) = false := by simpa using h23
  have e24 : (k == 24) = false := by simpa using h24
  have e25 : (k == 25) = false := by simpa using h25
  have e26 : (k == 26) = false := by simpa using h26
  have e27 : (k == 27) = false := by simpa using h27
  have e28 : (k == 28) = false := by simpa using h28
  have e29 : (k == 29) = false := by simpa using h29
  clear h1 h2 h3 h4 h5 h6 h7 h8 h9 h10 h11 h13 h14 h15 h16 h18 h19 h20 h21 h22 h23 h24 h25 h26 h27 h28 h29
  go_enter Tryd.func72, Tryd.ntmps72
  go_wp2
  go_ret
  exact ⟨by rw [HE.out]; rfl, rfl⟩

theorem wordsK_at : ∀ k, k < 29 → wordOf ((k + 1 : Nat) : Int) = (wordsK.getD k ([], 0)).1 ∧ (wordsK.getD k ([], 0)).2 = ((k + 1 : Nat) : Int) ∧ (wordsK.getD k ([], 0)).1.length ≤ 4 := by
  intro k h
  have hk : k = 0 ∨ k = 1 ∨ k = 2 ∨ k = 3 ∨ k = 4 ∨ k = 5 ∨ k = 6 ∨ k = 7 ∨ k = 8 ∨ k = 9 ∨ k = 10 ∨ k = 11 ∨ k = 12 ∨ k = 13 ∨ k = 14 ∨ k = 15 ∨ k = 16 ∨ k = 17 ∨ k = 18 ∨ k = 19 ∨ k = 20 ∨ k = 21 ∨ k = 22 ∨ k = 23 ∨ k = 24 ∨ k = 25 ∨ k = 26 ∨ k = 27 ∨ k = 28 := by omega
  rcases hk with rfl | rfl | rfl | rfl | rfl | rfl | rfl | rfl | rfl | rfl | rfl | rfl | rfl | rfl | rfl | rfl | rfl | rfl | rfl | rfl | rfl | rfl | rfl | rfl | rfl | rfl | rfl | rfl | rfl <;> exact ⟨rfl, rfl, by decide⟩

theorem pre_at {l : List UInt8} {q : Nat} (g : UInt8) (h : q < l.length) : isPre [g] (l.drop q) = (l[q] == g) := by
  rw [List.drop_eq_getElem_cons h, isPre_two, isPre_nil, Bool.and_true]
theorem pre_end {l : List UInt8} {q : Nat} (g : UInt8) (h : l.length ≤ q) : isPre [g] (l.drop q) = false := by
  rw [List.drop_eq_nil_of_le h]; rfl
theorem get_toL {s : ByteArray} {q : Nat} (h : q < s.size) (h2 : q < (toL s).length) : (toL s)[q] = s[q] := by
  simp [ByteArray.getElem_eq_getElem_data]

/-- The seat of a text, as the reference reads it. -/
theorem seat_read (t : List UInt8) (W : World) (ht : t.length ≤ maxLen) :
    Calls Tryd.prog 182 #[txV t] W fun e w' => ∃ (r : Int) (a : UInt8) (z : Bool), RowKit.Hid (seatV t = (r, a)) ∧ e = .returned (.tuple #[.agg #[.int .i64 r, .int .u8 a.toNat], .bool z]) ∧ RowKit.Hid (Below W.heap.size W w') := by
  have h := Pl.refRead_any ⟨t.toArray⟩ W (by rw [tx_size]; exact ht)
  rw [show (⟨t.toArray⟩ : ByteArray).data.toList = t by simp] at h
  refine h.mono fun e w' h => ?_
  unfold seatV
  cases hr : Pl.readL t with
  | none => rw [hr] at h; exact ⟨0, 0, _, Lib.hid rfl, h.1, Lib.hid h.2⟩
  | some y => obtain ⟨r, a⟩ := y; rw [hr] at h; exact ⟨r, a, _, Lib.hid rfl, h.1, Lib.hid h.2⟩

set_option maxHeartbeats 8000000 in
theorem rseats_m (b : Nat) (s : ByteArray) (p : Nat) (x : ErrS) (w : World) (hs : s.size ≤ maxLen) (hp : p ≤ s.size) (hc : RS w b s p (cmdK 11) x) :
    Calls Tryd.prog 146 #[.pointer (some ⟨b, 0, none⟩)] w (OutR b s w (rSeats (toL s) p x)) := by
  have HD8 : RowKit.Hid (∀ q c x W, q ≤ s.size → RS W b s q c x → _) := Lib.hid (rdigit_t (b := b) hs 8)
  have HS47 : RowKit.Hid (∀ q c x W, q ≤ s.size → RS W b s q c x → _) := Lib.hid (rsign_t (b := b) hs 47 47 rfl)
  have HT7 : RowKit.Hid (∀ q c x W, q ≤ s.size → RS W b s q c x → Calls Tryd.prog 139 #[.pointer (some ⟨b, 0, none⟩), .int .i64 7] W fun e w' => ∃ t q' y, RowKit.Hid (rText 7 (toL s) q x = (t, q', y)) ∧ q' ≤ s.size ∧ t.length ≤ maxLen ∧ e = .returned (txV t) ∧ RS w' b s q' c y ∧ RowKit.Hid (Below b W w')) := Lib.hid fun q c x W hq hc => (rtext_t (b := b) hs 7 (by decide) q c x W hq hc).mono fun e w' h => by
    obtain ⟨t, q', y, h1, h2, h3, h4, h5⟩ := h
    refine ⟨t, q', y, h1, h2, ?_, h3, h4, h5⟩
    have e := h1.out
    injection e with e1 e2
    injection e2 with e2 e3
    rw [e1] at e2
    omega
  have HRD := Lib.hid seat_read
  have HS45 : RowKit.Hid (∀ q c x W, q ≤ s.size → RS W b s q c x → _) := Lib.hid (rsign_t (b := b) hs 45 45 rfl)
  have HD9 : RowKit.Hid (∀ q c x W, q ≤ s.size → RS W b s q c x → _) := Lib.hid (rdigit_t (b := b) hs 9)
  have hB0 := Lib.hid (Below.refl b w)
  have hsl : (toL s).length = s.size := by simp
  have hsm := hs
  unfold maxLen at hsm
  go_enter Tryd.func146, Tryd.ntmps146
  go_upto_region 1 with (first
    | (go_at_call 142; (with_reducible refine (HD8.out _ _ _ _ hp hc).mono ?_); rintro e w1 ⟨v1, q1, y1, h1, hq1, rfl, hc1, hx1⟩; have hb1 := bl3h hB0 hx1; have kf1 := hc1.frozen 11; have kc1 := hc1.n_; have hd1 := hc1.setN v1; have hB1 := lsh hb1 11 (.int .i64 v1)))
  have k0 := hd1.text
  have k1 := hd1.at_
  have f1 := hd1.frozen 1
  have HD1 := Lib.hid hd1
  by_cases g1 : (q1 : Int) < (s.size : Int)
  · have g2 : q1 < s.size := by omega
    have hpre := pre_at (l := toL s) (q := q1) 42 (by omega)
    rw [get_toL g2] at hpre
    by_cases hg : s[q1] = 42
    · have hP : RowKit.Hid (isPre [42] ((toL s).drop q1) = true) := Lib.hid (by rw [hpre, hg]; rfl)
      have e2 : IntKind.i64.wrap ((q1 : Int) + 1) = ((q1 + 1 : Nat) : Int) := by rw [IntWalk.i64_in _ (by omega)]; omega
      have HS1 := Lib.hid (hd1.setAt (q1 + 1))
      clear hpre hd1
      go_quiet (fail)
      go_wp2
      refine bodyPost_ret (results_none rfl _ _ _) rfl ?_
      exact outR (by unfold rSeats; simp only [Rd.bind, h1.out, hP.out, if_true]) HS1.out g2 (low_set (below_drewN hB1.out _) _ _)
    · have hP : RowKit.Hid (isPre [42] ((toL s).drop q1) = false) := Lib.hid (by rw [hpre]; simpa using hg)
      have hn : ((s[q1].toNat : Int) == 42) = false := by
        have : s[q1].toNat ≠ (42 : UInt8).toNat := fun e => hg (UInt8.toNat_inj.1 e)
        simp at this
        simp; omega
      clear hpre hg hd1
      have hd1 : RS _ b s q1 _ y1 := HD1.out
      go_quiet (fail)
      go_wp2_with (first
        | (go_at_call 140; (with_reducible refine (HS47.out _ _ _ _ hq1 (HD1.out.drewN _)).mono ?_); rintro e w2 ⟨q2, y2, h2, hq2, rfl, hc2, hx2⟩; have kf2 := hc2.frozen 2; have kc2 := hc2.kind_; have hd2 := hc2.setKind 12; have hB2 := lsh (bl3h hB1 (Lib.hid (undrewN hx2.out))) 2 (.int .i64 12))
        | (go_at_call 139; (with_reducible refine (HT7.out _ _ _ _ hq2 hd2).mono ?_); rintro e w3 ⟨t3, q3, y3, h3, hq3, ht3, rfl, hc3, hx3⟩; have hB3 := bl3h hB2 hx3)
        | (go_at_call 182; (with_reducible refine (HRD.out _ _ ht3).mono ?_); rintro e w4 ⟨r4, a4, z4, h4, rfl, hx4⟩; have hc4 := hc3.mono hx4.out; have hB4 := Lib.hid (bl2 hB3.out hx4.out hc3.lt); have m1 := hc4.row_; have m2 := hc4.let_; have m3 := hc4.frozen 15; have m4 := hc4.frozen 16; have hd4 := hc4.setSeat r4 a4; have hC4 := lsh (lsh hB4 15 (.int .i64 r4)) 16 (.int .u8 a4.toNat))
        | (go_at_call 140; (with_reducible refine (HS45.out _ _ _ _ hq3 hd4).mono ?_); rintro e w5 ⟨q5, y5, h5, hq5, rfl, hc5, hx5⟩; have hB5 := bl3h hC4 hx5)
        | (go_at_call 142; (with_reducible refine (HD9.out _ _ _ _ hq5 hc5).mono ?_); rintro e w6 ⟨v6, q6, y6, h6, hq6, rfl, hc6, hx6⟩; have kf6 := hc6.frozen 12; have kc6 := hc6.pax_; have hd6 := hc6.setPax v6; have hB6 := lsh (bl3h hB5 hx6) 12 (.int .i64 v6)))
      go_end0
      exact outR (by unfold rSeats; simp only [Rd.bind, h1.out, hP.out, Bool.false_eq_true, if_false]; unfold rSeat; simp only [Rd.bind, Rd.pure, h2.out, h3.out, h5.out, h6.out, h4.out]; rfl) hd6 hq6 hB6.out
  · have hP : RowKit.Hid (isPre [42] ((toL s).drop q1) = false) := Lib.hid (pre_end 42 (by omega))
    go_quiet (fail)
    go_wp2_with (first
      | (go_at_call 140; (with_reducible refine (HS47.out _ _ _ _ hq1 (HD1.out.drewN _)).mono ?_); rintro e w2 ⟨q2, y2, h2, hq2, rfl, hc2, hx2⟩; have kf2 := hc2.frozen 2; have kc2 := hc2.kind_; have hd2 := hc2.setKind 12; have hB2 := lsh (bl3h hB1 (Lib.hid (undrewN hx2.out))) 2 (.int .i64 12))
      | (go_at_call 139; (with_reducible refine (HT7.out _ _ _ _ hq2 hd2).mono ?_); rintro e w3 ⟨t3, q3, y3, h3, hq3, ht3, rfl, hc3, hx3⟩; have hB3 := bl3h hB2 hx3)
      | (go_at_call 182; (with_reducible refine (HRD.out _ _ ht3).mono ?_); rintro e w4 ⟨r4, a4, z4, h4, rfl, hx4⟩; have hc4 := hc3.mono hx4.out; have hB4 := Lib.hid (bl2 hB3.out hx4.out hc3.lt); have m1 := hc4.row_; have m2 := hc4.let_; have m3 := hc4.frozen 15; have m4 := hc4.frozen 16; have hd4 := hc4.setSeat r4 a4; have hC4 := lsh (lsh hB4 15 (.int .i64 r4)) 16 (.int .u8 a4.toNat))
      | (go_at_call 140; (with_reducible refine (HS45.out _ _ _ _ hq3 hd4).mono ?_); rintro e w5 ⟨q5, y5, h5, hq5, rfl, hc5, hx5⟩; have hB5 := bl3h hC4 hx5)
      | (go_at_call 142; (with_reducible refine (HD9.out _ _ _ _ hq5 hc5).mono ?_); rintro e w6 ⟨v6, q6, y6, h6, hq6, rfl, hc6, hx6⟩; have kf6 := hc6.frozen 12; have kc6 := hc6.pax_; have hd6 := hc6.setPax v6; have hB6 := lsh (bl3h hB5 hx6) 12 (.int .i64 v6)))
    go_end0
    exact outR (by unfold rSeats; simp only [Rd.bind, h1.out, hP.out, Bool.false_eq_true, if_false]; unfold rSeat; simp only [Rd.bind, Rd.pure, h2.out, h3.out, h5.out, h6.out, h4.out]; rfl) hd6 hq6 hB6.out

theorem rparts_map (b : Nat) (s : ByteArray) (p : Nat) (x : ErrS) (w : World) (hs : s.size ≤ maxLen) (hp : p ≤ s.size) (hc : RS w b s p (cmdK 11) x) :
    Calls Tryd.prog 66 #[.pointer (some ⟨b, 0, none⟩)] w (OutR b s w (rSeats (toL s) p x)) := by
  have HSM : RowKit.Hid (Calls Tryd.prog 146 #[.pointer (some ⟨b, 0, none⟩)] w fun e w' => ∃ c q y, RowKit.Hid (rSeats (toL s) p x = (c, q, y)) ∧ e = .returned (.tuple #[]) ∧ RS w' b s q c y ∧ q ≤ s.size ∧ RowKit.Hid (Below b w w')) := Lib.hid ((rseats_m b s p x w hs hp hc).mono fun e w' h => ⟨_, _, _, Lib.hid rfl, h.1, h.2.1, h.2.2.1, Lib.hid h.2.2.2⟩)
  have k2 : w.cell? ⟨b, 2, none⟩ = some (.int .i64 11) := hc.kind_
  go_enter Tryd.func66, Tryd.ntmps66
  go_wp2_with (first
    | (go_at_call 146; (with_reducible refine HSM.out.mono ?_); rintro e w1 ⟨c1, q1, y1, h1, rfl, hc1, hq1, hx1⟩))
  go_end0
  exact outR h1.out hc1 hq1 hx1.out

theorem rparts_rest (b : Nat) (s : ByteArray) (p : Nat) (x : ErrS) (w : World) (hs : s.size ≤ maxLen) (hp : p ≤ s.size) (k : Int) (hk : k ≠ 1 ∧ k ≠ 3 ∧ k ≠ 4 ∧ k ≠ 5 ∧ k ≠ 6 ∧ k ≠ 9 ∧ k ≠ 10 ∧ k ≠ 7 ∧ k ≠ 11 ∧ k ≠ 13 ∧ k ≠ 14 ∧ k ≠ 16 ∧ k ≠ 23 ∧ k ≠ 24) (hc : RS w b s p (cmdK k) x) :
    Calls Tryd.prog 66 #[.pointer (some ⟨b, 0, none⟩)] w (OutR b s w (cmdK k, p, x)) := by
  have e1 : (k == 1) = false := by simp; omega
  have e3 : (k == 3) = false := by simp; omega
  have e4 : (k == 4) = false := by simp; omega
  have e5 : (k == 5) = false := by simp; omega
  have e6 : (k == 6) = false := by simp; omega
  have e9 : (k == 9) = false := by simp; omega
  have e10 : (k == 10) = false := by simp; omega
  have e7 : (k == 7) = false := by simp; omega
  have e11 : (k == 11) = false := by simp; omega
  have e13 : (k == 13) = false := by simp; omega
  have e14 : (k == 14) = false := by simp; omega
  have e16 : (k == 16) = false := by simp; omega
  have e23 : (k == 23) = false := by simp; omega
  have e24 : (k == 24) = false := by simp; omega
  clear hk
  have HP := Lib.hid hp
  have HC := Lib.hid hc
  have k2 : w.cell? ⟨b, 2, none⟩ = some (.int .i64 k) := hc.kind_
  go_enter Tryd.func66, Tryd.ntmps66
  go_wp2
  go_end0
  exact outR rfl HC.out HP.out (Below.refl _ _)

theorem rparts_m (b : Nat) (s : ByteArray) (k : Int) (p : Nat) (x : ErrS) (w : World) (hs : s.size ≤ maxLen) (hp : p ≤ s.size) (hc : RS w b s p (cmdK k) x) :
    Calls Tryd.prog 66 #[.pointer (some ⟨b, 0, none⟩)] w (OutR b s w (rParts k (toL s) p x)) := by
  unfold rParts
  by_cases e : k = 1
  · subst e; rw [if_pos rfl]; exact rparts_in b s p x w hs hp hc
  rw [if_neg e]
  have n1 := e
  clear e
  by_cases e : k = 3
  · subst e; rw [if_pos rfl]; exact rparts_avail b s p x w hs hp hc
  rw [if_neg e]
  have n3 := e
  clear e
  by_cases e : k = 4
  · subst e; rw [if_pos rfl]; exact rparts_sell b s p x w hs hp hc
  rw [if_neg e]
  have n4 := e
  clear e
  by_cases e : k = 5
  · subst e; rw [if_pos rfl]; exact rparts_name b s p x w hs hp hc
  rw [if_neg e]
  have n5 := e
  clear e
  by_cases e : k = 6 ∨ k = 9 ∨ k = 10
  · rw [if_pos e]
    rcases e with rfl | rfl | rfl
    · exact rparts_free6 b s p x w hs hp hc
    · exact rparts_free9 b s p x w hs hp hc
    · exact rparts_free10 b s p x w hs hp hc
  rw [if_neg e]
  have n6 := e
  clear e
  by_cases e : k = 7
  · subst e; rw [if_pos rfl]; exact rparts_limit b s p x w hs hp hc
  rw [if_neg e]
  have n7 := e
  clear e
  by_cases e : k = 11
  · subst e; rw [if_pos rfl]; exact rparts_map b s p x w hs hp hc
  rw [if_neg e]
  have n11 := e
  clear e
  by_cases e : k = 13
  · subst e; rw [if_pos rfl]; exact rparts_unseat b s p x w hs hp hc
  rw [if_neg e]
  have n13 := e
  clear e
  by_cases e : k = 14
  · subst e; rw [if_pos rfl]; exact rparts_cancel b s p x w hs hp hc
  rw [if_neg e]
  have n14 := e
  clear e
  by_cases e : k = 16
  · subst e; rw [if_pos rfl]; exact rparts_loc b s p x w hs hp hc
  rw [if_neg e]
  have n16 := e
  clear e
  by_cases e : k = 23 ∨ k = 24
  · rw [if_pos e]
    rcases e with rfl | rfl
    · exact rparts_num23 b s p x w hs hp hc
    · exact rparts_num24 b s p x w hs hp hc
  rw [if_neg e]
  exact rparts_rest b s p x w hs hp k (by omega) hc
end Go.Proofs.YtjahkaidinahpaaDoor.En
