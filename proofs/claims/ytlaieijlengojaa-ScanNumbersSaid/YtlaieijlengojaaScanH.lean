/- The walk of ScanNumbers. -/
import Derived.Test.YtlaieijlengojaaScanG
namespace Go.Proofs.Ytlaieijlengojaa
open Go.RowKit

theorem run_front {d b : List UInt8} (hd : ∀ c ∈ d, kOk 2 c = true) (hb : b = [] ∨ kOk 2 (b.getD 0 0) = false) : runL 2 (d ++ b) = d := by
  unfold runL
  rw [List.takeWhile_append_of_pos hd]
  have : b.takeWhile (kOk 2) = [] := by
    rcases hb with hb | hb
    · rw [hb]; rfl
    · cases b with
      | nil => rfl
      | cons x t =>
        have h2 : kOk 2 x = false := hb
        rw [List.takeWhile_cons, h2]; rfl
  rw [this, List.append_nil]
theorem numOk_dig (n : Nat) (m : Int) (h : n ≤ 999999999) : numOk (digL n) m = decide ((n : Int) ≤ m) := by
  have h1 := digL_pos n
  have h2 := digL_len 8 n (by omega)
  by_cases hm : (n : Int) ≤ m
  · rw [decide_eq_true hm]
    refine numOk_yes m h1 h2 (fun ⟨h3, h4⟩ => ?_) (by rw [numV_dig]; exact hm)
    by_cases hn : n < 10
    · rw [digL_lt hn] at h3; simp at h3
    · exact digL_first n (by omega) h4
  · rw [decide_eq_false hm]
    exact numOk_noM m (by rw [numV_dig]; omega)
theorem numOk_zero (n : Nat) (m : Int) : numOk (48 :: digL n) m = false := by
  have h1 := digL_pos n
  refine numOk_no0 m (by simp; omega) ?_
  rfl

/-- The number that stands behind 'ahead'. -/
theorem num_mid (b : Nat) (ah bh : ByteArray) (n : Nat) (m : Int) (w : World) (hn : n ≤ 999999999) (ha : ah.size ≤ 1000) (hbs : bh.size ≤ 1000) (hbh : bh.data.toList = [] ∨ kOk 2 (bh.data.toList.getD 0 0) = false)
    (hc : Cur w b (ah ++ digA n ++ bh) ah.size) :
    Calls Try.prog 17 #[.pointer (some ⟨b, 0, none⟩), .int .i64 m] w fun e w' =>
      e = .returned (.tuple #[.int .i64 (if (n : Int) ≤ m then (n : Int) else 0), .bool (decide ((n : Int) ≤ m))]) ∧ Cur w' b (ah ++ digA n ++ bh) (if (n : Int) ≤ m then (ah.size : Int) + (digA n).size else ah.size) ∧ w.grownBy w' (some b) := by
  have hdl := digL_len 8 n (by omega)
  have hds : (digA n).size = (digL n).length := rfl
  have hsz : (ah ++ digA n ++ bh : ByteArray).size = ah.size + (digA n).size + bh.size := by rw [ByteArray.size_append, ByteArray.size_append]
  have hp : place (ah ++ digA n ++ bh : ByteArray).size ah.size = ah.size := place_in _ _ (by omega) (by omega)
  have h := number_any b (ah ++ digA n ++ bh) ah.size m w (by unfold maxLen; omega) hc
  have hl : runL 2 ((ah ++ digA n ++ bh : ByteArray).data.toList.drop ah.size) = digL n := by
    have e : (ah ++ digA n ++ bh : ByteArray).data.toList.drop ah.size = digL n ++ bh.data.toList := by
      have e1 : (ah ++ digA n ++ bh : ByteArray).data.toList = ah.data.toList ++ (digL n ++ bh.data.toList) := by
        rw [← digA_list]; simp
      have e2 : ah.data.toList.length = ah.size := by simp
      rw [e1, List.drop_append_of_le_length (by omega), List.drop_of_length_le (by omega), List.nil_append]
    rw [e]
    exact run_front (digL_all n) hbh
  rw [hp, Int.toNat_natCast, hl, numOk_dig n m hn] at h
  have hok := numOk_dig n m hn
  unfold numRes numAt at h
  rw [hok, numV_dig] at h
  rw [hds]
  by_cases hm : (n : Int) ≤ m
  · rw [decide_eq_true hm] at h
    rw [decide_eq_true hm, if_pos hm, if_pos hm]
    exact h
  · rw [decide_eq_false hm] at h
    rw [decide_eq_false hm, if_neg hm, if_neg hm]
    exact h
theorem num_zero (b : Nat) (n : Nat) (w : World) (hn : n ≤ 999999999) (hc : Cur w b (⟨#[48]⟩ ++ digA n) 0) :
    Calls Try.prog 17 #[.pointer (some ⟨b, 0, none⟩), .int .i64 999999999] w fun e w' =>
      e = .returned (.tuple #[.int .i64 0, .bool false]) ∧ Cur w' b (⟨#[48]⟩ ++ digA n) 0 ∧ w.grownBy w' (some b) := by
  have hdl := digL_len 8 n (by omega)
  have hds : (digA n).size = (digL n).length := rfl
  have hsz : (⟨#[48]⟩ ++ digA n : ByteArray).size = 1 + (digA n).size := by rw [ByteArray.size_append]; rfl
  have h := number_any b (⟨#[48]⟩ ++ digA n) 0 999999999 w (by unfold maxLen; omega) hc
  have hl : runL 2 ((⟨#[48]⟩ ++ digA n : ByteArray).data.toList.drop 0) = 48 :: digL n := by
    have e : (⟨#[48]⟩ ++ digA n : ByteArray).data.toList.drop 0 = (48 :: digL n) ++ [] := by
      rw [← digA_list]; simp
    rw [e]
    refine run_front (fun c hc => ?_) (.inl rfl)
    rcases List.mem_cons.1 hc with hc | hc
    · rw [hc]; decide
    · exact digL_all n c hc
  rw [place_in _ 0 (by omega) (by omega), show ((0 : Int)).toNat = 0 from rfl, hl, numOk_zero] at h
  rw [numRes_no (numOk_zero n _), numAt_no (numOk_zero n _)] at h
  exact h

set_option maxRecDepth 100000 in
set_option maxHeartbeats 4000000 in
theorem numbers_walk (n : Int) (_hn : (Lit.int .i64 n).wf = true) (m : Int) (_hm : (Lit.int .i64 m).wf = true) (ah : ByteArray) (_hah : ah.size ≤ maxLen) (bh : ByteArray) (_hbh : bh.size ≤ maxLen) (w : World) :
    Calls Try.prog 4 #[.int .i64 n, .int .i64 m, .string ah, .string bh] w fun e w' => e = .returned (.bool true) ∧ Below w.heap.size w w' := by
  have hb := Below.refl w.heap.size w
  by_cases t0 : n < 0
  · go_enter Try.func4, Try.ntmps4
    go_wp2_with (go_at_call 14; refine (awake_scan _).mono ?_; rintro e w1 ⟨rfl, hb1⟩; replace hb := bel_trans hb hb1; clear hb1)
    go_ret
    exact ⟨rfl, hb⟩
  by_cases t1 : 999999999 < n
  · go_enter Try.func4, Try.ntmps4
    go_wp2_with (go_at_call 14; refine (awake_scan _).mono ?_; rintro e w1 ⟨rfl, hb1⟩; replace hb := bel_trans hb hb1; clear hb1)
    go_ret
    exact ⟨rfl, hb⟩
  by_cases t2 : 1000 < (ah.size : Int)
  · go_enter Try.func4, Try.ntmps4
    go_wp2_with (go_at_call 14; refine (awake_scan _).mono ?_; rintro e w1 ⟨rfl, hb1⟩; replace hb := bel_trans hb hb1; clear hb1)
    go_ret
    exact ⟨rfl, hb⟩
  by_cases t3 : 1000 < (bh.size : Int)
  · go_enter Try.func4, Try.ntmps4
    go_wp2_with (go_at_call 14; refine (awake_scan _).mono ?_; rintro e w1 ⟨rfl, hb1⟩; replace hb := bel_trans hb hb1; clear hb1)
    go_ret
    exact ⟨rfl, hb⟩
  by_cases t4 : 0 < bh.size ∧ 48 ≤ (((bh.data.toList.getD 0 0).toNat : Nat) : Int) ∧ (((bh.data.toList.getD 0 0).toNat : Nat) : Int) ≤ 57
  · obtain ⟨g0, g1, g2⟩ := t4
    have hix := get_list bh 0 g0
    generalize bh.data.toList.getD 0 0 = c at hix g1 g2
    have g3 : (0 : Int) < (bh.size : Int) := by omega
    go_enter Try.func4, Try.ntmps4
    go_wp2_with (go_at_call 14; refine (awake_scan _).mono ?_; rintro e w1 ⟨rfl, hb1⟩; replace hb := bel_trans hb hb1; clear hb1)
    go_ret
    exact ⟨rfl, hb⟩
  obtain ⟨k, rfl⟩ := Int.eq_ofNat_of_zero_le (show 0 ≤ n by omega)
  have hk : k ≤ 999999999 := by omega
  have hah : ah.size ≤ 1000 := by omega
  have hbh : bh.size ≤ 1000 := by omega
  have hdl := digL_len 8 k (by omega)
  have hds : (digA k).size = (digL k).length := rfl
  have hdz : (digA k).size ≤ 9 := by omega
  have c1 := fun hbk W b (hc : Cur W b (ah ++ digA k ++ bh) ah.size) => num_mid b ah bh k m W hk hah hbh hbk hc
  have c2 := fun W b (hc : Cur W b (⟨#[48]⟩ ++ digA k) 0) => num_zero b k W hk hc
  have c3 := fun W => digits_any k W (by omega)
  clear hds hdl
  generalize digA k = d at c1 c2 c3 hdz
  have C2 := Lib.hid c2
  have C3 := Lib.hid c3
  clear c2 c3
  by_cases h0 : 0 < bh.size
  · have hix := get_list bh 0 h0
    have h0i : (0 : Int) < (bh.size : Int) := by omega
    have hno : ¬ (48 ≤ (((bh.data.toList.getD 0 0).toNat : Nat) : Int) ∧ (((bh.data.toList.getD 0 0).toNat : Nat) : Int) ≤ 57) := fun h => t4 ⟨h0, h⟩
    clear t4
    generalize hg : bh.data.toList.getD 0 0 = c at hix hno
    have hbk : bh.data.toList = [] ∨ kOk 2 (bh.data.toList.getD 0 0) = false := by
      right
      rw [hg]
      unfold kOk bD isD
      simp
      omega
    clear hg
    by_cases g48 : 48 ≤ ((c.toNat : Nat) : Int)
    · have g57 : ¬ ((c.toNat : Nat) : Int) ≤ 57 := fun h => hno ⟨g48, h⟩
      clear hno
      by_cases hm : (k : Int) ≤ m
      · have c1b := c1 hbk
        simp only [if_pos hm, decide_eq_true hm] at c1b
        have C1 := Lib.hid c1b
        clear c1 c1b hbk
        go_enter Try.func4, Try.ntmps4
        go_wp2_with (first
          | (go_at_call 14; refine (awake_scan _).mono ?_; rintro e w1 ⟨rfl, hb1⟩; replace hb := bel_trans hb hb1; clear hb1)
          | (go_at_call 16; refine (C3.out _).mono ?_; rintro e w2 ⟨rfl, hb1⟩; replace hb := bel_trans hb hb1; clear hb1)
          | (go_at_call 17; (with_reducible refine (C1.out _ _ (Cur.new _ _ _)).mono ?_); rintro e w3 ⟨rfl, hc3, hg3⟩; have k1 := hc3.at_; replace hb := bel_gr (hb.alloc hb.size _) (by have := hb.size; simp; omega) hg3 hb.size; clear hg3)
          | (go_at_call 17; (with_reducible refine (C2.out _ _ (Cur.new _ _ _)).mono ?_); rintro e w4 ⟨rfl, hc4, hg4⟩; have k2 := hc4.at_; replace hb := bel_gr (hb.alloc hb.size _) (by have := hb.size; simp; omega) hg4 hb.size; clear hg4))
        go_ret
        exact ⟨rfl, hb⟩
      · have c1b := c1 hbk
        simp only [if_neg hm, decide_eq_false hm] at c1b
        have C1 := Lib.hid c1b
        clear c1 c1b hbk
        go_enter Try.func4, Try.ntmps4
        go_wp2_with (first
          | (go_at_call 14; refine (awake_scan _).mono ?_; rintro e w1 ⟨rfl, hb1⟩; replace hb := bel_trans hb hb1; clear hb1)
          | (go_at_call 16; refine (C3.out _).mono ?_; rintro e w2 ⟨rfl, hb1⟩; replace hb := bel_trans hb hb1; clear hb1)
          | (go_at_call 17; (with_reducible refine (C1.out _ _ (Cur.new _ _ _)).mono ?_); rintro e w3 ⟨rfl, hc3, hg3⟩; have k1 := hc3.at_; replace hb := bel_gr (hb.alloc hb.size _) (by have := hb.size; simp; omega) hg3 hb.size; clear hg3)
          | (go_at_call 17; (with_reducible refine (C2.out _ _ (Cur.new _ _ _)).mono ?_); rintro e w4 ⟨rfl, hc4, hg4⟩; have k2 := hc4.at_; replace hb := bel_gr (hb.alloc hb.size _) (by have := hb.size; simp; omega) hg4 hb.size; clear hg4))
        go_ret
        exact ⟨rfl, hb⟩
    · clear hno
      by_cases hm : (k : Int) ≤ m
      · have c1b := c1 hbk
        simp only [if_pos hm, decide_eq_true hm] at c1b
        have C1 := Lib.hid c1b
        clear c1 c1b hbk
        go_enter Try.func4, Try.ntmps4
        go_wp2_with (first
          | (go_at_call 14; refine (awake_scan _).mono ?_; rintro e w1 ⟨rfl, hb1⟩; replace hb := bel_trans hb hb1; clear hb1)
          | (go_at_call 16; refine (C3.out _).mono ?_; rintro e w2 ⟨rfl, hb1⟩; replace hb := bel_trans hb hb1; clear hb1)
          | (go_at_call 17; (with_reducible refine (C1.out _ _ (Cur.new _ _ _)).mono ?_); rintro e w3 ⟨rfl, hc3, hg3⟩; have k1 := hc3.at_; replace hb := bel_gr (hb.alloc hb.size _) (by have := hb.size; simp; omega) hg3 hb.size; clear hg3)
          | (go_at_call 17; (with_reducible refine (C2.out _ _ (Cur.new _ _ _)).mono ?_); rintro e w4 ⟨rfl, hc4, hg4⟩; have k2 := hc4.at_; replace hb := bel_gr (hb.alloc hb.size _) (by have := hb.size; simp; omega) hg4 hb.size; clear hg4))
        go_ret
        exact ⟨rfl, hb⟩
      · have c1b := c1 hbk
        simp only [if_neg hm, decide_eq_false hm] at c1b
        have C1 := Lib.hid c1b
        clear c1 c1b hbk
        go_enter Try.func4, Try.ntmps4
        go_wp2_with (first
          | (go_at_call 14; refine (awake_scan _).mono ?_; rintro e w1 ⟨rfl, hb1⟩; replace hb := bel_trans hb hb1; clear hb1)
          | (go_at_call 16; refine (C3.out _).mono ?_; rintro e w2 ⟨rfl, hb1⟩; replace hb := bel_trans hb hb1; clear hb1)
          | (go_at_call 17; (with_reducible refine (C1.out _ _ (Cur.new _ _ _)).mono ?_); rintro e w3 ⟨rfl, hc3, hg3⟩; have k1 := hc3.at_; replace hb := bel_gr (hb.alloc hb.size _) (by have := hb.size; simp; omega) hg3 hb.size; clear hg3)
          | (go_at_call 17; (with_reducible refine (C2.out _ _ (Cur.new _ _ _)).mono ?_); rintro e w4 ⟨rfl, hc4, hg4⟩; have k2 := hc4.at_; replace hb := bel_gr (hb.alloc hb.size _) (by have := hb.size; simp; omega) hg4 hb.size; clear hg4))
        go_ret
        exact ⟨rfl, hb⟩
  · have h0i : ¬ (0 : Int) < (bh.size : Int) := by omega
    have hbk : bh.data.toList = [] ∨ kOk 2 (bh.data.toList.getD 0 0) = false := by
      left
      have hz : bh.data.toList.length = bh.size := by simp
      exact List.eq_nil_of_length_eq_zero (by omega)
    clear t4
    by_cases hm : (k : Int) ≤ m
    · have c1b := c1 hbk
      simp only [if_pos hm, decide_eq_true hm] at c1b
      have C1 := Lib.hid c1b
      clear c1 c1b hbk
      go_enter Try.func4, Try.ntmps4
      go_wp2_with (first
        | (go_at_call 14; refine (awake_scan _).mono ?_; rintro e w1 ⟨rfl, hb1⟩; replace hb := bel_trans hb hb1; clear hb1)
        | (go_at_call 16; refine (C3.out _).mono ?_; rintro e w2 ⟨rfl, hb1⟩; replace hb := bel_trans hb hb1; clear hb1)
        | (go_at_call 17; (with_reducible refine (C1.out _ _ (Cur.new _ _ _)).mono ?_); rintro e w3 ⟨rfl, hc3, hg3⟩; have k1 := hc3.at_; replace hb := bel_gr (hb.alloc hb.size _) (by have := hb.size; simp; omega) hg3 hb.size; clear hg3)
        | (go_at_call 17; (with_reducible refine (C2.out _ _ (Cur.new _ _ _)).mono ?_); rintro e w4 ⟨rfl, hc4, hg4⟩; have k2 := hc4.at_; replace hb := bel_gr (hb.alloc hb.size _) (by have := hb.size; simp; omega) hg4 hb.size; clear hg4))
      go_ret
      exact ⟨rfl, hb⟩
    · have c1b := c1 hbk
      simp only [if_neg hm, decide_eq_false hm] at c1b
      have C1 := Lib.hid c1b
      clear c1 c1b hbk
      go_enter Try.func4, Try.ntmps4
      go_wp2_with (first
        | (go_at_call 14; refine (awake_scan _).mono ?_; rintro e w1 ⟨rfl, hb1⟩; replace hb := bel_trans hb hb1; clear hb1)
        | (go_at_call 16; refine (C3.out _).mono ?_; rintro e w2 ⟨rfl, hb1⟩; replace hb := bel_trans hb hb1; clear hb1)
        | (go_at_call 17; (with_reducible refine (C1.out _ _ (Cur.new _ _ _)).mono ?_); rintro e w3 ⟨rfl, hc3, hg3⟩; have k1 := hc3.at_; replace hb := bel_gr (hb.alloc hb.size _) (by have := hb.size; simp; omega) hg3 hb.size; clear hg3)
        | (go_at_call 17; (with_reducible refine (C2.out _ _ (Cur.new _ _ _)).mono ?_); rintro e w4 ⟨rfl, hc4, hg4⟩; have k2 := hc4.at_; replace hb := bel_gr (hb.alloc hb.size _) (by have := hb.size; simp; omega) hg4 hb.size; clear hg4))
      go_ret
      exact ⟨rfl, hb⟩
end Go.Proofs.Ytlaieijlengojaa
