/- word.Var, word.Put. -/
import Derived.Test.YtjahkaidinahpaaDoorEM
namespace Go.Proofs.YtjahkaidinahpaaDoor
open Go.RowKit Go.ChangeMaps
set_option linter.unusedSimpArgs false
set_option linter.unusedVariables false
set_option maxRecDepth 20000

theorem or128 (n : Nat) : bits .or .u8 ((n % 256 : Nat) : Int) 128 = ((n % 128 + 128 : Nat) : Int) := by
  have key : ∀ x, x < 256 → (x ||| 128) = x % 128 + 128 := by decide +kernel
  rw [show (128 : Int) = ((128 : Nat) : Int) from rfl, u8_or_nat _ _ (by omega) (by omega), key _ (by omega)]
  congr 2
  omega

theorem byte_nat {n : Nat} (h : n < 256) : ((UInt8.ofNat n).toNat : Int) = (n : Int) := by
  rw [UInt8.toNat_ofNat']
  omega

set_option maxHeartbeats 8000000 in
theorem var_any (bs : List UInt8) (vb : Value) (n : Nat) (w : World) (hb : HasE byteC w vb bs) (hn : n < 18446744073709551616) (hl : bs.length ≤ 1000000) :
    Calls Tryd.prog 109 #[vb, .int .u64 n] w fun e w' => ∃ v, e = .returned v ∧ OwnB w' w.heap.size v (bs ++ varL n) ∧ Below w.heap.size w w' := by
  obtain ⟨p, c, rfl⟩ := hb.len
  have HB := Lib.hid hb
  have hvl : (varL n).length ≤ 10 := varL_len 9 n (by omega)
  have HVL := Lib.hid hvl
  have hbl : (bs.length : Int) + 10 = ((bs.length + 10 : Nat) : Int) := by omega
  have HBL := Lib.hid hbl
  generalize hN : bs.length = N at *
  have HN := Lib.hid hN
  clear hb hvl hbl hN
  go_enter Tryd.func109, Tryd.ntmps109
  go_wp2_with (first
    | (at_make; refine wpList_make_bytes rfl _ _ rfl N (N + 10) rfl rfl rfl HBL.out (by omega) (by omega) ?_; intro w1 hbk hb1 hz1)
    | (refine wpList_copy_bytes rfl (.tmp 12) (.tmp 13) rfl w.heap.size (N + 10) (.slice p N c) bs (by rw [HN.out]; rfl) rfl (by rw [HN.out]; omega) (by unfold maxLen; omega) hbk (HB.out.mono hb1) w.heap.size (Nat.le_refl _) ?_; intro w2 ho2 hb2))
  have hw2 : Below w.heap.size w w2 := hb1.trans hb2
  have ho3 : OwnB w2 w.heap.size (.slice (some ⟨w.heap.size, 0, none⟩) N (N + 10)) bs := by have h := ho2; rw [HN.out] at h; exact h
  have hsz2 : w.heap.size ≤ w2.heap.size := hw2.size
  clear hbk hb1 hz1 ho2 hb2
  simp only [Act.put, List.setIfInBounds_toArray, List.set_cons_zero, List.set_cons_succ]
  go_loopg [1, 5] (n + 1) (fun g0 s1 s5 wr => ∃ (m : Nat) (cur : List UInt8), m ≤ n ∧ g0 = m + 1 ∧ s1 = .int .u64 (m : Int) ∧ OwnB wr w.heap.size s5 cur ∧ cur ++ varL m = bs ++ varL n ∧ Below w.heap.size w wr)
  case atStart => exact ⟨n, bs, Nat.le_refl _, rfl, rfl, ho3, rfl, hw2⟩
  case round =>
    obtain ⟨m, cur, hm, rfl, rfl, ho, he, hbw⟩ := hrel
    have HO := Lib.hid ho
    have HE := Lib.hid he
    have hcl : cur.length + (varL m).length ≤ N + 10 := by
      have := congrArg List.length he
      rw [List.length_append, List.length_append, HN.out] at this
      have := HVL.out
      omega
    have hbase := hbw.size
    clear ho he
    by_cases h1 : m < 128
    · have h1i : ¬ (127 : Int) < (m : Int) := by omega
      have HV := Lib.hid (varL_small h1)
      have hc1 : cur.length + 1 ≤ 100000000 := by omega
      have hw8 : IntKind.u8.wrap (m : Int) = ((UInt8.ofNat m).toNat : Int) := by rw [byte_nat (by omega)]; simp [IntKind.wrap, IntKind.bits, IntKind.signed]; omega
      go_wp2_with (first
        | (at_builtin; refine wpList_push_byte rfl _ _ rfl w.heap.size u5 cur (UInt8.ofNat m) rfl rfl HO.out rfl hc1 hbase ?_; intro v4 w4 ho4 hb4 _))
      go_ret
      exact ⟨_, rfl, by rw [← HE.out, HV.out]; exact ho4, hbw.trans hb4⟩
    · have h1i : (127 : Int) < (m : Int) := by omega
      have HV := Lib.hid (varL_big h1)
      have hc1 : cur.length + 1 ≤ 100000000 := by omega
      have hmod : IntKind.u8.wrap (m : Int) = ((m % 256 : Nat) : Int) := by simp [IntKind.wrap, IntKind.bits, IntKind.signed]
      have hor := or128 m
      have hcb : ((UInt8.ofNat (m % 128 + 128)).toNat : Int) = ((m % 128 + 128 : Nat) : Int) := byte_nat (by omega)
      have hdiv : (m : Int) / 128 = ((m / 128 : Nat) : Int) := by omega
      have hdm : m / 128 < m := by omega
      generalize hq : m / 128 = q at *
      generalize hr : m % 128 + 128 = r at *
      generalize m % 256 = r2 at *
      generalize UInt8.ofNat r = c1 at *
      clear hq hr
      rw [← hcb] at hor
      clear hcb
      go_wp2_with (first
        | (at_builtin; refine wpList_push_byte rfl _ _ rfl w.heap.size u5 cur c1 rfl rfl HO.out rfl hc1 hbase ?_; intro v4 w4 ho4 hb4 _))
      go_roundg (q + 1)
      case measure => omega
      case rel => exact ⟨q, cur ++ [c1], by omega, rfl, by go_num, ho4, by rw [← HE.out, HV.out, List.append_assoc]; rfl, hbw.trans hb4⟩

theorem beL_get : ∀ (k n j : Nat), j < k → (beL n k)[j]? = some (UInt8.ofNat (n / 256 ^ (k - 1 - j) % 256))
  | 0, n, j, h => absurd h (Nat.not_lt_zero _)
  | k + 1, n, j, h => by
    rw [beL]
    by_cases hj : j < k
    · rw [List.getElem?_append_left (by rw [beL_len]; exact hj), beL_get k (n / 256) j hj, Nat.div_div_eq_div_mul]
      congr 3
      rw [show k + 1 - 1 - j = (k - 1 - j) + 1 by omega, Nat.pow_succ, Nat.mul_comm]
    · have hjk : j = k := by omega
      subst hjk
      rw [List.getElem?_append_right (by rw [beL_len]; exact Nat.le_refl _), beL_len, Nat.sub_self, show j + 1 - 1 - j = 0 by omega, Nat.pow_zero, Nat.div_one]
      rfl

theorem beL_take {k n e : Nat} (h : e + 1 ≤ k) : (beL n k).take (k - e) = (beL n k).take (k - (e + 1)) ++ [UInt8.ofNat (n / 2 ^ (8 * e) % 256)] := by
  have h1 := beL_get k n (k - (e + 1)) (by omega)
  have h2 : k - e = (k - (e + 1)) + 1 := by omega
  rw [h2, List.take_add_one, h1, show k - 1 - (k - (e + 1)) = e by omega, Nat.pow_mul]
  rfl

set_option maxHeartbeats 8000000 in
theorem put_any (bs : List UInt8) (vb : Value) (n k : Nat) (w : World) (hb : HasE byteC w vb bs) (hn : n < 18446744073709551616) (hl : bs.length ≤ 1000000) (hk : k ≤ 8) :
    Calls Tryd.prog 154 #[vb, .int .u64 n, .int .i64 k] w fun e w' => ∃ v, e = .returned v ∧ OwnB w' w.heap.size v (bs ++ beL n k) ∧ Below w.heap.size w w' := by
  obtain ⟨p, c, rfl⟩ := hb.len
  have HB := Lib.hid hb
  have hbl : (bs.length : Int) + 8 = ((bs.length + 8 : Nat) : Int) := by omega
  have HBL := Lib.hid hbl
  generalize hN : bs.length = N at *
  have HN := Lib.hid hN
  have hk0 : ¬ (k : Int) < 0 := by omega
  have hk8 : (k : Int) ≤ 8 := by omega
  have HTK : RowKit.Hid (∀ e, e + 1 ≤ k → (beL n k).take (k - e) = (beL n k).take (k - (e + 1)) ++ [UInt8.ofNat (n / 2 ^ (8 * e) % 256)]) := Lib.hid fun e h => beL_take h
  have HT0 : RowKit.Hid ((beL n k).take (k - k) = []) := Lib.hid (by rw [Nat.sub_self]; rfl)
  have HTE : RowKit.Hid ((beL n k).take (k - 0) = beL n k) := Lib.hid (List.take_of_length_le (by rw [beL_len]; omega))
  have HLE : RowKit.Hid (∀ j, ((beL n k).take j).length ≤ 8) := Lib.hid fun j => by rw [List.length_take, beL_len]; omega
  generalize beL n k = X at *
  clear hb hbl hN
  go_enter Tryd.func154, Tryd.ntmps154
  go_wp2_with (first
    | (at_make; refine wpList_make_bytes rfl _ _ rfl N (N + 8) rfl rfl rfl HBL.out (by omega) (by omega) ?_; intro w1 hbk hb1 hz1)
    | (refine wpList_copy_bytes rfl (.tmp 15) (.tmp 16) rfl w.heap.size (N + 8) (.slice p N c) bs (by rw [HN.out]; rfl) rfl (by rw [HN.out]; omega) (by unfold maxLen; omega) hbk (HB.out.mono hb1) w.heap.size (Nat.le_refl _) ?_; intro w2 ho2 hb2))
  have hw2 : Below w.heap.size w w2 := hb1.trans hb2
  have ho3 : OwnB w2 w.heap.size (.slice (some ⟨w.heap.size, 0, none⟩) N (N + 8)) bs := by have h := ho2; rw [HN.out] at h; exact h
  clear hbk hb1 hz1 ho2 hb2
  go_loopg [7, 8] (k + 1) (fun g0 s7 s8 wr => ∃ (e : Nat) (i : Int), e ≤ k ∧ g0 = e + 1 ∧ i = (e : Int) - 1 ∧ s8 = .int .i64 i ∧ OwnB wr w.heap.size s7 (bs ++ X.take (k - e)) ∧ Below w.heap.size w wr)
  case atStart => exact ⟨k, _, Nat.le_refl _, rfl, rfl, rfl, by rw [HT0.out, List.append_nil]; exact ho3, hw2⟩
  case round =>
    obtain ⟨e, i, he, rfl, hi, rfl, ho, hbw⟩ := hrel
    have HO := Lib.hid ho
    have hbase := hbw.size
    clear ho
    cases e with
    | zero =>
      have hi2 : i = -1 := by omega
      subst hi2
      clear hi
      go_wp2
      go_ret
      exact ⟨_, rfl, by rw [← HTE.out]; exact HO.out, hbw⟩
    | succ e =>
      have hi2 : i = (e : Int) := by omega
      subst hi2
      have HT := Lib.hid (HTK.out e he)
      have hle := HLE.out (k - (e + 1))
      have hc1 : (bs ++ X.take (k - (e + 1))).length + 1 ≤ 100000000 := by rw [List.length_append, HN.out]; omega
      have hei : (0 : Int) ≤ (e : Int) := by omega
      have he8 : (8 : Int) * (e : Int) < 64 := by omega
      have hcb : ((UInt8.ofNat (n / 2 ^ (8 * e) % 256)).toNat : Int) = ((n / 2 ^ (8 * e) % 256 : Nat) : Int) := byte_nat (by omega)
      generalize UInt8.ofNat (n / 2 ^ (8 * e) % 256) = c1 at *
      have HCI : RowKit.Hid ((n : Int) / 2 ^ (8 * e) % 256 = (c1.toNat : Int)) := Lib.hid (by rw [hcb, Int.natCast_emod, Int.natCast_ediv, Int.natCast_pow]; rfl)
      clear hi hcb
      go_wp2_with (first
        | (at_builtin; refine wpList_push_byte rfl _ _ rfl w.heap.size u7 (bs ++ X.take (k - (e + 1))) c1 HCI.out rfl HO.out rfl hc1 hbase ?_; intro v4 w4 ho4 hb4 _))
      go_roundg (e + 1)
      case measure => omega
      case rel => exact ⟨e, (e : Int) - 1, by omega, rfl, rfl, by go_num, by rw [HT.out, ← List.append_assoc]; exact ho4, hbw.trans hb4⟩
end Go.Proofs.YtjahkaidinahpaaDoor
