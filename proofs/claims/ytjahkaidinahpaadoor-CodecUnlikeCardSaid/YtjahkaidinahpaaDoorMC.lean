/- The reference's numbers as bytes: Var, Put, number, one, Number, inverse. The reference's Number, Queue, OfCount. The reference's ReadVar; the cursor. The cursor's num, loc. The reference's ReadQueue, ReadCount. -/
import Derived.Test.YtjahkaidinahpaaDoorMB
namespace Go.Proofs.YtjahkaidinahpaaDoor
open Go.RowKit Go.ChangeMaps
set_option linter.unusedSimpArgs false
set_option linter.unusedVariables false
set_option maxRecDepth 20000

def strA (l : List UInt8) : ByteArray := ⟨l.toArray⟩
theorem strA_toL (l : List UInt8) : toL (strA l) = l := by unfold toL strA; simp
theorem strA_of (s : ByteArray) : strA (toL s) = s := by apply bytes_inj; exact strA_toL _
theorem toL_append (a b : ByteArray) : toL (a ++ b) = toL a ++ toL b := by unfold toL; simp
theorem strA_append (a b : List UInt8) : strA a ++ strA b = strA (a ++ b) := by
  apply toL_inj
  rw [toL_append, strA_toL, strA_toL, strA_toL]
theorem strA_nil (s : ByteArray) : s ++ strA [] = s := by
  apply toL_inj
  rw [toL_append, strA_toL, List.append_nil]
theorem str_assoc (s : ByteArray) (a b : List UInt8) : (s ++ strA a) ++ strA b = s ++ strA (a ++ b) := by
  apply toL_inj
  rw [toL_append, toL_append, toL_append, strA_toL, strA_toL, strA_toL, List.append_assoc]
theorem size_toL (s : ByteArray) : (toL s).length = s.size := by unfold toL; simp
theorem strA_size (l : List UInt8) : (strA l).size = l.length := by rw [← size_toL, strA_toL]
theorem size_app (s : ByteArray) (l : List UInt8) : (s ++ strA l).size = s.size + l.length := by rw [← size_toL, toL_append, List.length_append, size_toL, strA_toL]

theorem one_convI (c : UInt8) (ci : Int) (h : ci = (c.toNat : Int)) (w : World) : (convert 48 9 (.slice (some ⟨w.heap.size, 0, none⟩) 1 1)).run Tryd.prog (w.alloc (.cells #[.int .u8 ci] 5)) = .ok (.string (strA [c])) (w.alloc (.cells #[.int .u8 ci] 5)) := by
  subst h
  exact conv_has (lit_has w c)

set_option maxHeartbeats 8000000 in
theorem refVar_any (s : ByteArray) (n : Nat) (w : World) (hn : n < 18446744073709551616) (hs : s.size ≤ 1000000) :
    Calls Tryd.prog 112 #[.string s, .int .u64 n] w fun e w' => e = .returned (.string (s ++ strA (varL n))) ∧ Below w.heap.size w w' := by
  have HVL : RowKit.Hid ((varL n).length ≤ 10) := Lib.hid (varL_len 9 n (by omega))
  have HS := Lib.hid hs
  go_enter Tryd.func112, Tryd.ntmps112
  go_wp2
  go_loopg [0, 1] (n + 1) (fun g0 s0 s1 wr => ∃ (m : Nat) (cur : List UInt8), m ≤ n ∧ g0 = m + 1 ∧ s0 = .string (s ++ strA cur) ∧ s1 = .int .u64 (m : Int) ∧ cur ++ varL m = varL n ∧ Below w.heap.size w wr)
  case atStart => exact ⟨n, [], Nat.le_refl _, rfl, by rw [strA_nil], rfl, rfl, Below.refl _ _⟩
  case round =>
    obtain ⟨m, cur, hm, rfl, rfl, rfl, he, hbw⟩ := hrel
    have HE := Lib.hid he
    have hcl : cur.length + (varL m).length ≤ 10 := by
      have := congrArg List.length he
      rw [List.length_append] at this
      have := HVL.out
      omega
    have hsz : (s ++ strA cur).size ≤ 1000010 := by rw [size_app]; have := HS.out; omega
    have HAS : RowKit.Hid (∀ x, (s ++ strA cur) ++ strA [x] = s ++ strA (cur ++ [x])) := Lib.hid fun x => str_assoc _ _ _
    generalize s ++ strA cur = S at *
    clear he hs hcl
    by_cases h1 : m < 128
    · have h1i : ¬ (128 : Int) ≤ (m : Int) := by omega
      have HV := Lib.hid (varL_small h1)
      have hcv := one_convI (UInt8.ofNat m) (m : Int) (byte_nat (by omega)).symm wr
      have hw8 : IntKind.u8.wrap (m : Int) = (m : Int) := by simp [IntKind.wrap, IntKind.bits, IntKind.signed]; omega
      have hx1 : (strA [UInt8.ofNat m]).size ≤ 1 := by rw [strA_size]; exact Nat.le_refl _
      have HAS1 := Lib.hid (HAS.out (UInt8.ofNat m))
      generalize UInt8.ofNat m = c1 at *
      generalize strA [c1] = S1 at *
      go_wp2
      go_ret
      exact ⟨by rw [← HE.out, HV.out, ← HAS1.out]; rfl, hbw.alloc hbw.size _⟩
    · have h1i : (128 : Int) ≤ (m : Int) := by omega
      have HV := Lib.hid (varL_big h1)
      have hcv := one_convI (UInt8.ofNat (m % 128 + 128)) ((m : Int) % 128 + 128) (by rw [byte_nat (by omega)]; omega) wr
      have hdiv : (m : Int) / 128 = ((m / 128 : Nat) : Int) := by omega
      have hdm : m / 128 < m := by omega
      have hx1 : (strA [UInt8.ofNat (m % 128 + 128)]).size ≤ 1 := by rw [strA_size]; exact Nat.le_refl _
      have HAS1 := Lib.hid (HAS.out (UInt8.ofNat (m % 128 + 128)))
      generalize UInt8.ofNat (m % 128 + 128) = c1 at *
      generalize hS1 : strA [c1] = S1 at *
      have HD := Lib.hid hdiv
      generalize m / 128 = q at *
      clear hS1
      go_wp2
      go_roundg (q + 1)
      case measure => omega
      case rel => exact ⟨q, cur ++ [c1], by omega, rfl, by rw [HAS1.out], by go_num, by rw [← HE.out, HV.out, List.append_assoc]; rfl, hbw.alloc hbw.size _⟩

set_option maxHeartbeats 8000000 in
theorem refPut_any (s : ByteArray) (n k : Nat) (w : World) (hn : n < 18446744073709551616) (hs : s.size ≤ 1000000) (hk : k ≤ 8) :
    Calls Tryd.prog 50 #[.string s, .int .u64 n, .int .i64 k] w fun e w' => e = .returned (.string (s ++ strA (beL n k))) ∧ Below w.heap.size w w' := by
  have HBL := Lib.hid (beL_len n k)
  go_enter Tryd.func50, Tryd.ntmps50
  go_wp2
  go_loopg [1, 7, 8] k (fun g0 s1 s7 s8 wr => ∃ (i m : Nat) (D : List UInt8), i ≤ k ∧ g0 = k - i ∧ s1 = .int .u64 (m : Int) ∧ s7 = .string (strA D) ∧ s8 = .int .i64 (i : Int) ∧ m < 18446744073709551616 ∧ beL n k = beL m (k - i) ++ D ∧ Below w.heap.size w wr)
  case atStart => exact ⟨0, n, [], Nat.zero_le _, rfl, rfl, rfl, rfl, hn, by rw [List.append_nil]; rfl, Below.refl _ _⟩
  case round =>
    obtain ⟨i, m, D, hi, rfl, rfl, rfl, rfl, hm, he, hbw⟩ := hrel
    have HE := Lib.hid he
    have hDl : D.length ≤ 8 := by
      have := congrArg List.length he
      rw [List.length_append, HBL.out, beL_len] at this
      omega
    clear he
    by_cases hlt : i < k
    · have hii : (i : Int) < (k : Int) := by omega
      have hi8 : (i : Int) < 8 := by omega
      have hcv := one_convI (UInt8.ofNat (m % 256)) ((m : Int) % 256) (by rw [byte_nat (by omega)]; omega) wr
      have hdiv : (m : Int) / 256 = ((m / 256 : Nat) : Int) := by omega
      have hx1 : (strA [UInt8.ofNat (m % 256)]).size ≤ 1 := by rw [strA_size]; exact Nat.le_refl _
      have hxD : (strA D).size ≤ 8 := by rw [strA_size]; exact hDl
      have HAS1 : RowKit.Hid (strA [UInt8.ofNat (m % 256)] ++ strA D = strA (UInt8.ofNat (m % 256) :: D)) := Lib.hid (strA_append _ _)
      have HST : RowKit.Hid (beL m (k - i) = beL (m / 256) (k - (i + 1)) ++ [UInt8.ofNat (m % 256)]) := Lib.hid (by rw [show k - i = (k - (i + 1)) + 1 by omega]; rfl)
      have hwq : IntKind.u64.wrap ((m / 256 : Nat) : Int) = ((m / 256 : Nat) : Int) := by rw [IntKind.wrap_u64]; omega
      have HM : RowKit.Hid (m / 256 < 18446744073709551616) := Lib.hid (by omega)
      generalize UInt8.ofNat (m % 256) = c1 at *
      generalize hS1 : strA [c1] = S1 at *
      generalize hSD : strA D = SD at *
      generalize m / 256 = q at *
      clear hS1 hSD hm hn
      go_wp2
      go_roundg (k - (i + 1))
      case measure => omega
      case rel => exact ⟨i + 1, q, c1 :: D, by omega, rfl, by rfl, by rw [HAS1.out], by go_num, HM.out, by rw [HE.out, HST.out, List.append_assoc]; rfl, hbw.alloc hbw.size _⟩
    · have hik : i = k := by omega
      subst hik
      have hii : ¬ (i : Int) < (i : Int) := by omega
      have hDe : RowKit.Hid (beL n i = D) := Lib.hid (by rw [HE.out, Nat.sub_self]; rfl)
      have hxD : (strA D).size ≤ 8 := by rw [strA_size]; exact hDl
      have HSD : RowKit.Hid (s ++ strA (beL n i) = s ++ strA D) := Lib.hid (by rw [hDe.out])
      clear hm hn hDe
      generalize strA D = SD at *
      go_wp2
      go_ret
      exact ⟨by rw [HSD.out]; rfl, hbw⟩

theorem refNumber_any (s : ByteArray) (n : Int) (w : World) (h0 : 0 ≤ n) (hn : n < 9223372036854775808) (hs : s.size ≤ 1000000) :
    Calls Tryd.prog 47 #[.string s, .int .i64 n] w fun e w' => e = .returned (.string (s ++ strA (varL n.toNat))) ∧ Below w.heap.size w w' := by
  obtain ⟨m, rfl⟩ := Int.eq_ofNat_of_zero_le h0
  have HC := Lib.hid fun W => refVar_any s m W (by omega) hs
  have hw : IntKind.u64.wrap (m : Int) = (m : Int) := by rw [IntKind.wrap_u64]; omega
  rw [Int.toNat_natCast]
  clear h0 hn hs
  go_enter Tryd.func47, Tryd.ntmps47
  go_wp2_with (first
    | (go_at_call 112; (with_reducible refine (HC.out _).mono ?_); rintro e w1 ⟨rfl, hb1⟩))
  go_ret
  exact ⟨rfl, hb1⟩

theorem refOne_any (c : UInt8) (w : World) :
    Calls Tryd.prog 48 #[.int .u8 c.toNat] w fun e w' => e = .returned (.string (strA [c])) ∧ Below w.heap.size w w' := by
  have hcv := one_convI c (c.toNat : Int) rfl w
  generalize strA [c] = S at *
  go_enter Tryd.func48, Tryd.ntmps48
  go_wp2
  go_ret
  exact ⟨rfl, (Below.refl _ _).alloc (Nat.le_refl _) _⟩

theorem refInverse_any (w : World) : Calls Tryd.prog 114 #[] w fun e w' => e = .returned (.int .u64 76133565) ∧ w = w' := by
  go_enter Tryd.func114, Tryd.ntmps114
  go_wp2
  refine wp_loop_rounds 29 ?_
  iterate 29 (rw [rounds_succ]; go_wp2)
  go_ret
  exact ⟨rfl, rfl⟩
end Go.Proofs.YtjahkaidinahpaaDoor
namespace Go.Proofs.YtjahkaidinahpaaDoor
open Go.RowKit Go.ChangeMaps
set_option linter.unusedSimpArgs false
set_option linter.unusedVariables false
set_option maxRecDepth 20000

set_option maxHeartbeats 8000000 in
theorem refNum14_any (s : ByteArray) (w : World) (hls : lettersS (toL s) 6 6 = true) :
    Calls Tryd.prog 51 #[.string s] w fun e w' => e = .returned (.int .u64 (numN (valL (toL s)) : Nat)) ∧ w = w' := by
  have hx := (txt_val _ hls).2
  have hlen := letters_len (n := 6) hls
  have hall : (toL s).all bL = true := by unfold lettersS at hls; rw [Bool.and_eq_true] at hls; exact hls.2
  have hsz : s.size = 6 := by rw [← size_toL]; exact hlen
  have HLEN := Lib.hid hlen
  have HALL := Lib.hid hall
  have HSZ := Lib.hid hsz
  have hs6 : s.size ≤ 6 := by omega
  clear hlen hall hsz hls
  go_enter Tryd.func51, Tryd.ntmps51
  go_wp2
  go_loop [3, 4] (fun x i => ∃ k : Nat, k ≤ s.size ∧ i = .int .i64 k ∧ x = .int .u64 (valL ((toL s).take k) : Nat)) (fun _ i => s.size - (intOf i).toNat)
  case atStart => exact ⟨0, Nat.zero_le _, rfl, rfl⟩
  case round =>
    obtain ⟨k, hk, rfl, rfl⟩ := hrel
    by_cases hlt : k < s.size
    · have hkl : k < (toL s).length := by rw [HLEN.out, ← HSZ.out]; exact hlt
      have hst := valL_take (toL s) k hkl
      have hle := valL_take_le (toL s) k
      have hla := letter_at HALL.out k hkl
      have hgl := get_list s k hlt
      rw [show s.data.toList = toL s from rfl] at hgl
      generalize (toL s).getD k 0 = b at hst hla hgl
      generalize valL ((toL s).take k) = x at hst hle ⊢
      have HST := Lib.hid hst
      clear hst
      obtain ⟨hl1, hl2⟩ := hla
      have hb1 : (65 : Int) ≤ (b.toNat : Int) := by omega
      have hb2 : (b.toNat : Int) ≤ 90 := by omega
      clear hl1 hl2
      go_wp2
      go_round
      case rel =>
        exact ⟨k + 1, by omega, by go_num, by rw [HST.out]; go_num⟩
      case measure => simp [intOf]; omega
    · have hk6 : (toL s).take k = toL s := List.take_of_length_le (by rw [HLEN.out, ← HSZ.out]; omega)
      rw [hk6]
      clear hk6
      generalize hv : valL (toL s) = x at hx ⊢
      have HV := Lib.hid hv
      clear hv
      go_wp2_with (go_at_call 114; refine (refInverse_any _).mono ?_; rintro e w3 ⟨rfl, rfl⟩)
      go_ret
      exact ⟨by rw [HV.out]; exact ret_int (numN_int x), rfl⟩

/-- A text of bytes, or none. -/
def stP (o : Option (List UInt8)) (e : Ending) : Prop :=
  (∃ bs, o = some bs ∧ e = .returned (.tuple #[.string (strA bs), .bool true])) ∨ (o = none ∧ e = .returned (.tuple #[.string ⟨#[]⟩, .bool false]))

theorem refOfCount_any (a b : Int) (w : World) :
    Calls Tryd.prog 22 #[.int .i64 a, .int .i64 b] w fun e w' => stP (countF a b) e ∧ Below w.heap.size w w' := by
  by_cases ha0 : a < 0
  · have HF := Lib.hid (countF_no (a := a) (b := b) (by omega))
    go_enter Tryd.func22, Tryd.ntmps22
    go_wp2
    go_ret2
    exact ⟨.inr ⟨HF.out, rfl⟩, Below.refl _ _⟩
  · by_cases ha1 : 308915776 < a
    · have HF := Lib.hid (countF_no (a := a) (b := b) (by omega))
      go_enter Tryd.func22, Tryd.ntmps22
      go_wp2
      go_ret2
      exact ⟨.inr ⟨HF.out, rfl⟩, Below.refl _ _⟩
    · by_cases hb0 : b < 0
      · have HF := Lib.hid (countF_no (a := a) (b := b) (by omega))
        go_enter Tryd.func22, Tryd.ntmps22
        go_wp2
        go_ret2
        exact ⟨.inr ⟨HF.out, rfl⟩, Below.refl _ _⟩
      · by_cases hb1 : 527040 ≤ b
        · have HF := Lib.hid (countF_no (a := a) (b := b) (by omega))
          go_enter Tryd.func22, Tryd.ntmps22
          go_wp2
          go_ret2
          exact ⟨.inr ⟨HF.out, rfl⟩, Below.refl _ _⟩
        · have HF := Lib.hid (countF_yes (a := a) (b := b) ⟨by omega, by omega, by omega, by omega⟩)
          have H1 : RowKit.Hid (∀ W, Calls Tryd.prog 48 #[.int .u8 67] W fun e w' => e = .returned (.string (strA [67])) ∧ Below W.heap.size W w') := Lib.hid fun W => refOne_any 67 W
          have hvl : (varL a.toNat).length ≤ 10 := varL_len 9 _ (by omega)
          have hs1 : (strA [67]).size ≤ 1 := by rw [strA_size]; exact Nat.le_refl _
          have HN1 := Lib.hid fun W => refNumber_any (strA [67]) a W (by omega) (by omega) (by omega)
          have HN2 := Lib.hid fun W => refNumber_any (strA [67] ++ strA (varL a.toNat)) b W (by omega) (by omega) (by rw [size_app]; omega)
          have HE : RowKit.Hid (strA [67] ++ strA (varL a.toNat) ++ strA (varL b.toNat) = strA (67 :: varL a.toNat ++ varL b.toNat)) := Lib.hid (by rw [strA_append, strA_append]; rfl)
          generalize strA [67] ++ strA (varL a.toNat) ++ strA (varL b.toNat) = S3 at *
          generalize strA [67] ++ strA (varL a.toNat) = S2 at *
          generalize strA [67] = S1 at *
          clear hvl hs1
          go_enter Tryd.func22, Tryd.ntmps22
          go_wp2_with (first
            | (go_at_call 48; (with_reducible refine (H1.out _).mono ?_); rintro e w2 ⟨rfl, hb2⟩)
            | (go_at_call 47; (with_reducible refine (HN1.out _).mono ?_); rintro e w3 ⟨rfl, hb3⟩)
            | (go_at_call 47; (with_reducible refine (HN2.out _).mono ?_); rintro e w4 ⟨rfl, hb4⟩))
          go_ret2
          exact ⟨.inl ⟨_, HF.out, by rw [← HE.out]; rfl⟩, bel_trans hb2 (bel_trans hb3 hb4)⟩

set_option maxHeartbeats 16000000 in
theorem refQueue_any (v : Value) (l : List ByteArray) (w : World) (hv : HasL w v l) (hs : ∀ s ∈ l, s.size ≤ maxLen) :
    Calls Tryd.prog 19 #[v] w fun e w' => stP (queueB l) e ∧ Below w.heap.size w w' := by
  obtain ⟨p, c, rfl⟩ := own_len hv
  by_cases hlong : 40 < l.length
  · have hi : (40 : Int) < (l.length : Int) := by omega
    have HF := Lib.hid (queueB_long hlong)
    clear hv hlong
    go_enter Tryd.func19, Tryd.ntmps19
    go_wp2
    go_ret2
    exact ⟨.inr ⟨HF.out, rfl⟩, Below.refl _ _⟩
  have hi : ¬ (40 : Int) < (l.length : Int) := by omega
  have HV := Lib.hid hv
  have HS := Lib.hid hs
  have HYES : RowKit.Hid ((∀ s ∈ l, lettersS (toL s) 6 6 = true) → l.Nodup → queueB l = some (81 :: varL l.length ++ locsB l)) := Lib.hid fun h2 h3 => queueB_yes (by omega) h2 h3
  have HBAD : RowKit.Hid (∀ s ∈ l, lettersS (toL s) 6 6 = false → queueB l = none) := Lib.hid fun s h1 h2 => queueB_bad h1 h2
  have HTW : RowKit.Hid (¬ l.Nodup → queueB l = none) := Lib.hid queueB_twice
  have hvl : (varL l.length).length ≤ 1 := by rw [varL_small (by omega)]; exact Nat.le_refl _
  have HVL := Lib.hid hvl
  have H1 : RowKit.Hid (∀ W, Calls Tryd.prog 48 #[.int .u8 81] W fun e w' => e = .returned (.string (strA [81])) ∧ Below W.heap.size W w') := Lib.hid fun W => refOne_any 81 W
  have hs1 : (strA [81]).size ≤ 1 := by rw [strA_size]; exact Nat.le_refl _
  have HN1 : RowKit.Hid (∀ W, Calls Tryd.prog 47 #[.string (strA [81]), .int .i64 l.length] W fun e w' => e = .returned (.string (strA (81 :: varL l.length ++ locsB (l.take 0)))) ∧ Below W.heap.size W w') := Lib.hid fun W => by
    have := refNumber_any (strA [81]) (l.length : Int) W (by omega) (by omega) (by omega)
    rw [Int.toNat_natCast, strA_append] at this
    have e : (81 :: varL l.length ++ locsB (l.take 0)) = [81] ++ varL l.length := by simp [locsB]
    rw [e]
    exact this
  generalize queueB l = qb at *
  have hn40 : l.length ≤ 40 := by omega
  generalize hN : l.length = N at *
  have HN := Lib.hid hN
  generalize strA [81] = S1 at *
  clear hv hs hlong hvl hN hs1
  go_enter Tryd.func19, Tryd.ntmps19
  go_wp2_with (first
    | (go_at_call 48; (with_reducible refine (H1.out _).mono ?_); rintro e w2 ⟨rfl, hb2⟩)
    | (go_at_call 47; (with_reducible refine (HN1.out _).mono ?_); rintro e w3 ⟨rfl, hb3⟩))
  have hbw3 := bel_trans hb2 hb3
  clear hb2 hb3 H1 HN1
  go_loopg [4, 5] N (fun g0 s4 s5 wr => ∃ i : Nat, i ≤ N ∧ g0 = N - i ∧ s4 = .string (strA (81 :: varL N ++ locsB (l.take i))) ∧ s5 = .int .i64 (i : Int) ∧ (∀ s ∈ l.take i, lettersS (toL s) 6 6 = true) ∧ (l.take i).Nodup ∧ Below w.heap.size w wr)
  case atStart => exact ⟨0, Nat.zero_le _, rfl, rfl, rfl, (fun s h => by cases h), List.nodup_nil, hbw3⟩
  case round =>
    obtain ⟨i, hiN, rfl, rfl, rfl, hall, hnd, hbw⟩ := hrel
    have HALL := Lib.hid hall
    have HND := Lib.hid hnd
    clear hall hnd
    by_cases hlt : i < N
    · have hii : (i : Int) < (N : Int) := by omega
      have hi0 : (0 : Int) ≤ (i : Int) := by omega
      have hlN : i < l.length := by rw [HN.out]; exact hlt
      have hmem : l.getD i ByteArray.empty ∈ l := List.mem_of_getElem? (by rw [List.getD_eq_getElem?_getD, List.getElem?_eq_getElem hlN]; rfl : l[i]? = some (l.getD i ByteArray.empty))
      have hsz := HS.out _ hmem
      have HTWk := Lib.hid fun h => HTW.out (twice_take hlN h)
      have HBADk := Lib.hid (HBAD.out _ hmem)
      have HNDk := Lib.hid fun h => nodup_take hlN HND.out h
      have HTK : RowKit.Hid (l.take (i + 1) = l.take i ++ [l.getD i ByteArray.empty]) := Lib.hid (by
        have hg : l[i]? = some (l.getD i ByteArray.empty) := by rw [List.getD_eq_getElem?_getD, List.getElem?_eq_getElem hlN]; rfl
        rw [List.take_add_one, hg]; rfl)
      have HNOT : RowKit.Hid ((∀ j, j < i → l.getD j ByteArray.empty ≠ l.getD i ByteArray.empty) → l.getD i ByteArray.empty ∉ l.take i) := Lib.hid fun h hm => by
        obtain ⟨j, hj, e⟩ := List.getElem_of_mem hm
        rw [List.length_take] at hj
        rw [List.getElem_take] at e
        refine h j (by omega) ?_
        rw [← e, List.getD_eq_getElem?_getD, List.getElem?_eq_getElem (by omega)]
        rfl
      have HIN : RowKit.Hid (∀ j, j < i → l.getD j ByteArray.empty = l.getD i ByteArray.empty → l.getD i ByteArray.empty ∈ l.take i) := Lib.hid fun j hj e => by
        rw [← e, List.getD_eq_getElem?_getD, List.getElem?_eq_getElem (by omega)]
        exact List.mem_take_iff_getElem.2 ⟨j, by omega, rfl⟩
      have HSTR : RowKit.Hid ((strA (81 :: varL N ++ locsB (l.take i))).size ≤ 1000) := Lib.hid (by
        rw [strA_size, List.length_append, List.length_cons, locsB_len, List.length_take]
        have := HVL.out
        omega)
      have hstr := HSTR.out
      have HLS : RowKit.Hid (lettersS (toL (l.getD i ByteArray.empty)) 6 6 = true → strA (81 :: varL N ++ locsB (l.take i)) ++ strA (beL (numN (valL (toL (l.getD i ByteArray.empty)))) 4) = strA (81 :: varL N ++ locsB (l.take (i + 1)))) := Lib.hid fun h => by
        rw [strA_append, HTK.out]
        unfold locsB
        rw [List.flatMap_append, List.append_assoc]
        simp
      generalize hSq : strA (81 :: varL N ++ locsB (l.take i)) = Sq at *
      clear hSq hmem
      obtain ⟨wq, rfl⟩ : ∃ y : World, y = wr := ⟨_, rfl⟩
      go_wp2
      go_loopg [6] i (fun g0 s6 wx => ∃ k : Nat, k ≤ i ∧ g0 = i - k ∧ s6 = .int .i64 (k : Int) ∧ (∀ j, j < k → l.getD j ByteArray.empty ≠ l.getD i ByteArray.empty) ∧ Below w.heap.size w wx)
      case atStart => exact ⟨0, Nat.zero_le _, rfl, rfl, (fun j h => absurd h (Nat.not_lt_zero _)), hbw⟩
      case round =>
        obtain ⟨k, hk, rfl, rfl, hne, hbx⟩ := hrel
        have HNE := Lib.hid hne
        clear hne
        by_cases hki : k < i
        · have hkii : (k : Int) < (i : Int) := by omega
          have hk0 : (0 : Int) ≤ (k : Int) := by omega
          have hkN : (k : Int) < (N : Int) := by omega
          obtain ⟨bb, off, rfl, c0⟩ := str_at (HV.out.mono hbx) hlN
          obtain ⟨bb2, off2, e2, c1⟩ := str_at (HV.out.mono hbx) (i := k) (by rw [HN.out]; omega)
          simp at e2
          obtain ⟨rfl, rfl⟩ := e2
          have HINk := Lib.hid fun h => HTWk.out (HIN.out k hki h)
          have HNX : RowKit.Hid (l.getD k ByteArray.empty ≠ l.getD i ByteArray.empty → ∀ j, j < k + 1 → l.getD j ByteArray.empty ≠ l.getD i ByteArray.empty) := Lib.hid fun h j hj => by
            rcases Nat.lt_or_ge j k with h1 | h1
            · exact HNE.out j h1
            · rw [show j = k by omega]; exact h
          by_cases he : l.getD k ByteArray.empty = l.getD i ByteArray.empty
          · have HF := Lib.hid (HINk.out he)
            have hks : ((l.getD k ByteArray.empty).toList == (l.getD i ByteArray.empty).toList) = true := by rw [he]; simp
            generalize l.getD k ByteArray.empty = x at *
            generalize l.getD i ByteArray.empty = y at *
            clear he
            go_upto_region 10 with fail
            go_quiet (fail)
            go_wp2
            go_ret2
            exact ⟨.inr ⟨HF.out, rfl⟩, below_drewN hbx _⟩
          · have HX := Lib.hid (HNX.out he)
            have hks : ((l.getD k ByteArray.empty).toList == (l.getD i ByteArray.empty).toList) = false := by rw [beq_eq_false_iff_ne]; exact fun h => he (toList_inj h)
            generalize hx : l.getD k ByteArray.empty = x at c1 hks
            generalize hy : l.getD i ByteArray.empty = y at c0 hks
            clear he hx hy
            go_upto_region 10 with fail
            go_quiet (fail)
            go_wp2
            go_roundg (i - (k + 1))
            case measure => omega
            case rel => exact ⟨k + 1, by omega, rfl, by go_num, HX.out, below_drewN hbx _⟩
        · have hke : k = i := by omega
          subst hke
          have hkii : ¬ (k : Int) < (k : Int) := by omega
          have HNI := Lib.hid (HNDk.out (HNOT.out HNE.out))
          obtain ⟨bb, off, rfl, c0⟩ := str_at (HV.out.mono hbx) hlN
          have HC0 : RowKit.Hid (∀ W, Below wr.heap.size wr W → W.cell? ⟨bb, off + k, none⟩ = some (.string (l.getD k ByteArray.empty))) := Lib.hid fun W h => cell_bel h c0
          clear HNOT HIN HTWk
          generalize hy : l.getD k ByteArray.empty = s at *
          have HLOC := Lib.hid fun W => refLocator_any s W hsz
          cases hL : lettersS (toL s) 6 6 with
          | false =>
            have HF := Lib.hid (HBADk.out hL)
            have HLOC2 : RowKit.Hid (∀ W, Calls Tryd.prog 49 #[.string s] W fun e w' => e = .returned (.bool false) ∧ W = w') := Lib.hid fun W => by
              have := HLOC.out W
              rw [show s.data.toList = toL s from rfl, hL] at this
              exact this
            clear hy hL HLOC
            go_wp2_with (first
              | (go_at_call 49; (with_reducible refine (HLOC2.out _).mono ?_); rintro e w5 ⟨rfl, rfl⟩))
            go_ret2
            exact ⟨.inr ⟨HF.out, rfl⟩, hbx⟩
          | true =>
            have HLOC2 : RowKit.Hid (∀ W, Calls Tryd.prog 49 #[.string s] W fun e w' => e = .returned (.bool true) ∧ W = w') := Lib.hid fun W => by
              have := HLOC.out W
              rw [show s.data.toList = toL s from rfl, hL] at this
              exact this
            have HNM := Lib.hid fun W => refNum14_any s W hL
            have hnl := numN_lt (valL (toL s))
            have HST := Lib.hid (HLS.out hL)
            have HPU : RowKit.Hid (∀ W, Calls Tryd.prog 50 #[.string Sq, .int .u64 (numN (valL (toL s)) : Nat), .int .i64 4] W fun e w' => e = .returned (.string (Sq ++ strA (beL (numN (valL (toL s))) 4))) ∧ Below W.heap.size W w') := Lib.hid fun W => refPut_any Sq (numN (valL (toL s))) 4 W (by omega) (by omega) (by omega)
            have HL2 := Lib.hid hL
            generalize Sq ++ strA (beL (numN (valL (toL s))) 4) = S5 at *
            generalize numN (valL (toL s)) = nn at *
            clear hy hL HLOC hnl
            go_wp2_with (first
              | (go_at_call 49; (with_reducible refine (HLOC2.out _).mono ?_); rintro e w5 ⟨rfl, rfl⟩)
              | (go_at_call 51; (with_reducible refine (HNM.out _).mono ?_); rintro e w6 ⟨rfl, rfl⟩)
              | (go_at_call 50; (with_reducible refine (HPU.out _).mono ?_); rintro e w7 ⟨rfl, hb7⟩))
            go_roundg (N - (k + 1))
            case measure => omega
            case rel => exact ⟨k + 1, by omega, rfl, by rw [← HST.out], by go_num, (fun t ht => by
              rw [HTK.out] at ht
              rcases List.mem_append.1 ht with h1 | h1
              · exact HALL.out t h1
              · rw [List.mem_singleton.1 h1]; exact HL2.out), HNI.out, below_low hbx hbx.size hb7⟩
    · have hie : i = N := by omega
      subst hie
      have hii : ¬ (i : Int) < (i : Int) := by omega
      have htk : l.take i = l := List.take_of_length_le (by rw [HN.out]; exact Nat.le_refl _)
      rw [htk] at HALL HND ⊢
      have HF := Lib.hid (HYES.out HALL.out HND.out)
      clear htk
      generalize hX : 81 :: varL i ++ locsB l = X at *
      generalize hSX : strA X = SX at *
      have HSX := Lib.hid hSX
      clear hX hSX
      go_wp2
      go_ret2
      exact ⟨.inl ⟨X, HF.out, by rw [HSX.out]; rfl⟩, hbw⟩
end Go.Proofs.YtjahkaidinahpaaDoor
namespace Go.Proofs.YtjahkaidinahpaaDoor
open Go.RowKit Go.ChangeMaps
set_option linter.unusedSimpArgs false
set_option linter.unusedVariables false
set_option maxRecDepth 20000

set_option maxHeartbeats 8000000 in
theorem refReadVar_any (s : ByteArray) (w : World) (hl : s.size ≤ 1000000) :
    Calls Tryd.prog 119 #[.string s] w fun e w' => rvP (toL s) e ∧ w = w' := by
  have HN := Lib.hid (size_toL s)
  go_enter Tryd.func119, Tryd.ntmps119
  go_wp2
  go_loopg [5, 6, 7] s.size (fun g0 s5 s6 s7 wr => ∃ i acc u : Nat, i ≤ s.size ∧ i ≤ 9 ∧ g0 = s.size - i ∧ s5 = .int .u64 (acc : Int) ∧ s6 = .int .u64 (u : Int) ∧ s7 = .int .i64 (i : Int) ∧ u = 2 ^ (7 * i) ∧ acc < 2 ^ (7 * i) ∧ rvL 0 0 (toL s) = rvL i acc ((toL s).drop i) ∧ w = wr)
  case atStart => exact ⟨0, 0, 1, Nat.zero_le _, by omega, rfl, rfl, rfl, rfl, rfl, by decide, rfl, rfl⟩
  case round =>
    obtain ⟨i, acc, u, hi, hi9, rfl, rfl, rfl, rfl, hu, hacc, hrv, rfl⟩ := hrel
    have HRV := Lib.hid hrv
    have HAC := Lib.hid hacc
    have HU := Lib.hid hu
    clear hrv hacc hu
    by_cases hlt : i < s.size
    · have hki : (i : Int) < (s.size : Int) := by omega
      have hk0 : (0 : Int) ≤ (i : Int) := by omega
      have hgl := get_list s i hlt
      rw [show s.data.toList = toL s from rfl] at hgl
      have hdr : (toL s).drop i = (toL s).getD i 0 :: (toL s).drop (i + 1) := drop_cons (toL s) i (by rw [HN.out]; exact hlt)
      rw [hdr] at HRV
      have hx256 : ((toL s).getD i 0).toNat < 256 := ((toL s).getD i 0).toNat_lt
      have HBAD := Lib.hid fun h => HRV.out.trans (rvL_bad (i := i) (acc := acc) (x := (toL s).getD i 0) (t := (toL s).drop (i + 1)) h)
      have HEND := Lib.hid fun h h2 => HRV.out.trans (rvL_end (i := i) (acc := acc) (x := (toL s).getD i 0) (t := (toL s).drop (i + 1)) h h2)
      have HON := Lib.hid fun h h2 => HRV.out.trans (rvL_on (i := i) (acc := acc) (x := (toL s).getD i 0) (t := (toL s).drop (i + 1)) h h2)
      clear hdr HRV
      generalize (toL s).getD i 0 = x at *
      by_cases hbad : (i = 9 ∧ 1 < x.toNat) ∨ (0 < i ∧ x.toNat = 0)
      · have HF := Lib.hid (HBAD.out hbad)
        by_cases h9 : i = 9 ∧ 1 < x.toNat
        · have hb9 : ((i : Int) == 9) = true := by rw [beq_iff_eq]; omega
          have hx1 : (1 : Int) < (x.toNat : Int) := by omega
          clear hbad h9
          go_wp2
          go_ret3
          exact ⟨.inr ⟨HF.out, 4, by decide, rfl⟩, rfl⟩
        · have h0 : 0 < i ∧ x.toNat = 0 := by omega
          have hb9 : ((i : Int) == 9) = false ∨ ((i : Int) == 9) = true ∧ ¬ (1 : Int) < (x.toNat : Int) := by
            by_cases h : i = 9
            · right; exact ⟨by rw [beq_iff_eq]; omega, by omega⟩
            · left; rw [beq_eq_false_iff_ne]; omega
          have hi0 : (0 : Int) < (i : Int) := by omega
          have hx0 : ((x.toNat : Int) == 0) = true := by rw [beq_iff_eq]; omega
          clear hbad h9 h0
          rcases hb9 with hb9 | ⟨hb9, hx1⟩
          · go_wp2
            go_ret3
            exact ⟨.inr ⟨HF.out, 4, by decide, rfl⟩, rfl⟩
          · go_wp2
            go_ret3
            exact ⟨.inr ⟨HF.out, 4, by decide, rfl⟩, rfl⟩
      · have h9y : i = 9 → x.toNat % 128 ≤ 1 := fun h => by omega
        have hNB : (((i : Int) == 9) = false ∧ ¬ (0 : Int) < (i : Int)) ∨ (((i : Int) == 9) = false ∧ (0 : Int) < (i : Int) ∧ ((x.toNat : Int) == 0) = false) ∨ (((i : Int) == 9) = true ∧ ¬ (1 : Int) < (x.toNat : Int) ∧ (0 : Int) < (i : Int) ∧ ((x.toNat : Int) == 0) = false) := by
          by_cases h : i = 9
          · exact .inr (.inr ⟨by rw [beq_iff_eq]; omega, by omega, by omega, by rw [beq_eq_false_iff_ne]; omega⟩)
          · by_cases h0 : 0 < i
            · exact .inr (.inl ⟨by rw [beq_eq_false_iff_ne]; omega, by omega, by rw [beq_eq_false_iff_ne]; omega⟩)
            · exact .inl ⟨by rw [beq_eq_false_iff_ne]; omega, by omega⟩
        obtain ⟨hp1, hp2⟩ := part_lt (y := x.toNat % 128) hi9 h9y (by omega)
        have hac2 := HAC.out
        rw [← HU.out] at hp1 hp2 hac2
        have hm1 : IntKind.u64.wrap ((x.toNat : Int) % 128 * (u : Int)) = ((x.toNat % 128 * u : Nat) : Int) := by
          have e : (x.toNat : Int) % 128 * (u : Int) = ((x.toNat % 128 * u : Nat) : Int) := by rw [Int.natCast_mul, Int.natCast_emod]; rfl
          rw [e, IntKind.wrap_u64]
          generalize x.toNat % 128 * u = z at *
          omega
        have HEND2 := Lib.hid fun h => HEND.out hbad h
        have HON2 := Lib.hid fun h => HON.out hbad h
        have HNX := Lib.hid (next_lt (acc := acc) (y := x.toNat % 128) (i := i) HAC.out (by omega))
        rw [← HU.out] at HEND2 HON2 HNX
        have HUN : RowKit.Hid (i + 1 ≤ 9 → u * 128 = 2 ^ (7 * (i + 1))) := Lib.hid fun _ => by rw [HU.out, show 7 * (i + 1) = 7 * i + 7 by omega, Nat.pow_add]
        have hm2 : IntKind.u64.wrap ((acc : Int) + ((x.toNat % 128 * u : Nat) : Int)) = ((acc + x.toNat % 128 * u : Nat) : Int) := by
          rw [IntKind.wrap_u64]
          have h1 : acc + x.toNat % 128 * u < 18446744073709551616 := by
            rcases Nat.lt_or_ge i 9 with h | h
            · have h3 := HNX.out
              have h4 : (2 : Nat) ^ (7 * (i + 1)) ≤ 2 ^ 63 := Nat.pow_le_pow_right (by omega) (by omega)
              have e : (2 : Nat) ^ 63 = 9223372036854775808 := by decide
              generalize x.toNat % 128 * u = z at *
              omega
            · have h5 := h9y (by omega)
              have h6 : x.toNat % 128 * u ≤ 1 * u := Nat.mul_le_mul h5 (Nat.le_refl _)
              generalize x.toNat % 128 * u = z at *
              omega
          generalize x.toNat % 128 * u = z at *
          omega
        generalize hz : x.toNat % 128 * u = z at *
        generalize hres : acc + z = res at *
        clear hz hp1 hac2 hres
        by_cases hx : x.toNat < 128
        · have hxi : (x.toNat : Int) < 128 := by omega
          have HF := Lib.hid (HEND2.out hx)
          clear hbad h9y hx hp2
          rcases hNB with ⟨hb9, hb0⟩ | ⟨hb9, hb0, hx0⟩ | ⟨hb9, hx1, hb0, hx0⟩
          all_goals
            go_wp2
            go_ret3
            exact ⟨.inl ⟨res, i + 1, HF.out, by rfl⟩, rfl⟩
        · have hxi : ¬ (x.toNat : Int) < 128 := by omega
          have HF := Lib.hid (HON2.out hx)
          have hi8 : i + 1 ≤ 9 := by omega
          have HUN2 := Lib.hid (HUN.out hi8)
          have hun : IntKind.u64.wrap ((u : Int) * 128) = ((u * 128 : Nat) : Int) := by
            rw [IntKind.wrap_u64]
            have h1 := HU.out
            have h4 : (2 : Nat) ^ (7 * i) ≤ 2 ^ 56 := Nat.pow_le_pow_right (by omega) (by omega)
            have e : (2 : Nat) ^ 56 = 72057594037927936 := by decide
            omega
          generalize u * 128 = u2 at *
          clear hbad h9y hx hp2
          rcases hNB with ⟨hb9, hb0⟩ | ⟨hb9, hb0, hx0⟩ | ⟨hb9, hx1, hb0, hx0⟩
          · go_wp2
            go_roundg (s.size - (i + 1))
            case measure => omega
            case rel => exact ⟨i + 1, res, u2, by omega, hi8, rfl, by rfl, by rfl, by go_num, HUN2.out, HNX.out, HF.out, rfl⟩
          · go_wp2
            go_roundg (s.size - (i + 1))
            case measure => omega
            case rel => exact ⟨i + 1, res, u2, by omega, hi8, rfl, by rfl, by rfl, by go_num, HUN2.out, HNX.out, HF.out, rfl⟩
          · exfalso
            rw [beq_iff_eq] at hb9
            omega
    · have hie : i = s.size := by omega
      subst hie
      have hki : ¬ (s.size : Int) < (s.size : Int) := by omega
      have hd0 : (toL s).drop s.size = [] := List.drop_eq_nil_of_le (by rw [HN.out]; omega)
      rw [hd0] at HRV
      have HF : RowKit.Hid (rvL 0 0 (toL s) = none) := Lib.hid HRV.out
      go_wp2
      go_ret3
      exact ⟨.inr ⟨HF.out, 5, by decide, rfl⟩, rfl⟩

/-- A cursor at g over the text s: its place, and whether it is bad. -/
def CS (w : World) (g : Nat) (s : ByteArray) (at' : Nat) (bad : Bool) : Prop := Blk w g 125 [.string s, .int .i64 at', .bool bad] ∧ at' ≤ s.size

theorem CS.mono {w w' : World} {g : Nat} {s : ByteArray} {k : Nat} {bad : Bool} (h : CS w g s k bad) (hb : Below w.heap.size w w') : CS w' g s k bad := ⟨h.1.mono hb, h.2⟩
theorem CS.cells {w : World} {g : Nat} {s : ByteArray} {k : Nat} {bad : Bool} (h : CS w g s k bad) : w.cell? ⟨g, 0, none⟩ = some (.string s) ∧ w.cell? ⟨g, 1, none⟩ = some (.int .i64 k) ∧ w.cell? ⟨g, 2, none⟩ = some (.bool bad) ∧ w.frozen? ⟨g, 1, none⟩ = false ∧ w.frozen? ⟨g, 2, none⟩ = false :=
  ⟨(h.1.cell 0).trans rfl, (h.1.cell 1).trans rfl, (h.1.cell 2).trans rfl, h.1.frozen 1, h.1.frozen 2⟩
theorem CS.goBad {w : World} {g : Nat} {s : ByteArray} {k : Nat} {bad : Bool} (h : CS w g s k bad) (b2 : Bool) : CS (w.setCell ⟨g, 2, none⟩ (.bool b2)) g s k b2 := ⟨h.1.set 2 _, h.2⟩
theorem CS.goAt {w : World} {g : Nat} {s : ByteArray} {k k2 : Nat} {bad : Bool} (h : CS w g s k bad) (h2 : k2 ≤ s.size) : CS (w.setCell ⟨g, 1, none⟩ (.int .i64 k2)) g s k2 bad := ⟨h.1.set 1 _, h2⟩

theorem ext_list (s : ByteArray) (p q : Nat) : toL (s.extract p q) = ((toL s).take q).drop p := by
  unfold toL
  simp [List.drop_take]

theorem ext_one {s : ByteArray} {k : Nat} (h : k < s.size) : toL (s.extract k (k + 1)) = [(toL s).getD k 0] := by
  have hk : k < (toL s).length := by rw [size_toL]; exact h
  rw [ext_list, List.drop_take, show k + 1 - k = 1 by omega, drop_cons _ _ hk]
  rfl

set_option maxHeartbeats 8000000 in
theorem take1_yes (g : Nat) (s : ByteArray) (k : Nat) (w : World) (h : CS w g s k false) (hl : s.size ≤ 1000000) (hk : k < s.size) :
    Calls Tryd.prog 118 #[.pointer (some ⟨g, 0, none⟩), .int .i64 1] w fun e w' => (∃ t : ByteArray, e = .returned (.string t) ∧ toL t = [(toL s).getD k 0]) ∧ CS w' g s (k + 1) false ∧ w.grownBy w' (some g) := by
  obtain ⟨c0, c1, c2, f1, f2⟩ := h.cells
  have HC := Lib.hid h
  have HX := Lib.hid (ext_one hk)
  have hgt : ¬ (s.size : Int) - (k : Int) < 1 := by omega
  have hks2 : (k : Int) ≤ (s.size : Int) := by omega
  have hks3 : (k : Int) + 1 ≤ (s.size : Int) := by omega
  have hk0 : (0 : Int) ≤ (k : Int) := by omega
  clear h
  go_enter Tryd.func118, Tryd.ntmps118
  go_upto_region 1 with fail
  go_quiet (fail)
  have hC1 := HC.out.mono (below_drewN (Below.refl w.heap.size w) nq)
  have hgr1 : w.grownBy (w.drewN nq) (some g) := gr_of_below (below_drewN (Below.refl w.heap.size w) nq) _
  generalize w.drewN nq = wq at *
  clear c0 c1 c2 f1 f2
  obtain ⟨d0, d1, d2, e1, e2⟩ := hC1.cells
  go_upto_region 5 with fail
  have hC2 : CS (wq.setCell ⟨g, 1, none⟩ (.int .i64 ((k : Int) + 1))) g s (k + 1) false := hC1.goAt (k2 := k + 1) hk
  have hgr2 : w.grownBy (wq.setCell ⟨g, 1, none⟩ (.int .i64 ((k : Int) + 1))) (some g) := gr_setCell1 hgr1 1 _
  generalize wq.setCell ⟨g, 1, none⟩ (.int .i64 ((k : Int) + 1)) = ws at *
  clear d0 d1 d2 e1 e2
  obtain ⟨d0, d1, d2, e1, e2⟩ := hC2.cells
  replace d1 : ws.cell? ⟨g, 1, none⟩ = some (.int .i64 ((k : Int) + 1)) := d1
  have HC2 := Lib.hid hC2
  clear hC1 hC2 hgr1
  go_quiet (fail)
  go_wp2
  go_ret
  exact ⟨⟨_, rfl, HX.out⟩, HC2.out.mono (below_drewN (Below.refl ws.heap.size ws) nq), gby_trans hgr2 (gr_of_below (below_drewN (Below.refl ws.heap.size ws) nq) _)⟩

set_option maxHeartbeats 8000000 in
theorem take1_no (g : Nat) (s : ByteArray) (k : Nat) (bad : Bool) (w : World) (h : CS w g s k bad) (hl : s.size ≤ 1000000) (hk : bad = true ∨ s.size ≤ k) :
    Calls Tryd.prog 118 #[.pointer (some ⟨g, 0, none⟩), .int .i64 1] w fun e w' => e = .returned (.string ⟨#[]⟩) ∧ CS w' g s k true ∧ w.grownBy w' (some g) := by
  obtain ⟨c0, c1, c2, f1, f2⟩ := h.cells
  have HC := Lib.hid h
  have hks2 : (k : Int) ≤ (s.size : Int) := by have := h.2; omega
  clear h
  cases bad with
  | true =>
    go_enter Tryd.func118, Tryd.ntmps118
    go_upto_region 1 with fail
    go_quiet (fail)
    have hC1 := HC.out.mono (below_drewN (Below.refl w.heap.size w) nq)
    have hgr1 : w.grownBy (w.drewN nq) (some g) := gr_of_below (below_drewN (Below.refl w.heap.size w) nq) _
    generalize w.drewN nq = wq at *
    clear c0 c1 c2 f1 f2
    obtain ⟨d0, d1, d2, e1, e2⟩ := hC1.cells
    go_wp2
    go_ret
    exact ⟨rfl, hC1.goBad true, gr_setCell1 hgr1 2 _⟩
  | false =>
    have hgt : (s.size : Int) - (k : Int) < 1 := by
      rcases hk with h | h
      · cases h
      · omega
    go_enter Tryd.func118, Tryd.ntmps118
    go_upto_region 1 with fail
    go_quiet (fail)
    have hC1 := HC.out.mono (below_drewN (Below.refl w.heap.size w) nq)
    have hgr1 : w.grownBy (w.drewN nq) (some g) := gr_of_below (below_drewN (Below.refl w.heap.size w) nq) _
    generalize w.drewN nq = wq at *
    clear c0 c1 c2 f1 f2
    obtain ⟨d0, d1, d2, e1, e2⟩ := hC1.cells
    go_wp2
    go_ret
    exact ⟨rfl, hC1.goBad true, gr_setCell1 hgr1 2 _⟩

theorem byte_yes (g : Nat) (s : ByteArray) (k : Nat) (w : World) (h : CS w g s k false) (hl : s.size ≤ 1000000) (hk : k < s.size) :
    Calls Tryd.prog 57 #[.pointer (some ⟨g, 0, none⟩)] w fun e w' => e = .returned (.int .i64 ((toL s).getD k 0).toNat) ∧ CS w' g s (k + 1) false ∧ w.grownBy w' (some g) := by
  have HT := Lib.hid (take1_yes g s k w h hl hk)
  generalize (toL s).getD k 0 = x at *
  have hx8 := x.toNat_lt
  have hwx : RowKit.wrap64 (x.toNat : Int) = (x.toNat : Int) := IntWalk.wrap64_in _ ⟨by omega, by omega⟩
  clear h hk hl
  go_enter Tryd.func57, Tryd.ntmps57
  go_wp2_with (first
    | (go_at_call 118; (with_reducible refine HT.out.mono ?_); rintro e w1 ⟨⟨t, rfl, ht⟩, hc1, hg1⟩; obtain ⟨d0, d1, d2, e1, e2⟩ := hc1.cells; have hts : t.size = 1 := (by rw [← size_toL, ht]; rfl); have ht0 : 0 < t.size := (by omega); have hti : (0 : Int) < (t.size : Int) := (by omega); have hgl := get_list t 0 ht0; replace hgl : t[0] = x := (hgl.trans (by rw [show t.data.toList = toL t from rfl, ht]; rfl)); clear hts))
  go_ret
  exact ⟨rfl, hc1, hg1⟩

theorem byte_no (g : Nat) (s : ByteArray) (k : Nat) (bad : Bool) (w : World) (h : CS w g s k bad) (hl : s.size ≤ 1000000) (hk : bad = true ∨ s.size ≤ k) :
    Calls Tryd.prog 57 #[.pointer (some ⟨g, 0, none⟩)] w fun e w' => e = .returned (.int .i64 0) ∧ CS w' g s k true ∧ w.grownBy w' (some g) := by
  have HT := Lib.hid (take1_no g s k bad w h hl hk)
  clear h hk hl
  go_enter Tryd.func57, Tryd.ntmps57
  go_wp2_with (first
    | (go_at_call 118; (with_reducible refine HT.out.mono ?_); rintro e w1 ⟨rfl, hc1, hg1⟩; obtain ⟨d0, d1, d2, e1, e2⟩ := hc1.cells))
  go_ret
  exact ⟨rfl, hc1, hg1⟩

theorem drop_val {l : List UInt8} {j : Nat} (h : j < l.length) : l.drop j = l.getD j 0 :: l.drop (j + 1) := drop_cons l j h

/-- What 'wide' tells. -/
def WideP (g : Nat) (s : ByteArray) (k n : Nat) (bad : Bool) (w : World) (e : Ending) (w' : World) : Prop :=
  ∃ (x k2 : Nat) (b2 : Bool), e = .returned (.int .i64 x) ∧ x < 256 ^ n ∧ CS w' g s k2 b2 ∧ (b2 = false → bad = false ∧ pFix n ((toL s).drop k) = some (x, (toL s).drop k2)) ∧ (b2 = true → bad = true ∨ pFix n ((toL s).drop k) = none) ∧ w.grownBy w' (some g)

/-- The bytes ahead as a number. -/
theorem wide_any (g : Nat) (s : ByteArray) (k n : Nat) (bad : Bool) (w : World) (h : CS w g s k bad) (hl : s.size ≤ 1000000) (hn : n ≤ 4) :
    Calls Tryd.prog 83 #[.pointer (some ⟨g, 0, none⟩), .int .i64 n] w fun e w' => WideP g s k n bad w e w' := by
  have HC := Lib.hid h
  have hkS := h.2
  clear h
  go_enter Tryd.func83, Tryd.ntmps83
  go_wp2
  go_loopg [5, 6] n (fun g0 s5 s6 wr => ∃ (j x k2 : Nat) (b2 : Bool), j ≤ n ∧ g0 = n - j ∧ s5 = .int .i64 (x : Int) ∧ s6 = .int .i64 (j : Int) ∧ x < 256 ^ j ∧ CS wr g s k2 b2 ∧ (b2 = false → bad = false ∧ k2 = k + j ∧ x = valB (((toL s).drop k).take j)) ∧ (b2 = true → bad = true ∨ s.size - k < n) ∧ w.grownBy wr (some g))
  case atStart =>
    refine ⟨0, 0, k, bad, Nat.zero_le _, rfl, rfl, rfl, by decide, HC.out, fun h => ⟨h, rfl, rfl⟩, fun h => .inl h, World.grownBy.refl _ _⟩
  case round =>
    obtain ⟨j, x, k2, b2, hj, rfl, rfl, rfl, hx, hc, hf, ht, hgr⟩ := hrel
    have HCC := Lib.hid hc
    have HF := Lib.hid hf
    have HT := Lib.hid ht
    have HX := Lib.hid hx
    clear hc hf ht
    have hxs : x < 4294967296 := by
      have h5 : 256 ^ j ≤ 256 ^ 4 := Nat.pow_le_pow_right (by omega) (by omega)
      have e : (256 : Nat) ^ 4 = 4294967296 := by decide
      omega
    clear hx
    by_cases hlt : j < n
    · have hji : (j : Int) < (n : Int) := by omega
      have hxs2 : x < 16777216 := by
        have h5 : 256 ^ j ≤ 256 ^ 3 := Nat.pow_le_pow_right (by omega) (by omega)
        have e : (256 : Nat) ^ 3 = 16777216 := by decide
        have := HX.out
        omega
      by_cases hy : b2 = false ∧ k2 < s.size
      · obtain ⟨rfl, hk2⟩ := hy
        obtain ⟨hb0, hkj, hxv⟩ := HF.out rfl
        have HBY := Lib.hid (byte_yes g s k2 wr HCC.out hl hk2)
        have hlk : j < ((toL s).drop k).length := by rw [List.length_drop, size_toL]; omega
        have HV : RowKit.Hid (valB (((toL s).drop k).take (j + 1)) = x * 256 + ((toL s).getD k2 0).toNat) := Lib.hid (by
          rw [valB_take hlk, ← hxv, hkj]
          congr 2
          rw [List.getD_eq_getElem?_getD, List.getD_eq_getElem?_getD, List.getElem?_drop])
        have hb8 := ((toL s).getD k2 0).toNat_lt
        have HPW : RowKit.Hid (x * 256 + ((toL s).getD k2 0).toNat < 256 ^ (j + 1)) := Lib.hid (by
          have := HX.out
          rw [Nat.pow_succ]
          omega)
        have HB0 := Lib.hid hb0
        have HKJ := Lib.hid hkj
        generalize (toL s).getD k2 0 = y at *
        clear hb0 hkj hxv hlk hk2
        go_wp2_with (first
          | (go_at_call 57; (with_reducible refine HBY.out.mono ?_); rintro e w5 ⟨rfl, hc5, hg5⟩))
        go_roundg (n - (j + 1))
        case measure => omega
        case rel => exact ⟨j + 1, x * 256 + y.toNat, k2 + 1, false, by omega, rfl, by go_num, by go_num, HPW.out, hc5, (fun _ => ⟨HB0.out, by rw [HKJ.out]; omega, HV.out.symm⟩), (fun h => by cases h), gby_trans hgr hg5⟩
      · have hno : b2 = true ∨ s.size ≤ k2 := by
          cases b2 with
          | true => exact .inl rfl
          | false => exact .inr (by rcases Nat.lt_or_ge k2 s.size with h1 | h1; exact absurd ⟨rfl, h1⟩ hy; exact h1)
        have HBY := Lib.hid (byte_no g s k2 b2 wr HCC.out hl hno)
        have HT2 : RowKit.Hid (bad = true ∨ s.size - k < n) := Lib.hid (by
          cases hb2 : b2 with
          | true => exact HT.out hb2
          | false =>
            obtain ⟨h1, h2, _⟩ := HF.out hb2
            rcases hno with h3 | h3
            · rw [hb2] at h3; cases h3
            · exact .inr (by omega))
        have HPW : RowKit.Hid (x * 256 < 256 ^ (j + 1)) := Lib.hid (by
          have := HX.out
          rw [Nat.pow_succ]
          omega)
        clear hy hno
        go_wp2_with (first
          | (go_at_call 57; (with_reducible refine HBY.out.mono ?_); rintro e w5 ⟨rfl, hc5, hg5⟩))
        go_roundg (n - (j + 1))
        case measure => omega
        case rel => exact ⟨j + 1, x * 256, k2, true, by omega, rfl, by go_num, by go_num, HPW.out, hc5, (fun h => by cases h), (fun _ => HT2.out), gby_trans hgr hg5⟩
    · have hje : j = n := by omega
      subst hje
      have hji : ¬ (j : Int) < (j : Int) := by omega
      go_wp2
      go_ret
      refine ⟨x, k2, b2, rfl, HX.out, HCC.out, fun h => ?_, fun h => ?_, hgr⟩
      · obtain ⟨h1, h2, h3⟩ := HF.out h
        refine ⟨h1, ?_⟩
        have := HCC.out.2
        unfold pFix
        rw [if_pos (by rw [List.length_drop, size_toL]; omega), ← h3, List.drop_drop, h2]
      · rcases HT.out h with h1 | h1
        · exact .inl h1
        · refine .inr ?_
          unfold pFix
          rw [if_neg (by rw [List.length_drop, size_toL]; omega)]
end Go.Proofs.YtjahkaidinahpaaDoor
namespace Go.Proofs.YtjahkaidinahpaaDoor
open Go.RowKit Go.ChangeMaps
set_option linter.unusedSimpArgs false
set_option linter.unusedVariables false
set_option maxRecDepth 20000

theorem ext_rest (s : ByteArray) (k : Nat) : toL (s.extract k s.size) = (toL s).drop k := by
  rw [ext_list, List.take_of_length_le (by rw [size_toL]; exact Nat.le_refl _)]

/-- What 'num' tells. -/
def NumP (g : Nat) (s : ByteArray) (k most : Nat) (bad : Bool) (w : World) (e : Ending) (w' : World) : Prop :=
  ∃ (n k2 : Nat) (b2 : Bool), e = .returned (.int .i64 n) ∧ n ≤ most ∧ CS w' g s k2 b2 ∧ (b2 = false → bad = false ∧ pNum most ((toL s).drop k) = some (n, (toL s).drop k2)) ∧ (b2 = true → bad = true ∨ pNum most ((toL s).drop k) = none) ∧ w.grownBy w' (some g)

set_option maxHeartbeats 16000000 in
theorem num_any (g : Nat) (s : ByteArray) (k most : Nat) (bad : Bool) (w : World) (h : CS w g s k bad) (hl : s.size ≤ 1000000) (hm : most ≤ 4000000000) :
    Calls Tryd.prog 58 #[.pointer (some ⟨g, 0, none⟩), .int .i64 most] w fun e w' => NumP g s k most bad w e w' := by
  obtain ⟨c0, c1, c2, f1, f2⟩ := h.cells
  have HC := Lib.hid h
  have hkS := h.2
  cases bad with
  | true =>
    clear h hm
    go_enter Tryd.func58, Tryd.ntmps58
    go_wp2
    go_ret
    exact ⟨0, k, true, rfl, Nat.zero_le _, HC.out, (fun h => by cases h), (fun _ => .inl rfl), World.grownBy.refl _ _⟩
  | false =>
    have hks2 : (k : Int) ≤ (s.size : Int) := by omega
    have hk0 : (0 : Int) ≤ (k : Int) := by omega
    have hw1 : IntKind.u64.wrap (most : Int) = (most : Int) := by rw [IntKind.wrap_u64]; omega
    have HRR := refReadVar_any (s.extract k s.size)
    have hxs : (s.extract k s.size).size ≤ 1000000 := by rw [← size_toL, ext_rest, List.length_drop, size_toL]; omega
    have hS0 : w.drew.cell? ⟨g, 0, none⟩ = some (.string s) ∧ w.drew.cell? ⟨g, 1, none⟩ = some (.int .i64 k) ∧ Below w.heap.size w w.drew := ⟨c0, c1, (Below.refl _ _).drew⟩
    have hlen : ((toL s).drop k).length = s.size - k := by rw [List.length_drop, size_toL]
    have hw1' := hw1
    rw [ext_rest] at HRR
    cases hp : pNum most ((toL s).drop k) with
    | some x =>
      obtain ⟨n, r⟩ := x
      obtain ⟨kk, hrv, hnm, hr, hk1, hk2⟩ := pNum_some hp
      have HRV : RowKit.Hid (∀ W, Calls Tryd.prog 119 #[.string (s.extract k s.size)] W fun e w' => e = .returned (.tuple #[.int .u64 n, .int .i64 kk, .int .i64 0]) ∧ W = w') := Lib.hid fun W => (HRR W hxs).mono (by
        rintro e w' ⟨h1, rfl⟩
        rcases h1 with ⟨n', k', h2, rfl⟩ | ⟨h2, _⟩
        · rw [hrv] at h2
          injection h2 with h2
          injection h2 with h2 h3
          subst h2 h3
          exact ⟨rfl, rfl⟩
        · rw [hrv] at h2; cases h2)
      have HPN : RowKit.Hid (pNum most ((toL s).drop k) = some (n, (toL s).drop (k + kk))) := Lib.hid (by rw [hp, hr, List.drop_drop])
      have HNM := Lib.hid hnm
      have hni : ¬ (most : Int) < (n : Int) := by omega
      have hw2 : IntKind.i64.wrap (n : Int) = (n : Int) := by rw [IntKind.wrap_i64]; omega
      have hkk : k + kk ≤ s.size := by omega
      have hkw : IntKind.i64.wrap ((k : Int) + (kk : Int)) = (k : Int) + (kk : Int) := by rw [IntKind.wrap_i64]; omega
      have HKK := Lib.hid hkk
      clear h hm HRR hxs hlen hp hrv hnm hr hk1 hk2 hkk hl
      go_enter Tryd.func58, Tryd.ntmps58
      go_upto_region 3 with fail
      go_region_held3 (fun W => W.cell? ⟨g, 0, none⟩ = some (.string s) ∧ W.cell? ⟨g, 1, none⟩ = some (.int .i64 k) ∧ Below w.heap.size w W)
        (first
          | exact hS0
          | assumption)
        (first
          | (go_at_call 119; (with_reducible refine (HRV.out _).mono ?_); rintro e w9 ⟨rfl, rfl⟩))
      have hC1 : CS w.drew g s k false := HC.out.mono (Below.refl w.heap.size w).drew
      have hgr1 : w.grownBy w.drew (some g) := gr_of_below (Below.refl w.heap.size w).drew _
      generalize w.drew = wq at *
      clear c0 c1 c2 f1 f2
      obtain ⟨d0, d1, d2, e1, e2⟩ := hC1.cells
      go_wp2
      go_ret
      have hC2 : CS (wq.setCell ⟨g, 1, none⟩ (.int .i64 ((k : Int) + (kk : Int)))) g s (k + kk) false := hC1.goAt (k2 := k + kk) HKK.out
      exact ⟨n, k + kk, false, rfl, HNM.out, hC2, (fun _ => ⟨rfl, HPN.out⟩), (fun h => by cases h), gr_setCell1 hgr1 1 _⟩
    | none =>
      have HPN := Lib.hid hp
      rcases pNum_none hp with hrv | ⟨n, kk, hrv, hmn⟩
      · have HRV : RowKit.Hid (∀ W, Calls Tryd.prog 119 #[.string (s.extract k s.size)] W fun e w' => ∃ z : Int, (z != 0) = true ∧ e = .returned (.tuple #[.int .u64 0, .int .i64 0, .int .i64 z]) ∧ W = w') := Lib.hid fun W => (HRR W hxs).mono (by
          rintro e w' ⟨h1, rfl⟩
          rcases h1 with ⟨n', k', h2, rfl⟩ | ⟨h2, z, hz, rfl⟩
          · rw [hrv] at h2; cases h2
          · exact ⟨z, by rw [bne_iff_ne]; exact hz, rfl, rfl⟩)
        clear h hm HRR hxs hlen hp hrv hl
        go_enter Tryd.func58, Tryd.ntmps58
        go_upto_region 3 with fail
        go_region_held3 (fun W => W.cell? ⟨g, 0, none⟩ = some (.string s) ∧ W.cell? ⟨g, 1, none⟩ = some (.int .i64 k) ∧ Below w.heap.size w W)
          (first
            | exact hS0
            | assumption)
          (first
            | (go_at_call 119; (with_reducible refine (HRV.out _).mono ?_); rintro e w9 ⟨z, hz, rfl, rfl⟩))
        have hC1 : CS w.drew g s k false := HC.out.mono (Below.refl w.heap.size w).drew
        have hgr1 : w.grownBy w.drew (some g) := gr_of_below (Below.refl w.heap.size w).drew _
        generalize w.drew = wq at *
        clear c0 c1 c2 f1 f2
        obtain ⟨d0, d1, d2, e1, e2⟩ := hC1.cells
        go_wp2
        go_ret
        exact ⟨0, k, true, rfl, Nat.zero_le _, hC1.goBad true, (fun h => by cases h), (fun _ => .inr HPN.out), gr_setCell1 hgr1 2 _⟩
      · have HRV : RowKit.Hid (∀ W, Calls Tryd.prog 119 #[.string (s.extract k s.size)] W fun e w' => e = .returned (.tuple #[.int .u64 n, .int .i64 kk, .int .i64 0]) ∧ W = w') := Lib.hid fun W => (HRR W hxs).mono (by
          rintro e w' ⟨h1, rfl⟩
          rcases h1 with ⟨n', k', h2, rfl⟩ | ⟨h2, _⟩
          · rw [hrv] at h2
            injection h2 with h2
            injection h2 with h2 h3
            subst h2 h3
            exact ⟨rfl, rfl⟩
          · rw [hrv] at h2; cases h2)
        have hni : (most : Int) < (n : Int) := by omega
        clear h hm HRR hxs hlen hp hrv hl hmn
        go_enter Tryd.func58, Tryd.ntmps58
        go_upto_region 3 with fail
        go_region_held3 (fun W => W.cell? ⟨g, 0, none⟩ = some (.string s) ∧ W.cell? ⟨g, 1, none⟩ = some (.int .i64 k) ∧ Below w.heap.size w W)
          (first
            | exact hS0
            | assumption)
          (first
            | (go_at_call 119; (with_reducible refine (HRV.out _).mono ?_); rintro e w9 ⟨rfl, rfl⟩))
        have hC1 : CS w.drew g s k false := HC.out.mono (Below.refl w.heap.size w).drew
        have hgr1 : w.grownBy w.drew (some g) := gr_of_below (Below.refl w.heap.size w).drew _
        generalize w.drew = wq at *
        clear c0 c1 c2 f1 f2
        obtain ⟨d0, d1, d2, e1, e2⟩ := hC1.cells
        go_wp2
        go_ret
        exact ⟨0, k, true, rfl, Nat.zero_le _, hC1.goBad true, (fun h => by cases h), (fun _ => .inr HPN.out), gr_setCell1 hgr1 2 _⟩

/-- What 'loc' tells. -/
def LocP (g : Nat) (s : ByteArray) (k : Nat) (bad : Bool) (w : World) (e : Ending) (w' : World) : Prop :=
  ∃ (t : ByteArray) (k2 : Nat) (b2 : Bool), e = .returned (.string t) ∧ t.size ≤ 6 ∧ CS w' g s k2 b2 ∧ (b2 = false → bad = false ∧ pLoc ((toL s).drop k) = some (toL t, (toL s).drop k2)) ∧ (b2 = true → bad = true ∨ pLoc ((toL s).drop k) = none) ∧ w.grownBy w' (some g)

theorem pLoc_at {l r : List UInt8} {n : Nat} (h : pFix 4 l = some (n, r)) (hn : n < 308915776) : pLoc l = some (txt (turnN n), r) := by
  unfold pLoc; rw [h]; exact if_pos hn
theorem pLoc_far {l r : List UInt8} {n : Nat} (h : pFix 4 l = some (n, r)) (hn : 308915776 ≤ n) : pLoc l = none := by
  unfold pLoc; rw [h]; exact if_neg (by omega)
theorem pLoc_short {l : List UInt8} (h : pFix 4 l = none) : pLoc l = none := by
  unfold pLoc; rw [h]

set_option maxHeartbeats 16000000 in
theorem loc_any (g : Nat) (s : ByteArray) (k : Nat) (bad : Bool) (w : World) (h : CS w g s k bad) (hl : s.size ≤ 1000000) :
    Calls Tryd.prog 59 #[.pointer (some ⟨g, 0, none⟩)] w fun e w' => LocP g s k bad w e w' := by
  have HW : RowKit.Hid (Calls Tryd.prog 83 #[.pointer (some ⟨g, 0, none⟩), .int .i64 4] w fun e w' => WideP g s k 4 bad w e w') := Lib.hid (wide_any g s k 4 bad w h hl (by omega))
  have HT := Lib.hid fun (n : Nat) W (hn : n < 308915776) => rtext_yes n W hn
  have HT2 := Lib.hid fun (n : Nat) W (hn : 308915776 ≤ n) => rtext_no (n : Int) W (.inr (by omega))
  clear h hl
  go_enter Tryd.func59, Tryd.ntmps59
  go_upto_region 2 with (first
    | (go_at_call 83; (with_reducible refine HW.out.mono ?_); rintro e w1 ⟨x, k2, b2, rfl, hx, hc, hf, ht, hg⟩; rcases Nat.lt_or_ge x 308915776 with hxl | hxl)
    | (go_at_call 120; (with_reducible refine (HT.out x _ hxl).mono ?_); rintro e w2 ⟨rfl, hb2⟩; obtain ⟨d0, d1, d2, e1, e2⟩ := (hc.mono hb2).cells)
    | (go_at_call 120; (with_reducible refine (HT2.out x _ hxl).mono ?_); rintro e w2 ⟨rfl, hb2⟩; obtain ⟨d0, d1, d2, e1, e2⟩ := (hc.mono hb2).cells))
  · have HC2 := Lib.hid (hc.mono hb2)
    have HF := Lib.hid hf
    have HTT := Lib.hid ht
    have HG : RowKit.Hid (w.grownBy w2 (some g)) := Lib.hid (gby_trans hg (gr_of_below hb2 _))
    have HTX : RowKit.Hid (toL (⟨(txt (turnN x)).toArray⟩ : ByteArray) = txt (turnN x)) := Lib.hid (strA_toL _)
    have HTS : RowKit.Hid ((⟨(txt (turnN x)).toArray⟩ : ByteArray).size ≤ 6) := Lib.hid (Nat.le_refl _)
    generalize htx : (⟨(txt (turnN x)).toArray⟩ : ByteArray) = tx at *
    have HXL := Lib.hid hxl
    clear hc hb2 hf ht hg hx hxl htx d0 d1 e1
    cases b2 with
    | true =>
      go_wp2
      go_ret
      exact ⟨tx, k2, true, rfl, HTS.out, HC2.out.goBad true, (fun h => by cases h), (fun _ => by
        rcases HTT.out (by first | rfl | trivial) with h1 | h1
        · exact .inl h1
        · exact .inr (pLoc_short h1)), gr_setCell1 HG.out 2 _⟩
    | false =>
      go_wp2
      go_ret
      exact ⟨tx, k2, false, rfl, HTS.out, HC2.out.goBad false, (fun h => by
        obtain ⟨h1, h2⟩ := HF.out (by first | rfl | trivial)
        exact ⟨h1, by rw [HTX.out]; exact pLoc_at h2 HXL.out⟩), (fun h => by cases h), gr_setCell1 HG.out 2 _⟩
  · have HC2 := Lib.hid (hc.mono hb2)
    have HF := Lib.hid hf
    have HTT := Lib.hid ht
    have HG : RowKit.Hid (w.grownBy w2 (some g)) := Lib.hid (gby_trans hg (gr_of_below hb2 _))
    have HXL := Lib.hid hxl
    clear hc hb2 hf ht hg hx hxl d0 d1 e1
    cases b2 with
    | true =>
      go_wp2
      go_ret
      exact ⟨⟨#[]⟩, k2, true, rfl, Nat.zero_le _, HC2.out.goBad true, (fun h => by cases h), (fun _ => by
        rcases HTT.out (by first | rfl | trivial) with h1 | h1
        · exact .inl h1
        · exact .inr (pLoc_short h1)), gr_setCell1 HG.out 2 _⟩
    | false =>
      go_wp2
      go_ret
      exact ⟨⟨#[]⟩, k2, true, rfl, Nat.zero_le _, HC2.out.goBad true, (fun h => by cases h), (fun _ => by
        obtain ⟨h1, h2⟩ := HF.out (by first | rfl | trivial)
        exact .inr (pLoc_far h2 HXL.out)), gr_setCell1 HG.out 2 _⟩
end Go.Proofs.YtjahkaidinahpaaDoor
namespace Go.Proofs.YtjahkaidinahpaaDoor
open Go.RowKit Go.ChangeMaps
set_option linter.unusedSimpArgs false
set_option linter.unusedVariables false
set_option maxRecDepth 20000

/-- The first byte. -/
def FirstP (g : Nat) (s : ByteArray) (c : UInt8) (w : World) (e : Ending) (w' : World) : Prop :=
  ∃ (x k2 : Nat) (b2 : Bool), e = .returned (.int .i64 x) ∧ CS w' g s k2 b2 ∧ (x = c.toNat → toL s = c :: (toL s).drop k2) ∧ (x ≠ c.toNat → ∀ r, toL s ≠ c :: r) ∧ w.grownBy w' (some g)

theorem first_any (g : Nat) (s : ByteArray) (c : UInt8) (w : World) (h : CS w g s 0 false) (hl : s.size ≤ 1000000) (hc0 : c.toNat ≠ 0) :
    Calls Tryd.prog 57 #[.pointer (some ⟨g, 0, none⟩)] w fun e w' => FirstP g s c w e w' := by
  by_cases hs : 0 < s.size
  · have hd : toL s = (toL s).getD 0 0 :: (toL s).drop 1 := by
      have := drop_cons (toL s) 0 (by rw [size_toL]; exact hs)
      rwa [List.drop_zero] at this
    refine (byte_yes g s 0 w h hl hs).mono ?_
    rintro e w' ⟨rfl, h1, h2⟩
    refine ⟨_, 1, false, rfl, h1, fun hx => ?_, fun hx r hr => ?_, h2⟩
    · have : (toL s).getD 0 0 = c := UInt8.toNat_inj.1 hx
      rw [← this]; exact hd
    · rw [hr] at hx
      exact hx rfl
  · refine (byte_no g s 0 false w h hl (.inr (by omega))).mono ?_
    rintro e w' ⟨rfl, h1, h2⟩
    have hn : toL s = [] := List.length_eq_zero_iff.1 (by rw [size_toL]; omega)
    refine ⟨0, 0, true, rfl, h1, fun hx => absurd hx.symm hc0, fun _ r hr => ?_, h2⟩
    rw [hn] at hr; cases hr

theorem stP_form {o : Option (List UInt8)} {e : Ending} (h : stP o e) : ∃ (t : ByteArray) (b : Bool), e = .returned (.tuple #[.string t, .bool b]) ∧ ((∃ bs, o = some bs ∧ t = strA bs ∧ b = true) ∨ (o = none ∧ t = ⟨#[]⟩ ∧ b = false)) := by
  rcases h with ⟨bs, h1, h2⟩ | ⟨h1, h2⟩
  · exact ⟨_, _, h2, .inl ⟨bs, h1, rfl, rfl⟩⟩
  · exact ⟨_, _, h2, .inr ⟨h1, rfl, rfl⟩⟩

/-- Texts and yes, or no. -/
def rliP (B : Nat) (o : Option (List (List UInt8))) (e : Ending) (w : World) : Prop :=
  (∃ l v, o = some (l.map toL) ∧ e = .returned (.tuple #[v, .bool true]) ∧ OwnL w B v l) ∨ (o = none ∧ e = .returned (.tuple #[.slice none 0 0, .bool false]))

theorem bel_gr {w0 w w' : World} {g : Nat} (h : Below w0.heap.size w0 w) (hg : w.grownBy w' (some g)) (hlow : w0.heap.size ≤ g) : Below w0.heap.size w0 w' := h.grown hg h.size fun k hk => by injection hk with hk; omega

set_option maxHeartbeats 16000000 in
theorem refReadQueue_any (s : ByteArray) (w : World) (hl : s.size ≤ 20000) :
    Calls Tryd.prog 24 #[.string s] w fun e w' => rliP w.heap.size (readQ (toL s)) e w' ∧ Below w.heap.size w w' := by
  have HC1 : RowKit.Hid (CS (w.alloc (.cells #[.string s, .int .i64 0, .bool false] 125)) w.heap.size s 0 false) := Lib.hid ⟨Blk.new w 125 [.string s, .int .i64 0, .bool false], Nat.zero_le _⟩
  have HB1 : RowKit.Hid (Below w.heap.size w (w.alloc (.cells #[.string s, .int .i64 0, .bool false] 125))) := Lib.hid ((Below.refl _ _).alloc (Nat.le_refl _) _)
  have HFI : RowKit.Hid (Calls Tryd.prog 57 #[.pointer (some ⟨w.heap.size, 0, none⟩)] (w.alloc (.cells #[.string s, .int .i64 0, .bool false] 125)) fun e w' => FirstP w.heap.size s 81 (w.alloc (.cells #[.string s, .int .i64 0, .bool false] 125)) e w') := Lib.hid (first_any w.heap.size s 81 _ HC1.out (by omega) (by decide))
  have HNU : RowKit.Hid (∀ W k bad, CS W w.heap.size s k bad → Calls Tryd.prog 58 #[.pointer (some ⟨w.heap.size, 0, none⟩), .int .i64 40] W fun e w' => NumP w.heap.size s k 40 bad W e w') := Lib.hid fun W k bad h => num_any w.heap.size s k 40 bad W h (by omega) (by omega)
  have HLO : RowKit.Hid (∀ W k bad, CS W w.heap.size s k bad → Calls Tryd.prog 59 #[.pointer (some ⟨w.heap.size, 0, none⟩)] W fun e w' => LocP w.heap.size s k bad W e w') := Lib.hid fun W k bad h => loc_any w.heap.size s k bad W h (by omega)
  clear hl
  go_enter Tryd.func24, Tryd.ntmps24
  go_upto_region 3 with (first
    | (go_at_call 57; (with_reducible refine HFI.out.mono ?_); rintro e w2 ⟨x, k2, b2, rfl, hc2, hx1, hx2, hg2⟩; obtain ⟨d0, d1, d2, e1, e2⟩ := hc2.cells))
  have HC3 : RowKit.Hid (CS (w2.setCell ⟨w.heap.size, 2, none⟩ (.bool ((x : Int) != 81))) w.heap.size s k2 ((x : Int) != 81)) := Lib.hid (hc2.goBad _)
  have HG3 : RowKit.Hid (Below w.heap.size w (w2.setCell ⟨w.heap.size, 2, none⟩ (.bool ((x : Int) != 81)))) := Lib.hid ((bel_gr HB1.out hg2 (Nat.le_refl _)).setCell (p := ⟨w.heap.size, 2, none⟩) (Nat.le_refl _) _)
  have hz3 : w.heap.size + 1 ≤ (w2.setCell ⟨w.heap.size, 2, none⟩ (.bool ((x : Int) != 81))).heap.size := by have := hg2.size; simp [World.setCell] at this ⊢; omega
  have HX1 : RowKit.Hid (((x : Int) != 81) = false → toL s = 81 :: (toL s).drop k2) := Lib.hid fun h => hx1 (by rw [bne_eq_false_iff_eq] at h; show x = 81; omega)
  have HX2 : RowKit.Hid (((x : Int) != 81) = true → ∀ r, toL s ≠ 81 :: r) := Lib.hid fun h => hx2 (by rw [bne_iff_ne] at h; show x ≠ 81; omega)
  generalize w2.setCell ⟨w.heap.size, 2, none⟩ (.bool ((x : Int) != 81)) = w3 at *
  generalize ((x : Int) != 81) = bad1 at *
  clear hc2 hx1 hx2 hg2 d0 d1 d2 e1 e2 HFI HC1 HB1
  go_wp2_with (first
    | (go_at_call 58; (with_reducible refine (HNU.out _ _ _ HC3.out).mono ?_); rintro e w4 ⟨n, k4, b4, rfl, hn, hc4, hf4, ht4, hg4⟩))
  have HQ0 : RowKit.Hid (b4 = false → pQueue (toL s) = ((pLocs n ((toL s).drop k4)).map fun x => x.1)) := Lib.hid fun h => by
    obtain ⟨h1, h2⟩ := hf4 h
    exact pQueue_at (HX1.out h1) h2
  have HQ1 : RowKit.Hid (b4 = true → pQueue (toL s) = none) := Lib.hid fun h => by
    cases hb : bad1 with
    | true => exact pQueue_no (HX2.out hb)
    | false =>
      rcases ht4 h with h1 | h1
      · rw [hb] at h1; cases h1
      · exact pQueue_num (HX1.out hb) h1
  have HG4 := Lib.hid (bel_gr HG3.out hg4 (Nat.le_refl _))
  have hz4 : w.heap.size + 1 ≤ w4.heap.size := Nat.le_trans hz3 hg4.size
  clear hf4 ht4 HNU HX1 HX2 hg4
  go_loopg [5, 7] n (fun g0 s5 s7 wr => ∃ (i : Nat) (lst : List ByteArray) (kk : Nat) (b2 : Bool), i ≤ n ∧ g0 = n - i ∧ s7 = .int .i64 (i : Int) ∧ OwnL wr (w.heap.size + 1) s5 lst ∧ lst.length = i ∧ (∀ s ∈ lst, s.size ≤ maxLen) ∧ CS wr w.heap.size s kk b2 ∧ (b2 = false → b4 = false ∧ pLocs i ((toL s).drop k4) = some (lst.map toL, (toL s).drop kk)) ∧ (b2 = true → pQueue (toL s) = none) ∧ w.heap.size + 1 ≤ wr.heap.size ∧ Below w.heap.size w wr)
  case atStart => exact ⟨0, [], k4, b4, Nat.zero_le _, rfl, rfl, OwnL.nil _ _, rfl, (fun s h => by cases h), hc4, (fun h => ⟨h, rfl⟩), HQ1.out, hz4, HG4.out⟩
  case round =>
    obtain ⟨i, lst, kk, b2, hin, rfl, rfl, ho, hll, hsz, hc, hf, ht, hz, hbw⟩ := hrel
    have HO := Lib.hid ho
    have HLL := Lib.hid hll
    have HSZ := Lib.hid hsz
    have HF := Lib.hid hf
    have HT := Lib.hid ht
    have HC := Lib.hid hc
    have HBW := Lib.hid hbw
    obtain ⟨d0, d1, d2, e1, e2⟩ := hc.cells
    clear ho hll hsz hf ht hc hbw
    go_upto_region 6 with fail
    go_cut [30] from 21 to 37 (fun s30 wx => s30 = .bool (decide (i < n) && !b2) ∧ wr = wx)
    case first =>
      by_cases h1 : i < n
      · have h1i : (i : Int) < (n : Int) := by omega
        have HD := Lib.hid (decide_eq_true h1)
        clear h1
        cases b2
        · go_wp2
          go_meet
          exact ⟨by rw [HD.out]; rfl, rfl⟩
        · go_wp2
          go_meet
          exact ⟨by rw [HD.out]; rfl, rfl⟩
      · have h1i : ¬ (i : Int) < (n : Int) := by omega
        have HD := Lib.hid (decide_eq_false h1)
        clear h1
        go_wp2
        go_meet
        exact ⟨by rw [HD.out]; rfl, rfl⟩
    case rest =>
      obtain ⟨rfl, rfl⟩ := hcut
      cases hd : (decide (i < n) && !b2) with
      | true =>
        rw [Bool.and_eq_true] at hd
        have hlt : i < n := of_decide_eq_true hd.1
        have hb2 : b2 = false := by simpa using hd.2
        subst hb2
        have hl1 : lst.length + 1 ≤ 1000000 := by rw [HLL.out]; omega
        clear hd d0 d1 d2 e1 e2
        go_wp2_with (first
          | (go_at_call 59; (with_reducible refine (HLO.out _ _ _ HC.out).mono ?_); rintro e w5 ⟨t, k5, b5, rfl, ht6, hc5, hf5, ht5, hg5⟩; have hz5 : w.heap.size + 1 ≤ w5.heap.size := Nat.le_trans hz hg5.size; have HO5 := Lib.hid (HO.out.kept2 hg5 (Nat.lt_succ_self _)))
          | (at_builtin; refine wpList_push_str rfl _ _ rfl (w.heap.size + 1) u5 lst t rfl HO5.out rfl hl1 hz5 ?_; intro v6 w6 ho6 hb6))
        have hc6 : CS w6 w.heap.size s k5 b5 := ⟨hc5.1.keep hb6 (Nat.lt_succ_self _), hc5.2⟩
        have hz6 := Nat.le_trans hz5 hb6.size
        have hb66 : Below w.heap.size w w6 := (bel_gr HBW.out hg5 (Nat.le_refl _)).trans (below_le hb6 (Nat.le_succ _))
        have HF6 : RowKit.Hid (b5 = false → b4 = false ∧ pLocs (i + 1) ((toL s).drop k4) = some ((lst ++ [t]).map toL, (toL s).drop k5)) := Lib.hid fun h => by
          obtain ⟨_, h2⟩ := hf5 h
          obtain ⟨h3, h4⟩ := HF.out (by first | rfl | trivial)
          exact ⟨h3, by rw [pLocs_on h4 h2, List.map_append]; rfl⟩
        have HT6 : RowKit.Hid (b5 = true → pQueue (toL s) = none) := Lib.hid fun h => by
          rcases ht5 h with h1 | h1
          · cases h1
          · obtain ⟨h3, h4⟩ := HF.out (by first | rfl | trivial)
            rw [HQ0.out h3, pLocs_none (pLocs_off h4 h1) (by omega : i + 1 ≤ n)]
            rfl
        go_roundg (n - (i + 1))
        case measure => omega
        case rel => exact ⟨i + 1, lst ++ [t], k5, b5, by omega, rfl, by go_num, ho6, by rw [List.length_append, HLL.out]; rfl, (fun t' ht => by
          rcases List.mem_append.1 ht with h1 | h1
          · exact HSZ.out t' h1
          · rw [List.mem_singleton.1 h1]; unfold maxLen; omega), hc6, HF6.out, HT6.out, hz6, hb66⟩
      | false =>
        have HIN : RowKit.Hid (b2 = false → i = n) := Lib.hid fun h => by
          rw [h] at hd
          simp at hd
          omega
        have HQU := Lib.hid (refQueue_any u5 lst wr HO.out.has HSZ.out)
        have HPB : RowKit.Hid (b2 = false → pQueue (toL s) = some (lst.map toL)) := Lib.hid fun h => by
          obtain ⟨h1, h2⟩ := HF.out h
          have := HIN.out h
          rw [HQ0.out h1, ← this, h2]
          rfl
        have HOW : RowKit.Hid (∀ W, Below wr.heap.size wr W → OwnL W w.heap.size u5 lst) := Lib.hid fun W h => (HO.out.mono h).low (by omega)
        clear hd d0 d1 d2 e1 e2
        cases b2 with
        | true =>
          have HNO := Lib.hid (readQ_none (HT.out (by first | rfl | trivial)))
          go_wp2_with (first
            | (go_at_call 19; (with_reducible refine HQU.out.mono ?_); rintro e w7 ⟨hst, hb7⟩; obtain ⟨t7, b7, rfl, h7⟩ := stP_form hst; obtain ⟨d0, d1, d2, e1, e2⟩ := (HC.out.mono hb7).cells))
          go_ret2
          exact ⟨.inr ⟨HNO.out, rfl⟩, below_low HBW.out HBW.out.size hb7⟩
        | false =>
          have HPB2 := Lib.hid (HPB.out (by first | rfl | trivial))
          go_upto_region 10 with (first
            | (go_at_call 19; (with_reducible refine HQU.out.mono ?_); rintro e w7 ⟨hst, hb7⟩; obtain ⟨t7, b7, rfl, h7⟩ := stP_form hst; obtain ⟨d0, d1, d2, e1, e2⟩ := (HC.out.mono hb7).cells))
          rcases h7 with ⟨bs, h1, rfl, rfl⟩ | ⟨h1, rfl, rfl⟩
          · by_cases hbb : bs = toL s
            · have HY := Lib.hid (readQ_some HPB2.out (by rw [h1, hbb]))
              have hss : strA bs = s := by rw [hbb, strA_of]
              have hks : (s.toList == s.toList) = true := by simp
              rw [hss]
              clear h1 hbb hss hst
              go_wp2
              go_ret2
              exact ⟨.inl ⟨lst, _, HY.out, rfl, HOW.out _ hb7⟩, below_low HBW.out HBW.out.size hb7⟩
            · have HY := Lib.hid (readQ_other HPB2.out (by rw [h1]; exact fun e => hbb (by injection e with e)))
              have hks : ((strA bs).toList == s.toList) = false := by rw [beq_eq_false_iff_ne]; exact fun h => hbb (by rw [← toList_inj h, strA_toL])
              generalize strA bs = S9 at *
              clear h1 hbb hst
              go_wp2
              go_ret2
              exact ⟨.inr ⟨HY.out, rfl⟩, below_low HBW.out HBW.out.size hb7⟩
          · have HY := Lib.hid (readQ_other HPB2.out (by rw [h1]; exact fun e => by cases e))
            clear h1 hst
            go_wp2
            go_ret2
            exact ⟨.inr ⟨HY.out, rfl⟩, below_low HBW.out HBW.out.size hb7⟩

/-- A count and yes, or no. -/
def rctP (o : Option (Nat × Nat)) (e : Ending) : Prop :=
  (∃ n m : Nat, o = some (n, m) ∧ e = .returned (.tuple #[.int .i64 n, .int .i64 m, .bool true])) ∨ (o = none ∧ e = .returned (.tuple #[.int .i64 0, .int .i64 0, .bool false]))

set_option maxHeartbeats 16000000 in
theorem refReadCount_any (s : ByteArray) (w : World) (hl : s.size ≤ 20000) :
    Calls Tryd.prog 27 #[.string s] w fun e w' => rctP (readCt (toL s)) e ∧ Below w.heap.size w w' := by
  have HC1 : RowKit.Hid (CS (w.alloc (.cells #[.string s, .int .i64 0, .bool false] 125)) w.heap.size s 0 false) := Lib.hid ⟨Blk.new w 125 [.string s, .int .i64 0, .bool false], Nat.zero_le _⟩
  have HB1 : RowKit.Hid (Below w.heap.size w (w.alloc (.cells #[.string s, .int .i64 0, .bool false] 125))) := Lib.hid ((Below.refl _ _).alloc (Nat.le_refl _) _)
  have HFI : RowKit.Hid (Calls Tryd.prog 57 #[.pointer (some ⟨w.heap.size, 0, none⟩)] (w.alloc (.cells #[.string s, .int .i64 0, .bool false] 125)) fun e w' => FirstP w.heap.size s 67 (w.alloc (.cells #[.string s, .int .i64 0, .bool false] 125)) e w') := Lib.hid (first_any w.heap.size s 67 _ HC1.out (by omega) (by decide))
  have HNU1 : RowKit.Hid (∀ W k bad, CS W w.heap.size s k bad → Calls Tryd.prog 58 #[.pointer (some ⟨w.heap.size, 0, none⟩), .int .i64 308915776] W fun e w' => NumP w.heap.size s k 308915776 bad W e w') := Lib.hid fun W k bad h => num_any w.heap.size s k 308915776 bad W h (by omega) (by omega)
  have HNU2 : RowKit.Hid (∀ W k bad, CS W w.heap.size s k bad → Calls Tryd.prog 58 #[.pointer (some ⟨w.heap.size, 0, none⟩), .int .i64 527039] W fun e w' => NumP w.heap.size s k 527039 bad W e w') := Lib.hid fun W k bad h => num_any w.heap.size s k 527039 bad W h (by omega) (by omega)
  clear hl
  go_enter Tryd.func27, Tryd.ntmps27
  go_upto_region 3 with (first
    | (go_at_call 57; (with_reducible refine HFI.out.mono ?_); rintro e w2 ⟨x, k2, b2, rfl, hc2, hx1, hx2, hg2⟩; obtain ⟨d0, d1, d2, e1, e2⟩ := hc2.cells))
  have HC3 : RowKit.Hid (CS (w2.setCell ⟨w.heap.size, 2, none⟩ (.bool ((x : Int) != 67))) w.heap.size s k2 ((x : Int) != 67)) := Lib.hid (hc2.goBad _)
  have HG3 : RowKit.Hid (Below w.heap.size w (w2.setCell ⟨w.heap.size, 2, none⟩ (.bool ((x : Int) != 67)))) := Lib.hid ((bel_gr HB1.out hg2 (Nat.le_refl _)).setCell (p := ⟨w.heap.size, 2, none⟩) (Nat.le_refl _) _)
  have HX1 : RowKit.Hid (((x : Int) != 67) = false → toL s = 67 :: (toL s).drop k2) := Lib.hid fun h => hx1 (by rw [bne_eq_false_iff_eq] at h; show x = 67; omega)
  have HX2 : RowKit.Hid (((x : Int) != 67) = true → ∀ r, toL s ≠ 67 :: r) := Lib.hid fun h => hx2 (by rw [bne_iff_ne] at h; show x ≠ 67; omega)
  generalize w2.setCell ⟨w.heap.size, 2, none⟩ (.bool ((x : Int) != 67)) = w3 at *
  generalize ((x : Int) != 67) = bad1 at *
  clear hc2 hx1 hx2 hg2 d0 d1 d2 e1 e2 HFI HC1 HB1
  go_upto_region 5 with (first
    | (go_at_call 58; (with_reducible refine (HNU1.out _ _ _ HC3.out).mono ?_); rintro e w4 ⟨n, k4, b4, rfl, hn, hc4, hf4, ht4, hg4⟩)
    | (go_at_call 58; (with_reducible refine (HNU2.out _ _ _ hc4).mono ?_); rintro e w5 ⟨m, k5, b5, rfl, hm, hc5, hf5, ht5, hg5⟩))
  have HT : RowKit.Hid (b5 = true → pCount (toL s) = none) := Lib.hid fun h => by
    cases hbad : bad1 with
    | true => exact pCount_no (HX2.out hbad)
    | false =>
      have hb0 := HX1.out hbad
      cases hb4 : b4 with
      | true =>
        rcases ht4 hb4 with h1 | h1
        · rw [hbad] at h1; cases h1
        · exact pCount_one hb0 h1
      | false =>
        rcases ht5 h with h1 | h1
        · rw [hb4] at h1; cases h1
        · exact pCount_two hb0 (hf4 hb4).2 h1
  have HF : RowKit.Hid (b5 = false → pCount (toL s) = some (n, m)) := Lib.hid fun h => by
    obtain ⟨h1, h2⟩ := hf5 h
    obtain ⟨h3, h4⟩ := hf4 h1
    exact pCount_at (HX1.out h3) h4 h2
  have HBW := Lib.hid (bel_gr (bel_gr HG3.out hg4 (Nat.le_refl _)) hg5 (Nat.le_refl _))
  obtain ⟨d0, d1, d2, e1, e2⟩ := hc5.cells
  have HCC := Lib.hid hc5
  have HOF := Lib.hid (refOfCount_any (n : Int) (m : Int) w5)
  clear hn hc4 hf4 ht4 hg4 hm hc5 hf5 ht5 hg5 HNU1 HNU2 HX1 HX2 HG3 HC3 d0 d1 d2 e1 e2
  cases b5 with
  | true =>
    have HNO := Lib.hid (readCt_none (HT.out (by first | rfl | trivial)))
    go_wp2_with (first
      | (go_at_call 22; (with_reducible refine HOF.out.mono ?_); rintro e w7 ⟨hst, hb7⟩; obtain ⟨t7, b7, rfl, h7⟩ := stP_form hst; obtain ⟨d0, d1, d2, e1, e2⟩ := (HCC.out.mono hb7).cells))
    go_ret3
    exact ⟨.inr ⟨HNO.out, rfl⟩, below_low HBW.out HBW.out.size hb7⟩
  | false =>
    have HPB2 := Lib.hid (HF.out (by first | rfl | trivial))
    go_upto_region 6 with (first
      | (go_at_call 22; (with_reducible refine HOF.out.mono ?_); rintro e w7 ⟨hst, hb7⟩; obtain ⟨t7, b7, rfl, h7⟩ := stP_form hst; obtain ⟨d0, d1, d2, e1, e2⟩ := (HCC.out.mono hb7).cells))
    rcases h7 with ⟨bs, h1, rfl, rfl⟩ | ⟨h1, rfl, rfl⟩
    · by_cases hbb : bs = toL s
      · have HY := Lib.hid (readCt_some HPB2.out (by rw [h1, hbb]))
        have hss : strA bs = s := by rw [hbb, strA_of]
        have hks : (s.toList == s.toList) = true := by simp
        rw [hss]
        clear h1 hbb hss hst
        go_wp2
        go_ret3
        exact ⟨.inl ⟨n, m, HY.out, rfl⟩, below_low HBW.out HBW.out.size hb7⟩
      · have HY := Lib.hid (readCt_other HPB2.out (by rw [h1]; exact fun e => hbb (by injection e with e)))
        have hks : ((strA bs).toList == s.toList) = false := by rw [beq_eq_false_iff_ne]; exact fun h => hbb (by rw [← toList_inj h, strA_toL])
        generalize strA bs = S9 at *
        clear h1 hbb hst
        go_wp2
        go_ret3
        exact ⟨.inr ⟨HY.out, rfl⟩, below_low HBW.out HBW.out.size hb7⟩
    · have HY := Lib.hid (readCt_other HPB2.out (by rw [h1]; exact fun e => by cases e))
      clear h1 hst
      go_wp2
      go_ret3
      exact ⟨.inr ⟨HY.out, rfl⟩, below_low HBW.out HBW.out.size hb7⟩
end Go.Proofs.YtjahkaidinahpaaDoor
