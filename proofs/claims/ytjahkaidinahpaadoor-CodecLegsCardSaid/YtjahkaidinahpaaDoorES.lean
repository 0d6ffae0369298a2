/- The reference's numbers as bytes: Var, Put, number, one, Number, inverse. -/
import Derived.Test.YtjahkaidinahpaaDoorER
namespace Go.Proofs.YtjahkaidinahpaaDoor
open Go.RowKit Go.ChangeMaps
set_option linter.unusedSimpArgs false
set_option linter.unusedVariables false
set_option maxRecDepth 20000

def strA (l : List UInt8) : ByteArray := ⟨l.toArray⟩
theorem strA_toL (l : List UInt8) : toL (strA l) = l := by unfold toL strA; simp
theorem strA_of (s : ByteArray) : strA (toL s) = s := by apply bytes_inj; exact strA_toL _
theorem toL_append (a b : ByteArray) : toL (a ++ b) = toL a ++ toL b := by unfold toL; simp
theorem strA_append (a b : List UInt8) : strA a ++ strA b = strA (a ++ b) := by
  apply toL_inj
  rw [toL_append, strA_toL, strA_toL, strA_toL]
theorem strA_nil (s : ByteArray) : s ++ strA [] = s := by
  apply toL_inj
  rw [toL_append, strA_toL, List.append_nil]
theorem str_assoc (s : ByteArray) (a b : List UInt8) : (s ++ strA a) ++ strA b = s ++ strA (a ++ b) := by
  apply toL_inj
  rw [toL_append, toL_append, toL_append, strA_toL, strA_toL, strA_toL, List.append_assoc]
theorem size_toL (s : ByteArray) : (toL s).length = s.size := by unfold toL; simp
theorem strA_size (l : List UInt8) : (strA l).size = l.length := by rw [← size_toL, strA_toL]
theorem size_app (s : ByteArray) (l : List UInt8) : (s ++ strA l).size = s.size + l.length := by rw [← size_toL, toL_append, List.length_append, size_toL, strA_toL]

theorem one_convI (c : UInt8) (ci : Int) (h : ci = (c.toNat : Int)) (w : World) : (convert 48 9 (.slice (some ⟨w.heap.size, 0, none⟩) 1 1)).run Tryd.prog (w.alloc (.cells #[.int .u8 ci] 5)) = .ok (.string (strA [c])) (w.alloc (.cells #[.int .u8 ci] 5)) := by
  subst h
  exact conv_has (lit_has w c)

set_option maxHeartbeats 8000000 in
theorem refVar_any (s : ByteArray) (n : Nat) (w : World) (hn : n < 18446744073709551616) (hs : s.size ≤ 1000000) :
    Calls Tryd.prog 112 #[.string s, .int .u64 n] w fun e w' => e = .returned (.string (s ++ strA (varL n))) ∧ Below w.heap.size w w' := by
  have HVL : RowKit.Hid ((varL n).length ≤ 10) := Lib.hid (varL_len 9 n (by omega))
  have HS := Lib.hid hs
  go_enter Tryd.func112, Tryd.ntmps112
  go_wp2
  go_loopg [0, 1] (n + 1) (fun g0 s0 s1 wr => ∃ (m : Nat) (cur : List UInt8), m ≤ n ∧ g0 = m + 1 ∧ s0 = .string (s ++ strA cur) ∧ s1 = .int .u64 (m : Int) ∧ cur ++ varL m = varL n ∧ Below w.heap.size w wr)
  case atStart => exact ⟨n, [], Nat.le_refl _, rfl, by rw [strA_nil], rfl, rfl, Below.refl _ _⟩
  case round =>
    obtain ⟨m, cur, hm, rfl, rfl, rfl, he, hbw⟩ := hrel
    have HE := Lib.hid he
    have hcl : cur.length + (varL m).length ≤ 10 := by
      have := congrArg List.length he
      rw [List.length_append] at this
      have := HVL.out
      omega
    have hsz : (s ++ strA cur).size ≤ 1000010 := by rw [size_app]; have := HS.out; omega
    have HAS : RowKit.Hid (∀ x, (s ++ strA cur) ++ strA [x] = s ++ strA (cur ++ [x])) := Lib.hid fun x => str_assoc _ _ _
    generalize s ++ strA cur = S at *
    clear he hs hcl
    by_cases h1 : m < 128
    · have h1i : ¬ (128 : Int) ≤ (m : Int) := by omega
      have HV := Lib.hid (varL_small h1)
      have hcv := one_convI (UInt8.ofNat m) (m : Int) (byte_nat (by omega)).symm wr
      have hw8 : IntKind.u8.wrap (m : Int) = (m : Int) := by simp [IntKind.wrap, IntKind.bits, IntKind.signed]; omega
      have hx1 : (strA [UInt8.ofNat m]).size ≤ 1 := by rw [strA_size]; exact Nat.le_refl _
      have HAS1 := Lib.hid (HAS.out (UInt8.ofNat m))
      generalize UInt8.ofNat m = c1 at *
      generalize strA [c1] = S1 at *
      go_wp2
      go_ret
      exact ⟨by rw [← HE.out, HV.out, ← HAS1.out]; rfl, hbw.alloc hbw.size _⟩
    · have h1i : (128 : Int) ≤ (m : Int) := by omega
      have HV := Lib.hid (varL_big h1)
      have hcv := one_convI (UInt8.ofNat (m % 128 + 128)) ((m : Int) % 128 + 128) (by rw [byte_nat (by omega)]; omega) wr
      have hdiv : (m : Int) / 128 = ((m / 128 : Nat) : Int) := by omega
      have hdm : m / 128 < m := by omega
      have hx1 : (strA [UInt8.ofNat (m % 128 + 128)]).size ≤ 1 := by rw [strA_size]; exact Nat.le_refl _
      have HAS1 := Lib.hid (HAS.out (UInt8.ofNat (m % 128 + 128)))
      generalize UInt8.ofNat (m % 128 + 128) = c1 at *
      generalize hS1 : strA [c1] = S1 at *
      have HD := Lib.hid hdiv
      generalize m / 128 = q at *
      clear hS1
      go_wp2
      go_roundg (q + 1)
      case measure => omega
      case rel => exact ⟨q, cur ++ [c1], by omega, rfl, by rw [HAS1.out], by go_num, by rw [← HE.out, HV.out, List.append_assoc]; rfl, hbw.alloc hbw.size _⟩

set_option maxHeartbeats 8000000 in
theorem refPut_any (s : ByteArray) (n k : Nat) (w : World) (hn : n < 18446744073709551616) (hs : s.size ≤ 1000000) (hk : k ≤ 8) :
    Calls Tryd.prog 50 #[.string s, .int .u64 n, .int .i64 k] w fun e w' => e = .returned (.string (s ++ strA (beL n k))) ∧ Below w.heap.size w w' := by
  have HBL := Lib.hid (beL_len n k)
  go_enter Tryd.func50, Tryd.ntmps50
  go_wp2
  go_loopg [1, 7, 8] k (fun g0 s1 s7 s8 wr => ∃ (i m : Nat) (D : List UInt8), i ≤ k ∧ g0 = k - i ∧ s1 = .int .u64 (m : Int) ∧ s7 = .string (strA D) ∧ s8 = .int .i64 (i : Int) ∧ m < 18446744073709551616 ∧ beL n k = beL m (k - i) ++ D ∧ Below w.heap.size w wr)
  case atStart => exact ⟨0, n, [], Nat.zero_le _, rfl, rfl, rfl, rfl, hn, by rw [List.append_nil]; rfl, Below.refl _ _⟩
  case round =>
    obtain ⟨i, m, D, hi, rfl, rfl, rfl, rfl, hm, he, hbw⟩ := hrel
    have HE := Lib.hid he
    have hDl : D.length ≤ 8 := by
      have := congrArg List.length he
      rw [List.length_append, HBL.out, beL_len] at this
      omega
    clear he
    by_cases hlt : i < k
    · have hii : (i : Int) < (k : Int) := by omega
      have hi8 : (i : Int) < 8 := by omega
      have hcv := one_convI (UInt8.ofNat (m % 256)) ((m : Int) % 256) (by rw [byte_nat (by omega)]; omega) wr
      have hdiv : (m : Int) / 256 = ((m / 256 : Nat) : Int) := by omega
      have hx1 : (strA [UInt8.ofNat (m % 256)]).size ≤ 1 := by rw [strA_size]; exact Nat.le_refl _
      have hxD : (strA D).size ≤ 8 := by rw [strA_size]; exact hDl
      have HAS1 : RowKit.Hid (strA [UInt8.ofNat (m % 256)] ++ strA D = strA (UInt8.ofNat (m % 256) :: D)) := Lib.hid (strA_append _ _)
      have HST : RowKit.Hid (beL m (k - i) = beL (m / 256) (k - (i + 1)) ++ [UInt8.ofNat (m % 256)]) := Lib.hid (by rw [show k - i = (k - (i + 1)) + 1 by omega]; rfl)
      have hwq : IntKind.u64.wrap ((m / 256 : Nat) : Int) = ((m / 256 : Nat) : Int) := by rw [IntKind.wrap_u64]; omega
      have HM : RowKit.Hid (m / 256 < 18446744073709551616) := Lib.hid (by omega)
      generalize UInt8.ofNat (m % 256) = c1 at *
      generalize hS1 : strA [c1] = S1 at *
      generalize hSD : strA D = SD at *
      generalize m / 256 = q at *
      clear hS1 hSD hm hn
      go_wp2
      go_roundg (k - (i + 1))
      case measure => omega
      case rel => exact ⟨i + 1, q, c1 :: D, by omega, rfl, by rfl, by rw [HAS1.out], by go_num, HM.out, by rw [HE.out, HST.out, List.append_assoc]; rfl, hbw.alloc hbw.size _⟩
    · have hik : i = k := by omega
      subst hik
      have hii : ¬ (i : Int) < (i : Int) := by omega
      have hDe : RowKit.Hid (beL n i = D) := Lib.hid (by rw [HE.out, Nat.sub_self]; rfl)
      have hxD : (strA D).size ≤ 8 := by rw [strA_size]; exact hDl
      have HSD : RowKit.Hid (s ++ strA (beL n i) = s ++ strA D) := Lib.hid (by rw [hDe.out])
      clear hm hn hDe
      generalize strA D = SD at *
      go_wp2
      go_ret
      exact ⟨by rw [HSD.out]; rfl, hbw⟩

theorem refNumber_any (s : ByteArray) (n : Int) (w : World) (h0 : 0 ≤ n) (hn : n < 9223372036854775808) (hs : s.size ≤ 1000000) :
    Calls Tryd.prog 47 #[.string s, .int .i64 n] w fun e w' => e = .returned (.string (s ++ strA (varL n.toNat))) ∧ Below w.heap.size w w' := by
  obtain ⟨m, rfl⟩ := Int.eq_ofNat_of_zero_le h0
  have HC := Lib.hid fun W => refVar_any s m W (by omega) hs
  have hw : IntKind.u64.wrap (m : Int) = (m : Int) := by rw [IntKind.wrap_u64]; omega
  rw [Int.toNat_natCast]
  clear h0 hn hs
  go_enter Tryd.func47, Tryd.ntmps47
  go_wp2_with (first
    | (go_at_call 112; (with_reducible refine (HC.out _).mono ?_); rintro e w1 ⟨rfl, hb1⟩))
  go_ret
  exact ⟨rfl, hb1⟩

theorem refOne_any (c : UInt8) (w : World) :
    Calls Tryd.prog 48 #[.int .u8 c.toNat] w fun e w' => e = .returned (.string (strA [c])) ∧ Below w.heap.size w w' := by
  have hcv := one_convI c (c.toNat : Int) rfl w
  generalize strA [c] = S at *
  go_enter Tryd.func48, Tryd.ntmps48
  go_wp2
  go_ret
  exact ⟨rfl, (Below.refl _ _).alloc (Nat.le_refl _) _⟩

theorem refInverse_any (w : World) : Calls Tryd.prog 114 #[] w fun e w' => e = .returned (.int .u64 76133565) ∧ w = w' := by
  go_enter Tryd.func114, Tryd.ntmps114
  go_wp2
  refine wp_loop_rounds 29 ?_
  iterate 29 (rw [rounds_succ]; go_wp2)
  go_ret
  exact ⟨rfl, rfl⟩
end Go.Proofs.YtjahkaidinahpaaDoor
