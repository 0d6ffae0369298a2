/- The reference's numbers as bytes: Var, Put, number, one, Number, inverse. The reference's Number, Queue, OfCount. The reference's ReadVar; the cursor. The cursor's num, loc. The reference's ReadQueue, ReadCount. -/
import Derived.Test.YtofomopmmopflaaGreatDoorMA
import Derived.Test.YtofomopmmopflaaGreatDoorMB
import Derived.Test.YtofomopmmopflaaGreatDoorRows
import Derived.WalkKit
import Derived.WalkSpells
import Derived.WalkLawsBesides
import Derived.Lib.ConvBytes
import Derived.Lib.Hide
import Derived.Lib.SliceRun
import Derived.IntWalk
import Derived.BigQuiet
import Derived.Deep.QuietTactic
import Derived.Deep.RegionWith
import Derived.Deep.RegionHeld3
import Derived.Deep.LoopGhost
import Derived.Deep.CutRange
import Derived.Deep.CutBlock
import Derived.Deep.MidRow
import Derived.Laws.OwnMore
import Derived.OwnWalk
import Derived.Laws.AppendOwnNone
import Derived.Laws.Rows
import Derived.Laws.MakeOwn
import Derived.Laws.CopyOwn
import Derived.Laws.BitsAllLaws
import Derived.DeepKeys5
import Derived.Maps.OwnOps
import Derived.Handy
namespace Go.Proofs.YtofomopmmopflaaGreatDoor
open Go.RowKit Go.ChangeMaps
set_option linter.unusedSimpArgs false
set_option linter.unusedVariables false
set_option maxRecDepth 20000

def strA (l : List UInt8) : ByteArray := ⟨l.toArray⟩
theorem strA_toL (l : List UInt8) : toL (strA l) = l := by unfold toL strA; simp
theorem strA_of (s : ByteArray) : strA (toL s) = s := by apply bytes_inj; exact strA_toL _
theorem toL_append (a b : ByteArray) : toL (a ++ b) = toL a ++ toL b := by unfold toL; simp
theorem strA_append (a b : List UInt8) : strA a ++ strA b = strA (a ++ b) := by
  apply toL_inj
  rw [toL_append, strA_toL, strA_toL, strA_toL]
theorem strA_nil (s : ByteArray) : s ++ strA [] = s := by
  apply toL_inj
  rw [toL_append, strA_toL, List.append_nil]
theorem str_assoc (s : ByteArray) (a b : List UInt8) : (s ++ strA a) ++ strA b = s ++ strA (a ++ b) := by
  apply toL_inj
  rw [toL_append, toL_append, toL_append, strA_toL, strA_toL, strA_toL, List.append_assoc]
theorem size_toL (s : ByteArray) : (toL s).length = s.size := by unfold toL; simp
theorem strA_size (l : List UInt8) : (strA l).size = l.length := by rw [← size_toL, strA_toL]
theorem size_app (s : ByteArray) (l : List UInt8) : (s ++ strA l).size = s.size + l.length := by rw [← size_toL, toL_append, List.length_append, size_toL, strA_toL]

theorem one_convI (c : UInt8) (ci : Int) (h : ci = (c.toNat : Int)) (w : World) : (convert 30 9 (.slice (some ⟨w.heap.size, 0, none⟩) 1 1)).run Tryz.prog (w.alloc (.cells #[.int .u8 ci] 5)) = .ok (.string (strA [c])) (w.alloc (.cells #[.int .u8 ci] 5)) := by
  subst h
  exact conv_has (lit_has w c)

set_option maxHeartbeats 8000000 in
theorem refVar_any (s : ByteArray) (n : Nat) (w : World) (hn : n < 18446744073709551616) (hs : s.size ≤ 1000000) :
    Calls Tryz.prog 65 #[.string s, .int .u64 n] w fun e w' => e = .returned (.string (s ++ strA (varL n))) ∧ Below w.heap.size w w' := by
  have HVL : RowKit.Hid ((varL n).length ≤ 10) := Lib.hid (varL_len 9 n (by omega))
  have HS := Lib.hid hs
  go_enter Tryz.func65, Tryz.ntmps65
  go_wp2
  go_loopg [0, 1] (n + 1) (fun g0 s0 s1 wr => ∃ (m : Nat) (cur : List UInt8), m ≤ n ∧ g0 = m + 1 ∧ s0 = .string (s ++ strA cur) ∧ s1 = .int .u64 (m : Int) ∧ cur ++ varL m = varL n ∧ Below w.heap.size w wr)
  case atStart => exact ⟨n, [], Nat.le_refl _, rfl, by rw [strA_nil], rfl, rfl, Below.refl _ _⟩
  case round =>
    obtain ⟨m, cur, hm, rfl, rfl, rfl, he, hbw⟩ := hrel
    have HE := Lib.hid he
    have hcl : cur.length + (varL m).length ≤ 10 := by
      have := congrArg List.length he
      rw [List.length_append] at this
      have := HVL.out
      omega
    have hsz : (s ++ strA cur).size ≤ 1000010 := by rw [size_app]; have := HS.out; omega
    have HAS : RowKit.Hid (∀ x, (s ++ strA cur) ++ strA [x] = s ++ strA (cur ++ [x])) := Lib.hid fun x => str_assoc _ _ _
    generalize s ++ strA cur = S at *
    clear he hs hcl
    by_cases h1 : m < 128
    · have h1i : ¬ (128 : Int) ≤ (m : Int) := by omega
      have HV := Lib.hid (varL_small h1)
      have hcv := one_convI (UInt8.ofNat m) (m : Int) (byte_nat (by omega)).symm wr
      have hw8 : IntKind.u8.wrap (m : Int) = (m : Int) := by simp [IntKind.wrap, IntKind.bits, IntKind.signed]; omega
      have hx1 : (strA [UInt8.ofNat m]).size ≤ 1 := by rw [strA_size]; exact Nat.le_refl _
      have HAS1 := Lib.hid (HAS.out (UInt8.ofNat m))
      generalize UInt8.ofNat m = c1 at *
      generalize strA [c1] = S1 at *
      go_wp2
      go_ret
      exact ⟨by rw [← HE.out, HV.out, ← HAS1.out]; rfl, hbw.alloc hbw.size _⟩
    · have h1i : (128 : Int) ≤ (m : Int) := by omega
      have HV := Lib.hid (varL_big h1)
      have hcv := one_convI (UInt8.ofNat (m % 128 + 128)) ((m : Int) % 128 + 128) (by rw [byte_nat (by omega)]; omega) wr
      have hdiv : (m : Int) / 128 = ((m / 128 : Nat) : Int) := by omega
      have hdm : m / 128 < m := by omega
      have hx1 : (strA [UInt8.ofNat (m % 128 + 128)]).size ≤ 1 := by rw [strA_size]; exact Nat.le_refl _
      have HAS1 := Lib.hid (HAS.out (UInt8.ofNat (m % 128 + 128)))
      generalize UInt8.ofNat (m % 128 + 128) = c1 at *
      generalize hS1 : strA [c1] = S1 at *
      have HD := Lib.hid hdiv
      generalize m / 128 = q at *
      clear hS1
      go_wp2
      go_roundg (q + 1)
      case measure => omega
      case rel => exact ⟨q, cur ++ [c1], by omega, rfl, by rw [HAS1.out], by go_num, by rw [← HE.out, HV.out, List.append_assoc]; rfl, hbw.alloc hbw.size _⟩

set_option maxHeartbeats 8000000 in
theorem refPut_any (s : ByteArray) (n k : Nat) (w : World) (hn : n < 18446744073709551616) (hs : s.size ≤ 1000000) (hk : k ≤ 8) :
    Calls Tryz.prog 66 #[.string s, .int .u64 n, .int .i64 k] w fun e w' => e = .returned (.string (s ++ strA (beL n k))) ∧ Below w.heap.size w w' := by
  have HBL := Lib.hid (beL_len n k)
  go_enter Tryz.func66, Tryz.ntmps66
  go_wp2
  go_loopg [1, 7, 8] k (fun g0 s1 s7 s8 wr => ∃ (i m : Nat) (D : List UInt8), i ≤ k ∧ g0 = k - i ∧ s1 = .int .u64 (m : Int) ∧ s7 = .string (strA D) ∧ s8 = .int .i64 (i : Int) ∧ m < 18446744073709551616 ∧ beL n k = beL m (k - i) ++ D ∧ Below w.heap.size w wr)
  case atStart => exact ⟨0, n, [], Nat.zero_le _, rfl, rfl, rfl, rfl, hn, by rw [List.append_nil]; rfl, Below.refl _ _⟩
  case round =>
    obtain ⟨i, m, D, hi, rfl, rfl, rfl, rfl, hm, he, hbw⟩ := hrel
    have HE := Lib.hid he
    have hDl : D.length ≤ 8 := by
      have := congrArg List.length he
      rw [List.length_append, HBL.out, beL_len] at this
      omega
    clear he
    by_cases hlt : i < k
    · have hii : (i : Int) < (k : Int) := by omega
      have hi8 : (i : Int) < 8 := by omega
      have hcv := one_convI (UInt8.ofNat (m % 256)) ((m : Int) % 256) (by rw [byte_nat (by omega)]; omega) wr
      have hdiv : (m : Int) / 256 = ((m / 256 : Nat) : Int) := by omega
      have hx1 : (strA [UInt8.ofNat (m % 256)]).size ≤ 1 := by rw [strA_size]; exact Nat.le_refl _
      have hxD : (strA D).size ≤ 8 := by rw [strA_size]; exact hDl
      have HAS1 : RowKit.Hid (strA [UInt8.ofNat (m % 256)] ++ strA D = strA (UInt8.ofNat (m % 256) :: D)) := Lib.hid (strA_append _ _)
      have HST : RowKit.Hid (beL m (k - i) = beL (m / 256) (k - (i + 1)) ++ [UInt8.ofNat (m % 256)]) := Lib.hid (by rw [show k - i = (k - (i + 1)) + 1 by omega]; rfl)
      have hwq : IntKind.u64.wrap ((m / 256 : Nat) : Int) = ((m / 256 : Nat) : Int) := by rw [IntKind.wrap_u64]; omega
      have HM : RowKit.Hid (m / 256 < 18446744073709551616) := Lib.hid (by omega)
      generalize UInt8.ofNat (m % 256) = c1 at *
      generalize hS1 : strA [c1] = S1 at *
      generalize hSD : strA D = SD at *
      generalize m / 256 = q at *
      clear hS1 hSD hm hn
      go_wp2
      go_roundg (k - (i + 1))
      case measure => omega
      case rel => exact ⟨i + 1, q, c1 :: D, by omega, rfl, by rfl, by rw [HAS1.out], by go_num, HM.out, by rw [HE.out, HST.out, List.append_assoc]; rfl, hbw.alloc hbw.size _⟩
    · have hik : i = k := by omega
      subst hik
      have hii : ¬ (i : Int) < (i : Int) := by omega
      have hDe : RowKit.Hid (beL n i = D) := Lib.hid (by rw [HE.out, Nat.sub_self]; rfl)
      have hxD : (strA D).size ≤ 8 := by rw [strA_size]; exact hDl
      have HSD : RowKit.Hid (s ++ strA (beL n i) = s ++ strA D) := Lib.hid (by rw [hDe.out])
      clear hm hn hDe
      generalize strA D = SD at *
      go_wp2
      go_ret
      exact ⟨by rw [HSD.out]; rfl, hbw⟩

theorem refNumber_any (s : ByteArray) (n : Int) (w : World) (h0 : 0 ≤ n) (hn : n < 9223372036854775808) (hs : s.size ≤ 1000000) :
    Calls Tryz.prog 27 #[.string s, .int .i64 n] w fun e w' => e = .returned (.string (s ++ strA (varL n.toNat))) ∧ Below w.heap.size w w' := by
  obtain ⟨m, rfl⟩ := Int.eq_ofNat_of_zero_le h0
  have HC := Lib.hid fun W => refVar_any s m W (by omega) hs
  have hw : IntKind.u64.wrap (m : Int) = (m : Int) := by rw [IntKind.wrap_u64]; omega
  rw [Int.toNat_natCast]
  clear h0 hn hs
  go_enter Tryz.func27, Tryz.ntmps27
  go_wp2_with (first
    | (go_at_call 65; (with_reducible refine (HC.out _).mono ?_); rintro e w1 ⟨rfl, hb1⟩))
  go_ret
  exact ⟨rfl, hb1⟩

theorem refOne_any (c : UInt8) (w : World) :
    Calls Tryz.prog 26 #[.int .u8 c.toNat] w fun e w' => e = .returned (.string (strA [c])) ∧ Below w.heap.size w w' := by
  have hcv := one_convI c (c.toNat : Int) rfl w
  generalize strA [c] = S at *
  go_enter Tryz.func26, Tryz.ntmps26
  go_wp2
  go_ret
  exact ⟨rfl, (Below.refl _ _).alloc (Nat.le_refl _) _⟩

end Go.Proofs.YtofomopmmopflaaGreatDoor
namespace Go.Proofs.YtofomopmmopflaaGreatDoor
open Go.RowKit Go.ChangeMaps
set_option linter.unusedSimpArgs false
set_option linter.unusedVariables false
set_option maxRecDepth 20000

/-- A text of bytes, or none. -/
def stP (o : Option (List UInt8)) (e : Ending) : Prop :=
  (∃ bs, o = some bs ∧ e = .returned (.tuple #[.string (strA bs), .bool true])) ∨ (o = none ∧ e = .returned (.tuple #[.string ⟨#[]⟩, .bool false]))

end Go.Proofs.YtofomopmmopflaaGreatDoor
namespace Go.Proofs.YtofomopmmopflaaGreatDoor
open Go.RowKit Go.ChangeMaps
set_option linter.unusedSimpArgs false
set_option linter.unusedVariables false
set_option maxRecDepth 20000

set_option maxHeartbeats 8000000 in
theorem refReadVar_any (s : ByteArray) (w : World) (hl : s.size ≤ 1000000) :
    Calls Tryz.prog 95 #[.string s] w fun e w' => rvP (toL s) e ∧ w = w' := by
  have HN := Lib.hid (size_toL s)
  go_enter Tryz.func95, Tryz.ntmps95
  go_wp2
  go_loopg [5, 6, 7] s.size (fun g0 s5 s6 s7 wr => ∃ i acc u : Nat, i ≤ s.size ∧ i ≤ 9 ∧ g0 = s.size - i ∧ s5 = .int .u64 (acc : Int) ∧ s6 = .int .u64 (u : Int) ∧ s7 = .int .i64 (i : Int) ∧ u = 2 ^ (7 * i) ∧ acc < 2 ^ (7 * i) ∧ rvL 0 0 (toL s) = rvL i acc ((toL s).drop i) ∧ w = wr)
  case atStart => exact ⟨0, 0, 1, Nat.zero_le _, by omega, rfl, rfl, rfl, rfl, rfl, by decide, rfl, rfl⟩
  case round =>
    obtain ⟨i, acc, u, hi, hi9, rfl, rfl, rfl, rfl, hu, hacc, hrv, rfl⟩ := hrel
    have HRV := Lib.hid hrv
    have HAC := Lib.hid hacc
    have HU := Lib.hid hu
    clear hrv hacc hu
    by_cases hlt : i < s.size
    · have hki : (i : Int) < (s.size : Int) := by omega
      have hk0 : (0 : Int) ≤ (i : Int) := by omega
      have hgl := get_list s i hlt
      rw [show s.data.toList = toL s from rfl] at hgl
      have hdr : (toL s).drop i = (toL s).getD i 0 :: (toL s).drop (i + 1) := drop_cons (toL s) i (by rw [HN.out]; exact hlt)
      rw [hdr] at HRV
      have hx256 : ((toL s).getD i 0).toNat < 256 := ((toL s).getD i 0).toNat_lt
      have HBAD := Lib.hid fun h => HRV.out.trans (rvL_bad (i := i) (acc := acc) (x := (toL s).getD i 0) (t := (toL s).drop (i + 1)) h)
      have HEND := Lib.hid fun h h2 => HRV.out.trans (rvL_end (i := i) (acc := acc) (x := (toL s).getD i 0) (t := (toL s).drop (i + 1)) h h2)
      have HON := Lib.hid fun h h2 => HRV.out.trans (rvL_on (i := i) (acc := acc) (x := (toL s).getD i 0) (t := (toL s).drop (i + 1)) h h2)
      clear hdr HRV
      generalize (toL s).getD i 0 = x at *
      by_cases hbad : (i = 9 ∧ 1 < x.toNat) ∨ (0 < i ∧ x.toNat = 0)
      · have HF := Lib.hid (HBAD.out hbad)
        by_cases h9 : i = 9 ∧ 1 < x.toNat
        · have hb9 : ((i : Int) == 9) = true := by rw [beq_iff_eq]; omega
          have hx1 : (1 : Int) < (x.toNat : Int) := by omega
          clear hbad h9
          go_wp2
          go_ret3
          exact ⟨.inr ⟨HF.out, 4, by decide, rfl⟩, rfl⟩
        · have h0 : 0 < i ∧ x.toNat = 0 := by omega
          have hb9 : ((i : Int) == 9) = false ∨ ((i : Int) == 9) = true ∧ ¬ (1 : Int) < (x.toNat : Int) := by
            by_cases h : i = 9
            · right; exact ⟨by rw [beq_iff_eq]; omega, by omega⟩
            · left; rw [beq_eq_false_iff_ne]; omega
          have hi0 : (0 : Int) < (i : Int) := by omega
          have hx0 : ((x.toNat : Int) == 0) = true := by rw [beq_iff_eq]; omega
          clear hbad h9 h0
          rcases hb9 with hb9 | ⟨hb9, hx1⟩
          · go_wp2
            go_ret3
            exact ⟨.inr ⟨HF.out, 4, by decide, rfl⟩, rfl⟩
          · go_wp2
            go_ret3
            exact ⟨.inr ⟨HF.out, 4, by decide, rfl⟩, rfl⟩
      · have h9y : i = 9 → x.toNat % 128 ≤ 1 := fun h => by omega
        have hNB : (((i : Int) == 9) = false ∧ ¬ (0 : Int) < (i : Int)) ∨ (((i : Int) == 9) = false ∧ (0 : Int) < (i : Int) ∧ ((x.toNat : Int) == 0) = false) ∨ (((i : Int) == 9) = true ∧ ¬ (1 : Int) < (x.toNat : Int) ∧ (0 : Int) < (i : Int) ∧ ((x.toNat : Int) == 0) = false) := by
          by_cases h : i = 9
          · exact .inr (.inr ⟨by rw [beq_iff_eq]; omega, by omega, by omega, by rw [beq_eq_false_iff_ne]; omega⟩)
          · by_cases h0 : 0 < i
            · exact .inr (.inl ⟨by rw [beq_eq_false_iff_ne]; omega, by omega, by rw [beq_eq_false_iff_ne]; omega⟩)
            · exact .inl ⟨by rw [beq_eq_false_iff_ne]; omega, by omega⟩
        obtain ⟨hp1, hp2⟩ := part_lt (y := x.toNat % 128) hi9 h9y (by omega)
        have hac2 := HAC.out
        rw [← HU.out] at hp1 hp2 hac2
        have hm1 : IntKind.u64.wrap ((x.toNat : Int) % 128 * (u : Int)) = ((x.toNat % 128 * u : Nat) : Int) := by
          have e : (x.toNat : Int) % 128 * (u : Int) = ((x.toNat % 128 * u : Nat) : Int) := by rw [Int.natCast_mul, Int.natCast_emod]; rfl
          rw [e, IntKind.wrap_u64]
          generalize x.toNat % 128 * u = z at *
          omega
        have HEND2 := Lib.hid fun h => HEND.out hbad h
        have HON2 := Lib.hid fun h => HON.out hbad h
        have HNX := Lib.hid (next_lt (acc := acc) (y := x.toNat % 128) (i := i) HAC.out (by omega))
        rw [← HU.out] at HEND2 HON2 HNX
        have HUN : RowKit.Hid (i + 1 ≤ 9 → u * 128 = 2 ^ (7 * (i + 1))) := Lib.hid fun _ => by rw [HU.out, show 7 * (i + 1) = 7 * i + 7 by omega, Nat.pow_add]
        have hm2 : IntKind.u64.wrap ((acc : Int) + ((x.toNat % 128 * u : Nat) : Int)) = ((acc + x.toNat % 128 * u : Nat) : Int) := by
          rw [IntKind.wrap_u64]
          have h1 : acc + x.toNat % 128 * u < 18446744073709551616 := by
            rcases Nat.lt_or_ge i 9 with h | h
            · have h3 := HNX.out
              have h4 : (2 : Nat) ^ (7 * (i + 1)) ≤ 2 ^ 63 := Nat.pow_le_pow_right (by omega) (by omega)
              have e : (2 : Nat) ^ 63 = 9223372036854775808 := by decide
              generalize x.toNat % 128 * u = z at *
              omega
            · have h5 := h9y (by omega)
              have h6 : x.toNat % 128 * u ≤ 1 * u := Nat.mul_le_mul h5 (Nat.le_refl _)
              generalize x.toNat % 128 * u = z at *
              omega
          generalize x.toNat % 128 * u = z at *
          omega
        generalize hz : x.toNat % 128 * u = z at *
        generalize hres : acc + z = res at *
        clear hz hp1 hac2 hres
        by_cases hx : x.toNat < 128
        · have hxi : (x.toNat : Int) < 128 := by omega
          have HF := Lib.hid (HEND2.out hx)
          clear hbad h9y hx hp2
          rcases hNB with ⟨hb9, hb0⟩ | ⟨hb9, hb0, hx0⟩ | ⟨hb9, hx1, hb0, hx0⟩
          all_goals
            go_wp2
            go_ret3
            exact ⟨.inl ⟨res, i + 1, HF.out, by rfl⟩, rfl⟩
        · have hxi : ¬ (x.toNat : Int) < 128 := by omega
          have HF := Lib.hid (HON2.out hx)
          have hi8 : i + 1 ≤ 9 := by omega
          have HUN2 := Lib.hid (HUN.out hi8)
          have hun : IntKind.u64.wrap ((u : Int) * 128) = ((u * 128 : Nat) : Int) := by
            rw [IntKind.wrap_u64]
            have h1 := HU.out
            have h4 : (2 : Nat) ^ (7 * i) ≤ 2 ^ 56 := Nat.pow_le_pow_right (by omega) (by omega)
            have e : (2 : Nat) ^ 56 = 72057594037927936 := by decide
            omega
          generalize u * 128 = u2 at *
          clear hbad h9y hx hp2
          rcases hNB with ⟨hb9, hb0⟩ | ⟨hb9, hb0, hx0⟩ | ⟨hb9, hx1, hb0, hx0⟩
          · go_wp2
            go_roundg (s.size - (i + 1))
            case measure => omega
            case rel => exact ⟨i + 1, res, u2, by omega, hi8, rfl, by rfl, by rfl, by go_num, HUN2.out, HNX.out, HF.out, rfl⟩
          · go_wp2
            go_roundg (s.size - (i + 1))
            case measure => omega
            case rel => exact ⟨i + 1, res, u2, by omega, hi8, rfl, by rfl, by rfl, by go_num, HUN2.out, HNX.out, HF.out, rfl⟩
          · exfalso
            rw [beq_iff_eq] at hb9
            omega
    · have hie : i = s.size := by omega
      subst hie
      have hki : ¬ (s.size : Int) < (s.size : Int) := by omega
      have hd0 : (toL s).drop s.size = [] := List.drop_eq_nil_of_le (by rw [HN.out]; omega)
      rw [hd0] at HRV
      have HF : RowKit.Hid (rvL 0 0 (toL s) = none) := Lib.hid HRV.out
      go_wp2
      go_ret3
      exact ⟨.inr ⟨HF.out, 5, by decide, rfl⟩, rfl⟩

/-- A cursor at g over the text s: its place, and whether it is bad. -/
def CS (w : World) (g : Nat) (s : ByteArray) (at' : Nat) (bad : Bool) : Prop := Blk w g 98 [.string s, .int .i64 at', .bool bad] ∧ at' ≤ s.size

theorem CS.mono {w w' : World} {g : Nat} {s : ByteArray} {k : Nat} {bad : Bool} (h : CS w g s k bad) (hb : Below w.heap.size w w') : CS w' g s k bad := ⟨h.1.mono hb, h.2⟩
theorem CS.cells {w : World} {g : Nat} {s : ByteArray} {k : Nat} {bad : Bool} (h : CS w g s k bad) : w.cell? ⟨g, 0, none⟩ = some (.string s) ∧ w.cell? ⟨g, 1, none⟩ = some (.int .i64 k) ∧ w.cell? ⟨g, 2, none⟩ = some (.bool bad) ∧ w.frozen? ⟨g, 1, none⟩ = false ∧ w.frozen? ⟨g, 2, none⟩ = false :=
  ⟨(h.1.cell 0).trans rfl, (h.1.cell 1).trans rfl, (h.1.cell 2).trans rfl, h.1.frozen 1, h.1.frozen 2⟩
theorem CS.goBad {w : World} {g : Nat} {s : ByteArray} {k : Nat} {bad : Bool} (h : CS w g s k bad) (b2 : Bool) : CS (w.setCell ⟨g, 2, none⟩ (.bool b2)) g s k b2 := ⟨h.1.set 2 _, h.2⟩
theorem CS.goAt {w : World} {g : Nat} {s : ByteArray} {k k2 : Nat} {bad : Bool} (h : CS w g s k bad) (h2 : k2 ≤ s.size) : CS (w.setCell ⟨g, 1, none⟩ (.int .i64 k2)) g s k2 bad := ⟨h.1.set 1 _, h2⟩

theorem ext_list (s : ByteArray) (p q : Nat) : toL (s.extract p q) = ((toL s).take q).drop p := by
  unfold toL
  simp [List.drop_take]

theorem ext_one {s : ByteArray} {k : Nat} (h : k < s.size) : toL (s.extract k (k + 1)) = [(toL s).getD k 0] := by
  have hk : k < (toL s).length := by rw [size_toL]; exact h
  rw [ext_list, List.drop_take, show k + 1 - k = 1 by omega, drop_cons _ _ hk]
  rfl

set_option maxHeartbeats 8000000 in
theorem take1_yes (g : Nat) (s : ByteArray) (k : Nat) (w : World) (h : CS w g s k false) (hl : s.size ≤ 1000000) (hk : k < s.size) :
    Calls Tryz.prog 71 #[.pointer (some ⟨g, 0, none⟩), .int .i64 1] w fun e w' => (∃ t : ByteArray, e = .returned (.string t) ∧ toL t = [(toL s).getD k 0]) ∧ CS w' g s (k + 1) false ∧ w.grownBy w' (some g) := by
  obtain ⟨c0, c1, c2, f1, f2⟩ := h.cells
  have HC := Lib.hid h
  have HX := Lib.hid (ext_one hk)
  have hgt : ¬ (s.size : Int) - (k : Int) < 1 := by omega
  have hks2 : (k : Int) ≤ (s.size : Int) := by omega
  have hks3 : (k : Int) + 1 ≤ (s.size : Int) := by omega
  have hk0 : (0 : Int) ≤ (k : Int) := by omega
  clear h
  go_enter Tryz.func71, Tryz.ntmps71
  go_upto_region 1 with fail
  go_quiet (fail)
  have hC1 := HC.out.mono (below_drewN (Below.refl w.heap.size w) nq)
  have hgr1 : w.grownBy (w.drewN nq) (some g) := gr_of_below (below_drewN (Below.refl w.heap.size w) nq) _
  generalize w.drewN nq = wq at *
  clear c0 c1 c2 f1 f2
  obtain ⟨d0, d1, d2, e1, e2⟩ := hC1.cells
  go_upto_region 5 with fail
  have hC2 : CS (wq.setCell ⟨g, 1, none⟩ (.int .i64 ((k : Int) + 1))) g s (k + 1) false := hC1.goAt (k2 := k + 1) hk
  have hgr2 : w.grownBy (wq.setCell ⟨g, 1, none⟩ (.int .i64 ((k : Int) + 1))) (some g) := gr_setCell1 hgr1 1 _
  generalize wq.setCell ⟨g, 1, none⟩ (.int .i64 ((k : Int) + 1)) = ws at *
  clear d0 d1 d2 e1 e2
  obtain ⟨d0, d1, d2, e1, e2⟩ := hC2.cells
  replace d1 : ws.cell? ⟨g, 1, none⟩ = some (.int .i64 ((k : Int) + 1)) := d1
  have HC2 := Lib.hid hC2
  clear hC1 hC2 hgr1
  go_quiet (fail)
  go_wp2
  go_ret
  exact ⟨⟨_, rfl, HX.out⟩, HC2.out.mono (below_drewN (Below.refl ws.heap.size ws) nq), gby_trans hgr2 (gr_of_below (below_drewN (Below.refl ws.heap.size ws) nq) _)⟩

set_option maxHeartbeats 8000000 in
theorem take1_no (g : Nat) (s : ByteArray) (k : Nat) (bad : Bool) (w : World) (h : CS w g s k bad) (hl : s.size ≤ 1000000) (hk : bad = true ∨ s.size ≤ k) :
    Calls Tryz.prog 71 #[.pointer (some ⟨g, 0, none⟩), .int .i64 1] w fun e w' => e = .returned (.string ⟨#[]⟩) ∧ CS w' g s k true ∧ w.grownBy w' (some g) := by
  obtain ⟨c0, c1, c2, f1, f2⟩ := h.cells
  have HC := Lib.hid h
  have hks2 : (k : Int) ≤ (s.size : Int) := by have := h.2; omega
  clear h
  cases bad with
  | true =>
    go_enter Tryz.func71, Tryz.ntmps71
    go_upto_region 1 with fail
    go_quiet (fail)
    have hC1 := HC.out.mono (below_drewN (Below.refl w.heap.size w) nq)
    have hgr1 : w.grownBy (w.drewN nq) (some g) := gr_of_below (below_drewN (Below.refl w.heap.size w) nq) _
    generalize w.drewN nq = wq at *
    clear c0 c1 c2 f1 f2
    obtain ⟨d0, d1, d2, e1, e2⟩ := hC1.cells
    go_wp2
    go_ret
    exact ⟨rfl, hC1.goBad true, gr_setCell1 hgr1 2 _⟩
  | false =>
    have hgt : (s.size : Int) - (k : Int) < 1 := by
      rcases hk with h | h
      · cases h
      · omega
    go_enter Tryz.func71, Tryz.ntmps71
    go_upto_region 1 with fail
    go_quiet (fail)
    have hC1 := HC.out.mono (below_drewN (Below.refl w.heap.size w) nq)
    have hgr1 : w.grownBy (w.drewN nq) (some g) := gr_of_below (below_drewN (Below.refl w.heap.size w) nq) _
    generalize w.drewN nq = wq at *
    clear c0 c1 c2 f1 f2
    obtain ⟨d0, d1, d2, e1, e2⟩ := hC1.cells
    go_wp2
    go_ret
    exact ⟨rfl, hC1.goBad true, gr_setCell1 hgr1 2 _⟩

theorem byte_yes (g : Nat) (s : ByteArray) (k : Nat) (w : World) (h : CS w g s k false) (hl : s.size ≤ 1000000) (hk : k < s.size) :
    Calls Tryz.prog 43 #[.pointer (some ⟨g, 0, none⟩)] w fun e w' => e = .returned (.int .i64 ((toL s).getD k 0).toNat) ∧ CS w' g s (k + 1) false ∧ w.grownBy w' (some g) := by
  have HT := Lib.hid (take1_yes g s k w h hl hk)
  generalize (toL s).getD k 0 = x at *
  have hx8 := x.toNat_lt
  have hwx : RowKit.wrap64 (x.toNat : Int) = (x.toNat : Int) := IntWalk.wrap64_in _ ⟨by omega, by omega⟩
  clear h hk hl
  go_enter Tryz.func43, Tryz.ntmps43
  go_wp2_with (first
    | (go_at_call 71; (with_reducible refine HT.out.mono ?_); rintro e w1 ⟨⟨t, rfl, ht⟩, hc1, hg1⟩; obtain ⟨d0, d1, d2, e1, e2⟩ := hc1.cells; have hts : t.size = 1 := (by rw [← size_toL, ht]; rfl); have ht0 : 0 < t.size := (by omega); have hti : (0 : Int) < (t.size : Int) := (by omega); have hgl := get_list t 0 ht0; replace hgl : t[0] = x := (hgl.trans (by rw [show t.data.toList = toL t from rfl, ht]; rfl)); clear hts))
  go_ret
  exact ⟨rfl, hc1, hg1⟩

theorem byte_no (g : Nat) (s : ByteArray) (k : Nat) (bad : Bool) (w : World) (h : CS w g s k bad) (hl : s.size ≤ 1000000) (hk : bad = true ∨ s.size ≤ k) :
    Calls Tryz.prog 43 #[.pointer (some ⟨g, 0, none⟩)] w fun e w' => e = .returned (.int .i64 0) ∧ CS w' g s k true ∧ w.grownBy w' (some g) := by
  have HT := Lib.hid (take1_no g s k bad w h hl hk)
  clear h hk hl
  go_enter Tryz.func43, Tryz.ntmps43
  go_wp2_with (first
    | (go_at_call 71; (with_reducible refine HT.out.mono ?_); rintro e w1 ⟨rfl, hc1, hg1⟩; obtain ⟨d0, d1, d2, e1, e2⟩ := hc1.cells))
  go_ret
  exact ⟨rfl, hc1, hg1⟩

/-- What 'wide' tells. -/
def WideP (g : Nat) (s : ByteArray) (k n : Nat) (bad : Bool) (w : World) (e : Ending) (w' : World) : Prop :=
  ∃ (x k2 : Nat) (b2 : Bool), e = .returned (.int .i64 x) ∧ x < 256 ^ n ∧ CS w' g s k2 b2 ∧ (b2 = false → bad = false ∧ pFix n ((toL s).drop k) = some (x, (toL s).drop k2)) ∧ (b2 = true → bad = true ∨ pFix n ((toL s).drop k) = none) ∧ w.grownBy w' (some g)

/-- The bytes ahead as a number. -/
theorem wide_any (g : Nat) (s : ByteArray) (k n : Nat) (bad : Bool) (w : World) (h : CS w g s k bad) (hl : s.size ≤ 1000000) (hn : n ≤ 4) :
    Calls Tryz.prog 75 #[.pointer (some ⟨g, 0, none⟩), .int .i64 n] w fun e w' => WideP g s k n bad w e w' := by
  have HC := Lib.hid h
  have hkS := h.2
  clear h
  go_enter Tryz.func75, Tryz.ntmps75
  go_wp2
  go_loopg [5, 6] n (fun g0 s5 s6 wr => ∃ (j x k2 : Nat) (b2 : Bool), j ≤ n ∧ g0 = n - j ∧ s5 = .int .i64 (x : Int) ∧ s6 = .int .i64 (j : Int) ∧ x < 256 ^ j ∧ CS wr g s k2 b2 ∧ (b2 = false → bad = false ∧ k2 = k + j ∧ x = valB (((toL s).drop k).take j)) ∧ (b2 = true → bad = true ∨ s.size - k < n) ∧ w.grownBy wr (some g))
  case atStart =>
    refine ⟨0, 0, k, bad, Nat.zero_le _, rfl, rfl, rfl, by decide, HC.out, fun h => ⟨h, rfl, rfl⟩, fun h => .inl h, World.grownBy.refl _ _⟩
  case round =>
    obtain ⟨j, x, k2, b2, hj, rfl, rfl, rfl, hx, hc, hf, ht, hgr⟩ := hrel
    have HCC := Lib.hid hc
    have HF := Lib.hid hf
    have HT := Lib.hid ht
    have HX := Lib.hid hx
    clear hc hf ht
    have hxs : x < 4294967296 := by
      have h5 : 256 ^ j ≤ 256 ^ 4 := Nat.pow_le_pow_right (by omega) (by omega)
      have e : (256 : Nat) ^ 4 = 4294967296 := by decide
      omega
    clear hx
    by_cases hlt : j < n
    · have hji : (j : Int) < (n : Int) := by omega
      have hxs2 : x < 16777216 := by
        have h5 : 256 ^ j ≤ 256 ^ 3 := Nat.pow_le_pow_right (by omega) (by omega)
        have e : (256 : Nat) ^ 3 = 16777216 := by decide
        have := HX.out
        omega
      by_cases hy : b2 = false ∧ k2 < s.size
      · obtain ⟨rfl, hk2⟩ := hy
        obtain ⟨hb0, hkj, hxv⟩ := HF.out rfl
        have HBY := Lib.hid (byte_yes g s k2 wr HCC.out hl hk2)
        have hlk : j < ((toL s).drop k).length := by rw [List.length_drop, size_toL]; omega
        have HV : RowKit.Hid (valB (((toL s).drop k).take (j + 1)) = x * 256 + ((toL s).getD k2 0).toNat) := Lib.hid (by
          rw [valB_take hlk, ← hxv, hkj]
          congr 2
          rw [List.getD_eq_getElem?_getD, List.getD_eq_getElem?_getD, List.getElem?_drop])
        have hb8 := ((toL s).getD k2 0).toNat_lt
        have HPW : RowKit.Hid (x * 256 + ((toL s).getD k2 0).toNat < 256 ^ (j + 1)) := Lib.hid (by
          have := HX.out
          rw [Nat.pow_succ]
          omega)
        have HB0 := Lib.hid hb0
        have HKJ := Lib.hid hkj
        generalize (toL s).getD k2 0 = y at *
        clear hb0 hkj hxv hlk hk2
        go_wp2_with (first
          | (go_at_call 43; (with_reducible refine HBY.out.mono ?_); rintro e w5 ⟨rfl, hc5, hg5⟩))
        go_roundg (n - (j + 1))
        case measure => omega
        case rel => exact ⟨j + 1, x * 256 + y.toNat, k2 + 1, false, by omega, rfl, by go_num, by go_num, HPW.out, hc5, (fun _ => ⟨HB0.out, by rw [HKJ.out]; omega, HV.out.symm⟩), (fun h => by cases h), gby_trans hgr hg5⟩
      · have hno : b2 = true ∨ s.size ≤ k2 := by
          cases b2 with
          | true => exact .inl rfl
          | false => exact .inr (by rcases Nat.lt_or_ge k2 s.size with h1 | h1; exact absurd ⟨rfl, h1⟩ hy; exact h1)
        have HBY := Lib.hid (byte_no g s k2 b2 wr HCC.out hl hno)
        have HT2 : RowKit.Hid (bad = true ∨ s.size - k < n) := Lib.hid (by
          cases hb2 : b2 with
          | true => exact HT.out hb2
          | false =>
            obtain ⟨h1, h2, _⟩ := HF.out hb2
            rcases hno with h3 | h3
            · rw [hb2] at h3; cases h3
            · exact .inr (by omega))
        have HPW : RowKit.Hid (x * 256 < 256 ^ (j + 1)) := Lib.hid (by
          have := HX.out
          rw [Nat.pow_succ]
          omega)
        clear hy hno
        go_wp2_with (first
          | (go_at_call 43; (with_reducible refine HBY.out.mono ?_); rintro e w5 ⟨rfl, hc5, hg5⟩))
        go_roundg (n - (j + 1))
        case measure => omega
        case rel => exact ⟨j + 1, x * 256, k2, true, by omega, rfl, by go_num, by go_num, HPW.out, hc5, (fun h => by cases h), (fun _ => HT2.out), gby_trans hgr hg5⟩
    · have hje : j = n := by omega
      subst hje
      have hji : ¬ (j : Int) < (j : Int) := by omega
      go_wp2
      go_ret
      refine ⟨x, k2, b2, rfl, HX.out, HCC.out, fun h => ?_, fun h => ?_, hgr⟩
      · obtain ⟨h1, h2, h3⟩ := HF.out h
        refine ⟨h1, ?_⟩
        have := HCC.out.2
        unfold pFix
        rw [if_pos (by rw [List.length_drop, size_toL]; omega), ← h3, List.drop_drop, h2]
      · rcases HT.out h with h1 | h1
        · exact .inl h1
        · refine .inr ?_
          unfold pFix
          rw [if_neg (by rw [List.length_drop, size_toL]; omega)]
end Go.Proofs.YtofomopmmopflaaGreatDoor
namespace Go.Proofs.YtofomopmmopflaaGreatDoor
open Go.RowKit Go.ChangeMaps
set_option linter.unusedSimpArgs false
set_option linter.unusedVariables false
set_option maxRecDepth 20000

theorem ext_rest (s : ByteArray) (k : Nat) : toL (s.extract k s.size) = (toL s).drop k := by
  rw [ext_list, List.take_of_length_le (by rw [size_toL]; exact Nat.le_refl _)]

/-- What 'num' tells. -/
def NumP (g : Nat) (s : ByteArray) (k most : Nat) (bad : Bool) (w : World) (e : Ending) (w' : World) : Prop :=
  ∃ (n k2 : Nat) (b2 : Bool), e = .returned (.int .i64 n) ∧ n ≤ most ∧ CS w' g s k2 b2 ∧ (b2 = false → bad = false ∧ pNum most ((toL s).drop k) = some (n, (toL s).drop k2)) ∧ (b2 = true → bad = true ∨ pNum most ((toL s).drop k) = none) ∧ w.grownBy w' (some g)

set_option maxHeartbeats 16000000 in
theorem num_any (g : Nat) (s : ByteArray) (k most : Nat) (bad : Bool) (w : World) (h : CS w g s k bad) (hl : s.size ≤ 1000000) (hm : most ≤ 4000000000) :
    Calls Tryz.prog 73 #[.pointer (some ⟨g, 0, none⟩), .int .i64 most] w fun e w' => NumP g s k most bad w e w' := by
  obtain ⟨c0, c1, c2, f1, f2⟩ := h.cells
  have HC := Lib.hid h
  have hkS := h.2
  cases bad with
  | true =>
    clear h hm
    go_enter Tryz.func73, Tryz.ntmps73
    go_wp2
    go_ret
    exact ⟨0, k, true, rfl, Nat.zero_le _, HC.out, (fun h => by cases h), (fun _ => .inl rfl), World.grownBy.refl _ _⟩
  | false =>
    have hks2 : (k : Int) ≤ (s.size : Int) := by omega
    have hk0 : (0 : Int) ≤ (k : Int) := by omega
    have hw1 : IntKind.u64.wrap (most : Int) = (most : Int) := by rw [IntKind.wrap_u64]; omega
    have HRR := refReadVar_any (s.extract k s.size)
    have hxs : (s.extract k s.size).size ≤ 1000000 := by rw [← size_toL, ext_rest, List.length_drop, size_toL]; omega
    have hS0 : w.drew.cell? ⟨g, 0, none⟩ = some (.string s) ∧ w.drew.cell? ⟨g, 1, none⟩ = some (.int .i64 k) ∧ Below w.heap.size w w.drew := ⟨c0, c1, (Below.refl _ _).drew⟩
    have hlen : ((toL s).drop k).length = s.size - k := by rw [List.length_drop, size_toL]
    have hw1' := hw1
    rw [ext_rest] at HRR
    cases hp : pNum most ((toL s).drop k) with
    | some x =>
      obtain ⟨n, r⟩ := x
      obtain ⟨kk, hrv, hnm, hr, hk1, hk2⟩ := pNum_some hp
      have HRV : RowKit.Hid (∀ W, Calls Tryz.prog 95 #[.string (s.extract k s.size)] W fun e w' => e = .returned (.tuple #[.int .u64 n, .int .i64 kk, .int .i64 0]) ∧ W = w') := Lib.hid fun W => (HRR W hxs).mono (by
        rintro e w' ⟨h1, rfl⟩
        rcases h1 with ⟨n', k', h2, rfl⟩ | ⟨h2, _⟩
        · rw [hrv] at h2
          injection h2 with h2
          injection h2 with h2 h3
          subst h2 h3
          exact ⟨rfl, rfl⟩
        · rw [hrv] at h2; cases h2)
      have HPN : RowKit.Hid (pNum most ((toL s).drop k) = some (n, (toL s).drop (k + kk))) := Lib.hid (by rw [hp, hr, List.drop_drop])
      have HNM := Lib.hid hnm
      have hni : ¬ (most : Int) < (n : Int) := by omega
      have hw2 : IntKind.i64.wrap (n : Int) = (n : Int) := by rw [IntKind.wrap_i64]; omega
      have hkk : k + kk ≤ s.size := by omega
      have hkw : IntKind.i64.wrap ((k : Int) + (kk : Int)) = (k : Int) + (kk : Int) := by rw [IntKind.wrap_i64]; omega
      have HKK := Lib.hid hkk
      clear h hm HRR hxs hlen hp hrv hnm hr hk1 hk2 hkk hl
      go_enter Tryz.func73, Tryz.ntmps73
      go_upto_region 3 with fail
      go_region_held3 (fun W => W.cell? ⟨g, 0, none⟩ = some (.string s) ∧ W.cell? ⟨g, 1, none⟩ = some (.int .i64 k) ∧ Below w.heap.size w W)
        (first
          | exact hS0
          | assumption)
        (first
          | (go_at_call 95; (with_reducible refine (HRV.out _).mono ?_); rintro e w9 ⟨rfl, rfl⟩))
      have hC1 : CS w.drew g s k false := HC.out.mono (Below.refl w.heap.size w).drew
      have hgr1 : w.grownBy w.drew (some g) := gr_of_below (Below.refl w.heap.size w).drew _
      generalize w.drew = wq at *
      clear c0 c1 c2 f1 f2
      obtain ⟨d0, d1, d2, e1, e2⟩ := hC1.cells
      go_wp2
      go_ret
      have hC2 : CS (wq.setCell ⟨g, 1, none⟩ (.int .i64 ((k : Int) + (kk : Int)))) g s (k + kk) false := hC1.goAt (k2 := k + kk) HKK.out
      exact ⟨n, k + kk, false, rfl, HNM.out, hC2, (fun _ => ⟨rfl, HPN.out⟩), (fun h => by cases h), gr_setCell1 hgr1 1 _⟩
    | none =>
      have HPN := Lib.hid hp
      rcases pNum_none hp with hrv | ⟨n, kk, hrv, hmn⟩
      · have HRV : RowKit.Hid (∀ W, Calls Tryz.prog 95 #[.string (s.extract k s.size)] W fun e w' => ∃ z : Int, (z != 0) = true ∧ e = .returned (.tuple #[.int .u64 0, .int .i64 0, .int .i64 z]) ∧ W = w') := Lib.hid fun W => (HRR W hxs).mono (by
          rintro e w' ⟨h1, rfl⟩
          rcases h1 with ⟨n', k', h2, rfl⟩ | ⟨h2, z, hz, rfl⟩
          · rw [hrv] at h2; cases h2
          · exact ⟨z, by rw [bne_iff_ne]; exact hz, rfl, rfl⟩)
        clear h hm HRR hxs hlen hp hrv hl
        go_enter Tryz.func73, Tryz.ntmps73
        go_upto_region 3 with fail
        go_region_held3 (fun W => W.cell? ⟨g, 0, none⟩ = some (.string s) ∧ W.cell? ⟨g, 1, none⟩ = some (.int .i64 k) ∧ Below w.heap.size w W)
          (first
            | exact hS0
            | assumption)
          (first
            | (go_at_call 95; (with_reducible refine (HRV.out _).mono ?_); rintro e w9 ⟨z, hz, rfl, rfl⟩))
        have hC1 : CS w.drew g s k false := HC.out.mono (Below.refl w.heap.size w).drew
        have hgr1 : w.grownBy w.drew (some g) := gr_of_below (Below.refl w.heap.size w).drew _
        generalize w.drew = wq at *
        clear c0 c1 c2 f1 f2
        obtain ⟨d0, d1, d2, e1, e2⟩ := hC1.cells
        go_wp2
        go_ret
        exact ⟨0, k, true, rfl, Nat.zero_le _, hC1.goBad true, (fun h => by cases h), (fun _ => .inr HPN.out), gr_setCell1 hgr1 2 _⟩
      · have HRV : RowKit.Hid (∀ W, Calls Tryz.prog 95 #[.string (s.extract k s.size)] W fun e w' => e = .returned (.tuple #[.int .u64 n, .int .i64 kk, .int .i64 0]) ∧ W = w') := Lib.hid fun W => (HRR W hxs).mono (by
          rintro e w' ⟨h1, rfl⟩
          rcases h1 with ⟨n', k', h2, rfl⟩ | ⟨h2, _⟩
          · rw [hrv] at h2
            injection h2 with h2
            injection h2 with h2 h3
            subst h2 h3
            exact ⟨rfl, rfl⟩
          · rw [hrv] at h2; cases h2)
        have hni : (most : Int) < (n : Int) := by omega
        clear h hm HRR hxs hlen hp hrv hl hmn
        go_enter Tryz.func73, Tryz.ntmps73
        go_upto_region 3 with fail
        go_region_held3 (fun W => W.cell? ⟨g, 0, none⟩ = some (.string s) ∧ W.cell? ⟨g, 1, none⟩ = some (.int .i64 k) ∧ Below w.heap.size w W)
          (first
            | exact hS0
            | assumption)
          (first
            | (go_at_call 95; (with_reducible refine (HRV.out _).mono ?_); rintro e w9 ⟨rfl, rfl⟩))
        have hC1 : CS w.drew g s k false := HC.out.mono (Below.refl w.heap.size w).drew
        have hgr1 : w.grownBy w.drew (some g) := gr_of_below (Below.refl w.heap.size w).drew _
        generalize w.drew = wq at *
        clear c0 c1 c2 f1 f2
        obtain ⟨d0, d1, d2, e1, e2⟩ := hC1.cells
        go_wp2
        go_ret
        exact ⟨0, k, true, rfl, Nat.zero_le _, hC1.goBad true, (fun h => by cases h), (fun _ => .inr HPN.out), gr_setCell1 hgr1 2 _⟩

end Go.Proofs.YtofomopmmopflaaGreatDoor
namespace Go.Proofs.YtofomopmmopflaaGreatDoor
open Go.RowKit Go.ChangeMaps
set_option linter.unusedSimpArgs false
set_option linter.unusedVariables false
set_option maxRecDepth 20000

/-- The first byte. -/
def FirstP (g : Nat) (s : ByteArray) (c : UInt8) (w : World) (e : Ending) (w' : World) : Prop :=
  ∃ (x k2 : Nat) (b2 : Bool), e = .returned (.int .i64 x) ∧ CS w' g s k2 b2 ∧ (x = c.toNat → toL s = c :: (toL s).drop k2) ∧ (x ≠ c.toNat → ∀ r, toL s ≠ c :: r) ∧ w.grownBy w' (some g)

theorem first_any (g : Nat) (s : ByteArray) (c : UInt8) (w : World) (h : CS w g s 0 false) (hl : s.size ≤ 1000000) (hc0 : c.toNat ≠ 0) :
    Calls Tryz.prog 43 #[.pointer (some ⟨g, 0, none⟩)] w fun e w' => FirstP g s c w e w' := by
  by_cases hs : 0 < s.size
  · have hd : toL s = (toL s).getD 0 0 :: (toL s).drop 1 := by
      have := drop_cons (toL s) 0 (by rw [size_toL]; exact hs)
      rwa [List.drop_zero] at this
    refine (byte_yes g s 0 w h hl hs).mono ?_
    rintro e w' ⟨rfl, h1, h2⟩
    refine ⟨_, 1, false, rfl, h1, fun hx => ?_, fun hx r hr => ?_, h2⟩
    · have : (toL s).getD 0 0 = c := UInt8.toNat_inj.1 hx
      rw [← this]; exact hd
    · rw [hr] at hx
      exact hx rfl
  · refine (byte_no g s 0 false w h hl (.inr (by omega))).mono ?_
    rintro e w' ⟨rfl, h1, h2⟩
    have hn : toL s = [] := List.length_eq_zero_iff.1 (by rw [size_toL]; omega)
    refine ⟨0, 0, true, rfl, h1, fun hx => absurd hx.symm hc0, fun _ r hr => ?_, h2⟩
    rw [hn] at hr; cases hr

end Go.Proofs.YtofomopmmopflaaGreatDoor
