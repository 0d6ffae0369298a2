/- word.ReadVar, word.Get. -/
import Derived.Test.YtjahkaidinahpaaDoorEG
namespace Go.Proofs.YtjahkaidinahpaaDoor
open Go.RowKit Go.ChangeMaps
set_option linter.unusedSimpArgs false
set_option linter.unusedVariables false
set_option maxRecDepth 20000

theorem or_add {acc y m : Nat} (h : acc < 2 ^ m) : acc ||| y * 2 ^ m = acc + y * 2 ^ m := by
  have := Nat.two_pow_add_eq_or_of_lt h y
  rw [Nat.or_comm, Nat.mul_comm, ← this, Nat.add_comm]

theorem part_lt {y i : Nat} (hi : i ≤ 9) (h9 : i = 9 → y ≤ 1) (hy : y < 128) : y * 2 ^ (7 * i) < 18446744073709551616 ∧ 2 ^ (7 * i) ≤ 9223372036854775808 := by
  rcases Nat.lt_or_ge i 9 with h | h
  · have hp : 2 ^ (7 * i) ≤ 2 ^ 56 := Nat.pow_le_pow_right (by omega) (by omega)
    have hm : y * 2 ^ (7 * i) ≤ 127 * 2 ^ 56 := Nat.mul_le_mul (by omega) hp
    have e1 : (2 : Nat) ^ 56 = 72057594037927936 := by decide
    rw [e1] at hp hm
    omega
  · have : i = 9 := by omega
    subst this
    have := h9 rfl
    have e1 : (2 : Nat) ^ (7 * 9) = 9223372036854775808 := by decide
    rw [e1]
    have hm : y * 9223372036854775808 ≤ 1 * 9223372036854775808 := Nat.mul_le_mul this (Nat.le_refl _)
    omega

theorem shl_or {acc y i : Nat} (hi : i ≤ 9) (h9 : i = 9 → y ≤ 1) (hy : y < 128) (ha : acc < 2 ^ (7 * i)) :
    bits .or .u64 (acc : Int) (IntKind.u64.wrap ((y : Int) * 2 ^ (7 * i))) = ((acc + y * 2 ^ (7 * i) : Nat) : Int) := by
  obtain ⟨h1, h2⟩ := part_lt hi h9 hy
  have e1 : IntKind.u64.wrap ((y : Int) * 2 ^ (7 * i)) = ((y * 2 ^ (7 * i) : Nat) : Int) := by
    rw [IntKind.wrap_u64, Int.natCast_mul, Int.natCast_pow]
    have e : ((y : Int) * ((2 : Nat) : Int) ^ (7 * i)) = ((y * 2 ^ (7 * i) : Nat) : Int) := by rw [Int.natCast_mul, Int.natCast_pow]
    rw [show ((y : Int) * 2 ^ (7 * i)) = ((y : Int) * ((2 : Nat) : Int) ^ (7 * i)) from rfl, e]
    generalize y * 2 ^ (7 * i) = z at *
    omega
  rw [e1, u64_or_nat _ _ (by omega) h1, or_add ha]

theorem and127 (x : Nat) (h : x < 256) : bits .and .u8 (x : Int) 127 = ((x % 128 : Nat) : Int) := by
  rw [show (127 : Int) = ((127 : Nat) : Int) from rfl, u8_and_nat _ _ h (by omega)]
  congr 1
  exact Nat.and_two_pow_sub_one_eq_mod x 7

/-- What ReadVar tells. -/
def rvP (l : List UInt8) (e : Ending) : Prop :=
  (∃ n k : Nat, rvL 0 0 l = some (n, k) ∧ e = .returned (.tuple #[.int .u64 n, .int .i64 k, .int .i64 0])) ∨ (rvL 0 0 l = none ∧ ∃ z : Int, z ≠ 0 ∧ e = .returned (.tuple #[.int .u64 0, .int .i64 0, .int .i64 z]))

theorem rvL_bad {i acc : Nat} {x : UInt8} {t : List UInt8} (h : (i = 9 ∧ 1 < x.toNat) ∨ (0 < i ∧ x.toNat = 0)) : rvL i acc (x :: t) = none := by
  rw [rvL, if_pos h]
theorem rvL_end {i acc : Nat} {x : UInt8} {t : List UInt8} (h : ¬ ((i = 9 ∧ 1 < x.toNat) ∨ (0 < i ∧ x.toNat = 0))) (hx : x.toNat < 128) : rvL i acc (x :: t) = some (acc + x.toNat % 128 * 2 ^ (7 * i), i + 1) := by
  rw [rvL, if_neg h, if_pos hx]
theorem rvL_on {i acc : Nat} {x : UInt8} {t : List UInt8} (h : ¬ ((i = 9 ∧ 1 < x.toNat) ∨ (0 < i ∧ x.toNat = 0))) (hx : ¬ x.toNat < 128) : rvL i acc (x :: t) = rvL (i + 1) (acc + x.toNat % 128 * 2 ^ (7 * i)) t := by
  rw [rvL, if_neg h, if_neg hx]
theorem next_lt {acc y i : Nat} (ha : acc < 2 ^ (7 * i)) (hy : y < 128) : acc + y * 2 ^ (7 * i) < 2 ^ (7 * (i + 1)) := by
  have e : (2 : Nat) ^ (7 * (i + 1)) = 2 ^ (7 * i) * 128 := by rw [Nat.mul_succ, Nat.pow_add]
  rw [e]
  have : y * 2 ^ (7 * i) ≤ 127 * 2 ^ (7 * i) := Nat.mul_le_mul (by omega) (Nat.le_refl _)
  omega

set_option maxHeartbeats 8000000 in
theorem readVar_any (l : List UInt8) (v : Value) (w : World) (hv : HasE byteC w v l) (hl : l.length ≤ 1000000) :
    Calls Tryd.prog 115 #[v] w fun e w' => rvP l e ∧ w = w' := by
  obtain ⟨p, c, rfl⟩ := hv.len
  have HV := Lib.hid hv
  generalize hN : l.length = N at *
  have HN := Lib.hid hN
  clear hv hN
  go_enter Tryd.func115, Tryd.ntmps115
  go_wp2
  go_loopg [2, 9] N (fun g0 s2 s9 wr => ∃ i acc : Nat, i ≤ N ∧ i ≤ 9 ∧ g0 = N - i ∧ s2 = .int .u64 (acc : Int) ∧ s9 = .int .i64 (i : Int) ∧ acc < 2 ^ (7 * i) ∧ rvL 0 0 l = rvL i acc (l.drop i) ∧ w = wr)
  case atStart => exact ⟨0, 0, Nat.zero_le _, by omega, rfl, rfl, rfl, by decide, rfl, rfl⟩
  case round =>
    obtain ⟨i, acc, hi, hi9, rfl, rfl, rfl, hacc, hrv, rfl⟩ := hrel
    have HRV := Lib.hid hrv
    have HAC := Lib.hid hacc
    clear hrv hacc
    by_cases hlt : i < N
    · have hki : (i : Int) < (N : Int) := by omega
      have hk0 : (0 : Int) ≤ (i : Int) := by omega
      obtain ⟨b, off, rfl, c0⟩ := byte_at HV.out (i := i) (by rw [HN.out]; exact hlt)
      have hdr : l.drop i = l.getD i 0 :: l.drop (i + 1) := drop_cons l i (by rw [HN.out]; exact hlt)
      rw [hdr] at HRV
      have hx256 : (l.getD i 0).toNat < 256 := (l.getD i 0).toNat_lt
      have HBAD := Lib.hid fun h => HRV.out.trans (rvL_bad (i := i) (acc := acc) (x := l.getD i 0) (t := l.drop (i + 1)) h)
      have HEND := Lib.hid fun h h2 => HRV.out.trans (rvL_end (i := i) (acc := acc) (x := l.getD i 0) (t := l.drop (i + 1)) h h2)
      have HON := Lib.hid fun h h2 => HRV.out.trans (rvL_on (i := i) (acc := acc) (x := l.getD i 0) (t := l.drop (i + 1)) h h2)
      clear hdr HRV
      generalize l.getD i 0 = x at *
      have hand := and127 x.toNat hx256
      by_cases hbad : (i = 9 ∧ 1 < x.toNat) ∨ (0 < i ∧ x.toNat = 0)
      · have HF := Lib.hid (HBAD.out hbad)
        by_cases h9 : i = 9 ∧ 1 < x.toNat
        · have hb9 : ((i : Int) == 9) = true := by rw [beq_iff_eq]; omega
          have hx1 : (1 : Int) < (x.toNat : Int) := by omega
          clear hbad h9
          go_wp2
          go_ret3
          exact ⟨.inr ⟨HF.out, 4, by decide, rfl⟩, rfl⟩
        · have h0 : 0 < i ∧ x.toNat = 0 := by omega
          have hb9 : ((i : Int) == 9) = false ∨ ((i : Int) == 9) = true ∧ ¬ (1 : Int) < (x.toNat : Int) := by
            by_cases h : i = 9
            · right; exact ⟨by rw [beq_iff_eq]; omega, by omega⟩
            · left; rw [beq_eq_false_iff_ne]; omega
          have hi0 : (0 : Int) < (i : Int) := by omega
          have hx0 : ((x.toNat : Int) == 0) = true := by rw [beq_iff_eq]; omega
          clear hbad h9 h0
          rcases hb9 with hb9 | ⟨hb9, hx1⟩
          · go_wp2
            go_ret3
            exact ⟨.inr ⟨HF.out, 4, by decide, rfl⟩, rfl⟩
          · go_wp2
            go_ret3
            exact ⟨.inr ⟨HF.out, 4, by decide, rfl⟩, rfl⟩
      · have h9y : i = 9 → x.toNat % 128 ≤ 1 := fun h => by omega
        have HOR := Lib.hid (shl_or (y := x.toNat % 128) hi9 h9y (by omega) HAC.out)
        have hNB : (((i : Int) == 9) = false ∧ ¬ (0 : Int) < (i : Int)) ∨ (((i : Int) == 9) = false ∧ (0 : Int) < (i : Int) ∧ ((x.toNat : Int) == 0) = false) ∨ (((i : Int) == 9) = true ∧ ¬ (1 : Int) < (x.toNat : Int) ∧ (0 : Int) < (i : Int) ∧ ((x.toNat : Int) == 0) = false) := by
          by_cases h : i = 9
          · exact .inr (.inr ⟨by rw [beq_iff_eq]; omega, by omega, by omega, by rw [beq_eq_false_iff_ne]; omega⟩)
          · by_cases h0 : 0 < i
            · exact .inr (.inl ⟨by rw [beq_eq_false_iff_ne]; omega, by omega, by rw [beq_eq_false_iff_ne]; omega⟩)
            · exact .inl ⟨by rw [beq_eq_false_iff_ne]; omega, by omega⟩
        by_cases hx : x.toNat < 128
        · have hxi : (x.toNat : Int) < 128 := by omega
          have HF := Lib.hid (HEND.out hbad hx)
          have hor := HOR.out
          generalize acc + x.toNat % 128 * 2 ^ (7 * i) = res at *
          generalize hm : x.toNat % 128 = y at *
          have hy : y < 128 := by omega
          clear hbad h9y hx hm
          rcases hNB with ⟨hb9, hb0⟩ | ⟨hb9, hb0, hx0⟩ | ⟨hb9, hx1, hb0, hx0⟩
          all_goals
            go_wp2
            go_ret3
            exact ⟨.inl ⟨res, i + 1, HF.out, by rfl⟩, rfl⟩
        · have hxi : ¬ (x.toNat : Int) < 128 := by omega
          have HF := Lib.hid (HON.out hbad hx)
          have hi8 : i + 1 ≤ 9 := by omega
          have HNX := Lib.hid (next_lt (acc := acc) (y := x.toNat % 128) (i := i) HAC.out (by omega))
          have hor := HOR.out
          generalize acc + x.toNat % 128 * 2 ^ (7 * i) = res at *
          generalize hm : x.toNat % 128 = y at *
          have hy : y < 128 := by omega
          clear hbad h9y hx hm
          rcases hNB with ⟨hb9, hb0⟩ | ⟨hb9, hb0, hx0⟩ | ⟨hb9, hx1, hb0, hx0⟩
          · go_wp2
            go_roundg (N - (i + 1))
            case measure => omega
            case rel => exact ⟨i + 1, res, by omega, hi8, rfl, by rfl, by go_num, HNX.out, HF.out, rfl⟩
          · go_wp2
            go_roundg (N - (i + 1))
            case measure => omega
            case rel => exact ⟨i + 1, res, by omega, hi8, rfl, by rfl, by go_num, HNX.out, HF.out, rfl⟩
          · exfalso
            rw [beq_iff_eq] at hb9
            omega
    · have hie : i = N := by omega
      subst hie
      have hki : ¬ (i : Int) < (i : Int) := by omega
      have hd0 : l.drop i = [] := List.drop_eq_nil_of_le (by rw [HN.out]; omega)
      rw [hd0] at HRV
      have HF : RowKit.Hid (rvL 0 0 l = none) := Lib.hid HRV.out
      go_wp2
      go_ret3
      exact ⟨.inr ⟨HF.out, 5, by decide, rfl⟩, rfl⟩
end Go.Proofs.YtjahkaidinahpaaDoor
