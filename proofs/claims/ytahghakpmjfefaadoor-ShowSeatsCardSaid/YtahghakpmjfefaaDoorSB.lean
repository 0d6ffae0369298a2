/- Small texts: numbers, days, times, flights' keys (program and reference). -/
import Derived.Test.YtahghakpmjfefaaDoorSA
import Derived.Test.YtahghakpmjfefaaDoorKB
import Derived.Test.YtahghakpmjfefaaDoorKA
import Derived.Test.YtahghakpmjfefaaDoorKG
namespace Go.Proofs.YtahghakpmjfefaaDoor.Sh
open Go.RowKit En
set_option linter.unusedSimpArgs false
set_option linter.unusedVariables false
set_option maxRecDepth 20000

/-- The answer is a text. -/
def TxtE (l : List UInt8) (e : Ending) : Prop := ∃ s : ByteArray, e = .returned (.string s) ∧ toL s = l
theorem txt_size {s : ByteArray} {l : List UInt8} (h : toL s = l) : s.size = l.length := by rw [← h]; rfl
theorem toL_app (a b : ByteArray) : toL (a ++ b) = toL a ++ toL b := by simp [toL]
theorem toL_mk (l : List UInt8) : toL ⟨l.toArray⟩ = l := by simp [toL]
theorem toL_lit (a : Array UInt8) : toL ⟨a⟩ = a.toList := rfl

/-- The digits that stand already, and those still to come. -/
theorem digits_all (N : Nat) (w : World) (hN : (N : Int) ≤ 9223372036854775807) :
    Calls Tryd.prog 41 #[.int .i64 N] w fun e w' => TxtE (digL N) e ∧ Below w.heap.size w w' := by
  go_enter Tryd.func41, Tryd.ntmps41
  go_wp2
  go_loopw [0, 3] (fun x t wr => ∃ (n : Nat) (s : ByteArray), x = .int .i64 n ∧ t = .string s ∧ n ≤ N ∧ (s.size = 0 ∨ s.size + n + 8 ≤ N) ∧ RowKit.Hid (catA n s = digA N) ∧ Below w.heap.size w wr) (fun x _ _ => (intOf x).toNat)
  case atStart => exact ⟨N, ⟨#[]⟩, rfl, rfl, Nat.le_refl _, .inl rfl, Lib.hid (catA_start N), Below.refl _ _⟩
  case round =>
    obtain ⟨n, s, rfl, rfl, hnN, hsz, HC, hb⟩ := hrel
    obtain ⟨M, hM, hn63, hs63⟩ : ∃ M : Int, M ≤ 9223372036854775807 ∧ (n : Int) ≤ M ∧ (s.size : Int) + 2 ≤ M := ⟨9223372036854775807, Int.le_refl _, by omega, by omega⟩
    have HSZ := Lib.hid hsz
    clear hsz hN
    by_cases h : n < 10
    · have hc := dch_conv n (48 + (n : Int)) wr (by omega)
      have h9 : (n : Int) ≤ 9 := by omega
      have HR := Lib.hid (catA_end h s)
      go_wp2
      go_ret
      exact ⟨⟨_, rfl, by rw [show (⟨#[dch n]⟩ : ByteArray) ++ s = catA n s from HR.out, HC.out]; exact digA_list N⟩, hb.alloc hb.size _⟩
    · have hc := dch_conv n (48 + (n : Int) % 10) wr rfl
      have h9 : 9 < (n : Int) := by omega
      have HS := Lib.hid (catA_step h s)
      go_wp2
      refine ⟨⟨n / 10, ⟨#[dch n]⟩ ++ s, by go_num, rfl, by omega, ?_, Lib.hid (by rw [HS.out]; exact HC.out), hb.alloc hb.size _⟩, by simp [intOf]; omega⟩
      rw [ByteArray.size_append]
      have hsz := HSZ.out
      show _ ∨ 1 + s.size + n / 10 + 8 ≤ N
      omega

/-- What is told of an error's number. -/
def errL (e : Int) : List UInt8 := if e < 0 then [69, 63] else 69 :: digL e.toNat

theorem errno_any (k : Int) (w : World) (hk : (Lit.int .i64 k).wf = true) :
    Calls Tryd.prog 50 #[.int .i64 k] w fun e w' => TxtE (errL k) e ∧ Below w.heap.size w w' := by
  have hb63 : -9223372036854775808 ≤ k ∧ k ≤ 9223372036854775807 := by
    simp [Lit.wf, IntKind.min, IntKind.max, IntKind.signed, IntKind.bits] at hk
    omega
  clear hk
  by_cases hk0 : k < 0
  · go_enter Tryd.func50, Tryd.ntmps50
    go_wp2
    go_ret
    exact ⟨⟨_, rfl, by unfold errL; rw [if_pos hk0]; rfl⟩, Below.refl _ _⟩
  obtain ⟨N, rfl⟩ := Int.eq_ofNat_of_zero_le (by omega : 0 ≤ k)
  have hN : (N : Int) ≤ 9223372036854775807 := hb63.2
  clear hb63
  go_enter Tryd.func50, Tryd.ntmps50
  go_wp2
  go_loopw [3, 4] (fun x t wr => ∃ (n : Nat) (s : ByteArray), x = .int .i64 n ∧ t = .string s ∧ n ≤ N ∧ (s.size = 0 ∨ s.size + n + 8 ≤ N) ∧ RowKit.Hid (catA n s = digA N) ∧ Below w.heap.size w wr) (fun x _ _ => (intOf x).toNat)
  case atStart => exact ⟨N, ⟨#[]⟩, rfl, rfl, Nat.le_refl _, .inl rfl, Lib.hid (catA_start N), Below.refl _ _⟩
  case round =>
    obtain ⟨n, s, rfl, rfl, hnN, hsz, HC, hb⟩ := hrel
    obtain ⟨M, hM, hn63, hs63⟩ : ∃ M : Int, M ≤ 9223372036854775807 ∧ (n : Int) ≤ M ∧ (s.size : Int) + 4 ≤ M := ⟨9223372036854775807, Int.le_refl _, by omega, by omega⟩
    have HSZ := Lib.hid hsz
    clear hsz hN
    by_cases h : n < 10
    · have hc := dch_conv n (48 + (n : Int)) wr (by omega)
      have h9 : (n : Int) ≤ 9 := by omega
      have HR := Lib.hid (catA_end h s)
      go_wp2
      go_ret
      refine ⟨⟨_, rfl, ?_⟩, hb.alloc hb.size _⟩
      unfold errL
      rw [if_neg (show ¬ ((N : Int) < 0) by omega), toL_app, toL_app]
      have e1 : toL (⟨#[dch n]⟩ : ByteArray) ++ toL s = digL N := by
        rw [← toL_app, show (⟨#[dch n]⟩ : ByteArray) ++ s = catA n s from HR.out, HC.out]
        exact digA_list N
      rw [List.append_assoc, e1]
      rfl
    · have hc := dch_conv n (48 + (n : Int) % 10) wr rfl
      have h9 : 9 < (n : Int) := by omega
      have HS := Lib.hid (catA_step h s)
      go_wp2
      refine ⟨⟨n / 10, ⟨#[dch n]⟩ ++ s, by go_num, rfl, by omega, ?_, Lib.hid (by rw [HS.out]; exact HC.out), hb.alloc hb.size _⟩, by simp [intOf]; omega⟩
      rw [ByteArray.size_append]
      have hsz := HSZ.out
      show _ ∨ 1 + s.size + n / 10 + 8 ≤ N
      omega

theorem neg_mod (n : Nat) : (-(n : Int)).tmod 10 = -((n : Int) % 10) := by
  rw [Int.neg_tmod, Int.tmod_eq_emod_of_nonneg (by omega)]
theorem neg_div (n : Nat) : (-(n : Int)).tdiv 10 = -((n : Int) / 10) := by
  rw [Int.neg_tdiv, Int.tdiv_eq_ediv_of_nonneg (by omega)]

theorem number_any (k : Int) (w : World) (hk : (Lit.int .i64 k).wf = true) :
    Calls Tryd.prog 35 #[.int .i64 k] w fun e w' => TxtE (itoaL k) e ∧ Below w.heap.size w w' := by
  have hb63 : -9223372036854775808 ≤ k ∧ k ≤ 9223372036854775807 := by
    simp [Lit.wf, IntKind.min, IntKind.max, IntKind.signed, IntKind.bits] at hk
    omega
  clear hk
  by_cases hk0 : 0 ≤ k
  · obtain ⟨N, rfl⟩ := Int.eq_ofNat_of_zero_le hk0
    have HD := Lib.hid (digits_all N w hb63.2)
    go_enter Tryd.func35, Tryd.ntmps35
    go_wp2_with (go_at_call 41; (with_reducible refine HD.out.mono ?_); rintro e w1 ⟨⟨s, rfl, hs⟩, hb1⟩)
    go_ret
    exact ⟨⟨s, rfl, by unfold itoaL; rw [if_neg (by omega)]; exact hs⟩, hb1⟩
  obtain ⟨N, rfl⟩ : ∃ N : Nat, k = -(N : Int) := ⟨k.natAbs, by omega⟩
  have hN : (N : Int) ≤ 9223372036854775808 := by omega
  have hN0 : 0 < N := by omega
  clear hb63
  go_enter Tryd.func35, Tryd.ntmps35
  go_wp2
  go_loopw [0, 3] (fun x t wr => ∃ (n : Nat) (s : ByteArray), x = .int .i64 (-(n : Int)) ∧ t = .string s ∧ n ≤ N ∧ (s.size = 0 ∨ s.size + n + 8 ≤ N) ∧ RowKit.Hid (catA n s = digA N) ∧ Below w.heap.size w wr) (fun x _ _ => (intOf x).natAbs)
  case atStart => exact ⟨N, ⟨#[]⟩, rfl, rfl, Nat.le_refl _, .inl rfl, Lib.hid (catA_start N), Below.refl _ _⟩
  case round =>
    obtain ⟨n, s, rfl, rfl, hnN, hsz, HC, hb⟩ := hrel
    obtain ⟨M, hM, hn63, hs63⟩ : ∃ M : Int, M ≤ 9223372036854775807 ∧ (n : Int) ≤ M + 1 ∧ (s.size : Int) + 4 ≤ M := ⟨9223372036854775807, Int.le_refl _, by omega, by omega⟩
    have HSZ := Lib.hid hsz
    clear hsz hN
    by_cases h : n < 10
    · have hc := dch_conv n (48 + (n : Int)) wr (by omega)
      have h9 : (n : Int) ≤ 9 := by omega
      have HR := Lib.hid (catA_end h s)
      go_wp2
      go_ret
      refine ⟨⟨_, rfl, ?_⟩, hb.alloc hb.size _⟩
      unfold itoaL
      rw [if_pos (by omega), toL_app, toL_app, show (-(N : Int)).natAbs = N by omega]
      have e1 : toL (⟨#[dch n]⟩ : ByteArray) ++ toL s = digL N := by
        rw [← toL_app, show (⟨#[dch n]⟩ : ByteArray) ++ s = catA n s from HR.out, HC.out]
        exact digA_list N
      rw [List.append_assoc, e1]
      rfl
    · have hc := dch_conv n (48 + (n : Int) % 10) wr rfl
      have h9 : -(n : Int) < -9 := by omega
      have HS := Lib.hid (catA_step h s)
      have hm := neg_mod n
      have hd := neg_div n
      go_wp2
      refine ⟨⟨n / 10, ⟨#[dch n]⟩ ++ s, by go_num, rfl, by omega, ?_, Lib.hid (by rw [HS.out]; exact HC.out), hb.alloc hb.size _⟩, by simp [intOf]; omega⟩
      rw [ByteArray.size_append]
      have hsz := HSZ.out
      show _ ∨ 1 + s.size + n / 10 + 8 ≤ N
      omega

theorem day_any (n : Int) (w : World) (ht : Da.LenTab w) : Calls Tryd.prog 32 #[.int .i64 n] w fun e w' => TxtE (dTx n) e ∧ Below w.heap.size w w' := by
  have H : RowKit.Hid (Calls Tryd.prog 55 #[.int .i64 n] w fun e w' => (∃ s z, e = .returned (.tuple #[.string s, .int .i64 z]) ∧ toL s = dTx n) ∧ Below w.heap.size w w') := Lib.hid ((Da.text_all n w ht).mono fun e w' ⟨he, hb⟩ => ⟨⟨_, _, he, by
    unfold Da.dS dTx
    split
    · exact Da.dA_list _
    · rfl⟩, hb⟩)
  go_enter Tryd.func32, Tryd.ntmps32
  go_wp2_with (go_at_call 55; (with_reducible refine H.out.mono ?_); rintro e w1 ⟨⟨s, z, rfl, hs⟩, hb1⟩)
  go_ret
  exact ⟨⟨s, rfl, hs⟩, hb1⟩
theorem clock_anyS (n : Int) (w : World) : Calls Tryd.prog 40 #[.int .i64 n] w fun e w' => TxtE (cTx n) e ∧ Below w.heap.size w w' := by
  have H : RowKit.Hid (Calls Tryd.prog 58 #[.int .i64 n] w fun e w' => (∃ s z, e = .returned (.tuple #[.string s, .int .i64 z]) ∧ toL s = cTx n) ∧ Below w.heap.size w w') := Lib.hid ((Da.clock_all n w).mono fun e w' ⟨he, hb⟩ => ⟨⟨_, _, he, by
    unfold Da.cS cTx
    split
    · exact Da.cA_list _
    · rfl⟩, hb⟩)
  go_enter Tryd.func40, Tryd.ntmps40
  go_wp2_with (go_at_call 58; (with_reducible refine H.out.mono ?_); rintro e w1 ⟨⟨s, z, rfl, hs⟩, hb1⟩)
  go_ret
  exact ⟨⟨s, rfl, hs⟩, hb1⟩
theorem rday_any (n : Int) (w : World) : Calls Tryd.prog 37 #[.int .i64 n] w fun e w' => TxtE (dTx n) e ∧ Below w.heap.size w w' := by
  have H : RowKit.Hid (Calls Tryd.prog 56 #[.int .i64 n] w fun e w' => (∃ s z, e = .returned (.tuple #[.string s, .int .i64 z]) ∧ toL s = dTx n) ∧ Below w.heap.size w w') := Lib.hid ((Da.rtext_all n w).mono fun e w' ⟨he, hb⟩ => ⟨⟨_, _, he, by
    unfold Da.dS dTx
    split
    · exact Da.dA_list _
    · rfl⟩, hb⟩)
  go_enter Tryd.func37, Tryd.ntmps37
  go_wp2_with (go_at_call 56; (with_reducible refine H.out.mono ?_); rintro e w1 ⟨⟨s, z, rfl, hs⟩, hb1⟩)
  go_ret
  exact ⟨⟨s, rfl, hs⟩, hb1⟩
theorem rclock_anyS (n : Int) (w : World) : Calls Tryd.prog 42 #[.int .i64 n] w fun e w' => TxtE (cTx n) e ∧ Below w.heap.size w w' := by
  have H : RowKit.Hid (Calls Tryd.prog 59 #[.int .i64 n] w fun e w' => (∃ s z, e = .returned (.tuple #[.string s, .int .i64 z]) ∧ toL s = cTx n) ∧ Below w.heap.size w w') := Lib.hid ((Da.rclock_all n w).mono fun e w' ⟨he, hb⟩ => ⟨⟨_, _, he, by
    unfold Da.cS cTx
    split
    · exact Da.cA_list _
    · rfl⟩, hb⟩)
  go_enter Tryd.func42, Tryd.ntmps42
  go_wp2_with (go_at_call 59; (with_reducible refine H.out.mono ?_); rintro e w1 ⟨⟨s, z, rfl, hs⟩, hb1⟩)
  go_ret
  exact ⟨⟨s, rfl, hs⟩, hb1⟩

/-- Any number, as a text. -/
theorem itoa_t (n : Int) (hn : (Lit.int .i64 n).wf = true) (w : World) (ht : PowTab w) : Calls Tryd.prog 30 #[.int .i64 n] w fun e w' => TxtE (itoaL n) e ∧ Below w.heap.size w w' :=
  (itoa_m n hn w ht).mono fun e w' ⟨he, hb⟩ => ⟨⟨_, he, toL_mk _⟩, hb⟩
end Go.Proofs.YtahghakpmjfefaaDoor.Sh
