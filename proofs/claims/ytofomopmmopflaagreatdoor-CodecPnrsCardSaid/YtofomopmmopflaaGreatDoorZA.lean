/- The reference's bytes of a PNR. Printed by tools/gen_za.py. -/
import Derived.Test.YtofomopmmopflaaGreatDoorZK
import Derived.Test.YtofomopmmopflaaGreatDoorGO
import Derived.Test.YtofomopmmopflaaGreatDoorGJ
import Derived.Test.YtofomopmmopflaaGreatDoorFM
namespace Go.Proofs.YtofomopmmopflaaGreatDoor
open Go.RowKit Go.ChangeMaps
set_option linter.unusedSimpArgs false
set_option linter.unusedVariables false
set_option maxRecDepth 20000

theorem rtextS_any (bs : List UInt8) (t : ByteArray) (w : World) (h1 : bs.length ≤ 900000) (h2 : t.size ≤ 2000) :
    Calls Tryz.prog 25 #[.string (strA bs), .string t] w fun e w' => e = .returned (.string (strA (bs ++ textB t))) ∧ Below w.heap.size w w' := by
  have HN : RowKit.Hid (∀ W, Calls Tryz.prog 27 #[.string (strA bs), .int .i64 (t.size : Int)] W fun e w' => e = .returned (.string (strA (bs ++ varL t.size))) ∧ Below W.heap.size W w') := Lib.hid fun W => by
    have := refNumber_any (strA bs) (t.size : Int) W (by omega) (by omega) (by rw [strA_size]; omega)
    rw [Int.toNat_natCast, strA_append] at this
    exact this
  have HT : RowKit.Hid (strA (bs ++ varL t.size) ++ t = strA (bs ++ textB t)) := Lib.hid (by
    apply toL_inj
    rw [toL_append, strA_toL, strA_toL]
    unfold textB
    rw [List.append_assoc])
  have hv := varL_len 2 t.size (by omega)
  have hz : (strA (bs ++ varL t.size)).size ≤ 900003 := by rw [strA_size, List.length_append]; omega
  clear hv h1
  generalize strA (bs ++ varL t.size) = S1 at *
  generalize strA bs = S0 at *
  generalize strA (bs ++ textB t) = S2 at *
  have q1 : ¬ (9223372036854775807 < S1.size + t.size) := by omega
  go_enter Tryz.func25, Tryz.ntmps25
  go_wp2_with (first
    | (go_at_call 27; (with_reducible refine (HN.out _).mono ?_); rintro e w2 ⟨rfl, hb2⟩))
  go_ret
  exact ⟨by first | rfl | (rw [HT.out]; rfl), hb2⟩

set_option maxHeartbeats 4000000 in
theorem rtextsS_any (bs : List UInt8) (l : List ByteArray) (v : Value) (w : World) (h : HasL w v l) (hn : l.length ≤ 100) (hz : ∀ s ∈ l, s.size ≤ 1000) (hb : bs.length ≤ 500000) :
    Calls Tryz.prog 29 #[.string (strA bs), v] w fun e w' => e = .returned (.string (strA (bs ++ textsB l))) ∧ Below w.heap.size w w' := by
  obtain ⟨p, c, rfl⟩ := own_len h
  have HH := Lib.hid h
  have HZ := Lib.hid hz
  obtain ⟨N, hN⟩ : ∃ N, l.length = N := ⟨_, rfl⟩
  have HN : RowKit.Hid (∀ W, Calls Tryz.prog 27 #[.string (strA bs), .int .i64 (N : Int)] W fun e w' => e = .returned (.string (strA (bs ++ varL N))) ∧ Below W.heap.size W w') := Lib.hid fun W => by
    have := refNumber_any (strA bs) (N : Int) W (by omega) (by omega) (by rw [strA_size]; omega)
    rw [Int.toNat_natCast, strA_append] at this
    exact this
  have hv := varL_len 0 N (by omega)
  have HV : RowKit.Hid ((bs ++ varL N).length ≤ 500001) := Lib.hid (by rw [List.length_append]; omega)
  have HE : RowKit.Hid (bs ++ textsB l = bs ++ varL N ++ l.flatMap textB) := Lib.hid (by unfold textsB; rw [hN, List.append_assoc])
  have HT : RowKit.Hid (∀ (cs : List UInt8) (t : ByteArray) W, cs.length ≤ 900000 → t.size ≤ 2000 → Calls Tryz.prog 25 #[.string (strA cs), .string t] W fun e w' => e = .returned (.string (strA (cs ++ textB t))) ∧ Below W.heap.size W w') := Lib.hid fun cs t W => rtextS_any cs t W
  rw [hN]
  have HNN := Lib.hid hN
  clear h hz hb hN hv
  generalize bs ++ varL N = b1 at *
  generalize strA bs = S0 at *
  go_enter Tryz.func29, Tryz.ntmps29
  go_wp2_with (first
    | (go_at_call 27; (with_reducible refine (HN.out _).mono ?_); rintro e w2 ⟨rfl, hb2⟩))
  have HB2 := Lib.hid hb2
  clear hb2 HN
  go_loopg [0, 5] N (fun g0 s0 s5 wr => ∃ i : Nat, i ≤ N ∧ g0 = N - i ∧ s5 = .int .i64 (i : Int) ∧ s0 = .string (strA (b1 ++ (l.take i).flatMap textB)) ∧ Below w.heap.size w wr)
  case atStart => exact ⟨0, Nat.zero_le _, rfl, rfl, by simp, HB2.out⟩
  case round =>
    obtain ⟨i, hiN, rfl, rfl, rfl, hbw⟩ := hrel
    rename World => wr
    have HBW := Lib.hid hbw
    clear hbw HB2
    by_cases hlt : i < N
    · have hii : (i : Int) < (N : Int) := by omega
      have hi0 : (0 : Int) ≤ (i : Int) := by omega
      have hil : i < l.length := by rw [HNN.out]; exact hlt
      have hwi : IntKind.i64.wrap ((i : Int) + 1) = (i : Int) + 1 := IntWalk.i64_in _ (by omega)
      obtain ⟨bb, of2, nn2, cc2, he2, t0⟩ := text_at2 (HH.out.mono HBW.out) hil
      rw [HNN.out] at he2
      injection he2 with e1 e2 e3
      subst e1
      subst e2
      subst e3
      have hone := HZ.out _ (List.mem_of_getElem? (getD_atZ ByteArray.empty hil))
      have HX : RowKit.Hid (b1 ++ (l.take (i + 1)).flatMap textB = b1 ++ (l.take i).flatMap textB ++ textB (l.getD i ByteArray.empty)) := Lib.hid (by rw [flat_take (getD_atZ ByteArray.empty hil), List.append_assoc])
      have hlen : (b1 ++ (l.take i).flatMap textB).length ≤ 900000 := by
        have k1 := flat_le (l := l.take i) (f := textB) (k := 1003) fun x hx => by
          have h1 := HZ.out x (List.mem_of_mem_take hx)
          have h2 := varL_len 1 x.size (by omega)
          unfold textB
          rw [List.length_append, size_toL]
          omega
        have h3 := HV.out
        rw [List.length_take] at k1
        rw [List.length_append]
        have : min i l.length * 1003 ≤ 100 * 1003 := Nat.mul_le_mul_right _ (by omega)
        omega
      generalize l.getD i ByteArray.empty = x at *
      have HC := Lib.hid (HT.out (b1 ++ (l.take i).flatMap textB) x wr hlen (by omega))
      rw [← HX.out] at HC
      clear HX hlen hone
      generalize strA (b1 ++ (l.take i).flatMap textB) = S1 at *
      generalize hS2 : strA (b1 ++ (l.take (i + 1)).flatMap textB) = S2 at HC
      have HS2 := Lib.hid hS2
      clear hS2
      go_wp2_with (first
        | (go_at_call 25; (with_reducible refine HC.out.mono ?_); rintro e w4 ⟨rfl, hb4⟩))
      go_roundg (N - (i + 1))
      case measure => omega
      case rel => exact ⟨i + 1, by omega, rfl, by go_num, by rw [HS2.out], bel_trans HBW.out hb4⟩
    · have hie : i = N := by omega
      have hii : ¬ (i : Int) < (N : Int) := by omega
      have HK : RowKit.Hid (l.take i = l) := Lib.hid (List.take_of_length_le (by rw [HNN.out]; omega))
      clear hie
      go_wp2
      go_ret
      exact ⟨by rw [HK.out, HE.out]; rfl, HBW.out⟩
theorem rflag_any (b : Bool) (w : World) : Calls Tryz.prog 28 #[.bool b] w fun e w' => e = .returned (.int .i64 (if b then 1 else 0)) ∧ Below w.heap.size w w' := by
  cases b
  · go_enter Tryz.func28, Tryz.ntmps28
    go_wp2
    go_ret
    exact ⟨rfl, Below.refl _ _⟩
  · go_enter Tryz.func28, Tryz.ntmps28
    go_wp2
    go_ret
    exact ⟨rfl, Below.refl _ _⟩
end Go.Proofs.YtofomopmmopflaaGreatDoor
