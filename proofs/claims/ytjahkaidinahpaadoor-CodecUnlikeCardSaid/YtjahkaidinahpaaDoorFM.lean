/- jetwayref14.OfLeg. -/
import Derived.Test.YtjahkaidinahpaaDoorFL
namespace Go.Proofs.YtjahkaidinahpaaDoor
open Go.RowKit Go.ChangeMaps
set_option linter.unusedSimpArgs false
set_option linter.unusedVariables false
set_option maxRecDepth 20000

theorem refFixed_any (s : ByteArray) (n k : Nat) (w : World) (hn : n < 9223372036854775808) (hs : s.size ≤ 1000000) (hk : k ≤ 8) :
    Calls Tryd.prog 78 #[.string s, .int .i64 n, .int .i64 k] w fun e w' => e = .returned (.string (s ++ strA (beL n k))) ∧ Below w.heap.size w w' := by
  have HC := Lib.hid fun W => refPut_any s n k W (by omega) hs hk
  generalize s ++ strA (beL n k) = S at *
  go_enter Tryd.func78, Tryd.ntmps78
  go_wp2_with (first
    | (go_at_call 50; (with_reducible refine (HC.out _).mono ?_); rintro e w2 ⟨rfl, hb2⟩))
  go_ret
  exact ⟨rfl, hb2⟩

set_option maxHeartbeats 16000000 in
theorem refOfLeg_any (s : List SoldT) (h : List HeldT) (vs vh : Value) (w : World) (hs : HasE soldC w vs s) (hh : HasE heldC w vh h) (hz : ∀ x ∈ h, x.loc.size ≤ maxLen) :
    Calls Tryd.prog 35 #[.agg #[vs, vh]] w fun e w' => stP (legF s h) e ∧ Below w.heap.size w w' := by
  have HLF := Lib.hid (legF_bool (s := s) (h := h))
  have HSND : RowKit.Hid (soundLB s h = true → SoundL s h) := Lib.hid soundLB_iff
  have HSO : RowKit.Hid (∀ W, HasE soldC W vs s → HasE heldC W vh h → Calls Tryd.prog 77 #[.agg #[vs, vh]] W fun e w' => e = .returned (.bool (soundLB s h)) ∧ Below W.heap.size W w') := Lib.hid fun W k1 k2 => refSound_any s h vs vh W k1 k2 hz
  generalize legF s h = qb at *
  generalize soundLB s h = sb at *
  obtain ⟨ps, cs, rfl⟩ := hs.len
  obtain ⟨ph, ch, rfl⟩ := hh.len
  obtain ⟨w1, e1, a0, a1, hb1, hz1⟩ := leg_boxed w 88 (.slice ps s.length cs) (.slice ph h.length ch)
  have HS := Lib.hid (hs.mono hb1)
  have HH := Lib.hid (hh.mono hb1)
  have HB := Lib.hid hb1
  have HZ := Lib.hid hz
  have HSO1 := Lib.hid (HSO.out _ HS.out HH.out)
  clear hs hh hb1 hz1 hz HSO
  generalize hN : s.length = N at *
  generalize hM : h.length = M at *
  have HN := Lib.hid hN
  have HM := Lib.hid hM
  clear hN hM
  cases sb with
  | false =>
    have HF : RowKit.Hid (qb = none) := Lib.hid (HLF.out.trans (if_neg (by decide)))
    go_enter Tryd.func35, Tryd.ntmps35
    go_wp2_with (first
      | (go_at_call 77; (with_reducible refine HSO1.out.mono ?_); rintro e w2 ⟨rfl, hb2⟩))
    go_ret2
    exact ⟨.inr ⟨HF.out, rfl⟩, below_low HB.out HB.out.size hb2⟩
  | true =>
    have HSL := Lib.hid (HSND.out rfl)
    have HT : RowKit.Hid (qb = some (legB s h)) := Lib.hid (HLF.out.trans (if_pos rfl))
    have hN6 : N ≤ 6 := by have := HSL.out.1; rw [HN.out] at this; exact this
    have hM6 : M ≤ 600 := by have := HSL.out.2.1; rw [HM.out] at this; exact this
    have hvl : (varL N).length ≤ 1 := by rw [varL_small (by omega)]; exact Nat.le_refl _
    have hvm : (varL M).length ≤ 2 := varL_len 1 M (by omega)
    have HVL := Lib.hid hvl
    have HVM := Lib.hid hvm
    have H1 : RowKit.Hid (∀ W, Calls Tryd.prog 48 #[.int .u8 76] W fun e w' => e = .returned (.string (strA [76])) ∧ Below W.heap.size W w') := Lib.hid fun W => refOne_any 76 W
    have hs1 : (strA [76]).size ≤ 1 := by rw [strA_size]; exact Nat.le_refl _
    have HN1 : RowKit.Hid (∀ W, Calls Tryd.prog 47 #[.string (strA [76]), .int .i64 N] W fun e w' => e = .returned (.string (strA (76 :: varL N ++ (s.take 0).flatMap soldB))) ∧ Below W.heap.size W w') := Lib.hid fun W => by
      have := refNumber_any (strA [76]) (N : Int) W (by omega) (by omega) (by omega)
      rw [Int.toNat_natCast, strA_append] at this
      have e : (76 :: varL N ++ (s.take 0).flatMap soldB) = [76] ++ varL N := by simp
      rw [e]
      exact this
    have HST : RowKit.Hid (∀ W, Below w1.heap.size w1 W → W.cell? ⟨w.heap.size, 0, none⟩ = some (.slice ps N cs) ∧ W.cell? ⟨w.heap.size, 1, none⟩ = some (.slice ph M ch) ∧ Below w1.heap.size w1 W) := Lib.hid fun W hb => ⟨cell_bel hb a0, cell_bel hb a1, hb⟩
    generalize strA [76] = S1 at *
    clear hvl hvm hs1
    go_enter Tryd.func35, Tryd.ntmps35
    go_upto_region 3 with (first
      | (go_at_call 77; (with_reducible refine HSO1.out.mono ?_); rintro e w2 ⟨rfl, hb2⟩))
    have hS0 := HST.out w2.drew hb2.drew
    clear HSO1 hb2
    go_region_held3 (fun W => W.cell? ⟨w.heap.size, 0, none⟩ = some (.slice ps N cs) ∧ W.cell? ⟨w.heap.size, 1, none⟩ = some (.slice ph M ch) ∧ Below w1.heap.size w1 W)
      (first
        | exact hS0
        | assumption
        | exact HST.out _ (bel_trans (show _ ∧ _ ∧ Below w1.heap.size w1 _ by assumption).2.2 hb3)
        | exact HST.out _ (bel_trans (show _ ∧ _ ∧ Below w1.heap.size w1 _ by assumption).2.2 hb4))
      (first
        | (go_at_call 48; (with_reducible refine (H1.out _).mono ?_); rintro e w3 ⟨rfl, hb3⟩)
        | (go_at_call 47; (with_reducible refine (HN1.out _).mono ?_); rintro e w4 ⟨rfl, hb4⟩))
    have hbw4 : Below w1.heap.size w1 w4 := (show _ ∧ _ ∧ Below w1.heap.size w1 w4 by assumption).2.2
    clear hS0 hb3 hb4 H1 HN1
    go_wp2
    go_loopg [4, 5] N (fun g0 s4 s5 wr => ∃ i : Nat, i ≤ N ∧ g0 = N - i ∧ s4 = .string (strA (76 :: varL N ++ (s.take i).flatMap soldB)) ∧ s5 = .int .i64 (i : Int) ∧ Below w1.heap.size w1 wr)
    case atStart => exact ⟨0, Nat.zero_le _, rfl, by simp, rfl, hbw4⟩
    case round =>
      obtain ⟨i, hiN, rfl, rfl, rfl, hbw⟩ := hrel
      clear hbw4
      obtain ⟨d0, d1, _⟩ := HST.out _ hbw
      by_cases hlt : i < N
      · have hii : (i : Int) < (N : Int) := by omega
        have hi0 : (0 : Int) ≤ (i : Int) := by omega
        have hiN2 : i < s.length := by rw [HN.out]; exact hlt
        obtain ⟨bb, off, rfl, _, g0, g1⟩ := sold_at (HS.out.mono hbw) hiN2
        have hone := HSL.out.2.2.1.one (List.mem_of_getElem? (getD_at s0 hiN2))
        have HX : RowKit.Hid (76 :: varL N ++ (s.take (i + 1)).flatMap soldB = 76 :: varL N ++ (s.take i).flatMap soldB ++ [(s.getD i s0).c] ++ varL (s.getD i s0).n.toNat) := Lib.hid (by
          rw [flat_take (f := soldB) (getD_at s0 hiN2)]
          simp [soldB])
        have HLEN : RowKit.Hid ((76 :: varL N ++ (s.take i).flatMap soldB).length ≤ 1000) := Lib.hid (by
          have k1 := flat_le (l := s.take i) (f := soldB) (k := 3) fun x hx => soldB_len (HSL.out.2.2.1.one (List.mem_of_mem_take hx))
          have k2 := HVL.out
          rw [List.length_take] at k1
          simp only [List.length_append, List.length_cons]
          omega)
        generalize s.getD i s0 = x at *
        obtain ⟨c, n⟩ := x
        have hn1 : 1 ≤ n := hone.2.1
        have hn4 : n ≤ 400 := hone.2.2
        clear hone
        simp only at HX g0 g1
        generalize 76 :: varL N ++ (s.take i).flatMap soldB = bs at *
        have HO1 : RowKit.Hid (∀ W, Calls Tryd.prog 48 #[.int .u8 c.toNat] W fun e w' => e = .returned (.string (strA [c])) ∧ Below W.heap.size W w') := Lib.hid fun W => refOne_any c W
        have HNU : RowKit.Hid (∀ W, Calls Tryd.prog 47 #[.string (strA bs ++ strA [c]), .int .i64 n] W fun e w' => e = .returned (.string (strA (bs ++ [c] ++ varL n.toNat))) ∧ Below W.heap.size W w') := Lib.hid fun W => by
          have := refNumber_any (strA bs ++ strA [c]) n W (by omega) (by omega) (by rw [size_app, strA_size]; have := HLEN.out; simp; omega)
          rw [strA_append, strA_append] at this
          rw [strA_append]
          exact this
        have HSN := Lib.hid (congrArg strA HX.out.symm)
        have hsz1 : (strA bs).size ≤ 1000 := by rw [strA_size]; exact HLEN.out
        have hsz2 : (strA [c]).size ≤ 1 := by rw [strA_size]; exact Nat.le_refl _
        have hcc : ¬ (9223372036854775807 < (strA bs).size + (strA [c]).size) := by omega
        generalize strA [c] = S2 at *
        generalize strA (bs ++ [c] ++ varL n.toNat) = S3 at *
        generalize strA bs = S1' at *
        have HSTr : RowKit.Hid (∀ W, Below wr.heap.size wr W → W.cell? ⟨w.heap.size, 0, none⟩ = some (.slice (some ⟨bb, off, none⟩) N cs) ∧ W.cell? ⟨bb, off + i * 2, none⟩ = some (.int .u8 c.toNat) ∧ W.cell? ⟨bb, off + i * 2 + 1, none⟩ = some (.int .i64 n) ∧ Below wr.heap.size wr W) := Lib.hid fun W hb => ⟨cell_bel hb d0, cell_bel hb g0, cell_bel hb g1, hb⟩
        have hS0 := HSTr.out wr.drew (Below.refl _ _).drew
        go_upto_region 7 with fail
        go_region_held3 (fun W => W.cell? ⟨w.heap.size, 0, none⟩ = some (.slice (some ⟨bb, off, none⟩) N cs) ∧ W.cell? ⟨bb, off + i * 2, none⟩ = some (.int .u8 c.toNat) ∧ W.cell? ⟨bb, off + i * 2 + 1, none⟩ = some (.int .i64 n) ∧ Below wr.heap.size wr W)
          (first
            | exact hS0
            | assumption
            | exact HSTr.out _ (bel_trans (show _ ∧ _ ∧ _ ∧ Below wr.heap.size wr _ by assumption).2.2.2 hb5)
            | exact HSTr.out _ (bel_trans (show _ ∧ _ ∧ _ ∧ Below wr.heap.size wr _ by assumption).2.2.2 hb6))
          (first
            | (go_at_call 48; (with_reducible refine (HO1.out _).mono ?_); rintro e w5 ⟨rfl, hb5⟩)
            | (go_at_call 47; (with_reducible refine (HNU.out _).mono ?_); rintro e w6 ⟨rfl, hb6⟩))
        have hbw6 : Below wr.heap.size wr w6 := (show _ ∧ _ ∧ _ ∧ Below wr.heap.size wr w6 by assumption).2.2.2
        go_wp2
        go_roundg (N - (i + 1))
        case measure => omega
        case rel => exact ⟨i + 1, by omega, rfl, by rw [← HSN.out], by go_num, bel_trans hbw hbw6⟩
      · have hie : i = N := by omega
        subst hie
        have hii : ¬ (i : Int) < (i : Int) := by omega
        have htk : s.take i = s := List.take_of_length_le (by rw [HN.out]; exact Nat.le_refl _)
        rw [htk]
        have HL1 : RowKit.Hid ((76 :: varL i ++ s.flatMap soldB).length ≤ 1000) := Lib.hid (by
          have k1 := flat_le (l := s) (f := soldB) (k := 3) fun x hx => soldB_len (HSL.out.2.2.1.one hx)
          have k2 := HVL.out
          have := HN.out
          simp only [List.length_append, List.length_cons]
          omega)
        have HLB : RowKit.Hid (legB s h = 76 :: varL i ++ s.flatMap soldB ++ varL M ++ h.flatMap heldB) := Lib.hid (by unfold legB; rw [HN.out, HM.out])
        clear htk
        generalize 76 :: varL i ++ s.flatMap soldB = bs at *
        have HNU : RowKit.Hid (∀ W, Calls Tryd.prog 47 #[.string (strA bs), .int .i64 M] W fun e w' => e = .returned (.string (strA (bs ++ varL M))) ∧ Below W.heap.size W w') := Lib.hid fun W => by
          have := refNumber_any (strA bs) (M : Int) W (by omega) (by omega) (by rw [strA_size]; have := HL1.out; omega)
          rw [strA_append, Int.toNat_natCast] at this
          exact this
        have HL2 : RowKit.Hid ((bs ++ varL M).length ≤ 1002) := Lib.hid (by
          have := HL1.out
          have := HVM.out
          rw [List.length_append]
          omega)
        generalize bs ++ varL M = bs2 at *
        generalize strA bs = S1' at *
        generalize hS2 : strA bs2 = S2 at *
        have HS2 := Lib.hid hS2
        clear hS2
        go_wp2_with (first
          | (go_at_call 47; (with_reducible refine (HNU.out _).mono ?_); rintro e w6 ⟨rfl, hb6⟩))
        have hbw6 := bel_trans hbw hb6
        clear hb6 hbw d0 d1 HNU
        go_loopg [4, 6] M (fun g0 s4 s6 wr => ∃ j : Nat, j ≤ M ∧ g0 = M - j ∧ s4 = .string (strA (bs2 ++ (h.take j).flatMap heldB)) ∧ s6 = .int .i64 (j : Int) ∧ Below w1.heap.size w1 wr)
        case atStart => exact ⟨0, Nat.zero_le _, rfl, by simp [HS2.out], rfl, hbw6⟩
        case round =>
          obtain ⟨j, hjM, rfl, rfl, rfl, hbw⟩ := hrel
          clear hbw6
          obtain ⟨d0, d1, _⟩ := HST.out _ hbw
          by_cases hlt : j < M
          · have hjj : (j : Int) < (M : Int) := by omega
            have hj0 : (0 : Int) ≤ (j : Int) := by omega
            have hjM2 : j < h.length := by rw [HM.out]; exact hlt
            obtain ⟨bb, off, rfl, hr, g0, g1, g2, g3⟩ := held_at (HH.out.mono hbw) hjM2
            have hmem := List.mem_of_getElem? (getD_at h0 hjM2)
            have hone := HSL.out.2.2.2.one hmem
            have hsz := HZ.out _ hmem
            have HX : RowKit.Hid (bs2 ++ (h.take (j + 1)).flatMap heldB = bs2 ++ (h.take j).flatMap heldB ++ beL (bitsN (h.getD j h0).pax (h.getD j h0).row (h.getD j h0).c) 2 ++ beL (numN (valL (toL (h.getD j h0).loc))) 4) := Lib.hid (by
              rw [flat_take (f := heldB) (getD_at h0 hjM2)]
              simp [heldB])
            have HLEN : RowKit.Hid ((bs2 ++ (h.take j).flatMap heldB).length ≤ 5000) := Lib.hid (by
              have k1 := flat_le (l := h.take j) (f := heldB) (k := 6) fun x hx => by rw [heldB_len x]; exact Nat.le_refl _
              have k2 := HL2.out
              rw [List.length_take] at k1
              rw [List.length_append]
              omega)
            have hbl := bits_lt hone
            clear hmem hr
            generalize h.getD j h0 = x at *
            obtain ⟨row, c, loc, pax⟩ := x
            obtain ⟨⟨o1, o2, o3⟩, o4, o5, o6⟩ := hone
            simp only at o1 o2 o3 o4 o5 o6 hbl HX hsz g0 g1 g2 g3
            have HPK : RowKit.Hid (∀ W, Calls Tryd.prog 79 #[.int .i64 pax, .agg #[.int .i64 row, .int .u8 c.toNat]] W fun e w' => e = .returned (.int .i64 (bitsN pax row c : Nat)) ∧ Below W.heap.size W w') := Lib.hid fun W => seatBits_any pax row c W o5 o6 o1 o2 o3
            have HNB : RowKit.Hid (∀ W, Calls Tryd.prog 51 #[.string loc] W fun e w' => e = .returned (.int .u64 (numN (valL (toL loc)) : Nat)) ∧ W = w') := Lib.hid fun W => refNum14_any loc W o4
            have hnl := numN_lt (valL (toL loc))
            clear o1 o2 o3 o4 o5 o6
            generalize bs2 ++ (h.take j).flatMap heldB = bs3 at *
            generalize bitsN pax row c = nb at *
            generalize numN (valL (toL loc)) = nn at *
            have HFX : RowKit.Hid (∀ W, Calls Tryd.prog 78 #[.string (strA bs3), .int .i64 (nb : Nat), .int .i64 2] W fun e w' => e = .returned (.string (strA (bs3 ++ beL nb 2))) ∧ Below W.heap.size W w') := Lib.hid fun W => by
              have := refFixed_any (strA bs3) nb 2 W (by omega) (by rw [strA_size]; have := HLEN.out; omega) (by omega)
              rw [strA_append] at this
              exact this
            have HPU : RowKit.Hid (∀ W, Calls Tryd.prog 50 #[.string (strA (bs3 ++ beL nb 2)), .int .u64 (nn : Nat), .int .i64 4] W fun e w' => e = .returned (.string (strA (bs3 ++ beL nb 2 ++ beL nn 4))) ∧ Below W.heap.size W w') := Lib.hid fun W => by
              have := refPut_any (strA (bs3 ++ beL nb 2)) nn 4 W (by omega) (by rw [strA_size, List.length_append, beL_len]; have := HLEN.out; omega) (by omega)
              rw [strA_append] at this
              exact this
            have HSN := Lib.hid (congrArg strA HX.out.symm)
            generalize strA (bs3 ++ beL nb 2 ++ beL nn 4) = S5 at *
            generalize strA (bs3 ++ beL nb 2) = S4 at *
            generalize strA bs3 = S3 at *
            have HSTr : RowKit.Hid (∀ W, Below wr.heap.size wr W → W.cell? ⟨w.heap.size, 1, none⟩ = some (.slice (some ⟨bb, off, none⟩) M ch) ∧ W.cell? ⟨bb, off + j * 4, none⟩ = some (.int .i64 row) ∧ W.cell? ⟨bb, off + j * 4 + 1, none⟩ = some (.int .u8 c.toNat) ∧ W.cell? ⟨bb, off + j * 4 + 3, none⟩ = some (.int .i64 pax) ∧ Below wr.heap.size wr W) := Lib.hid fun W hb => ⟨cell_bel hb d1, cell_bel hb g0, cell_bel hb g1, cell_bel hb g3, hb⟩
            have HD := Lib.hid (And.intro d1 g2)
            have hS0 := HSTr.out wr.drew (Below.refl _ _).drew
            go_upto_region 12 with fail
            clear HX
            go_region_held3 (fun W => W.cell? ⟨w.heap.size, 1, none⟩ = some (.slice (some ⟨bb, off, none⟩) M ch) ∧ W.cell? ⟨bb, off + j * 4, none⟩ = some (.int .i64 row) ∧ W.cell? ⟨bb, off + j * 4 + 1, none⟩ = some (.int .u8 c.toNat) ∧ W.cell? ⟨bb, off + j * 4 + 3, none⟩ = some (.int .i64 pax) ∧ Below wr.heap.size wr W)
              (first
                | exact hS0
                | assumption
                | exact HSTr.out _ (bel_trans (show _ ∧ _ ∧ _ ∧ _ ∧ Below wr.heap.size wr _ by assumption).2.2.2.2 hb5)
                | exact HSTr.out _ (bel_trans (show _ ∧ _ ∧ _ ∧ _ ∧ Below wr.heap.size wr _ by assumption).2.2.2.2 hb7))
              (first
                | (go_at_call 79; (with_reducible refine (HPK.out _).mono ?_); rintro e w5 ⟨rfl, hb5⟩)
                | (go_at_call 78; (with_reducible refine (HFX.out _).mono ?_); rintro e w7 ⟨rfl, hb7⟩))
            have hbw7 : Below wr.heap.size wr w7 := (show _ ∧ _ ∧ _ ∧ _ ∧ Below wr.heap.size wr w7 by assumption).2.2.2.2
            have x1 := cell_bel hbw7 HD.out.1
            have x2 := cell_bel hbw7 HD.out.2
            clear hS0 d0 d1 g0 g1 g2 g3 hb5 hb7
            go_wp2_with (first
              | (go_at_call 51; (with_reducible refine (HNB.out _).mono ?_); rintro e w8 ⟨rfl, rfl⟩)
              | (go_at_call 50; (with_reducible refine (HPU.out _).mono ?_); rintro e w9 ⟨rfl, hb9⟩))
            go_roundg (M - (j + 1))
            case measure => omega
            case rel => exact ⟨j + 1, by omega, rfl, by rw [← HSN.out], by go_num, bel_trans hbw (bel_trans hbw7 hb9)⟩
          · have hje : j = M := by omega
            subst hje
            have hjj : ¬ (j : Int) < (j : Int) := by omega
            have htk2 : h.take j = h := List.take_of_length_le (by rw [HM.out]; exact Nat.le_refl _)
            rw [htk2, ← HLB.out]
            generalize hX : legB s h = X at *
            generalize hSX : strA X = SX at *
            have HSX := Lib.hid hSX
            clear hX hSX htk2
            go_wp2
            go_ret2
            exact ⟨.inl ⟨X, HT.out, by rw [HSX.out]; rfl⟩, below_w HB.out hbw⟩
end Go.Proofs.YtjahkaidinahpaaDoor
