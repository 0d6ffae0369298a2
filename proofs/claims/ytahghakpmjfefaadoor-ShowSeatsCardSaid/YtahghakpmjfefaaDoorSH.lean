/- The lines of queues' sizes: the reference's. -/
import Derived.Test.YtahghakpmjfefaaDoorKI
namespace Go.Proofs.YtahghakpmjfefaaDoor.Sh
open Go.RowKit En Go.ChangeMaps
set_option linter.unusedSimpArgs false
set_option linter.unusedVariables false
set_option maxRecDepth 20000

theorem tmod100_neg {q : Int} (h : q < 0) : q.tmod 100 = -((q.natAbs % 100 : Nat) : Int) := by
  obtain ⟨m, rfl⟩ : ∃ m : Nat, q = -(m : Int) := ⟨q.natAbs, by omega⟩
  rw [Int.neg_tmod, Int.tmod_eq_emod_of_nonneg (by omega), show (-(m : Int)).natAbs = m by omega]
  rfl
theorem tmod100_pos {q : Int} (h : 0 ≤ q) : q.tmod 100 = ((q.natAbs % 100 : Nat) : Int) := by
  obtain ⟨m, rfl⟩ := Int.eq_ofNat_of_zero_le h
  rw [Int.tmod_eq_emod_of_nonneg (by omega)]
  rfl

set_option maxHeartbeats 8000000 in
theorem rsizes_any (office : ByteArray) (v : Value) (l : List (Int × Int)) (w : World) (ho : office.size ≤ 1125899906842624) (hv : HasE szC w v l) (hl : l.length ≤ 1000) (hw : ∀ x ∈ l, (Lit.int .i64 x.1).wf = true ∧ (Lit.int .i64 x.2).wf = true) :
    Calls Tryd.prog 19 #[.string office, v] w fun e w' => LinesE w.heap.size (sizesL (toL office) l) e w' ∧ Below w.heap.size w w' := by
  obtain ⟨p, c, rfl⟩ := hv.len
  have HV : RowKit.Hid (∀ W, Below w.heap.size w W → HasE szC W (.slice p l.length c) l) := Lib.hid fun W h => hv.mono h
  have HI : RowKit.Hid (∀ n, (Lit.int .i64 n).wf = true → ∀ W, Calls Tryd.prog 35 #[.int .i64 n] W fun e w' => (∃ s : ByteArray, e = .returned (.string s) ∧ toL s = itoaL n ∧ s.size ≤ 20) ∧ Below W.heap.size W w') := Lib.hid fun n hn W => (number_any n W hn).mono fun e w' ⟨⟨s, h1, h2⟩, hb⟩ => ⟨⟨s, h1, h2, txt_le h2 (itoaL_len n hn)⟩, hb⟩
  have HT : RowKit.Hid (∀ (k : Nat) W, k < 100 → Calls Tryd.prog 47 #[.int .i64 (k : Int)] W fun e w' => (∃ s : ByteArray, e = .returned (.string s) ∧ toL s = Da.two k ∧ s.size ≤ 2) ∧ Below W.heap.size W w') := Lib.hid fun k W hk => (Da.rtwo_any (k : Int) W (by omega) (by omega)).mono fun e w' ⟨h1, hb⟩ => ⟨⟨_, h1, by rw [Int.toNat_natCast]; exact Da.twoA_list k, by rw [Int.toNat_natCast]; exact Nat.le_refl 2⟩, hb⟩
  have HW := Lib.hid hw
  have hb0 : Below w.heap.size w (w.alloc (.cells #[.string ((⟨#[81, 85, 69, 85, 69, 83, 32]⟩ : ByteArray) ++ office)] 9)) := (Below.refl _ _).alloc (Nat.le_refl _) _
  have hown0 : OwnL (w.alloc (.cells #[.string ((⟨#[81, 85, 69, 85, 69, 83, 32]⟩ : ByteArray) ++ office)] 9)) w.heap.size (.slice (some ⟨w.heap.size, 0, none⟩) 1 1) [(⟨#[81, 85, 69, 85, 69, 83, 32]⟩ : ByteArray) ++ office] := World.ownsRow_lit (size := 1) w #[.string _] 1 (Nat.le_refl _) (by decide) rfl
  generalize hw1 : w.alloc (.cells #[.string ((⟨#[81, 85, 69, 85, 69, 83, 32]⟩ : ByteArray) ++ office)] 9) = w1 at hb0 hown0
  have HO := Lib.hid hown0
  have HB := Lib.hid hb0
  obtain ⟨MX, hMX, hof⟩ : ∃ M : Int, M ≤ 9223372036854775807 ∧ (office.size : Int) + 100 ≤ M := ⟨9223372036854775807, Int.le_refl _, by omega⟩
  clear hown0 hb0 hv hw ho
  generalize hM : l.length = M at *
  have HM := Lib.hid hM
  clear hM
  go_enter Tryd.func19, Tryd.ntmps19
  go_upto_region 2 with fail
  try rw [hw1]
  clear hw1
  go_wp2
  go_loopg [5, 6] M (fun g0 s5 s6 wr => ∃ (i : Nat) (q : Option Addr) (nq cq : Nat) (L : List ByteArray), i ≤ M ∧ g0 = M - i ∧ s5 = .slice q nq cq ∧ s6 = .int .i64 (i : Int) ∧ OwnL wr w.heap.size (.slice q nq cq) L ∧ L.length ≤ i + 1 ∧ L.map toL = ([81, 85, 69, 85, 69, 83, 32] ++ toL office) :: (l.take i).map szLn ∧ Below w.heap.size w wr)
  case atStart => exact ⟨0, _, _, _, [_], Nat.zero_le _, rfl, rfl, rfl, HO.out, Nat.le_refl _, by simp [toL_app, toL_lit], HB.out⟩
  case round =>
    obtain ⟨i, q, nq, cq, L, hiM, rfl, rfl, rfl, hown, hLl, hLm, hbw⟩ := hrel
    have HOWN := Lib.hid hown
    have HLM := Lib.hid hLm
    have HBW := Lib.hid hbw
    have hBs := hbw.size
    clear hown hLm hbw HO HB
    by_cases hlt : i < M
    · have hii : (i : Int) < (M : Int) := by omega
      have hi0 : (0 : Int) ≤ (i : Int) := by omega
      have hiM2 : i < l.length := by rw [HM.out]; exact hlt
      obtain ⟨bb, off, rfl, hr, r0, r1⟩ := sz_at (HV.out wr HBW.out) hiM2
      have hwf := HW.out _ (List.mem_of_getElem? (getD_at (0, 0) hiM2))
      have HTK := Lib.hid (take_map_snoc szLn (0, 0) hiM2)
      generalize l.getD i (0, 0) = x at *
      obtain ⟨qu, nn⟩ := x
      simp only at hwf r0 r1
      have HWF := Lib.hid hwf
      clear hwf hr
      have hm100 : qu.natAbs % 100 < 100 := Nat.mod_lt _ (by decide)
      have HT2 := Lib.hid (fun W => HT.out (qu.natAbs % 100) W hm100)
      have HNN := Lib.hid (HI.out nn HWF.out.2)
      by_cases hq : qu < 0
      focus (
        have ht := tmod100_neg hq
        have HTm := HT2
        generalize hm : qu.natAbs % 100 = m at ht hm100 HTm
        have HMM := Lib.hid hm
        clear hm
        by_cases hm0 : m = 0
        focus (
          subst hm0
          have HTX : RowKit.Hid (∀ W, Calls Tryd.prog 47 #[.int .i64 0] W fun e w' => (∃ s : ByteArray, e = .returned (.string s) ∧ toL s = Da.two (qu.natAbs % 100) ∧ s.size ≤ 2) ∧ Below W.heap.size W w') := Lib.hid fun W => by rw [HMM.out]; exact HTm.out W
          clear hq HTm HMM HT2
          go_upto_region 8 with fail
          clear ht)
        rotate_left
        focus (
          have hneg : -(m : Int) < 0 := by omega
          have HTX : RowKit.Hid (∀ W, Calls Tryd.prog 47 #[.int .i64 (m : Int)] W fun e w' => (∃ s : ByteArray, e = .returned (.string s) ∧ toL s = Da.two (qu.natAbs % 100) ∧ s.size ≤ 2) ∧ Below W.heap.size W w') := Lib.hid fun W => by rw [HMM.out]; exact HTm.out W
          clear hq HTm HMM HT2
          go_upto_region 8 with fail
          clear ht hneg hm0))
      rotate_right
      focus (
        have ht := tmod100_pos (by omega : 0 ≤ qu)
        have HTm := HT2
        generalize hm : qu.natAbs % 100 = m at ht hm100 HTm
        have HMM := Lib.hid hm
        clear hm
        have hneg : ¬ (m : Int) < 0 := by omega
        have HTX : RowKit.Hid (∀ W, Calls Tryd.prog 47 #[.int .i64 (m : Int)] W fun e w' => (∃ s : ByteArray, e = .returned (.string s) ∧ toL s = Da.two (qu.natAbs % 100) ∧ s.size ≤ 2) ∧ Below W.heap.size W w') := Lib.hid fun W => by rw [HMM.out]; exact HTm.out W
        clear hq HTm HMM HT2
        go_upto_region 8 with fail
        clear ht hneg)
      all_goals (
        have hd1 : Below wr.heap.size wr wr.drew := (Below.refl _ _).drew
        go_region_law (first
          | (go_simp; go_at_call 47; refine (HTX.out _).mono ?_; rintro e w5 ⟨⟨tw, rfl, htl, hts⟩, hb5⟩; have ht5 := bel_trans (show Below wr.heap.size wr _ by first | exact hd1 | exact hn6) hb5; have x1 := cell_bel ht5 r1; have hO5 := HOWN.out.mono ht5; have hz5 := (bel_trans HBW.out ht5).size; have q1 := sum_ok (a := tw.size) (b := 1) (by omega); (try have q2 := sum_ok (a := tw.size + 1) (b := t.size) (by omega)))
          | (go_simp; go_at_call 35; refine (HNN.out _).mono ?_; rintro e w6 ⟨⟨t, rfl, htt, htz⟩, hb6⟩; have hn6 := bel_trans (show Below wr.heap.size wr _ by first | exact hd1 | exact ht5) hb6; have y1 := cell_bel hn6 r1; have hO6 := HOWN.out.mono hn6; have hz6 := (bel_trans HBW.out hn6).size; (try have q2 := sum_ok (a := tw.size + 1) (b := t.size) (by omega)))
          | (refine step_push_txt (by rfl) _ _ (by rfl) w.heap.size _ L (by rfl) (by first | exact World.ownsRow.alloc hO6 _ | exact World.ownsRow.alloc hO5 _) _ (by rfl) _ (heap_alloc_new _ _) (by omega) (by simp <;> omega) ?_; intro q4 n4 c4 w4 ho4 hb4))
        all_goals (
          have hB4 : Below w.heap.size w w4 := by
            first
              | exact ((bel_trans HBW.out hn6).alloc (bel_trans HBW.out hn6).size _).trans hb4
              | exact ((bel_trans HBW.out ht5).alloc (bel_trans HBW.out ht5).size _).trans hb4
          have hL4 : (L ++ [tw ++ ⟨#[32]⟩ ++ t]).map toL = ([81, 85, 69, 85, 69, 83, 32] ++ toL office) :: (l.take (i + 1)).map szLn := by
            rw [List.map_append, HLM.out, HTK.out]
            have key : toL (tw ++ ⟨#[32]⟩ ++ t) = szLn (qu, nn) := by
              unfold szLn
              rw [toL_app, toL_app, htl, htt, List.append_assoc]
              rfl
            rw [List.map_singleton, key]
            rfl
          have HB4 := Lib.hid hB4
          have HL4 := Lib.hid hL4
          have HO4 := Lib.hid ho4
          clear hB4 hL4 ho4 hb4
          go_wp2
          go_roundg (M - (i + 1))
          case measure => omega
          case rel => exact ⟨i + 1, q4, n4, c4, _, by omega, rfl, rfl, by go_num, HO4.out, by rw [List.length_append, List.length_singleton]; omega, HL4.out, HB4.out⟩))
    · have hie : i = M := by omega
      subst hie
      have hii : ¬ (i : Int) < (i : Int) := by omega
      by_cases h0 : i = 0
      · subst h0
        have hl0 : l = [] := List.length_eq_zero_iff.1 HM.out
        have HL0 := Lib.hid hl0
        clear hl0
        go_wp2_with (at_builtin; refine push_txt rfl _ _ rfl w.heap.size _ L rfl HOWN.out _ rfl (by omega) hBs ?_; intro q4 n4 c4 w4 ho4 hb4)
        go_ret
        exact ⟨⟨_, _, rfl, ho4, by rw [List.map_append, HLM.out, HL0.out]; rfl⟩, HBW.out.trans hb4⟩
      · have hne : ((i : Int) == 0) = false := by rw [beq_eq_false_iff_ne]; omega
        have hnn : (i == 0) = false := by rw [beq_eq_false_iff_ne]; exact h0
        have HL0 : RowKit.Hid (l ≠ []) := Lib.hid fun e => h0 (by rw [← HM.out, e]; rfl)
        clear h0
        go_wp2
        go_ret
        exact ⟨⟨_, _, rfl, HOWN.out, by rw [HLM.out, ← HM.out, List.take_length]; unfold sizesL; rw [if_neg HL0.out]⟩, HBW.out⟩
end Go.Proofs.YtahghakpmjfefaaDoor.Sh
