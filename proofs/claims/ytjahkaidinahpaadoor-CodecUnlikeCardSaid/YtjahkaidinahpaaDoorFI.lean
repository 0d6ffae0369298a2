/- jetwayref14.SoundLeg. -/
import Derived.Test.YtjahkaidinahpaaDoorME
namespace Go.Proofs.YtjahkaidinahpaaDoor
open Go.RowKit Go.ChangeMaps
set_option linter.unusedSimpArgs false
set_option linter.unusedVariables false
set_option maxRecDepth 20000

theorem rClass_any (c : Int) (w : World) (h0 : 0 ≤ c) (h1 : c ≤ 255) :
    Calls Tryd.prog 155 #[.int .u8 c] w fun e w' => e = .returned (.bool (isL c)) ∧ w = w' := by
  have HL := Lib.hid (refLetter_any c w h0 h1)
  go_enter Tryd.func155, Tryd.ntmps155
  go_wp2_with (first
    | (go_at_call 153; (with_reducible refine HL.out.mono ?_); rintro e w9 ⟨rfl, rfl⟩))
  go_ret
  exact ⟨rfl, rfl⟩

theorem leg_boxed2 (w : World) (T : TypeId) (a b : Value) : ∃ w1, w.alloc (.cells #[a, b] T) = w1 ∧ w1.cell? ⟨w.heap.size, 0, none⟩ = some a ∧ w1.cell? ⟨w.heap.size, 1, none⟩ = some b ∧ Below w.heap.size w w1 ∧ w1.heap.size = w.heap.size + 1 := leg_boxed w T a b

theorem below_w {w w1 wr : World} (h1 : Below w.heap.size w w1) (h2 : Below w1.heap.size w1 wr) : Below w.heap.size w wr := h1.trans (h2.mono h1.size)

set_option maxHeartbeats 16000000 in
theorem refSound_any (s : List SoldT) (h : List HeldT) (vs vh : Value) (w : World) (hs : HasE soldC w vs s) (hh : HasE heldC w vh h) (hz : ∀ x ∈ h, x.loc.size ≤ maxLen) :
    Calls Tryd.prog 77 #[.agg #[vs, vh]] w fun e w' => e = .returned (.bool (soundLB s h)) ∧ Below w.heap.size w w' := by
  have HYES : RowKit.Hid (SoundL s h → soundLB s h = true) := Lib.hid soundLB_yes
  have HNO : RowKit.Hid (¬ SoundL s h → soundLB s h = false) := Lib.hid soundLB_no
  generalize soundLB s h = sb at *
  obtain ⟨ps, cs, rfl⟩ := hs.len
  obtain ⟨ph, ch, rfl⟩ := hh.len
  obtain ⟨w1, e1, a0, a1, hb1, hz1⟩ := leg_boxed2 w 88 (.slice ps s.length cs) (.slice ph h.length ch)
  have HS := Lib.hid (hs.mono hb1)
  have HH := Lib.hid (hh.mono hb1)
  have HB := Lib.hid hb1
  have HZ := Lib.hid hz
  clear hs hh hb1 hz1 hz
  generalize hN : s.length = N at *
  generalize hM : h.length = M at *
  have HN := Lib.hid hN
  have HM := Lib.hid hM
  clear hN hM
  by_cases h6 : N ≤ 6
  rotate_left
  · have h6i : ¬ (N : Int) ≤ 6 := by omega
    have HF := Lib.hid (HNO.out fun k => h6 (by rw [← HN.out]; exact k.1))
    clear h6
    go_enter Tryd.func77, Tryd.ntmps77
    go_wp2
    go_ret
    exact ⟨ret_bool HF.out.symm, HB.out⟩
  have h6i : (N : Int) ≤ 6 := by omega
  by_cases h7 : M ≤ 600
  rotate_left
  · have h7i : ¬ (M : Int) ≤ 600 := by omega
    have HF := Lib.hid (HNO.out fun k => h7 (by rw [← HM.out]; exact k.2.1))
    clear h6 h7
    go_enter Tryd.func77, Tryd.ntmps77
    go_wp2
    go_ret
    exact ⟨ret_bool HF.out.symm, HB.out⟩
  have h7i : (M : Int) ≤ 600 := by omega
  have HSL : RowKit.Hid (Rise oneS lowS s → Rise oneH lowH h → SoundL s h) := Lib.hid fun k1 k2 => ⟨by rw [HN.out]; exact h6, by rw [HM.out]; exact h7, k1, k2⟩
  go_enter Tryd.func77, Tryd.ntmps77
  go_wp2
  go_loopg [3] N (fun g0 s3 wr => ∃ i : Nat, i ≤ N ∧ g0 = N - i ∧ s3 = .int .i64 (i : Int) ∧ Rise oneS lowS (s.take i) ∧ Below w1.heap.size w1 wr)
  case atStart => exact ⟨0, Nat.zero_le _, rfl, rfl, Rise.nil, Below.refl _ _⟩
  case round =>
    obtain ⟨i, hiN, rfl, rfl, hri, hbw⟩ := hrel
    have HRI := Lib.hid hri
    clear hri
    have d0 := cell_bel hbw a0
    have d1 := cell_bel hbw a1
    by_cases hlt : i < N
    · have hii : (i : Int) < (N : Int) := by omega
      have hi0 : (0 : Int) ≤ (i : Int) := by omega
      have hiN2 : i < s.length := by rw [HN.out]; exact hlt
      obtain ⟨bb, off, rfl, _, g0, g1⟩ := sold_at (HS.out.mono hbw) hiN2
      have HX := Lib.hid (getD_at s0 hiN2)
      have HLOW := Lib.hid (last_low hiN2)
      have HNOT := Lib.hid (last_not hiN2)
      generalize hxg : s.getD i s0 = x at *
      have HXG := Lib.hid hxg
      clear hxg
      obtain ⟨c, n⟩ := x
      simp only at HNOT HLOW
      simp only at g0 g1
      have HCL : RowKit.Hid (∀ W, Calls Tryd.prog 155 #[.int .u8 c.toNat] W fun e w' => e = .returned (.bool (bL c)) ∧ w' = W) := Lib.hid fun W => (rClass_any _ W (by omega) (byte_hi c)).mono fun e w' h => ⟨h.1, h.2.symm⟩
      have HBX := Lib.hid (below_w HB.out hbw)
      cases hL : bL c with
      | false =>
        have HF := Lib.hid (HNO.out fun k => Rise.bad1 HX.out (fun o => by rw [o.1] at hL; cases hL) k.2.2.1)
        rw [hL] at HCL
        clear hL
        go_upto_region 6 with fail
        go_quiet (first | (go_at_call 155; (with_reducible refine Calls.quiet_of_same (HCL.out _))))
        go_wp2
        go_ret
        exact ⟨ret_bool HF.out.symm, below_drewN HBX.out _⟩
      | true =>
        rw [hL] at HCL
        have HLL := Lib.hid hL
        clear hL
        by_cases hn1 : n < 1
        · have HF := Lib.hid (HNO.out fun k => Rise.bad1 HX.out (fun o => by have := o.2.1; simp only at this; omega) k.2.2.1)
          go_upto_region 6 with fail
          go_quiet (first | (go_at_call 155; (with_reducible refine Calls.quiet_of_same (HCL.out _))))
          go_wp2
          go_ret
          exact ⟨ret_bool HF.out.symm, below_drewN HBX.out _⟩
        by_cases hn2 : 400 < n
        · have HF := Lib.hid (HNO.out fun k => Rise.bad1 HX.out (fun o => by have := o.2.2; simp only at this; omega) k.2.2.1)
          go_upto_region 6 with fail
          go_quiet (first | (go_at_call 155; (with_reducible refine Calls.quiet_of_same (HCL.out _))))
          go_wp2
          go_ret
          exact ⟨ret_bool HF.out.symm, below_drewN HBX.out _⟩
        have HONE : RowKit.Hid (oneS ⟨c, n⟩) := Lib.hid ⟨HLL.out, by simp only; omega, by simp only; omega⟩
        by_cases hiz : i = 0
        · have hng : ¬ (0 : Nat) < i := by omega
          have HNX := Lib.hid (HRI.out.next HX.out HONE.out (fun y k _ => by omega))
          clear hiz
          go_upto_region 6 with fail
          go_quiet (first | (go_at_call 155; (with_reducible refine Calls.quiet_of_same (HCL.out _))))
          go_wp2
          go_roundg (N - (i + 1))
          case measure => omega
          case rel => exact ⟨i + 1, by omega, rfl, by go_num, HNX.out, below_drewN hbw _⟩
        obtain ⟨j, rfl⟩ : ∃ j, i = j + 1 := ⟨i - 1, by omega⟩
        obtain ⟨b2, off2, e2, _, k0, k1⟩ := sold_at (HS.out.mono hbw) (i := j) (by omega)
        injection e2 with e2
        injection e2 with e2 e3 e4
        subst e2
        subst e3
        rw [lastS_succ] at HLOW HNOT
        generalize s.getD j s0 = y at *
        obtain ⟨c', n'⟩ := y
        simp only at HLOW HNOT k0
        clear k1
        by_cases hle : (c.toNat : Int) ≤ (c'.toNat : Int)
        · have HF := Lib.hid (HNO.out fun k => HNOT.out HLL.out hle k.2.2.1)
          go_upto_region 6 with fail
          go_quiet (first | (go_at_call 155; (with_reducible refine Calls.quiet_of_same (HCL.out _))))
          go_wp2
          go_ret
          exact ⟨ret_bool HF.out.symm, below_drewN HBX.out _⟩
        · have HNX := Lib.hid (HRI.out.next HX.out HONE.out (HLOW.out HONE.out (by omega)))
          go_upto_region 6 with fail
          go_quiet (first | (go_at_call 155; (with_reducible refine Calls.quiet_of_same (HCL.out _))))
          go_wp2
          go_roundg (N - (j + 1 + 1))
          case measure => omega
          case rel => exact ⟨j + 1 + 1, by omega, rfl, by go_num, HNX.out, below_drewN hbw _⟩
    · have hie : i = N := by omega
      subst hie
      have hii : ¬ (i : Int) < (i : Int) := by omega
      have hall : Rise oneS lowS s := by
        have := HRI.out
        rwa [List.take_of_length_le (by rw [HN.out]; exact Nat.le_refl _)] at this
      have HALL := Lib.hid hall
      clear hall HRI
      have HG6 : RowKit.Hid (w1.heap.size ≤ wr.heap.size) := Lib.hid hbw.size
      go_wp2
      have hbw' := hbw
      clear hbw d0 d1
      go_loopg [4] M (fun g0 s4 wr => ∃ j : Nat, j ≤ M ∧ g0 = M - j ∧ s4 = .int .i64 (j : Int) ∧ Rise oneH lowH (h.take j) ∧ Below w1.heap.size w1 wr)
      case atStart => exact ⟨0, Nat.zero_le _, rfl, rfl, Rise.nil, hbw'⟩
      case round =>
        obtain ⟨j, hjM, rfl, rfl, hri, hbw⟩ := hrel
        have HRI := Lib.hid hri
        clear hri hbw'
        have d0 := cell_bel hbw a0
        have d1 := cell_bel hbw a1
        by_cases hlt : j < M
        · have hjj : (j : Int) < (M : Int) := by omega
          have hj0 : (0 : Int) ≤ (j : Int) := by omega
          have hjM2 : j < h.length := by rw [HM.out]; exact hlt
          have hsz := HZ.out _ (List.mem_of_getElem? (getD_at h0 hjM2))
          obtain ⟨bb, off, rfl, hr, _, _, _, _⟩ := held_at (HH.out.mono hbw) hjM2
          have HX := Lib.hid (getD_at h0 hjM2)
          have HLOW := Lib.hid (lasth_low hjM2)
          have HNOT := Lib.hid (lasth_not hjM2)
          generalize hxg : h.getD j h0 = x at *
          clear hxg
          obtain ⟨row, c, loc, pax⟩ := x
          simp only at HNOT HLOW hsz
          go_upto_region 12 with (first
            | (refine wpList_load_mid rfl 148 _ rfl bb (off + j * 4) rfl (heldC ⟨row, c, loc, pax⟩) _ hr Tryd.underlying148 rfl info_held ?_)
            | (refine wpList_store_blk rfl 148 (.tmp 5) (.tmp 80) rfl wr.heap.size 148 (heldC h0) (heldC ⟨row, c, loc, pax⟩) rfl rfl (Blk.new wr 148 (heldC h0)) rfl info_held (heldC_one _) ?_; intro w8 ha8 hb8 hgr8))
          dsimp only [Act.put]
          have hal : Below wr.heap.size wr (wr.alloc (.cells (heldC h0).toArray 148)) := (Below.refl _ _).alloc (Nat.le_refl _) _
          have hb38 := hbw.trans ((hal.trans hb8).mono hbw.size)
          have t0 : w8.cell? ⟨wr.heap.size, 0, none⟩ = some (.int .i64 row) := (ha8.cell 0).trans rfl
          have t1 : w8.cell? ⟨wr.heap.size, 1, none⟩ = some (.int .u8 c.toNat) := (ha8.cell 1).trans rfl
          have t2 : w8.cell? ⟨wr.heap.size, 2, none⟩ = some (.string loc) := (ha8.cell 2).trans rfl
          have t3 : w8.cell? ⟨wr.heap.size, 3, none⟩ = some (.int .i64 pax) := (ha8.cell 3).trans rfl
          have HA8 := Lib.hid ha8
          have HTX : RowKit.Hid (∀ W, Calls Tryd.prog 73 #[.agg #[.int .i64 row, .int .u8 c.toNat]] W fun e w' => e = .returned (.string (seatT row c)) ∧ Below W.heap.size W w') := Lib.hid fun W => refText_any row c W
          have HLOC : RowKit.Hid (∀ W, Calls Tryd.prog 49 #[.string loc] W fun e w' => e = .returned (.bool (lettersS (toL loc) 6 6)) ∧ W = w') := Lib.hid fun W => refLocator_any loc W hsz
          have hse := seatT_empty (r := row) (c := c)
          generalize seatT row c = st at *
          clear hr ha8 hb8 hbw hal hgr8 d0 d1
          have hb08 := below_w HB.out hb38
          by_cases hseat : 1 ≤ row ∧ row ≤ 99 ∧ bL c = true
          rotate_left
          · rw [decide_eq_false hseat] at hse
            have hse2 : (st.toList == []) = true := hse
            have HF := Lib.hid (HNO.out fun k => Rise.bad1 HX.out (fun o => hseat o.1) k.2.2.2)
            clear hse hseat
            go_wp2_with (first
              | (go_at_call 73; (with_reducible refine (HTX.out _).mono ?_); rintro e w9 ⟨rfl, hb9⟩))
            go_ret
            exact ⟨ret_bool HF.out.symm, below_low hb08 hb08.size hb9⟩
          rw [decide_eq_true hseat] at hse
          have hse2 : (st.toList == []) = false := hse
          have HSEAT := Lib.hid hseat
          clear hse hseat
          cases hL : lettersS (toL loc) 6 6 with
          | false =>
            have HF := Lib.hid (HNO.out fun k => Rise.bad1 HX.out (fun o => by rw [o.2.1] at hL; cases hL) k.2.2.2)
            rw [hL] at HLOC
            clear hL
            go_wp2_with (first
              | (go_at_call 73; (with_reducible refine (HTX.out _).mono ?_); rintro e w9 ⟨rfl, hb9⟩; have u2 := cell_bel hb9 t2)
              | (go_at_call 49; (with_reducible refine (HLOC.out _).mono ?_); rintro e w10 ⟨rfl, rfl⟩))
            go_ret
            exact ⟨ret_bool HF.out.symm, below_low hb08 hb08.size hb9⟩
          | true =>
            rw [hL] at HLOC
            have HL := Lib.hid hL
            clear hL
            by_cases hp1 : pax < 1
            · have HF := Lib.hid (HNO.out fun k => Rise.bad1 HX.out (fun o => by have := o.2.2.1; simp only at this; omega) k.2.2.2)
              go_wp2_with (first
                | (go_at_call 73; (with_reducible refine (HTX.out _).mono ?_); rintro e w9 ⟨rfl, hb9⟩; have u2 := cell_bel hb9 t2; have u3 := cell_bel hb9 t3)
                | (go_at_call 49; (with_reducible refine (HLOC.out _).mono ?_); rintro e w10 ⟨rfl, rfl⟩))
              go_ret
              exact ⟨ret_bool HF.out.symm, below_low hb08 hb08.size hb9⟩
            by_cases hp2 : 9 < pax
            · have HF := Lib.hid (HNO.out fun k => Rise.bad1 HX.out (fun o => by have := o.2.2.2; simp only at this; omega) k.2.2.2)
              go_wp2_with (first
                | (go_at_call 73; (with_reducible refine (HTX.out _).mono ?_); rintro e w9 ⟨rfl, hb9⟩; have u2 := cell_bel hb9 t2; have u3 := cell_bel hb9 t3)
                | (go_at_call 49; (with_reducible refine (HLOC.out _).mono ?_); rintro e w10 ⟨rfl, rfl⟩))
              go_ret
              exact ⟨ret_bool HF.out.symm, below_low hb08 hb08.size hb9⟩
            have HONE : RowKit.Hid (oneH ⟨row, c, loc, pax⟩) := Lib.hid ⟨HSEAT.out, HL.out, by simp only; omega, by simp only; omega⟩
            go_upto_region 14 with (first
                | (go_at_call 73; (with_reducible refine (HTX.out _).mono ?_); rintro e w9 ⟨rfl, hb9⟩; have u2 := cell_bel hb9 t2; have u3 := cell_bel hb9 t3)
                | (go_at_call 49; (with_reducible refine (HLOC.out _).mono ?_); rintro e w10 ⟨rfl, rfl⟩))
            have hbX := hb38.trans (hb9.mono hb38.size)
            have HAX := Lib.hid (HA8.out.mono hb9)
            have x0 : w9.cell? ⟨wr.heap.size, 0, none⟩ = some (.int .i64 row) := (HAX.out.cell 0).trans rfl
            have x1 : w9.cell? ⟨wr.heap.size, 1, none⟩ = some (.int .u8 c.toNat) := (HAX.out.cell 1).trans rfl
            have d0 := cell_bel hbX a0
            have d1 := cell_bel hbX a1
            have hb010 := below_w HB.out hbX
            clear hb9 hb38 hb08 t0 t1 t2 t3 u2 u3 HA8 HTX HLOC HAX
            by_cases hjz : j = 0
            · have hng : ¬ (0 : Nat) < j := by omega
              have HNX := Lib.hid (HRI.out.next HX.out HONE.out (fun y k _ => by omega))
              clear hjz
              go_quiet (fail)
              go_wp2
              go_roundg (M - (j + 1))
              case measure => omega
              case rel => exact ⟨j + 1, by omega, rfl, by go_num, HNX.out, below_drewN hbX _⟩
            obtain ⟨k, rfl⟩ : ∃ k, j = k + 1 := ⟨j - 1, by omega⟩
            obtain ⟨b2, off2, e2, _, k0, k1, _, _⟩ := held_at (HH.out.mono hbX) (i := k) (by omega)
            injection e2 with e2
            injection e2 with e2 e3 e4
            subst e2
            subst e3
            have HNF : RowKit.Hid (¬ (lastR h (k + 1) < row ∨ (lastR h (k + 1) = row ∧ ((lastC h (k + 1)).toNat : Int) < (c.toNat : Int))) → sb = false) := Lib.hid fun k => HNO.out fun q => HNOT.out HSEAT.out.1 k q.2.2.2
            rw [lastR_succ, lastC_succ] at HLOW HNF
            generalize h.getD k h0 = y at *
            obtain ⟨lr, lc, loc2, pax2⟩ := y
            simp only at HLOW HNF k0 k1
            clear HNOT
            by_cases hA : row < lr
            · have HF := Lib.hid (HNF.out (by omega))
              go_quiet (fail)
              go_wp2
              go_ret
              exact ⟨ret_bool HF.out.symm, below_drewN hb010 _⟩
            by_cases hE : lr = row
            · have hbe : (lr == row) = true := by rw [beq_iff_eq]; exact hE
              by_cases hC : (c.toNat : Int) ≤ (lc.toNat : Int)
              · have HF := Lib.hid (HNF.out (by omega))
                clear hE
                go_quiet (fail)
                go_wp2
                go_ret
                exact ⟨ret_bool HF.out.symm, below_drewN hb010 _⟩
              · have HNX := Lib.hid (HRI.out.next HX.out HONE.out (HLOW.out (.inr ⟨hE, by omega⟩)))
                clear hE
                go_quiet (fail)
                go_wp2
                go_roundg (M - (k + 1 + 1))
                case measure => omega
                case rel => exact ⟨k + 1 + 1, by omega, rfl, by go_num, HNX.out, below_drewN hbX _⟩
            · have hbe : (lr == row) = false := by rw [beq_eq_false_iff_ne]; exact hE
              have HNX := Lib.hid (HRI.out.next HX.out HONE.out (HLOW.out (.inl (by omega))))
              clear hE
              go_quiet (fail)
              go_wp2
              go_roundg (M - (k + 1 + 1))
              case measure => omega
              case rel => exact ⟨k + 1 + 1, by omega, rfl, by go_num, HNX.out, below_drewN hbX _⟩
        · have hje : j = M := by omega
          subst hje
          have hjj : ¬ (j : Int) < (j : Int) := by omega
          have hall2 : Rise oneH lowH h := by
            have := HRI.out
            rwa [List.take_of_length_le (by rw [HM.out]; exact Nat.le_refl _)] at this
          have HT := Lib.hid (HYES.out (HSL.out HALL.out hall2))
          clear hall2
          go_wp2
          go_ret
          exact ⟨ret_bool HT.out.symm, below_w HB.out hbw⟩
end Go.Proofs.YtjahkaidinahpaaDoor
