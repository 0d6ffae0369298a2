/- (codec.Leg).sound: the walk. -/
import Derived.Test.YtjahkaidinahpaaDoorME
namespace Go.Proofs.YtjahkaidinahpaaDoor
open Go.RowKit Go.ChangeMaps
set_option linter.unusedSimpArgs false
set_option linter.unusedVariables false
set_option maxRecDepth 20000

set_option maxHeartbeats 16000000 in
theorem legSound_any (s : List SoldT) (h : List HeldT) (vs vh : Value) (w : World) (hs : HasE soldC w vs s) (hh : HasE heldC w vh h) (hz : ∀ x ∈ h, x.loc.size ≤ maxLen) :
    Calls Tryd.prog 74 #[.agg #[vs, vh]] w fun e w' => e = .returned (.bool (soundLB s h)) ∧ Below w.heap.size w w' := by
  have HYES : RowKit.Hid (SoundL s h → soundLB s h = true) := Lib.hid soundLB_yes
  have HNO : RowKit.Hid (¬ SoundL s h → soundLB s h = false) := Lib.hid soundLB_no
  generalize soundLB s h = sb at *
  obtain ⟨ps, cs, rfl⟩ := hs.len
  obtain ⟨ph, ch, rfl⟩ := hh.len
  obtain ⟨w1, e1, a0, a1, hb1, hz1⟩ := leg_boxed w 90 (.slice ps s.length cs) (.slice ph h.length ch)
  have HS := Lib.hid (hs.mono hb1)
  have HH := Lib.hid (hh.mono hb1)
  have HB := Lib.hid hb1
  have HZ := Lib.hid hz
  clear hs hh hb1 hz1 hz
  generalize hN : s.length = N at *
  generalize hM : h.length = M at *
  have HN := Lib.hid hN
  have HM := Lib.hid hM
  clear hN hM
  by_cases h6 : N ≤ 6
  rotate_left
  · have h6i : ¬ (N : Int) ≤ 6 := by omega
    have HF := Lib.hid (HNO.out fun k => h6 (by rw [← HN.out]; exact k.1))
    clear h6
    go_enter Tryd.func74, Tryd.ntmps74
    go_wp2
    go_ret
    exact ⟨ret_bool HF.out.symm, HB.out⟩
  have h6i : (N : Int) ≤ 6 := by omega
  by_cases h7 : M ≤ 600
  rotate_left
  · have h7i : ¬ (M : Int) ≤ 600 := by omega
    have HF := Lib.hid (HNO.out fun k => h7 (by rw [← HM.out]; exact k.2.1))
    clear h6 h7
    go_enter Tryd.func74, Tryd.ntmps74
    go_wp2
    go_ret
    exact ⟨ret_bool HF.out.symm, HB.out⟩
  have h7i : (M : Int) ≤ 600 := by omega
  have HSL : RowKit.Hid (Rise oneS lowS s → Rise oneH lowH h → SoundL s h) := Lib.hid fun k1 k2 => ⟨by rw [HN.out]; exact h6, by rw [HM.out]; exact h7, k1, k2⟩
  go_enter Tryd.func74, Tryd.ntmps74
  go_wp2
  go_loopg [3, 22] N (fun g0 s3 s22 wr => ∃ i : Nat, i ≤ N ∧ g0 = N - i ∧ s22 = .int .i64 (i : Int) ∧ s3 = .int .u8 (lastS s i) ∧ Rise oneS lowS (s.take i) ∧ Below w1.heap.size w1 wr)
  case atStart => exact ⟨0, Nat.zero_le _, rfl, rfl, rfl, Rise.nil, Below.refl _ _⟩
  case round =>
    obtain ⟨i, hiN, rfl, rfl, rfl, hri, hbw⟩ := hrel
    have HRI := Lib.hid hri
    clear hri
    by_cases hlt : i < N
    · have hii : (i : Int) < (N : Int) := by omega
      have hi0 : (0 : Int) ≤ (i : Int) := by omega
      have hiN2 : i < s.length := by rw [HN.out]; exact hlt
      obtain ⟨bb, off, rfl, hr, _, _⟩ := sold_at (HS.out.mono hbw) hiN2
      have HX := Lib.hid (getD_at s0 hiN2)
      have HLOW := Lib.hid (last_low hiN2)
      have HNOT := Lib.hid (last_not hiN2)
      have HLS := Lib.hid (lastS_succ s i)
      generalize lastS s i = la at *
      generalize hxg : s.getD i s0 = x at *
      clear hxg
      obtain ⟨c, n⟩ := x
      simp only at HLS HNOT HLOW
      go_upto_region 7 with (first
        | (refine wpList_load_mid rfl 144 _ rfl bb (off + i * 2) rfl (soldC ⟨c, n⟩) _ hr Tryd.underlying144 rfl info_sold ?_)
        | (refine wpList_store_blk rfl 144 (.tmp 5) (.tmp 25) rfl wr.heap.size 144 (soldC s0) (soldC ⟨c, n⟩) rfl rfl (Blk.new wr 144 (soldC s0)) rfl info_sold (soldC_one _) ?_; intro w8 ha8 hb8 _))
      dsimp only [Act.put]
      have hb38 := hbw.trans ((((Below.refl _ _).alloc (Nat.le_refl _) _).trans hb8).mono hbw.size)
      have t0 : w8.cell? ⟨wr.heap.size, 0, none⟩ = some (.int .u8 c.toNat) := (ha8.cell 0).trans rfl
      have t1 : w8.cell? ⟨wr.heap.size, 1, none⟩ = some (.int .i64 n) := (ha8.cell 1).trans rfl
      have HCL : RowKit.Hid (∀ W, Calls Tryd.prog 132 #[.int .u8 c.toNat] W fun e w' => e = .returned (.bool (bL c)) ∧ W = w') := Lib.hid fun W => class_any _ W (by omega) (byte_hi c)
      clear hr ha8 hb8 hbw
      cases hL : bL c with
      | false =>
        have HF := Lib.hid (HNO.out fun k => Rise.bad1 HX.out (fun o => by rw [o.1] at hL; cases hL) k.2.2.1)
        rw [hL] at HCL
        go_wp2_with (first
          | (go_at_call 132; (with_reducible refine (HCL.out _).mono ?_); rintro e w9 ⟨rfl, rfl⟩))
        go_ret
        exact ⟨ret_bool HF.out.symm, HB.out.trans (hb38.mono HB.out.size)⟩
      | true =>
        rw [hL] at HCL
        have HLL := Lib.hid hL
        by_cases hle : (c.toNat : Int) ≤ la
        · have HF := Lib.hid (HNO.out fun k => HNOT.out HLL.out hle k.2.2.1)
          go_wp2_with (first
            | (go_at_call 132; (with_reducible refine (HCL.out _).mono ?_); rintro e w9 ⟨rfl, rfl⟩))
          go_ret
          exact ⟨ret_bool HF.out.symm, HB.out.trans (hb38.mono HB.out.size)⟩
        by_cases hn1 : n < 1
        · have HF := Lib.hid (HNO.out fun k => Rise.bad1 HX.out (fun o => by have := o.2.1; simp only at this; omega) k.2.2.1)
          go_wp2_with (first
            | (go_at_call 132; (with_reducible refine (HCL.out _).mono ?_); rintro e w9 ⟨rfl, rfl⟩))
          go_ret
          exact ⟨ret_bool HF.out.symm, HB.out.trans (hb38.mono HB.out.size)⟩
        by_cases hn2 : 400 < n
        · have HF := Lib.hid (HNO.out fun k => Rise.bad1 HX.out (fun o => by have := o.2.2; simp only at this; omega) k.2.2.1)
          go_wp2_with (first
            | (go_at_call 132; (with_reducible refine (HCL.out _).mono ?_); rintro e w9 ⟨rfl, rfl⟩))
          go_ret
          exact ⟨ret_bool HF.out.symm, HB.out.trans (hb38.mono HB.out.size)⟩
        have HONE : RowKit.Hid (oneS ⟨c, n⟩) := Lib.hid ⟨HLL.out, by simp only; omega, by simp only; omega⟩
        have HNX := Lib.hid (HRI.out.next HX.out HONE.out (HLOW.out HONE.out (by omega)))
        go_wp2_with (first
          | (go_at_call 132; (with_reducible refine (HCL.out _).mono ?_); rintro e w9 ⟨rfl, rfl⟩))
        go_roundg (N - (i + 1))
        case measure => omega
        case rel => exact ⟨i + 1, by omega, rfl, by go_num, by rw [HLS.out], HNX.out, hb38⟩
    · have hie : i = N := by omega
      subst hie
      have hii : ¬ (i : Int) < (i : Int) := by omega
      have hall : Rise oneS lowS s := by
        have := HRI.out
        rwa [List.take_of_length_le (by rw [HN.out]; exact Nat.le_refl _)] at this
      have HALL := Lib.hid hall
      have HBW := Lib.hid hbw
      have a1' := cell_bel hbw a1
      clear hall HRI
      go_upto_region 12 with (first
        | (refine wpList_store_blk rfl 39 (.tmp 6) (.tmp 49) rfl wr.heap.size 39 [.int .i64 0, .int .u8 0] [.int .i64 0, .int .u8 0] rfl rfl (Blk.new wr 39 [.int .i64 0, .int .u8 0]) rfl info_seat2 (seat2_one _ _) ?_; intro w8 ha8 hb8 _))
      dsimp only [Act.put]
      have hb8' : Below w1.heap.size w1 w8 := hbw.trans ((((Below.refl _ _).alloc (Nat.le_refl _) _).trans hb8).mono hbw.size)
      have hz6 : w1.heap.size ≤ wr.heap.size := hbw.size
      have HG6 : RowKit.Hid (w1.heap.size ≤ wr.heap.size) := Lib.hid hz6
      generalize wr.heap.size = g6 at *
      have c1 := cell_bel hb8' a1
      clear hb8 hbw HBW a1' hz6
      go_wp2
      go_loopg [53] M (fun g0 s53 wr => ∃ j : Nat, j ≤ M ∧ g0 = M - j ∧ s53 = .int .i64 (j : Int) ∧ Blk wr g6 39 [.int .i64 (lastR h j), .int .u8 (lastC h j).toNat] ∧ Rise oneH lowH (h.take j) ∧ Below w1.heap.size w1 wr)
      case atStart => exact ⟨0, Nat.zero_le _, rfl, rfl, ha8, Rise.nil, hb8'⟩
      case round =>
        obtain ⟨j, hjM, rfl, rfl, hg6, hri, hbw⟩ := hrel
        have HRI := Lib.hid hri
        have HG := Lib.hid hg6
        clear hri ha8 hb8'
        by_cases hlt : j < M
        · have hjj : (j : Int) < (M : Int) := by omega
          have hj0 : (0 : Int) ≤ (j : Int) := by omega
          have hjM2 : j < h.length := by rw [HM.out]; exact hlt
          have hsz := HZ.out _ (List.mem_of_getElem? (getD_at h0 hjM2))
          obtain ⟨bb, off, rfl, hr, _, _, _, _⟩ := held_at (HH.out.mono hbw) hjM2
          have HX := Lib.hid (getD_at h0 hjM2)
          have HLOW := Lib.hid (lasth_low hjM2)
          have HNOT := Lib.hid (lasth_not hjM2)
          have HLR := Lib.hid (lastR_succ h j)
          have HLC := Lib.hid (lastC_succ h j)
          generalize lastR h j = lr at *
          generalize lastC h j = lc at *
          generalize hxg : h.getD j h0 = x at *
          clear hxg
          obtain ⟨row, c, loc, pax⟩ := x
          simp only at HLR HLC HNOT HLOW hsz
          go_upto_region 15 with (first
            | (refine wpList_load_mid rfl 148 _ rfl bb (off + j * 4) rfl (heldC ⟨row, c, loc, pax⟩) _ hr Tryd.underlying148 rfl info_held ?_)
            | (refine wpList_store_blk rfl 148 (.tmp 8) (.tmp 56) rfl wr.heap.size 148 (heldC h0) (heldC ⟨row, c, loc, pax⟩) rfl rfl (Blk.new wr 148 (heldC h0)) rfl info_held (heldC_one _) ?_; intro w8 ha8 hb8 hgr8))
          dsimp only [Act.put]
          have hal : Below wr.heap.size wr (wr.alloc (.cells (heldC h0).toArray 148)) := (Below.refl _ _).alloc (Nat.le_refl _) _
          have hb38 := hbw.trans ((hal.trans hb8).mono hbw.size)
          have t0 : w8.cell? ⟨wr.heap.size, 0, none⟩ = some (.int .i64 row) := (ha8.cell 0).trans rfl
          have t1 : w8.cell? ⟨wr.heap.size, 1, none⟩ = some (.int .u8 c.toNat) := (ha8.cell 1).trans rfl
          have t2 : w8.cell? ⟨wr.heap.size, 2, none⟩ = some (.string loc) := (ha8.cell 2).trans rfl
          have t3 : w8.cell? ⟨wr.heap.size, 3, none⟩ = some (.int .i64 pax) := (ha8.cell 3).trans rfl
          have HA8 := Lib.hid ha8
          have HG8 := Lib.hid ((HG.out.mono hal).keep hb8 HG.out.lt)
          have HTX : RowKit.Hid (∀ W, Calls Tryd.prog 150 #[.agg #[.int .i64 row, .int .u8 c.toNat]] W fun e w' => e = .returned (.string (seatT row c)) ∧ Below W.heap.size W w') := Lib.hid fun W => text_any row c W
          have HLOC : RowKit.Hid (∀ W, Calls Tryd.prog 45 #[.string loc] W fun e w' => e = .returned (.bool (lettersS (toL loc) 6 6)) ∧ Below W.heap.size W w') := Lib.hid fun W => locator_any loc W hsz
          have hse := seatT_empty (r := row) (c := c)
          generalize seatT row c = st at *
          clear hr ha8 hb8 hbw hal hgr8 hg6
          have hb08 := HB.out.trans (hb38.mono HB.out.size)
          by_cases hseat : 1 ≤ row ∧ row ≤ 99 ∧ bL c = true
          rotate_left
          · rw [decide_eq_false hseat] at hse
            have hse2 : (st.toList == []) = true := hse
            have HF := Lib.hid (HNO.out fun k => Rise.bad1 HX.out (fun o => hseat o.1) k.2.2.2)
            clear hse hseat
            go_wp2_with (first
              | (go_at_call 150; (with_reducible refine (HTX.out _).mono ?_); rintro e w9 ⟨rfl, hb9⟩))
            go_ret
            exact ⟨ret_bool HF.out.symm, below_low hb08 hb08.size hb9⟩
          rw [decide_eq_true hseat] at hse
          have hse2 : (st.toList == []) = false := hse
          have HSEAT := Lib.hid hseat
          clear hse hseat
          cases hL : lettersS (toL loc) 6 6 with
          | false =>
            have HF := Lib.hid (HNO.out fun k => Rise.bad1 HX.out (fun o => by rw [o.2.1] at hL; cases hL) k.2.2.2)
            rw [hL] at HLOC
            clear hL
            go_wp2_with (first
              | (go_at_call 150; (with_reducible refine (HTX.out _).mono ?_); rintro e w9 ⟨rfl, hb9⟩; have u2 := cell_bel hb9 t2)
              | (go_at_call 45; (with_reducible refine (HLOC.out _).mono ?_); rintro e w10 ⟨rfl, hb10⟩))
            go_ret
            exact ⟨ret_bool HF.out.symm, below_low hb08 hb08.size (bel_trans hb9 hb10)⟩
          | true =>
            rw [hL] at HLOC
            have HL := Lib.hid hL
            clear hL
            by_cases hp1 : pax < 1
            · have HF := Lib.hid (HNO.out fun k => Rise.bad1 HX.out (fun o => by have := o.2.2.1; simp only at this; omega) k.2.2.2)
              go_wp2_with (first
                | (go_at_call 150; (with_reducible refine (HTX.out _).mono ?_); rintro e w9 ⟨rfl, hb9⟩; have u2 := cell_bel hb9 t2)
                | (go_at_call 45; (with_reducible refine (HLOC.out _).mono ?_); rintro e w10 ⟨rfl, hb10⟩; have v3 := cell_bel (bel_trans hb9 hb10) t3))
              go_ret
              exact ⟨ret_bool HF.out.symm, below_low hb08 hb08.size (bel_trans hb9 hb10)⟩
            by_cases hp2 : 9 < pax
            · have HF := Lib.hid (HNO.out fun k => Rise.bad1 HX.out (fun o => by have := o.2.2.2; simp only at this; omega) k.2.2.2)
              go_wp2_with (first
                | (go_at_call 150; (with_reducible refine (HTX.out _).mono ?_); rintro e w9 ⟨rfl, hb9⟩; have u2 := cell_bel hb9 t2)
                | (go_at_call 45; (with_reducible refine (HLOC.out _).mono ?_); rintro e w10 ⟨rfl, hb10⟩; have v3 := cell_bel (bel_trans hb9 hb10) t3))
              go_ret
              exact ⟨ret_bool HF.out.symm, below_low hb08 hb08.size (bel_trans hb9 hb10)⟩
            have HONE : RowKit.Hid (oneH ⟨row, c, loc, pax⟩) := Lib.hid ⟨HSEAT.out, HL.out, by simp only; omega, by simp only; omega⟩
            go_upto_region 17 with (first
                | (go_at_call 150; (with_reducible refine (HTX.out _).mono ?_); rintro e w9 ⟨rfl, hb9⟩; have u2 := cell_bel hb9 t2)
                | (go_at_call 45; (with_reducible refine (HLOC.out _).mono ?_); rintro e w10 ⟨rfl, hb10⟩; have v3 := cell_bel (bel_trans hb9 hb10) t3))
            have hb810 := bel_trans hb9 hb10
            have hbX := hb38.trans (hb810.mono hb38.size)
            have HGX := Lib.hid (HG8.out.mono hb810)
            have HAX := Lib.hid (HA8.out.mono hb810)
            have x0 : w10.cell? ⟨wr.heap.size, 0, none⟩ = some (.int .i64 row) := (HAX.out.cell 0).trans rfl
            have x1 : w10.cell? ⟨wr.heap.size, 1, none⟩ = some (.int .u8 c.toNat) := (HAX.out.cell 1).trans rfl
            have y0 : w10.cell? ⟨g6, 0, none⟩ = some (.int .i64 lr) := (HGX.out.cell 0).trans rfl
            have y1 : w10.cell? ⟨g6, 1, none⟩ = some (.int .u8 lc.toNat) := (HGX.out.cell 1).trans rfl
            have hb010 := HB.out.trans (hbX.mono HB.out.size)
            clear hb9 hb10 hb38 hb08 hb810 t0 t1 t2 t3 u2 v3 HA8 HG8 HTX HLOC
            have HNF : RowKit.Hid (¬ (lr < row ∨ (lr = row ∧ (lc.toNat : Int) < (c.toNat : Int))) → sb = false) := Lib.hid fun k => HNO.out fun q => HNOT.out HSEAT.out.1 k q.2.2.2
            by_cases hA : row < lr
            · have HF := Lib.hid (HNF.out (by omega))
              go_wp2
              go_ret
              exact ⟨ret_bool HF.out.symm, hb010⟩
            by_cases hE : row = lr
            · have hbe : (row == lr) = true := by rw [beq_iff_eq]; exact hE
              by_cases hC : (c.toNat : Int) ≤ (lc.toNat : Int)
              · have HF := Lib.hid (HNF.out (by omega))
                clear hE
                go_wp2
                go_ret
                exact ⟨ret_bool HF.out.symm, hb010⟩
              · have HNX := Lib.hid (HRI.out.next HX.out HONE.out (HLOW.out (.inr ⟨hE.symm, by omega⟩)))
                clear hE
                go_wp2_with (first
                  | (refine wpList_store_blk rfl 39 (.tmp 6) (.tmp 103) rfl g6 39 [.int .i64 lr, .int .u8 lc.toNat] [.int .i64 row, .int .u8 c.toNat] rfl rfl HGX.out rfl info_seat2 (seat2_one _ _) ?_; intro w12 ha12 hb12 hgr12))
                go_roundg (M - (j + 1))
                case measure => omega
                case rel => exact ⟨j + 1, by omega, rfl, by go_num, by rw [HLR.out, HLC.out]; exact ha12, HNX.out, hbX.trans (hb12.mono HG6.out)⟩
            · have hbe : (row == lr) = false := by rw [beq_eq_false_iff_ne]; exact hE
              have HNX := Lib.hid (HRI.out.next HX.out HONE.out (HLOW.out (.inl (by omega))))
              clear hE
              go_wp2_with (first
                | (refine wpList_store_blk rfl 39 (.tmp 6) (.tmp 103) rfl g6 39 [.int .i64 lr, .int .u8 lc.toNat] [.int .i64 row, .int .u8 c.toNat] rfl rfl HGX.out rfl info_seat2 (seat2_one _ _) ?_; intro w12 ha12 hb12 hgr12))
              go_roundg (M - (j + 1))
              case measure => omega
              case rel => exact ⟨j + 1, by omega, rfl, by go_num, by rw [HLR.out, HLC.out]; exact ha12, HNX.out, hbX.trans (hb12.mono HG6.out)⟩
        · have hje : j = M := by omega
          subst hje
          have hjj : ¬ (j : Int) < (j : Int) := by omega
          have hall2 : Rise oneH lowH h := by
            have := HRI.out
            rwa [List.take_of_length_le (by rw [HM.out]; exact Nat.le_refl _)] at this
          have HT := Lib.hid (HYES.out (HSL.out HALL.out hall2))
          clear hall2
          go_wp2
          go_ret
          exact ⟨ret_bool HT.out.symm, HB.out.trans (hbw.mono HB.out.size)⟩
end Go.Proofs.YtjahkaidinahpaaDoor
