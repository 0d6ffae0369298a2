/- codec.OfLeg. -/
import Derived.Test.YtjahkaidinahpaaDoorFH
import Derived.Test.YtjahkaidinahpaaDoorFI
import Derived.Test.YtjahkaidinahpaaDoorME
namespace Go.Proofs.YtjahkaidinahpaaDoor
open Go.RowKit Go.ChangeMaps
set_option linter.unusedSimpArgs false
set_option linter.unusedVariables false
set_option maxRecDepth 20000

theorem legF_bool {s : List SoldT} {h : List HeldT} : legF s h = if soundLB s h = true then some (legB s h) else none := by
  by_cases k : SoundL s h
  · rw [legF_yes k, if_pos (soundLB_yes k)]
  · rw [legF_no k, if_neg (by rw [soundLB_no k]; decide)]

theorem soundLB_iff {s : List SoldT} {h : List HeldT} : soundLB s h = true → SoundL s h := fun e => by
  by_cases k : SoundL s h
  · exact k
  · rw [soundLB_no k] at e; cases e

theorem bits_lt {x : HeldT} (h : oneH x) : bitsN x.pax x.row x.c < 65536 := by
  obtain ⟨⟨h1, h2, h3⟩, _, h4, h5⟩ := h
  have := bL_lo h3
  unfold bitsN
  omega

set_option maxHeartbeats 16000000 in
theorem ofLeg_any (s : List SoldT) (h : List HeldT) (vs vh : Value) (w : World) (hs : HasE soldC w vs s) (hh : HasE heldC w vh h) (hz : ∀ x ∈ h, x.loc.size ≤ maxLen) :
    Calls Tryd.prog 33 #[.agg #[vs, vh]] w fun e w' => byP w.heap.size (legF s h) e w' ∧ Below w.heap.size w w' := by
  have HLF := Lib.hid (legF_bool (s := s) (h := h))
  have HSND : RowKit.Hid (soundLB s h = true → SoundL s h) := Lib.hid soundLB_iff
  have HSO : RowKit.Hid (∀ W, HasE soldC W vs s → HasE heldC W vh h → Calls Tryd.prog 74 #[.agg #[vs, vh]] W fun e w' => e = .returned (.bool (soundLB s h)) ∧ Below W.heap.size W w') := Lib.hid fun W k1 k2 => legSound_any s h vs vh W k1 k2 hz
  generalize legF s h = qb at *
  generalize soundLB s h = sb at *
  obtain ⟨ps, cs, rfl⟩ := hs.len
  obtain ⟨ph, ch, rfl⟩ := hh.len
  obtain ⟨w1, e1, a0, a1, hb1, hz1⟩ := leg_boxed w 90 (.slice ps s.length cs) (.slice ph h.length ch)
  have HS := Lib.hid (hs.mono hb1)
  have HH := Lib.hid (hh.mono hb1)
  have HB := Lib.hid hb1
  have HZ := Lib.hid hz
  have HSO1 := Lib.hid (HSO.out _ HS.out HH.out)
  clear hs hh hb1 hz1 hz HSO
  generalize hN : s.length = N at *
  generalize hM : h.length = M at *
  have HN := Lib.hid hN
  have HM := Lib.hid hM
  clear hN hM
  cases sb with
  | false =>
    have HF : RowKit.Hid (qb = none) := Lib.hid (HLF.out.trans (if_neg (by decide)))
    go_enter Tryd.func33, Tryd.ntmps33
    go_wp2_with (first
      | (go_at_call 74; (with_reducible refine HSO1.out.mono ?_); rintro e w2 ⟨rfl, hb2⟩))
    go_ret2
    exact ⟨.inr ⟨HF.out, rfl⟩, below_low HB.out HB.out.size hb2⟩
  | true =>
    have HSL := Lib.hid (HSND.out rfl)
    have HT : RowKit.Hid (qb = some (legB s h)) := Lib.hid (HLF.out.trans (if_pos rfl))
    have hN6 : N ≤ 6 := by have := HSL.out.1; rw [HN.out] at this; exact this
    have hM6 : M ≤ 600 := by have := HSL.out.2.1; rw [HM.out] at this; exact this
    have hvl : (varL N).length ≤ 1 := by rw [varL_small (by omega)]; exact Nat.le_refl _
    have hvm : (varL M).length ≤ 2 := varL_len 1 M (by omega)
    have HVL := Lib.hid hvl
    have HVM := Lib.hid hvm
    clear hvl hvm
    go_enter Tryd.func33, Tryd.ntmps33
    go_upto_region 4 with (first
      | (go_at_call 74; (with_reducible refine HSO1.out.mono ?_); rintro e w2 ⟨rfl, hb2⟩))
    have hbq : Below w2.heap.size w2 ((w2.alloc (.cells #[.int .u8 76] 5)).alloc (.cells #[.slice (some ⟨w2.heap.size, 0, none⟩) 1 1] 105)) := ((Below.refl _ _).alloc (Nat.le_refl _) _).alloc (by simp) _
    have c0 := cell_bel hbq (cell_bel hb2 a0)
    have c1 := cell_bel hbq (cell_bel hb2 a1)
    have hlz : w1.heap.size ≤ w2.heap.size := hb2.size
    have HNEW : RowKit.Hid (Calls Tryd.prog 44 #[.pointer (some ⟨w2.heap.size + 1, 0, none⟩), .int .i64 N] ((w2.alloc (.cells #[.int .u8 76] 5)).alloc (.cells #[.slice (some ⟨w2.heap.size, 0, none⟩) 1 1] 105)) fun e w' =>
      e = .returned (.tuple #[]) ∧ WW w1 w' (w2.heap.size + 1) (76 :: varL N)) := Lib.hid (by
      have := ww_new w1 w2 hb2 76 76 rfl (N : Int) (by omega) (by omega)
      rw [Int.toNat_natCast] at this
      exact this)
    clear HSO1 hb2 hbq
    generalize (w2.alloc (.cells #[.int .u8 76] 5)).alloc (.cells #[.slice (some ⟨w2.heap.size, 0, none⟩) 1 1] 105) = wq at *
    go_upto_region 5 with (first
      | (go_at_call 44; (with_reducible refine HNEW.out.mono ?_); rintro e w3 ⟨rfl, hw3⟩))
    have c0 := cell_bel hw3.bel a0
    have c1 := cell_bel hw3.bel a1
    generalize w2.heap.size + 1 = g at *
    go_wp2
    go_loopg [23] N (fun g0 s23 wr => ∃ i : Nat, i ≤ N ∧ g0 = N - i ∧ s23 = .int .i64 (i : Int) ∧ WW w1 wr g (76 :: varL N ++ (s.take i).flatMap soldB))
    case atStart => exact ⟨0, Nat.zero_le _, rfl, rfl, by simpa using hw3⟩
    case round =>
      obtain ⟨i, hiN, rfl, rfl, hww⟩ := hrel
      have HWW := Lib.hid hww
      clear hww
      by_cases hlt : i < N
      · have hii : (i : Int) < (N : Int) := by omega
        have hi0 : (0 : Int) ≤ (i : Int) := by omega
        have hiN2 : i < s.length := by rw [HN.out]; exact hlt
        obtain ⟨bb, off, rfl, hr, _, _⟩ := sold_at (HS.out.mono HWW.out.bel) hiN2
        have hone := HSL.out.2.2.1.one (List.mem_of_getElem? (getD_at s0 hiN2))
        have HX : RowKit.Hid (76 :: varL N ++ (s.take (i + 1)).flatMap soldB = 76 :: varL N ++ (s.take i).flatMap soldB ++ [(s.getD i s0).c] ++ varL (s.getD i s0).n.toNat) := Lib.hid (by
          rw [flat_take (f := soldB) (getD_at s0 hiN2)]
          simp [soldB])
        have HLEN : RowKit.Hid ((76 :: varL N ++ (s.take i).flatMap soldB).length ≤ 1000 ∧ (76 :: varL N ++ (s.take i).flatMap soldB ++ [(s.getD i s0).c]).length ≤ 1000) := Lib.hid (by
          have k1 := flat_le (l := s.take i) (f := soldB) (k := 3) fun x hx => soldB_len (HSL.out.2.2.1.one (List.mem_of_mem_take hx))
          have k2 := HVL.out
          rw [List.length_take] at k1
          simp only [List.length_append, List.length_cons, List.length_nil]
          omega)
        generalize s.getD i s0 = x at *
        obtain ⟨c, n⟩ := x
        have hn1 : 1 ≤ n := hone.2.1
        have hn4 : n ≤ 400 := hone.2.2
        clear hone
        simp only at HX
        simp only at HLEN
        generalize 76 :: varL N ++ (s.take i).flatMap soldB = bs at *
        have hwrz : wr.heap.size = wr.heap.size := rfl
        go_upto_region 8 with (first
          | (refine wpList_load_mid rfl 144 _ rfl bb (off + i * 2) rfl (soldC ⟨c, n⟩) _ hr Tryd.underlying144 rfl info_sold ?_)
          | (refine wpList_store_blk rfl 144 (.tmp 6) (.tmp 26) rfl wr.heap.size 144 (soldC s0) (soldC ⟨c, n⟩) rfl rfl (Blk.new wr 144 (soldC s0)) rfl info_sold (soldC_one _) ?_; intro w8 ha8 hb8 _))
        dsimp only [Act.put]
        have hb38 : Below wr.heap.size wr w8 := (((Below.refl _ _).alloc (Nat.le_refl _) _).trans hb8)
        have hw8 := HWW.out.mono hb38
        obtain ⟨⟨v, hv1, hv2⟩, hbe8, hlo8, hlt8⟩ := hw8
        have d0 := (hv1.cell 0).trans rfl
        have t0 : w8.cell? ⟨wr.heap.size, 0, none⟩ = some (.int .u8 c.toNat) := (ha8.cell 0).trans rfl
        obtain ⟨i0, hi0', hz0, hsz0, hby0⟩ := byte_info
        obtain ⟨hST, hAP⟩ := ww_push (c := c) hv1 hv2 hbe8 hlo8 hlt8
        have HST := Lib.hid hST
        have HAP := Lib.hid hAP
        have HO := Lib.hid hv2
        have HA8 := Lib.hid ha8
        have HNX : RowKit.Hid (v.ownBlock ≠ some wr.heap.size ∧ wr.heap.size ≠ g) := Lib.hid (by
          obtain ⟨⟨v', hv1', hv2'⟩, _, _, hlt'⟩ := HWW.out
          refine ⟨fun e => ?_, by omega⟩
          have e8 : v' = v := by
            have k1 := (hv1'.mono hb38).cell 0
            rw [hv1.cell 0] at k1
            simpa using k1.symm
          subst e8
          have := (World.ownsRow.lt hv2' _ e).2
          omega)
        clear hST hAP hv1 hv2 ha8 hb8 hr hb38 hbe8 hlt8
        have hlow8 : g + 1 ≤ w8.heap.size := by
          have := HWW.out.lt
          have := HA8.out.lt
          omega
        have hgl8 : g < w8.heap.size := hlow8
        have hxl8 : wr.heap.size < w8.heap.size := HA8.out.lt
        have hbsz : (w8.alloc (.cells #[.int .u8 c.toNat] 5)).heap.size = w8.heap.size + 1 := by simp
        have hbase : g + 1 ≤ (w8.alloc (.cells #[.int .u8 c.toNat] 5)).heap.size := by rw [hbsz]; omega
        have hm1 : bs.length + 1 ≤ maxLen := by have := HLEN.out.1; unfold maxLen; omega
        have hm2 : (bs.length + 1) * 1 ≤ 140737488355328 := by have := HLEN.out.1; omega
        go_cut [] from 27 to 37 (fun wx => WW w1 wx g (bs ++ [c]) ∧ wx.cell? ⟨wr.heap.size, 1, none⟩ = some (.int .i64 n))
        case first =>
          go_region_law (first
            | (refine step_append_lies _ (by rfl) _ _ _ (by rfl) (g + 1) 5 i0 _ 1 1 Tryd.underlying48 hi0' hz0 hsz0 hby0 rfl (by decide) v bs.length (bs.flatMap byteC) (by rfl) (World.ownsRow.alloc HO.out _) ⟨w8.heap.size, 0, none⟩ 1 1 [.int .u8 c.toNat] (by rfl) (by rfl) (World.news_of_block (cs := #[.int .u8 c.toNat]) (t := 5) (fr := (0, 0)) (heap_alloc_new w8 _)) (byteC_one c) (by decide) hm1 hm2 hbase (w8.heap.size + 1) hbsz ?_
               intro gg cap w4 hown1 hgrow hat hlt
               obtain ⟨hf, hk⟩ := HAP.out w4 hgrow))
          all_goals (
            go_wp2
            go_meet
            exact ⟨(HST.out w4 _ (own_push hown1) hgrow).1, (((HST.out w4 _ (own_push hown1) hgrow).2 _ _ _ HNX.out.2 HNX.out.1 HA8.out).cell 1).trans rfl⟩)
        case rest =>
          obtain ⟨hwx, t1⟩ := hcut
          clear HST HAP HNX hbsz hbase hm1 hm2 t0 d0 HA8 HO
          rename World => wx
          have HNU := Lib.hid (ww_num hwx n (by omega) (by omega) (by have := HLEN.out.2; omega))
          go_wp2_with (first
            | (go_at_call 44; (with_reducible refine HNU.out.mono ?_); rintro e w9 ⟨rfl, hw9, _⟩))
          go_roundg (N - (i + 1))
          case measure => omega
          case rel => exact ⟨i + 1, by omega, rfl, by go_num, by rw [HX.out]; exact hw9⟩
      · have hie : i = N := by omega
        subst hie
        have hii : ¬ (i : Int) < (i : Int) := by omega
        have htk : s.take i = s := List.take_of_length_le (by rw [HN.out]; exact Nat.le_refl _)
        rw [htk] at HWW
        have c1 := cell_bel HWW.out.bel a1
        have HL1 : RowKit.Hid ((76 :: varL i ++ s.flatMap soldB).length ≤ 1000) := Lib.hid (by
          have k1 := flat_le (l := s) (f := soldB) (k := 3) fun x hx => soldB_len (HSL.out.2.2.1.one hx)
          have k2 := HVL.out
          have := HN.out
          simp only [List.length_append, List.length_cons]
          omega)
        have HLB : RowKit.Hid (legB s h = 76 :: varL i ++ s.flatMap soldB ++ varL M ++ h.flatMap heldB) := Lib.hid (by unfold legB; rw [HN.out, HM.out])
        generalize 76 :: varL i ++ s.flatMap soldB = bs at *
        have HNU := Lib.hid (ww_num HWW.out (M : Int) (by omega) (by omega) (by have := HL1.out; omega))
        rw [Int.toNat_natCast] at HNU
        go_upto_region 12 with (first
            | (go_at_call 44; (with_reducible refine HNU.out.mono ?_); rintro e w9 ⟨rfl, hw9, _⟩))
        have c1 := cell_bel hw9.bel a1
        go_wp2
        have HL2 : RowKit.Hid ((bs ++ varL M).length ≤ 1002) := Lib.hid (by
          have := HL1.out
          have := HVM.out
          rw [List.length_append]
          omega)
        generalize bs ++ varL M = bs2 at *
        clear HNU HWW
        go_loopg [51] M (fun g0 s51 wr => ∃ j : Nat, j ≤ M ∧ g0 = M - j ∧ s51 = .int .i64 (j : Int) ∧ WW w1 wr g (bs2 ++ (h.take j).flatMap heldB))
        case atStart => exact ⟨0, Nat.zero_le _, rfl, rfl, by simpa using hw9⟩
        case round =>
          obtain ⟨j, hjM, rfl, rfl, hww⟩ := hrel
          have HWW := Lib.hid hww
          clear hww hw9
          by_cases hlt : j < M
          · have hjj : (j : Int) < (M : Int) := by omega
            have hj0 : (0 : Int) ≤ (j : Int) := by omega
            have hjM2 : j < h.length := by rw [HM.out]; exact hlt
            obtain ⟨bb, off, rfl, hr, _, _, _, _⟩ := held_at (HH.out.mono HWW.out.bel) hjM2
            have hmem := List.mem_of_getElem? (getD_at h0 hjM2)
            have hone := HSL.out.2.2.2.one hmem
            have hsz := HZ.out _ hmem
            have HX : RowKit.Hid (bs2 ++ (h.take (j + 1)).flatMap heldB = bs2 ++ (h.take j).flatMap heldB ++ beL (bitsN (h.getD j h0).pax (h.getD j h0).row (h.getD j h0).c) 2 ++ beL (numN (valL (toL (h.getD j h0).loc))) 4) := Lib.hid (by
              rw [flat_take (f := heldB) (getD_at h0 hjM2)]
              simp [heldB])
            have HLEN : RowKit.Hid ((bs2 ++ (h.take j).flatMap heldB).length ≤ 5000) := Lib.hid (by
              have k1 := flat_le (l := h.take j) (f := heldB) (k := 6) fun x hx => by rw [heldB_len x]; exact Nat.le_refl _
              have k2 := HL2.out
              rw [List.length_take] at k1
              rw [List.length_append]
              omega)
            have hbl := bits_lt hone
            clear hmem
            generalize h.getD j h0 = x at *
            obtain ⟨row, c, loc, pax⟩ := x
            obtain ⟨⟨o1, o2, o3⟩, o4, o5, o6⟩ := hone
            simp only at o1 o2 o3 o4 o5 o6 hbl HX hsz
            have HPK : RowKit.Hid (∀ W, Calls Tryd.prog 76 #[.int .i64 pax, .agg #[.int .i64 row, .int .u8 c.toNat]] W fun e w' => e = .returned (.int .i64 (bitsN pax row c : Nat)) ∧ Below W.heap.size W w') := Lib.hid fun W => packed_any pax row c W o5 o6 o1 o2 o3
            have HO4 := Lib.hid o4
            clear o1 o2 o3 o4 o5 o6
            generalize bs2 ++ (h.take j).flatMap heldB = bs3 at *
            generalize bitsN pax row c = nb at *
            go_upto_region 15 with (first
              | (refine wpList_load_mid rfl 148 _ rfl bb (off + j * 4) rfl (heldC ⟨row, c, loc, pax⟩) _ hr Tryd.underlying148 rfl info_held ?_)
              | (refine wpList_store_blk rfl 148 (.tmp 8) (.tmp 54) rfl wr.heap.size 148 (heldC h0) (heldC ⟨row, c, loc, pax⟩) rfl rfl (Blk.new wr 148 (heldC h0)) rfl info_held (heldC_one _) ?_; intro w8 ha8 hb8 _))
            dsimp only [Act.put]
            have hb38 : Below wr.heap.size wr w8 := (((Below.refl _ _).alloc (Nat.le_refl _) _).trans hb8)
            have hw8 := Lib.hid (HWW.out.mono hb38)
            have t0 : w8.cell? ⟨wr.heap.size, 0, none⟩ = some (.int .i64 row) := (ha8.cell 0).trans rfl
            have t1 : w8.cell? ⟨wr.heap.size, 1, none⟩ = some (.int .u8 c.toNat) := (ha8.cell 1).trans rfl
            have t3 : w8.cell? ⟨wr.heap.size, 3, none⟩ = some (.int .i64 pax) := (ha8.cell 3).trans rfl
            have HA8 := Lib.hid ha8
            have HGN : RowKit.Hid (wr.heap.size ≠ g) := Lib.hid (by have := HWW.out.lt; omega)
            have HBY : RowKit.Hid (∀ W, Below w8.heap.size w8 W → Calls Tryd.prog 75 #[.pointer (some ⟨g, 0, none⟩), .int .i64 (nb : Nat), .int .i64 2] W fun e w' => e = .returned (.tuple #[]) ∧ WW w1 w' g (bs3 ++ beL nb 2) ∧ W.grownBy w' (some g)) := Lib.hid fun W hb => by
              have := ww_bytes (hw8.out.mono hb) (nb : Int) 2 (by omega) (by omega) (by have := HLEN.out; omega) (by omega)
              rw [Int.toNat_natCast] at this
              exact this
            have HLC : RowKit.Hid (∀ W, WW w1 W g (bs3 ++ beL nb 2) → Calls Tryd.prog 46 #[.pointer (some ⟨g, 0, none⟩), .string loc] W fun e w' => e = .returned (.tuple #[]) ∧ WW w1 w' g (bs3 ++ beL nb 2 ++ beL (numN (valL (toL loc))) 4) ∧ W.grownBy w' (some g)) := Lib.hid fun W hb => ww_loc hb loc hsz HO4.out (by have := HLEN.out; rw [List.length_append, beL_len]; omega)
            clear ha8 hb8 hr hb38
            go_wp2_with (first
              | (go_at_call 76; (with_reducible refine (HPK.out _).mono ?_); rintro e w9 ⟨rfl, hb9⟩)
              | (go_at_call 75; (with_reducible refine (HBY.out _ hb9).mono ?_); rintro e w10 ⟨rfl, hw10, hg10⟩; have t2 : w10.cell? ⟨wr.heap.size, 2, none⟩ = some (.string loc) := (((HA8.out.mono hb9).far hg10 (fun e => HGN.out (by injection e))).cell 2).trans rfl)
              | (go_at_call 46; (with_reducible refine (HLC.out _ hw10).mono ?_); rintro e w11 ⟨rfl, hw11, _⟩))
            go_roundg (M - (j + 1))
            case measure => omega
            case rel => exact ⟨j + 1, by omega, rfl, by go_num, by rw [HX.out]; exact hw11⟩
          · have hje : j = M := by omega
            subst hje
            have hjj : ¬ (j : Int) < (j : Int) := by omega
            have htk2 : h.take j = h := List.take_of_length_le (by rw [HM.out]; exact Nat.le_refl _)
            rw [htk2, ← HLB.out] at HWW
            have HBW := Lib.hid HWW.out.bel
            obtain ⟨⟨v, k1, k2⟩, _, klo, _⟩ := HWW.out
            have KL : RowKit.Hid (w.heap.size ≤ g) := Lib.hid (Nat.le_trans HB.out.size klo)
            obtain ⟨pv, cv, rfl⟩ := k2.has.len
            have KO := Lib.hid k2
            have d0 := (k1.cell 0).trans rfl
            have HTL := Lib.hid (show (legB s h).length = (legB s h).length from rfl)
            clear k1 k2
            generalize hL : legB s h = LB at *
            generalize hLL : LB.length = nL at *
            go_wp2
            go_ret2
            exact ⟨.inl ⟨_, _, HT.out, rfl, KO.out.low (Nat.le_succ_of_le KL.out)⟩, below_w HB.out HBW.out⟩
end Go.Proofs.YtjahkaidinahpaaDoor
