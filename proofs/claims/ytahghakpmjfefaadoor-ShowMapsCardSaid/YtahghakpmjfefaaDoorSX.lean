/- The lines of a map of seats: the reference's. Printed by tools/gen_rm.py. -/
import Derived.Test.YtahghakpmjfefaaDoorSV
namespace Go.Proofs.YtahghakpmjfefaaDoor.Sh
open Go.RowKit Go.ChangeMaps En
set_option linter.unusedSimpArgs false
set_option linter.unusedVariables false
set_option maxRecDepth 20000

theorem take_swp (l : List UInt8) {j : Nat} (h : j < l.length) : (l.take (j + 1)).map (swp 46 32) = (l.take j).map (swp 46 32) ++ [swp 46 32 (l.getD j 0)] := take_one l (swp 46 32) h
theorem one_cut (s : ByteArray) (j : Nat) (h : j < s.size) : toL (s.extract j (j + 1)) = [s.data.toList.getD j 0] := by
  unfold toL
  have hl : j < s.data.toList.length := h
  have e : (s.extract j (j + 1)).data.toList = (s.data.toList.drop j).take 1 := by
    simp [ByteArray.data_extract, Array.toList_extract, List.extract]
  rw [e, List.drop_eq_getElem_cons hl]
  simp [List.getD, h]

set_option maxHeartbeats 16000000 in
theorem rmap_no (p : Pl) (ve vb vh : Value) (held : List HeT) (loc : ByteArray) (w : World) (he : HasE intC w ve p.exits) (hb : HasE stC w vb p.bks) (hz : p.lets.size ≤ 200) (hx : p.exits.length ≤ 200) (hr : rightB p = false) :
    Calls Tryd.prog 17 #[planV p ve vb, vh, .string loc] w fun e w' => LinesE w.heap.size (mapL p held loc) e w' ∧ Below w.heap.size w w' := by
  have HBL := Lib.hid (planC_blk w p ve vb)
  have hb1 : Below w.heap.size w (w.alloc (.cells (planC p ve vb).toArray 53)) := (Below.refl _ _).alloc (Nat.le_refl _) _
  have HC : RowKit.Hid (∀ W, Below w.heap.size w W → Calls Tryd.prog 45 #[planV p ve vb] W fun e w' => e = .returned (.bool false) ∧ Below W.heap.size W w') := Lib.hid fun W hW => by
    have := right_any p ve vb W (he.mono hW) (hb.mono hW) (by unfold maxLen; omega) (by omega)
    rw [hr] at this
    exact this
  have HM := Lib.hid (mapL_no (held := held) (loc := loc) hr)
  have HC1 := Lib.hid (HC.out _ hb1)
  have HB := Lib.hid hb1
  unfold planC at HBL HC1 HB
  unfold planV at HC1 ⊢
  simp only [List.toArray] at HBL HC1 HB
  generalize hw1 : w.alloc (.cells #[.int .i64 p.first, .int .i64 p.last, .string p.lets, ve, vb] 53) = w1 at HBL HC1 HB
  clear hb1 HC he hb hr hz
  go_enter Tryd.func17, Tryd.ntmps17
  go_upto_region 1 with fail
  try rw [hw1]
  clear hw1
  go_wp2_with (first
    | (refine wpList_load_mid rfl 53 (.tmp 3) rfl w.heap.size 0 rfl _ _ HBL.out.range Tryd.underlying53 rfl info_plan2 ?_)
    | (go_at_call 45; (with_reducible refine HC1.out.mono ?_); rintro e w2 ⟨rfl, hb2⟩))
  go_ret
  exact ⟨⟨_, [], rfl, World.ownsRow_nil _ _ _ _, HM.out.symm⟩, bel_trans HB.out hb2⟩

set_option maxHeartbeats 16000000 in
theorem rmap_yes (p : Pl) (l : List UInt8) (ve vb vh : Value) (held : List HeT) (loc : ByteArray) (w : World) (he : HasE intC w ve p.exits) (hb : HasE stC w vb p.bks) (hh : HasE heC w vh held) (hz : p.lets.size ≤ 200) (hx : p.exits.length ≤ 200) (hbk : p.bks.length ≤ 200) (hhl : held.length ≤ 1000) (hok : ∀ x ∈ held, okRow x.1.1) (hr : rightB p = true) (hl : letF p.lets.data.toList = some l) :
    Calls Tryd.prog 17 #[planV p ve vb, vh, .string loc] w fun e w' => LinesE w.heap.size (mapL p held loc) e w' ∧ Below w.heap.size w w' := by
  have HBL := Lib.hid (planC_blk w p ve vb)
  have hb1 : Below w.heap.size w (w.alloc (.cells (planC p ve vb).toArray 53)) := (Below.refl _ _).alloc (Nat.le_refl _) _
  obtain ⟨l', hl', hrp⟩ := rightB_some hr
  have : l' = l := by rw [hl] at hl'; injection hl' with e; exact e.symm
  subst this
  obtain ⟨r1, r2, r3, _⟩ := hrp
  have hkp : OkP p l' := ⟨hl', by omega, r1, r3, by omega, by omega⟩
  have HC : RowKit.Hid (∀ W, Below w.heap.size w W → Calls Tryd.prog 45 #[planV p ve vb] W fun e w' => e = .returned (.bool true) ∧ Below W.heap.size W w') := Lib.hid fun W hW => by
    have := right_any p ve vb W (he.mono hW) (hb.mono hW) (by unfold maxLen; omega) (by omega)
    rw [hr] at this
    exact this
  have HMK : RowKit.Hid (∀ (r : Int) (c : UInt8) W, okRow r → Below w.heap.size w W → Calls Tryd.prog 46 #[planV p ve vb, .agg #[.int .i64 r, .int .u8 c.toNat], vh, .string loc] W fun e w' => e = .returned (.string ⟨#[markC p l' held loc (r, c)]⟩) ∧ Below W.heap.size W w') := Lib.hid fun r c W hr hW => mark_any p l' ve vb vh held loc (r, c) W hkp (hb.mono hW) (hh.mono hW) hhl hr hok
  have HM := Lib.hid (mapL_yes (held := held) (loc := loc) hr hl')
  obtain ⟨pe, ce, rfl⟩ := he.len
  have HE := Lib.hid he
  have HC1 := Lib.hid (HC.out _ hb1)
  have HB := Lib.hid hb1
  have HLZ : RowKit.Hid (p.lets.size ≤ 200 ∧ p.exits.length ≤ 200) := Lib.hid ⟨hz, hx⟩
  have HRR : RowKit.Hid (1 ≤ p.first ∧ p.first ≤ p.last ∧ p.last ≤ 60) := Lib.hid ⟨r1, r2, r3⟩
  unfold planC at HBL HC1 HB
  unfold planV at HC1 HMK ⊢
  simp only [List.toArray] at HBL HC1 HB
  generalize hNX : p.exits.length = NX at *
  have HNX := Lib.hid hNX
  generalize hw1 : w.alloc (.cells #[.int .i64 p.first, .int .i64 p.last, .string p.lets, .slice pe NX ce, vb] 53) = w1 at HBL HC1 HB
  have HCELL : RowKit.Hid (∀ W, Below w1.heap.size w1 W → W.cell? ⟨w.heap.size, 0, none⟩ = some (.int .i64 p.first) ∧ W.cell? ⟨w.heap.size, 1, none⟩ = some (.int .i64 p.last) ∧ W.cell? ⟨w.heap.size, 2, none⟩ = some (.string p.lets) ∧ W.cell? ⟨w.heap.size, 3, none⟩ = some (.slice pe NX ce) ∧ W.cell? ⟨w.heap.size, 4, none⟩ = some vb) := Lib.hid fun W h => ⟨((HBL.out.mono h).cell 0).trans rfl, ((HBL.out.mono h).cell 1).trans rfl, ((HBL.out.mono h).cell 2).trans rfl, ((HBL.out.mono h).cell 3).trans rfl, ((HBL.out.mono h).cell 4).trans rfl⟩
  clear hb1 HC he hb hh hr hz hok hx hbk hNX hl hl' r1 r2 r3 hkp hhl
  go_enter Tryd.func17, Tryd.ntmps17
  go_upto_region 1 with fail
  try rw [hw1]
  clear hw1
  go_upto_region 4 with (first
    | (refine wpList_load_mid rfl 53 (.tmp 3) rfl w.heap.size 0 rfl _ _ HBL.out.range Tryd.underlying53 rfl info_plan2 ?_)
    | (go_at_call 45; (with_reducible refine HC1.out.mono ?_); rintro e w2 ⟨rfl, hb2⟩))
  have HB2 := Lib.hid hb2
  obtain ⟨_, _, d2, _, _⟩ := HCELL.out w2 hb2
  clear hb2 HC1
  go_upto_block 0 with fail
  go_cut [7] from 17 to 39 (fun s7 wx => ∃ S : ByteArray, s7 = .string S ∧ toL S = headM p ∧ w2 = wx)
  case first =>
    go_wp2
    go_loopg [7, 8] p.lets.size (fun g0 s7 s8 wr => ∃ (j : Nat) (S : ByteArray), j ≤ p.lets.size ∧ g0 = p.lets.size - j ∧ s8 = .int .i64 (j : Int) ∧ s7 = .string S ∧ RowKit.Hid (toL S = [32, 32, 32] ++ (p.lets.data.toList.take j).map (swp 46 32)) ∧ S.size = 3 + j ∧ w2 = wr)
    case atStart => exact ⟨0, ⟨#[32, 32, 32]⟩, Nat.zero_le _, rfl, rfl, rfl, Lib.hid (by simp [toL_lit]), rfl, rfl⟩
    case round =>
      obtain ⟨j, S, hjN, rfl, rfl, rfl, HS, hSz, rfl⟩ := hrel
      have hlz := HLZ.out.1
      by_cases hj : j < p.lets.size
      · have hji : (j : Int) < (p.lets.size : Int) := by omega
        have hj0 : (0 : Int) ≤ (j : Int) := by omega
        have HT := Lib.hid (take_swp p.lets.data.toList (j := j) hj)
        have HOC := Lib.hid (one_cut p.lets j hj)
        have hgl : (p.lets[j]'hj) = p.lets.data.toList.getD j 0 := get_list p.lets j hj
        have hwj : IntKind.i64.wrap ((j : Int) + 1) = (j : Int) + 1 := IntWalk.i64_in _ (by omega)
        have q1 := sum_ok (a := S.size) (b := 1) (by omega)
        generalize p.lets.data.toList.getD j 0 = c at *
        by_cases h46 : c.toNat = 46
        · have hc : ((c.toNat : Int) == 46) = true := by rw [h46]; rfl
          have HX : RowKit.Hid (toL (S ++ (⟨#[32]⟩ : ByteArray)) = [32, 32, 32] ++ (p.lets.data.toList.take (j + 1)).map (swp 46 32)) := Lib.hid (by
            rw [toL_app, HS.out, HT.out]
            have : c = 46 := UInt8.toNat_inj.1 h46
            rw [this]
            simp [swp, toL_lit])
          clear h46
          go_wp2
          go_roundg (p.lets.size - (j + 1))
          case measure => omega
          case rel => exact ⟨j + 1, _, by omega, rfl, by go_num, rfl, HX, by rw [ByteArray.size_append]; show S.size + 1 = _; omega, rfl⟩
        · have hc : ((c.toNat : Int) == 46) = false := by rw [beq_eq_false_iff_ne]; omega
          have HX : RowKit.Hid (toL (S ++ p.lets.extract j (j + 1)) = [32, 32, 32] ++ (p.lets.data.toList.take (j + 1)).map (swp 46 32)) := Lib.hid (by
            rw [toL_app, HS.out, HT.out, HOC.out]
            have : ¬ c = 46 := fun e => h46 (by rw [e]; rfl)
            unfold swp
            rw [if_neg this]
            simp)
          have hez : (p.lets.extract j (j + 1)).size = 1 := by rw [ByteArray.size_extract]; omega
          clear h46
          go_wp2
          go_roundg (p.lets.size - (j + 1))
          case measure => omega
          case rel => exact ⟨j + 1, _, by omega, rfl, by go_num, rfl, HX, by rw [ByteArray.size_append, hez]; omega, rfl⟩
      · have hje : j = p.lets.size := by omega
        subst hje
        have hji : ¬ (p.lets.size : Int) < (p.lets.size : Int) := by omega
        have htk : p.lets.data.toList.take p.lets.size = p.lets.data.toList := List.take_of_length_le (Nat.le_refl _)
        rw [htk] at HS
        go_wp2
        go_meet
        exact ⟨S, rfl, HS.out, rfl⟩
  case rest =>
    obtain ⟨S0, hs7, hS0, hww⟩ := hcut
    subst hs7
    subst hww
    have hb0 : Below w2.heap.size w2 (w2.alloc (.cells #[.string S0] 9)) := (Below.refl _ _).alloc (Nat.le_refl _) _
    have HO0 : RowKit.Hid (OwnL (w2.alloc (.cells #[.string S0] 9)) w2.heap.size (.slice (some ⟨w2.heap.size, 0, none⟩) 1 1) [S0]) := Lib.hid (World.ownsRow_lit (size := 1) w2 #[.string _] 1 (Nat.le_refl _) (by decide) rfl)
    have HHD := Lib.hid hS0
    have cr0 := (HCELL.out _ (bel_trans HB2.out hb0)).1
    have HBb := Lib.hid hb0
    generalize hwb : w2.alloc (.cells #[.string S0] 9) = wb at HO0 cr0 HBb
    clear hb0 hS0 d2
    go_upto_region 11 with fail
    try rw [hwb]
    clear hwb
    generalize hNR : (p.last + 1 - p.first).toNat = NR at *
    have HNR := Lib.hid hNR
    clear hNR
    go_upto_block 2 with fail
    go_wp2
    go_loopg [9, 10] NR (fun g0 s9 s10 wr => ∃ (i : Nat) (q : Option Addr) (nq cq : Nat) (L : List ByteArray), i ≤ NR ∧ g0 = NR - i ∧ s9 = .slice q nq cq ∧ s10 = .int .i64 (p.first + (i : Int)) ∧ OwnL wr w2.heap.size (.slice q nq cq) L ∧ L.length ≤ i + 1 ∧ L.map toL = headM p :: ((rowsL p.first p.last).take i).map (mapLn p l' held loc) ∧ Below w2.heap.size w2 wr)
    case atStart => exact ⟨0, _, _, _, [S0], Nat.zero_le _, rfl, rfl, by simp, HO0.out, Nat.le_refl _, by simp [HHD.out], HBb.out⟩
    case round =>
      obtain ⟨i, q, nq, cq, L, hiN, rfl, rfl, rfl, hown, hLl, hLm, hbw⟩ := hrel
      have HOW := Lib.hid hown
      have HLM := Lib.hid hLm
      have HBW := Lib.hid hbw
      have hrr := HRR.out
      have hnr := HNR.out
      clear hown hLm hbw cr0
      by_cases hlt : i < NR
      · have HTK := Lib.hid (row_one (p := p) (i := i) (by rw [HNR.out]; exact hlt) (mapLn p l' held loc))
        generalize hr : p.first + (i : Int) = r at *
        have hr1 : 1 ≤ r := by omega
        have hr2 : r ≤ 60 := by omega
        have hrl : r ≤ p.last := by omega
        have hrw1 : IntKind.i64.wrap (r + 1) = r + 1 := IntWalk.i64_in _ (by omega)
        obtain ⟨c0, c1, c2, c3, c4⟩ := HCELL.out wr (bel_trans HB2.out HBW.out)
        have HNU : RowKit.Hid (Calls Tryd.prog 35 #[.int .i64 r] wr fun e w' => (∃ t : ByteArray, e = .returned (.string t) ∧ toL t = itoaL r ∧ t.size ≤ 20) ∧ Below wr.heap.size wr w') := Lib.hid ((number_any r wr (WalkArith.wf_i64 (by omega))).mono fun e w' ⟨⟨t, h1, h2⟩, hb⟩ => ⟨⟨t, h1, h2, txt_le h2 (itoaL_len r (WalkArith.wf_i64 (by omega)))⟩, hb⟩)
        have HRI := Lib.hid hr
        clear hr hrr hnr c0 c2 c3 c4
        go_upto_region 15 with (first
          | (go_at_call 35; (with_reducible refine HNU.out.mono ?_); rintro e w5 ⟨⟨t, rfl, ht, hzt⟩, hb5⟩; have q1 := sum_ok (a := t.size) (b := 1) (by omega); have q2 := sum_ok (a := 1) (b := t.size + 1) (by omega)))
        have HT := Lib.hid ht
        have HB5 := Lib.hid hb5
        clear ht hb5 HNU
        go_upto_if 53 with fail
        go_cut [11] from 52 to 56 (fun s11 wx => ∃ S : ByteArray, s11 = .string S ∧ toL S = rowTx r ∧ S.size ≤ 30 ∧ w5 = wx)
        case first =>
          by_cases h10 : r < 10
          · have HX : RowKit.Hid (toL ((⟨#[32]⟩ : ByteArray) ++ (t ++ (⟨#[32]⟩ : ByteArray))) = rowTx r) := Lib.hid (by unfold rowTx; rw [if_pos h10, toL_app, toL_app, HT.out]; rfl)
            go_wp2
            go_meet
            exact ⟨_, rfl, HX.out, by simp only [ByteArray.size_append]; show 1 + (t.size + 1) ≤ 30; omega, rfl⟩
          · have HX : RowKit.Hid (toL (t ++ (⟨#[32]⟩ : ByteArray)) = rowTx r) := Lib.hid (by unfold rowTx; rw [if_neg h10, toL_app, HT.out]; rfl)
            go_wp2
            go_meet
            exact ⟨_, rfl, HX.out, by simp only [ByteArray.size_append]; show t.size + 1 ≤ 30; omega, rfl⟩
        case rest =>
          obtain ⟨S1, hs11, hS1, hz1, hww⟩ := hcut
          subst hs11
          subst hww
          have HS1 := Lib.hid hS1
          clear hS1 q1 q2 hzt HT
          have hbw5 : Below w2.heap.size w2 w5 := bel_trans HBW.out HB5.out
          have HBW5 := Lib.hid hbw5
          have HR12 : RowKit.Hid (1 ≤ r ∧ r ≤ 60) := Lib.hid ⟨hr1, hr2⟩
          clear hbw5 hr1 hr2
          go_upto_block 4 with fail
          go_cut [11] from 56 to 75 (fun s11 wx => ∃ S : ByteArray, s11 = .string S ∧ toL S = rowTx r ++ p.lets.data.toList.map (fun c => markC p l' held loc (r, c)) ∧ S.size ≤ 230 ∧ Below w5.heap.size w5 wx)
          case first =>
            go_wp2
            go_loopg [11, 12] p.lets.size (fun g1 s11 s12 wv => ∃ (j : Nat) (S : ByteArray), j ≤ p.lets.size ∧ g1 = p.lets.size - j ∧ s12 = .int .i64 (j : Int) ∧ s11 = .string S ∧ RowKit.Hid (toL S = rowTx r ++ (p.lets.data.toList.take j).map (fun c => markC p l' held loc (r, c))) ∧ S.size ≤ 30 + j ∧ Below w5.heap.size w5 wv)
            case atStart => exact ⟨0, S1, Nat.zero_le _, rfl, rfl, rfl, Lib.hid (by rw [HS1.out]; simp), by omega, Below.refl _ _⟩
            case round =>
              obtain ⟨j, S, hjN, rfl, rfl, rfl, HS, hSz, hbv⟩ := hrel
              rename World => wv
              have HBV := Lib.hid hbv
              have hlz := HLZ.out.1
              have hbx : Below w1.heap.size w1 wv := bel_trans HB2.out (bel_trans HBW5.out hbv)
              obtain ⟨c0, c1, c2, c3, c4⟩ := HCELL.out wv hbx
              have HBX := Lib.hid (bel_trans HB.out hbx)
              clear hbv hbx
              by_cases hj : j < p.lets.size
              · have hji : (j : Int) < (p.lets.size : Int) := by omega
                have hj0 : (0 : Int) ≤ (j : Int) := by omega
                have HT := Lib.hid (take_one p.lets.data.toList (fun c => markC p l' held loc (r, c)) hj)
                have hgl : (p.lets[j]'hj) = p.lets.data.toList.getD j 0 := get_list p.lets j hj
                have hwj : IntKind.i64.wrap ((j : Int) + 1) = (j : Int) + 1 := IntWalk.i64_in _ (by omega)
                have q1 := sum_ok (a := S.size) (b := 1) (by omega)
                generalize p.lets.data.toList.getD j 0 = c at *
                obtain ⟨mc, hmc⟩ : ∃ mc : ByteArray, (⟨#[markC p l' held loc (r, c)]⟩ : ByteArray) = mc := ⟨_, rfl⟩
                have hmz : mc.size = 1 := by rw [← hmc]; rfl
                have HMC : RowKit.Hid (toL mc = [markC p l' held loc (r, c)]) := Lib.hid (by rw [← hmc]; rfl)
                have cM : ∀ d os, Calls Tryd.prog 46 #[.agg #[.int .i64 p.first, .int .i64 p.last, .string p.lets, .slice pe NX ce, vb], .agg #[.int .i64 r, .int .u8 c.toNat], vh, .string loc] (Go.Sort.grow (redrawn wv d) os) fun e w'' => e = .returned (.string mc) ∧ Below (Go.Sort.grow (redrawn wv d) os).heap.size (Go.Sort.grow (redrawn wv d) os) w'' := fun d os => by
                  rw [← hmc]
                  exact HMK.out r c _ (WalkArith.wf_i64 (by have := HR12.out; omega)) (bel_trans HBX.out (below_regrown wv d os))
                have q1 := sum_ok (a := S.size) (b := mc.size) (by omega)
                have k0 := cell_regrown c0
                have k1 := cell_regrown c1
                have k2 := cell_regrown c2
                have k3 := cell_regrown c3
                have k4 := cell_regrown c4
                clear c0 c1 c3 c4 hmc
                go_upto_region 20 with fail
                clear c2
                refine wp_region_cone 12 [(0, false), (1, false), (2, false), (3, false), (4, false), (5, false), (6, false), (7, false), (8, false), (9, false), (10, false), (11, false)] (by kernel_rfl) (by kernel_rfl) ?_
                simp only [ordO, List.map_cons, List.map_nil, List.getD_cons_zero, List.getD_cons_succ, List.drop_succ_cons, List.drop_zero]
                repeat (
                  refine ord_quiet (fun K hK => ?_)
                  go_simp
                  first
                    | (refine hK _ ?_; clear hK K)
                    | (refine ⟨_, fun _ => up_val, hK _ ?_⟩; clear hK K)
                    | (apply Exists.intro; refine ⟨fun _ => ?_, hK _ ?_⟩; (first | exact up_call (cM _ _)); clear hK K))
                unfold wpOrd
                intro wq hwq
                have hbq := Lib.hid (bel_trans HBV.out hwq.bel)
                have HX : RowKit.Hid (toL (S ++ mc) = rowTx r ++ (p.lets.data.toList.take (j + 1)).map (fun c => markC p l' held loc (r, c))) := Lib.hid (by rw [toL_app, HS.out, HT.out, HMC.out, List.append_assoc])
                clear k0 k1 k2 k3 k4 cM hwq HMC HT
                go_wp2
                go_roundg (p.lets.size - (j + 1))
                case measure => omega
                case rel => exact ⟨j + 1, _, by omega, rfl, by go_num, rfl, HX, by rw [ByteArray.size_append]; omega, hbq.out⟩
              · have hje : j = p.lets.size := by omega
                have hji : ¬ (j : Int) < (p.lets.size : Int) := by omega
                have htk : p.lets.data.toList.take j = p.lets.data.toList := List.take_of_length_le (by rw [hje]; exact Nat.le_refl _)
                rw [htk] at HS
                clear htk c0 c1 c3 c4
                go_wp2
                go_meet
                exact ⟨S, rfl, HS.out, by omega, HBV.out⟩
          case rest =>
            obtain ⟨S2, hs11, hS2, hz2, hb6⟩ := hcut
            rename World => w6
            subst hs11
            have HS2 := Lib.hid hS2
            have HB6 : RowKit.Hid (Below w2.heap.size w2 w6) := Lib.hid (bel_trans HBW5.out hb6)
            have HW6 : RowKit.Hid (Below wr.heap.size wr w6) := Lib.hid (bel_trans HB5.out hb6)
            clear hS2 hb6
            obtain ⟨_, _, _, d3, _⟩ := HCELL.out w6 (bel_trans HB2.out HB6.out)
            have HEW : RowKit.Hid (HasE intC w6 (.slice pe NX ce) p.exits) := Lib.hid (HE.out.mono (bel_trans HB.out (bel_trans HB2.out HB6.out)))
            go_upto_block 6 with fail
            go_cut [11] from 75 to 91 (fun s11 wx => ∃ S : ByteArray, s11 = .string S ∧ toL S = mapLn p l' held loc r ∧ w6 = wx)
            case first =>
              go_wp2
              go_loopg [11, 13] NX (fun g1 s11 s13 wv => ∃ (k : Nat) (S : ByteArray), k ≤ NX ∧ g1 = NX - k ∧ s13 = .int .i64 (k : Int) ∧ s11 = .string S ∧ RowKit.Hid (toL S = rowTx r ++ p.lets.data.toList.map (fun c => markC p l' held loc (r, c)) ++ exT (p.exits.take k) r) ∧ S.size ≤ 230 + 2 * k ∧ w6 = wv)
              case atStart => exact ⟨0, S2, Nat.zero_le _, rfl, rfl, rfl, Lib.hid (by rw [HS2.out]; simp [exT]), by omega, rfl⟩
              case round =>
                obtain ⟨k, S, hkN, rfl, rfl, rfl, HS, hSz, rfl⟩ := hrel
                have hxl := HLZ.out.2
                by_cases hk : k < NX
                · have hkk : (k : Int) < (NX : Int) := by omega
                  have hk0 : (0 : Int) ≤ (k : Int) := by omega
                  have hkl : k < p.exits.length := by rw [HNX.out]; exact hk
                  have hwk : IntKind.i64.wrap ((k : Int) + 1) = (k : Int) + 1 := IntWalk.i64_in _ (by omega)
                  obtain ⟨be, oe, rfl, ce0⟩ := int_at HEW.out hkl
                  have HTE := Lib.hid (take_exT p.exits r hkl)
                  generalize p.exits.getD k 0 = x at *
                  have q1 := sum_ok (a := S.size) (b := 2) (by omega)
                  by_cases hx : x = r
                  · subst hx
                    have HX : RowKit.Hid (toL (S ++ (⟨#[32, 69]⟩ : ByteArray)) = rowTx x ++ p.lets.data.toList.map (fun c => markC p l' held loc (x, c)) ++ exT (p.exits.take (k + 1)) x) := Lib.hid (by rw [toL_app, HS.out, HTE.out, if_pos rfl, List.append_assoc]; rfl)
                    go_wp2
                    go_roundg (NX - (k + 1))
                    case measure => omega
                    case rel => exact ⟨k + 1, _, by omega, rfl, by go_num, rfl, HX, by rw [ByteArray.size_append]; show S.size + 2 ≤ _; omega, rfl⟩
                  · have HX : RowKit.Hid (toL S = rowTx r ++ p.lets.data.toList.map (fun c => markC p l' held loc (r, c)) ++ exT (p.exits.take (k + 1)) r) := Lib.hid (by rw [HS.out, HTE.out, if_neg hx, List.append_nil])
                    have hxb : (x == r) = false := by rw [beq_eq_false_iff_ne]; exact hx
                    clear hx
                    go_wp2
                    go_roundg (NX - (k + 1))
                    case measure => omega
                    case rel => exact ⟨k + 1, _, by omega, rfl, by go_num, rfl, HX, by omega, rfl⟩
                · have hke : k = NX := by omega
                  have hkk : ¬ (k : Int) < (NX : Int) := by omega
                  have htk : p.exits.take k = p.exits := List.take_of_length_le (by rw [HNX.out, hke]; exact Nat.le_refl _)
                  rw [htk] at HS
                  clear htk
                  go_wp2
                  go_meet
                  exact ⟨S, rfl, by rw [HS.out]; unfold mapLn; rw [List.append_assoc], rfl⟩
            case rest =>
              obtain ⟨S3, hs11, hS3, hww⟩ := hcut
              subst hs11
              subst hww
              have HS3 := Lib.hid hS3
              have hOx := HOW.out.mono HW6.out
              have hsz := HB6.out.size
              have hLN : L.length ≤ 1000 := by have := HRR.out; have := HNR.out; omega
              go_wp2_with (at_builtin; refine push_txt rfl _ _ rfl w2.heap.size _ L rfl hOx _ rfl (by omega) hsz ?_; intro q4 n4 c4 w4 ho4 hb4)
              have HO4 := Lib.hid ho4
              have HB4' := Lib.hid (HB6.out.trans hb4)
              go_roundg (NR - (i + 1))
              case measure => omega
              case rel => exact ⟨i + 1, q4, n4, c4, _, by omega, rfl, rfl, by rw [← HRI.out]; push_cast; congr 1; omega, HO4.out, by rw [List.length_append, List.length_singleton]; omega, by rw [List.map_append, HLM.out, HTK.out, List.map_singleton, HS3.out]; rfl, HB4'.out⟩
      · have hie : i = NR := by omega
        obtain ⟨_, c1, _, _, _⟩ := HCELL.out wr (bel_trans HB2.out HBW.out)
        have hle : ¬ (p.first + (i : Int) ≤ p.last) := by omega
        have htk : (rowsL p.first p.last).take i = rowsL p.first p.last := List.take_of_length_le (by rw [rowsL_len, HNR.out]; omega)
        rw [htk] at HLM
        clear htk
        go_wp2
        go_ret
        exact ⟨⟨_, L, rfl, own_low HOW.out (bel_trans HB.out HB2.out).size, by rw [HLM.out, HM.out]⟩, bel_trans (bel_trans HB.out HB2.out) HBW.out⟩

theorem rmap_any (p : Pl) (ve vb vh : Value) (held : List HeT) (loc : ByteArray) (w : World) (he : HasE intC w ve p.exits) (hb : HasE stC w vb p.bks) (hh : HasE heC w vh held) (hz : p.lets.size ≤ 200) (hx : p.exits.length ≤ 200) (hbk : p.bks.length ≤ 200) (hhl : held.length ≤ 1000) (hok : ∀ x ∈ held, okRow x.1.1) :
    Calls Tryd.prog 17 #[planV p ve vb, vh, .string loc] w fun e w' => LinesE w.heap.size (mapL p held loc) e w' ∧ Below w.heap.size w w' := by
  cases hr : rightB p with
  | false => exact rmap_no p ve vb vh held loc w he hb hz hx hr
  | true =>
    obtain ⟨l, hl, _⟩ := rightB_some hr
    exact rmap_yes p l ve vb vh held loc w he hb hh hz hx hbk hhl hok hr hl
end Go.Proofs.YtahghakpmjfefaaDoor.Sh
