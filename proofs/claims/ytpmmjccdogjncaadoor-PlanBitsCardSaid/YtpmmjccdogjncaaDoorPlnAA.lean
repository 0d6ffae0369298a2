/- The reference's Of. -/
import Derived.Test.YtpmmjccdogjncaaDoorPlnZ
namespace Go.Proofs.YtpmmjccdogjncaaDoor
open Go.RowKit Go.ChangeMaps
set_option linter.unusedSimpArgs false

theorem half_next (n m : Nat) : ((n / 2 ^ m : Nat) : Int) / 2 = ((n / 2 ^ (m + 1) : Nat) : Int) := by
  rw [Nat.pow_succ, ← Nat.div_div_eq_div_mul]
  generalize n / 2 ^ m = x
  omega

set_option maxRecDepth 20000 in
set_option maxHeartbeats 16000000 in
theorem rof_any (p : Pl) (ve vb vw : Value) (l : List UInt8) (W : List Nat) (w : World) (hk : OkP p l) (hb : HasE stC w vb p.bks) (hvw : HasE wordC w vw W) (hW : W.length ≤ 1000000)
    (hwf : ∀ x, x ∈ W → x < 18446744073709551616) :
    Calls Tryd.prog 39 #[planV p ve vb, vw] w fun e w' => ∃ v, e = .returned (.tuple #[v, .int .i64 (ofE (placesL p.first p.last l) (hasB p l) W)]) ∧ OwnS w' w.heap.size v (ofR (placesL p.first p.last l) (hasB p l) W) ∧ Below w.heap.size w w' := by
  have HPL : RowKit.Hid (∀ W, Calls Tryd.prog 27 #[planV p ve vb] W fun e w' => ∃ v, e = .returned v ∧ OwnS w' W.heap.size v (placesL p.first p.last l) ∧ Below W.heap.size W w') := Lib.hid fun W => places_any p ve vb l W hk.hl hk.szm hk.h1 hk.h2
  have HRH : RowKit.Hid (∀ W s, Below w.heap.size w W → Calls Tryd.prog 29 #[planV p ve vb, .agg #[.int .i64 s.1, .int .u8 s.2.toNat]] W fun e w' => e = .returned (.bool (hasB p l s)) ∧ Below W.heap.size W w') := Lib.hid fun W s h => rhas_any p ve vb s l W hk (hb.mono h)
  have hlen := hk.len
  have HBL := Lib.hid (planC_blk w p ve vb)
  have HSZ2 : RowKit.Hid (W.length ≠ nWords (placesL p.first p.last l) → ofE (placesL p.first p.last l) (hasB p l) W = 2 ∧ ofR (placesL p.first p.last l) (hasB p l) W = []) := Lib.hid fun h => ofE_size h
  have HNO : RowKit.Hid (W.length = nWords (placesL p.first p.last l) → ∀ k, k ≤ 64 * W.length → ofK (placesL p.first p.last l) (hasB p l) W k = none → ofE (placesL p.first p.last l) (hasB p l) W = 15 ∧ ofR (placesL p.first p.last l) (hasB p l) W = []) := Lib.hid fun hlw k h1 h2 => ofE_no hlw h2 h1
  have HYES : RowKit.Hid (W.length = nWords (placesL p.first p.last l) → ∀ o, ofK (placesL p.first p.last l) (hasB p l) W (64 * W.length) = some o → ofE (placesL p.first p.last l) (hasB p l) W = 0 ∧ ofR (placesL p.first p.last l) (hasB p l) W = o) := Lib.hid fun hlw o h1 => ofE_yes hlw h1
  have HB0 : RowKit.Hid (∀ i o, ofK (placesL p.first p.last l) (hasB p l) W i = some o → bitAt W i = false → ofK (placesL p.first p.last l) (hasB p l) W (i + 1) = some o) := Lib.hid fun i o h1 h2 => ofK_skip h1 h2
  have HB1 : RowKit.Hid (∀ i o, ofK (placesL p.first p.last l) (hasB p l) W i = some o → bitAt W i = true → i < (placesL p.first p.last l).length → hasB p l ((placesL p.first p.last l).getD i st0) = true → ofK (placesL p.first p.last l) (hasB p l) W (i + 1) = some (o ++ [(placesL p.first p.last l).getD i st0])) := Lib.hid fun i o h1 h2 h3 h4 => ofK_take h1 h2 h3 h4
  have HB2 : RowKit.Hid (∀ i o, ofK (placesL p.first p.last l) (hasB p l) W i = some o → bitAt W i = true → ¬ (i < (placesL p.first p.last l).length ∧ hasB p l ((placesL p.first p.last l).getD i st0) = true) → ofK (placesL p.first p.last l) (hasB p l) W (i + 1) = none) := Lib.hid fun i o h1 h2 h3 => ofK_bad h1 h2 h3
  have HLEN : RowKit.Hid (∀ k o, ofK (placesL p.first p.last l) (hasB p l) W k = some o → o.length ≤ k) := Lib.hid fun k o h => ofK_len h
  have HBA : RowKit.Hid (∀ i, bitAt W i = (W.getD (i / 64) 0).testBit (i % 64)) := Lib.hid fun i => rfl
  have HK0 : RowKit.Hid (ofK (placesL p.first p.last l) (hasB p l) W 0 = some []) := Lib.hid rfl
  generalize hasB p l = q at *
  obtain ⟨a, b, tx, x, bk⟩ := p
  obtain ⟨pw, cw, rfl⟩ := hvw.len
  simp only at hb HPL hlen HSZ2 HNO HYES HB0 HB1 HB2 HLEN HK0 ⊢
  obtain ⟨w1, e1, a0, a1, a2, a3, a4, hb1, hz1⟩ := plan_boxed w a b tx ve vb
  unfold planC at HBL
  simp only at HBL
  rw [e1] at HBL
  have HB := Lib.hid hb1
  have HS := Lib.hid (hvw.mono hb1)
  unfold planV at HPL HRH ⊢
  generalize placesL a b l = P at *
  generalize hK : ofK P q W = K at *
  have HWN : RowKit.Hid (∀ x : Nat, x = (if 0 < P.length % 64 then P.length / 64 + 1 else P.length / 64) → x = nWords P) := Lib.hid fun x h => by
    unfold nWords; rw [h]; split <;> omega
  generalize hN : P.length = N at *
  generalize hM : W.length = M at *
  have HN := Lib.hid hN
  have HM := Lib.hid hM
  clear hb hvw hz1 hk hN hM hK
  have hwq1 : IntKind.i64.wrap ((N : Int) / 64) = (N : Int) / 64 := IntWalk.i64_in _ ⟨by omega, by omega⟩
  have hwq2 : RowKit.wrap64 ((N : Int) / 64) = (N : Int) / 64 := IntWalk.wrap64_in _ ⟨by omega, by omega⟩
  go_enter Tryd.func39, Tryd.ntmps39
  go_upto_if 20 with (first
    | (refine wpList_load_mid rfl 32 (.tmp 2) rfl w.heap.size 0 rfl _ _ HBL.out.range Tryd.underlying32 rfl info_plan ?_)
    | (go_at_call 27; (with_reducible refine (HPL.out _).mono ?_); rintro e w3 ⟨v3, rfl, ho3, hb3⟩; obtain ⟨p3, c3, rfl⟩ := ho3.has.len; have HV := Lib.hid ho3.has))
  have HC : RowKit.Hid (∀ W, Below w3.heap.size w3 W → (W.cell? ⟨w.heap.size, 0, none⟩ = some (.int .i64 a) ∧ W.cell? ⟨w.heap.size, 1, none⟩ = some (.int .i64 b) ∧ W.cell? ⟨w.heap.size, 2, none⟩ = some (.string tx) ∧ W.cell? ⟨w.heap.size, 3, none⟩ = some ve ∧ W.cell? ⟨w.heap.size, 4, none⟩ = some vb) ∧ Below w.heap.size w W) := Lib.hid fun W h =>
    have h2 := bel_trans hb3 h
    ⟨⟨cell_bel h2 a0, cell_bel h2 a1, cell_bel h2 a2, cell_bel h2 a3, cell_bel h2 a4⟩, bel_trans HB.out h2⟩
  have HS3 := Lib.hid (HS.out.mono hb3)
  clear e1 a0 a1 a2 a3 a4 ho3 HBL hb1
  rw [HN.out] at HV ⊢
  rw [hwq2]
  clear hwq1 hwq2
  have hq64 : (N : Int) / 64 = ((N / 64 : Nat) : Int) := by omega
  have hr64 : (N : Int) % 64 = ((N % 64 : Nat) : Int) := by omega
  have hqq : (N / 64 : Nat) ≤ 100 := by omega
  go_cut [7] from 12 to 69 (fun s7 wx => ∃ nw : Nat, nw = nWords P ∧ nw ≤ 101 ∧ s7 = .int .i64 (nw : Nat) ∧ w3 = wx)
  case first =>
    by_cases hr : 0 < N % 64
    · have hri : (0 : Int) < (N : Int) % 64 := by omega
      have hrd : decide ((0 : Int) < (N : Int) % 64) = true := decide_eq_true hri
      have hrd2 : decide (0 < N % 64) = true := decide_eq_true hr
      have HX := Lib.hid (HWN.out (N / 64 + 1) (by rw [if_pos hr]))
      generalize hd : N / 64 = d at *
      clear hr64 hd
      go_wp2
      go_meet
      exact ⟨d + 1, HX.out, by omega, by go_num, rfl⟩
    · have hri : ¬ (0 : Int) < (N : Int) % 64 := by omega
      have hrd : decide ((0 : Int) < (N : Int) % 64) = false := decide_eq_false hri
      have hrd2 : decide (0 < N % 64) = false := decide_eq_false hr
      have HX := Lib.hid (HWN.out (N / 64) (by rw [if_neg hr]))
      generalize hd : N / 64 = d at *
      clear hr64 hd
      go_wp2
      go_meet
      exact ⟨d, HX.out, by omega, by go_num, rfl⟩
  case rest =>
    obtain ⟨nw, hnw, hnwl, rfl, rfl⟩ := hcut
    have HNW := Lib.hid hnw
    rw [← hnw] at HSZ2 HNO HYES
    clear hnw hq64 hr64 hqq
    by_cases hlw : M = nw
    · have hne : ((M : Int) != (nw : Int)) = false := by rw [bne_eq_false_iff_eq]; omega
      have HNO2 := Lib.hid (HNO.out hlw)
      have HYES2 := Lib.hid (HYES.out hlw)
      have HMW := Lib.hid hlw
      have hT : 64 * M ≤ N + 63 := by
        have h1 : 64 * nWords P ≤ P.length + 63 := by unfold nWords; omega
        rw [← HNW.out, HN.out] at h1
        omega
      clear hlw HNO HYES HSZ2
      have hMi : (nw : Int) = (M : Int) := by have := HMW.out; omega
      rw [hMi]
      clear hMi hne
      go_wp2
      go_loopg [8, 9] (64 * M) (fun g0 o i wr => ∃ (k : Nat) (O : List St), k ≤ 64 * M ∧ g0 = 64 * M - k ∧ i = .int .i64 (k : Int) ∧ OwnS wr w3.heap.size o O ∧ K k = some O ∧ Below w3.heap.size w3 wr)
      case atStart => exact ⟨0, [], Nat.zero_le _, rfl, rfl, OwnS.nil _ _, HK0.out, Below.refl _ _⟩
      case round =>
        obtain ⟨k, O, hk, rfl, rfl, ho, hK, hb5⟩ := hrel
        have HOW := Lib.hid ho
        have HKK := Lib.hid hK
        have hOl := HLEN.out k O hK
        clear ho hK
        by_cases hlt : k < 64 * M
        · have hki : (k : Int) < 64 * (M : Int) := by omega
          have hk0 : (0 : Int) ≤ (k : Int) := by omega
          obtain ⟨bw, offw, rfl, cw0⟩ := word_at (HS3.out.mono hb5) (i := k / 64) (by rw [HM.out]; omega)
          have hwd : W.getD (k / 64) 0 < 18446744073709551616 := hwf _ (by
            rw [List.getD_eq_getElem?_getD, List.getElem?_eq_getElem (by rw [HM.out]; omega)]
            exact List.getElem_mem _)
          have HBK := Lib.hid (HBA.out k)
          generalize W.getD (k / 64) 0 = wd at *
          have hj0 : ((k : Int) / 64) = ((k / 64 : Nat) : Int) := by omega
          have hjr : ((k : Int) % 64) = ((k % 64 : Nat) : Int) := by omega
          have hjM : k / 64 < M := by omega
          have hc64 : k % 64 < 64 := Nat.mod_lt _ (by omega)
          generalize k / 64 = j at *
          generalize k % 64 = c at *
          have hjMi : (j : Int) < (M : Int) := by omega
          have hd0 : wd / 2 ^ 0 = wd := by simp
          have HD0 := Lib.hid hd0
          clear hd0
          have hbm := Lib.hid (bit_mod wd c)
          go_wp2
          obtain ⟨wB, rfl⟩ : ∃ y : World, y = wr := ⟨_, rfl⟩
          go_loopg [10, 11] c (fun g0 n mi wr2 => ∃ m : Nat, m ≤ c ∧ g0 = c - m ∧ mi = .int .i64 (m : Int) ∧ n = .int .u64 ((wd / 2 ^ m : Nat) : Int) ∧ wB = wr2)
          case atStart => exact ⟨0, Nat.zero_le _, rfl, rfl, by rw [HD0.out], rfl⟩
          case round =>
            obtain ⟨m, hm, rfl, rfl, rfl, rfl⟩ := hrel
            by_cases hltm : m < c
            · have hmi : (m : Int) < (c : Int) := by omega
              have hm0 : (0 : Int) ≤ (m : Int) := by omega
              have hhalf := half_next wd m
              have hwm : wd / 2 ^ m < 18446744073709551616 := Nat.lt_of_le_of_lt (Nat.div_le_self _ _) hwd
              have HHF := Lib.hid hhalf
              clear hhalf
              generalize wd / 2 ^ m = wm at *
              go_wp2
              go_roundg (c - (m + 1))
              case measure => omega
              case rel => exact ⟨m + 1, by omega, rfl, by go_num, by rw [← HHF.out], rfl⟩
            · have hme : m = c := by omega
              subst hme
              have hmi : ¬ (m : Int) < (m : Int) := by omega
              have HBB := Lib.hid (HBK.out)
              have hwc : wd / 2 ^ m < 18446744073709551616 := Nat.lt_of_le_of_lt (Nat.div_le_self _ _) hwd
              have h2 : (((wd / 2 ^ m : Nat) : Int) % 2) = ((wd / 2 ^ m % 2 : Nat) : Int) := by omega
              have hb01 : wd / 2 ^ m % 2 = 0 ∨ wd / 2 ^ m % 2 = 1 := by omega
              cases hbit : bitAt W k with
              | false =>
                have HN2 := Lib.hid (HB0.out k O HKK.out hbit)
                have h1 : (((wd / 2 ^ m : Nat) : Int) % 2 == 0) = true := by
                  have h3 : ¬ wd / 2 ^ m % 2 = 1 := fun h => by
                    have := hbm.out.1 h
                    rw [← HBK.out, hbit] at this
                    cases this
                  rw [h2, beq_iff_eq]
                  omega
                clear hbit h2 hb01
                generalize wd / 2 ^ m = wm at *
                go_wp2
                go_roundg (64 * M - (k + 1))
                case measure => omega
                case rel => exact ⟨k + 1, O, by omega, rfl, by go_num, HOW.out, HN2.out, hb5⟩
              | true =>
                have h1 : (((wd / 2 ^ m : Nat) : Int) % 2 == 0) = false := by
                  have h3 := hbm.out.2 (by rw [← HBK.out]; exact hbit)
                  rw [h2, beq_eq_false_iff_ne]
                  omega
                clear h2 hb01
                generalize wd / 2 ^ m = wm at *
                by_cases hkN : k < N
                · have hkNi : (k : Int) < (N : Int) := by omega
                  have hkNd : decide ((N : Int) ≤ (k : Int)) = false := decide_eq_false (by omega)
                  have hkNd2 : decide (N ≤ k) = false := decide_eq_false (by omega)
                  obtain ⟨bb, off, rfl, _, g0, g1⟩ := st_at (HV.out.mono hb5) (i := k) (by rw [HN.out]; exact hkN)
                  obtain ⟨⟨f0, f1, f2, f3, f4⟩, hbw4⟩ := HC.out wB hb5
                  have HH : RowKit.Hid (∀ W, Below wB.heap.size wB W → _) := Lib.hid fun W h => HRH.out W (P.getD k st0) (below_low hbw4 hbw4.size h)
                  have HST : RowKit.Hid (∀ W, Below wB.heap.size wB W → W.cell? ⟨w.heap.size, 0, none⟩ = some (.int .i64 a) ∧ W.cell? ⟨w.heap.size, 1, none⟩ = some (.int .i64 b) ∧ W.cell? ⟨w.heap.size, 2, none⟩ = some (.string tx) ∧ W.cell? ⟨w.heap.size, 3, none⟩ = some ve ∧ W.cell? ⟨w.heap.size, 4, none⟩ = some vb ∧ W.cell? ⟨bb, off + k * 2, none⟩ = some (.int .i64 (P.getD k st0).1) ∧ W.cell? ⟨bb, off + k * 2 + 1, none⟩ = some (.int .u8 (P.getD k st0).2.toNat) ∧ Below wB.heap.size wB W) := Lib.hid fun W h => ⟨cell_bel h f0, cell_bel h f1, cell_bel h f2, cell_bel h f3, cell_bel h f4, cell_bel h g0, cell_bel h g1, h⟩
                  have hS0 := HST.out wB.drew (Below.refl _ _).drew
                  have HBY := Lib.hid (HB1.out k O HKK.out hbit hkN)
                  have HBN : RowKit.Hid (q (P.getD k st0) = false → ofE P q W = 15 ∧ ofR P q W = []) := Lib.hid fun hq => HNO2.out (k + 1) (by omega) (HB2.out k O HKK.out hbit (fun h => by rw [hq] at h; cases h.2))
                  have hlen1 : O.length + 1 ≤ 1000000 := by omega
                  generalize P.getD k st0 = s at *
                  clear hbit hkN
                  go_upto_region 17 with fail
                  go_region_held3 (fun W => W.cell? ⟨w.heap.size, 0, none⟩ = some (.int .i64 a) ∧ W.cell? ⟨w.heap.size, 1, none⟩ = some (.int .i64 b) ∧ W.cell? ⟨w.heap.size, 2, none⟩ = some (.string tx) ∧ W.cell? ⟨w.heap.size, 3, none⟩ = some ve ∧ W.cell? ⟨w.heap.size, 4, none⟩ = some vb ∧ W.cell? ⟨bb, off + k * 2, none⟩ = some (.int .i64 s.1) ∧ W.cell? ⟨bb, off + k * 2 + 1, none⟩ = some (.int .u8 s.2.toNat) ∧ Below wB.heap.size wB W)
                    (first
                      | exact hS0
                      | assumption
                      | exact HST.out _ (bel_trans (show _ ∧ _ ∧ _ ∧ _ ∧ _ ∧ _ ∧ _ ∧ Below wB.heap.size wB _ by assumption).2.2.2.2.2.2.2 hb6))
                    (first
                      | (go_at_call 29; (with_reducible refine (HH.out _ (show _ ∧ _ ∧ _ ∧ _ ∧ _ ∧ _ ∧ _ ∧ Below wB.heap.size wB _ by assumption).2.2.2.2.2.2.2).mono ?_); rintro e w6 ⟨rfl, hb6⟩))
                  obtain ⟨_, _, _, _, _, t0, t1, hb7⟩ := (show w6.cell? ⟨w.heap.size, 0, none⟩ = some (.int .i64 a) ∧ w6.cell? ⟨w.heap.size, 1, none⟩ = some (.int .i64 b) ∧ w6.cell? ⟨w.heap.size, 2, none⟩ = some (.string tx) ∧ w6.cell? ⟨w.heap.size, 3, none⟩ = some ve ∧ w6.cell? ⟨w.heap.size, 4, none⟩ = some vb ∧ w6.cell? ⟨bb, off + k * 2, none⟩ = some (.int .i64 s.1) ∧ w6.cell? ⟨bb, off + k * 2 + 1, none⟩ = some (.int .u8 s.2.toNat) ∧ Below wB.heap.size wB w6 by assumption)
                  have hb57 := bel_trans hb5 hb7
                  clear hS0 f0 f1 f2 f3 f4 g0 g1
                  cases hq : q s with
                  | false =>
                    have HF := Lib.hid (HBN.out hq)
                    clear hq
                    go_wp2
                    go_ret2
                    exact ⟨_, by rw [HF.out.1]; rfl, by rw [HF.out.2]; exact OwnS.nil _ _, (HC.out _ hb57).2⟩
                  | true =>
                    have HN2 := Lib.hid (HBY.out hq)
                    have HOW9 := Lib.hid (HOW.out.mono hb7)
                    have hbase := hb57.size
                    clear hq
                    go_wp2_with (first
                      | (at_builtin; refine wpList_push_seat rfl _ _ rfl w3.heap.size u8 O s rfl HOW9.out rfl hlen1 hbase ?_; intro v4 w4 ho4 hb4 _))
                    go_roundg (64 * M - (k + 1))
                    case measure => omega
                    case rel => exact ⟨k + 1, O ++ [s], by omega, rfl, by go_num, ho4, HN2.out, hb57.trans hb4⟩
                · have hkNi : ¬ (k : Int) < (N : Int) := by omega
                  have hkNd : decide ((N : Int) ≤ (k : Int)) = true := decide_eq_true (by omega)
                  have hkNd2 : decide (N ≤ k) = true := decide_eq_true (by omega)
                  have HF := Lib.hid (HNO2.out (k + 1) (by omega) (HB2.out k O HKK.out hbit (fun h => hkN h.1)))
                  clear hbit hkN
                  go_upto_region 17 with fail
                  go_quiet (fail)
                  go_wp2
                  go_ret2
                  exact ⟨_, by rw [HF.out.1]; rfl, by rw [HF.out.2]; exact OwnS.nil _ _, below_drewN (HC.out _ hb5).2 _⟩
        · have hke : k = 64 * M := by omega
          subst hke
          have hki : ¬ (64 : Int) * (M : Int) < 64 * (M : Int) := by omega
          have HF := Lib.hid (HYES2.out O HKK.out)
          go_wp2
          go_ret2
          exact ⟨_, by rw [HF.out.1]; rfl, by rw [HF.out.2]; exact own_low HOW.out (HC.out w3 (Below.refl _ _)).2.size, (HC.out _ hb5).2⟩
    · have hne : ((M : Int) != (nw : Int)) = true := by rw [bne_iff_ne]; omega
      have HF := Lib.hid (HSZ2.out hlw)
      clear hlw
      go_wp2
      go_ret2
      exact ⟨_, by rw [HF.out.1]; rfl, by rw [HF.out.2]; exact OwnS.nil _ _, (HC.out _ (Below.refl _ _)).2⟩
end Go.Proofs.YtpmmjccdogjncaaDoor
