/- The law PlanBack: the walk. -/
import Derived.Test.YtpmmjccdogjncaaDoorPlnBa
namespace Go.Proofs.YtpmmjccdogjncaaDoor
open Go.RowKit Go.ChangeMaps
set_option linter.unusedSimpArgs false
set_option linter.unusedVariables false

set_option maxRecDepth 20000 in
set_option maxHeartbeats 16000000 in
theorem planBack_walk (v : Value) (p : Pl) (v1 : Value) (pk : List Int) (v2 : Value) (B : List Nat) (w : World) (h : PlanIn w v p) (hpk : Ints w v1 pk) (hbt : Words w v2 B) :
    Calls Tryd.prog 8 #[v, v1, v2] w fun e w' => e = .returned (.bool true) ∧ Below w.heap.size w w' := by
  obtain ⟨ve, vb, rfl, ⟨he, _⟩, ⟨hb, _⟩, _, _, _⟩ := h
  obtain ⟨hpk, _⟩ := hpk
  obtain ⟨hbt, hbwf⟩ := hbt
  have HA : RowKit.Hid (∀ W, Calls Tryd.prog 14 #[] W fun e w' => e = .returned (.bool true) ∧ Below W.heap.size W w') := Lib.hid fun W => awakeP_any W
  have HF : RowKit.Hid (∀ W, HasE intC W ve p.exits → HasE stC W vb p.bks → Calls Tryd.prog 19 #[planV p ve vb] W fun e w' => e = .returned (.bool (fewP p)) ∧ Below W.heap.size W w') := Lib.hid fun W h1 h2 => fewP_any p ve vb W h1 h2
  have HBL := Lib.hid (planC_blk w p ve vb)
  obtain ⟨pp, cp, rfl⟩ := hpk.len
  cases hf : fewP p with
  | false =>
    rw [hf] at HF
    obtain ⟨a, b, q, x, bk⟩ := p
    obtain ⟨pe, ce, rfl⟩ := he.len
    obtain ⟨pb, cb, rfl⟩ := hb.len
    simp only at he hb HF ⊢
    obtain ⟨w1, e1, a0, a1, a2, a3, a4, hb1, hz1⟩ := plan_boxed w a b q (.slice pe x.length ce) (.slice pb bk.length cb)
    unfold planC at HBL
    simp only at HBL
    rw [e1] at HBL
    have HE := Lib.hid (he.mono hb1)
    have HS := Lib.hid (hb.mono hb1)
    have HB := Lib.hid hb1
    unfold planV at HF ⊢
    clear he hb hb1 hz1 hf a0 a1 a2 a3 a4
    go_enter Tryd.func8, Tryd.ntmps8
    go_wp2_with (first
      | (go_at_call 14; (with_reducible refine (HA.out _).mono ?_); rintro e w3 ⟨rfl, hb3⟩)
      | (refine wpList_load_mid rfl 32 (.tmp 3) rfl w.heap.size 0 rfl _ _ (HBL.out.mono hb3).range Tryd.underlying32 rfl info_plan ?_)
      | (go_at_call 19; (with_reducible refine (HF.out _ (HE.out.mono hb3) (HS.out.mono hb3)).mono ?_); rintro e w4 ⟨rfl, hb4⟩))
    go_ret
    exact ⟨rfl, bel_trans HB.out (bel_trans hb3 hb4)⟩
  | true =>
    obtain ⟨f1, f2, f3⟩ := of_decide_eq_true hf
    rw [hf] at HF
    by_cases hpl : 700 < pk.length
    · have hpi : (700 : Int) < (pk.length : Int) := by omega
      obtain ⟨a, b, q, x, bk⟩ := p
      obtain ⟨pe, ce, rfl⟩ := he.len
      obtain ⟨pb, cb, rfl⟩ := hb.len
      simp only at he hb HF ⊢
      obtain ⟨w1, e1, a0, a1, a2, a3, a4, hb1, hz1⟩ := plan_boxed w a b q (.slice pe x.length ce) (.slice pb bk.length cb)
      unfold planC at HBL
      simp only at HBL
      rw [e1] at HBL
      have HE := Lib.hid (he.mono hb1)
      have HS := Lib.hid (hb.mono hb1)
      have HB := Lib.hid hb1
      unfold planV at HF ⊢
      clear he hb hb1 hz1 hf a0 a1 a2 a3 a4 f1 f2 f3
      go_enter Tryd.func8, Tryd.ntmps8
      go_wp2_with (first
        | (go_at_call 14; (with_reducible refine (HA.out _).mono ?_); rintro e w3 ⟨rfl, hb3⟩)
        | (refine wpList_load_mid rfl 32 (.tmp 3) rfl w.heap.size 0 rfl _ _ (HBL.out.mono hb3).range Tryd.underlying32 rfl info_plan ?_)
        | (go_at_call 19; (with_reducible refine (HF.out _ (HE.out.mono hb3) (HS.out.mono hb3)).mono ?_); rintro e w4 ⟨rfl, hb4⟩))
      go_ret
      exact ⟨rfl, bel_trans HB.out (bel_trans hb3 hb4)⟩
    have hpi : ¬ (700 : Int) < (pk.length : Int) := by omega
    cases hr : rightB p with
    | false =>
      have HM : RowKit.Hid (∀ W, HasE intC W ve p.exits → HasE stC W vb p.bks → Calls Tryd.prog 23 #[planV p ve vb] W fun e w' => ∃ v, e = .returned (.tuple #[v, .bool false]) ∧ Below W.heap.size W w') := Lib.hid fun W h1 h2 => made_no p ve vb W h1 h2 hf hr
      obtain ⟨a, b, q, x, bk⟩ := p
      obtain ⟨pe, ce, rfl⟩ := he.len
      obtain ⟨pb, cb, rfl⟩ := hb.len
      simp only at he hb HF HM ⊢
      obtain ⟨w1, e1, a0, a1, a2, a3, a4, hb1, hz1⟩ := plan_boxed w a b q (.slice pe x.length ce) (.slice pb bk.length cb)
      unfold planC at HBL
      simp only at HBL
      rw [e1] at HBL
      have HE := Lib.hid (he.mono hb1)
      have HS := Lib.hid (hb.mono hb1)
      have HB := Lib.hid hb1
      unfold planV at HF HM ⊢
      clear he hb hb1 hz1 hf a0 a1 a2 a3 a4 hr f1 f2 f3
      go_enter Tryd.func8, Tryd.ntmps8
      go_wp2_with (first
        | (go_at_call 14; (with_reducible refine (HA.out _).mono ?_); rintro e w3 ⟨rfl, hb3⟩)
        | (refine wpList_load_mid rfl 32 (.tmp 3) rfl w.heap.size 0 rfl _ _ (HBL.out.mono hb3).range Tryd.underlying32 rfl info_plan ?_)
        | (go_at_call 19; (with_reducible refine (HF.out _ (HE.out.mono hb3) (HS.out.mono hb3)).mono ?_); rintro e w4 ⟨rfl, hb4⟩; have hb24 := bel_trans hb3 hb4; clear hb3 hb4)
        | (refine wpList_load_mid rfl 32 (.tmp 3) rfl w.heap.size 0 rfl _ _ (HBL.out.mono hb24).range Tryd.underlying32 rfl info_plan ?_)
        | (go_at_call 23; (with_reducible refine (HM.out _ (HE.out.mono hb24) (HS.out.mono hb24)).mono ?_); rintro e w5 ⟨v5, rfl, hb5⟩; have hb25 := bel_trans hb24 hb5; clear hb24 hb5))
      go_ret
      exact ⟨rfl, bel_trans HB.out hb25⟩
    | true =>
      obtain ⟨l, hk, hrp⟩ := okP_few hf hr
      have HM : RowKit.Hid (∀ W, HasE intC W ve p.exits → HasE stC W vb p.bks → Calls Tryd.prog 23 #[planV p ve vb] W fun e w' => ∃ g b vl, e = .returned (.tuple #[.pointer (some ⟨g, 0, none⟩), .bool true]) ∧ MapK w' g b vl p l ∧ Below W.heap.size W w') := Lib.hid fun W h1 h2 => made_ok p ve vb l W h1 h2 hf hr hk.hl
      have hlen := hk.len
      generalize hAA : ((placesL p.first p.last l).filter fun s => !decide (s ∈ p.bks)) = A at *
      have hAn : A.length ≤ 600 := by rw [← hAA]; exact Nat.le_trans (List.length_filter_le _ _) hlen
      have HND : RowKit.Hid A.Nodup := Lib.hid (by rw [← hAA]; exact (placesL_nodup _ _ (letF_rises hk.hl)).sublist List.filter_sublist)
      have HAQ : RowKit.Hid (∀ s ∈ A, hasB p l s = true) := Lib.hid fun s hs => by
        rw [← hAA, ← seats_has] at hs
        exact (List.mem_filter.1 hs).2
      -- the contracts in each world behind w5
      have CS : RowKit.Hid (∀ W W' g b vl, MapK W g b vl p l → Below W.heap.size W W' → Calls Tryd.prog 25 #[.pointer (some ⟨g, 0, none⟩)] W' fun e w' => ∃ v, e = .returned v ∧ OwnS w' W'.heap.size v A ∧ Below W'.heap.size W' w') := Lib.hid fun W W' g b vl h hb => by
        have := (h.mono hb).callSeats (by omega)
        rw [hAA] at this
        exact this
      have CB : RowKit.Hid (∀ W W' g b vl (L : List St) vs, MapK W g b vl p l → Below W.heap.size W W' → (∀ s ∈ L, s ∈ A) → L.Nodup → L.length ≤ 1000 → HasE stC W' vs L → Calls Tryd.prog 35 #[.pointer (some ⟨g, 0, none⟩), vs] W' fun e w' => ∃ v, e = .returned (.tuple #[v, .int .i64 0]) ∧ OwnW w' W'.heap.size v (wordsN (placesL p.first p.last l) L) ∧ Below W'.heap.size W' w') := Lib.hid fun W W' g b vl L vs h hb h1 h2 h3 h4 =>
        (h.mono hb).bitsOf (by omega) L (fun s hs => HAQ.out s (h1 s hs)) h2 h3 vs h4
      have CO : RowKit.Hid (∀ W W' g b vl (L : List St) vw, MapK W g b vl p l → Below W.heap.size W W' → (∀ s ∈ L, s ∈ A) → L.Nodup → HasE wordC W' vw (wordsN (placesL p.first p.last l) L) → Calls Tryd.prog 38 #[.pointer (some ⟨g, 0, none⟩), vw] W' fun e w' => ∃ v, e = .returned (.tuple #[v, .int .i64 0]) ∧ OwnS w' W'.heap.size v (A.filter fun s => decide (s ∈ L)) ∧ Below W'.heap.size W' w') := Lib.hid fun W W' g b vl L vw h hb h1 h2 h4 => by
        have := (h.mono hb).seatsOf (by omega) L (fun s hs => HAQ.out s (h1 s hs)) h2 vw h4
        rw [hAA] at this
        exact this
      have CA : RowKit.Hid (∀ W W' g b vl vw, MapK W g b vl p l → Below W.heap.size W W' → HasE wordC W' vw B → Calls Tryd.prog 38 #[.pointer (some ⟨g, 0, none⟩), vw] W' fun e w' => ∃ v, e = .returned (.tuple #[v, .int .i64 (ofE (placesL p.first p.last l) (hasB p l) B)]) ∧ OwnS w' W'.heap.size v (ofR (placesL p.first p.last l) (hasB p l) B) ∧ Below W'.heap.size W' w') := Lib.hid fun W W' g b vl vw h hb h1 =>
        (h.mono hb).ofAny vw B h1 (by omega) hbwf
      have CC : RowKit.Hid (ofE (placesL p.first p.last l) (hasB p l) B = 0 → ∀ W W' g b vl vs, MapK W g b vl p l → Below W.heap.size W W' → HasE stC W' vs (ofR (placesL p.first p.last l) (hasB p l) B) → Calls Tryd.prog 35 #[.pointer (some ⟨g, 0, none⟩), vs] W' fun e w' => ∃ v, e = .returned (.tuple #[v, .int .i64 0]) ∧ OwnW w' W'.heap.size v B ∧ Below W'.heap.size W' w') := Lib.hid fun hE W W' g b vl vs h hb h1 =>
        (h.mono hb).bitsBack (by omega) B hbwf hE vs h1
      have CN : RowKit.Hid (ofE (placesL p.first p.last l) (hasB p l) B ≠ 0 → ofR (placesL p.first p.last l) (hasB p l) B = []) := Lib.hid ofR_no
      have CM : RowKit.Hid (ofE (placesL p.first p.last l) (hasB p l) B = 0 → B.length ≤ 1000) := Lib.hid fun h => by
        unfold ofE at h
        split at h
        · rename_i h1
          rw [h1]; unfold nWords; omega
        · cases h
      have CSA : RowKit.Hid (∀ (L : List St) W va vb, L.length ≤ 600 → HasE stC W va L → HasE stC W vb L → Calls Tryd.prog 24 #[va, vb] W fun e w' => e = .returned (.bool true) ∧ Below W.heap.size W w') := Lib.hid fun L W va vb h0 h1 h2 => by
        have := sameS_any L L va vb W h1 h2 (by omega)
        rw [decide_eq_true rfl] at this
        exact this
      have CW : RowKit.Hid (∀ W va vb, B.length ≤ 1000 → HasE wordC W va B → HasE wordC W vb B → Calls Tryd.prog 37 #[va, vb] W fun e w' => e = .returned (.bool true) ∧ Below W.heap.size W w') := Lib.hid fun W va vb h0 h1 h2 => by
        have := words_any B B va vb W h1 h2 (by omega)
        rw [decide_eq_true rfl] at this
        exact this
      have CP : RowKit.Hid (∀ W x, 0 < A.length → Calls Tryd.prog 34 #[.int .i64 x, .int .i64 A.length] W fun e w' => ∃ n : Nat, n < A.length ∧ e = .returned (.int .i64 n) ∧ W = w') := Lib.hid fun W x h0 => (place_any x A.length W h0 (by omega)).mono fun e w' h => by
        obtain ⟨rfl, rfl⟩ := h
        have h1 := Int.emod_nonneg x (show (A.length : Int) ≠ 0 by omega)
        have h2 := Int.emod_lt_of_pos x (show 0 < (A.length : Int) by omega)
        obtain ⟨n, hn⟩ := Int.eq_ofNat_of_zero_le h1
        exact ⟨n, by omega, by rw [hn], rfl⟩
      generalize ofE (placesL p.first p.last l) (hasB p l) B = eO at *
      generalize ofR (placesL p.first p.last l) (hasB p l) B = rO at *
      generalize hPP : wordsN (placesL p.first p.last l) = wdN at *
      clear hPP hAA
      obtain ⟨pe, ce, rfl⟩ := he.len
      obtain ⟨pb, cb, rfl⟩ := hb.len
      obtain ⟨w1, e1, a0, a1, a2, a3, a4, hb1, hz1⟩ := plan_boxed w p.first p.last p.lets (.slice pe p.exits.length ce) (.slice pb p.bks.length cb)
      unfold planC at HBL
      rw [e1] at HBL
      have HE := Lib.hid (he.mono hb1)
      have HS := Lib.hid (hb.mono hb1)
      have HB := Lib.hid hb1
      have HPK := Lib.hid hpk
      have HBT := Lib.hid hbt
      unfold planV at HF HM ⊢
      clear he hb hb1 hf hr f1 f2 f3 hrp hk hpk hbt a0 a1 a2 a3 a4 hbwf hlen
      go_enter Tryd.func8, Tryd.ntmps8
      go_upto_region 10 with (first
        | (go_at_call 14; (with_reducible refine (HA.out _).mono ?_); rintro e w3 ⟨rfl, hb3⟩)
        | (refine wpList_load_mid rfl 32 (.tmp 3) rfl w.heap.size 0 rfl _ _ (HBL.out.mono hb3).range Tryd.underlying32 rfl info_plan ?_)
        | (go_at_call 19; (with_reducible refine (HF.out _ (HE.out.mono hb3) (HS.out.mono hb3)).mono ?_); rintro e w4 ⟨rfl, hb4⟩; have hb24 := bel_trans hb3 hb4; clear hb3 hb4)
        | (refine wpList_load_mid rfl 32 (.tmp 3) rfl w.heap.size 0 rfl _ _ (HBL.out.mono hb24).range Tryd.underlying32 rfl info_plan ?_)
        | (go_at_call 23; (with_reducible refine (HM.out _ (HE.out.mono hb24) (HS.out.mono hb24)).mono ?_); rintro e w5 ⟨g, bm, vl, rfl, hmk, hb5⟩; have hb25 := bel_trans hb24 hb5; clear hb24 hb5)
        | (go_at_call 25; (with_reducible refine (CS.out _ _ _ _ _ hmk (Below.refl _ _)).mono ?_); rintro e w6 ⟨v6, rfl, ho6, hb6⟩; obtain ⟨p6, c6, rfl⟩ := ho6.has.len))
      have hb06 := bel_trans HB.out (bel_trans hb25 hb6)
      have HMK := Lib.hid (hmk.mono hb6)
      have HB06 := Lib.hid hb06
      have HO6 := Lib.hid ho6.has
      have HPK6 := Lib.hid (HPK.out.mono hb06)
      have HBT6 := Lib.hid (HBT.out.mono hb06)
      clear hmk hb25 hb6 hb06 ho6 HM HF HA HBL HE HS e1 CS HB HPK HBT
      generalize hn : A.length = n at *
      have HN := Lib.hid hn
      generalize hM : pk.length = M at *
      have HMl := Lib.hid hM
      clear hn hM
      go_upto_region 11 with (first
        | (at_make; refine wpList_make_bools rfl _ _ rfl n rfl rfl rfl (by omega) ?_; intro w7 hbk7 hb7 hz7))
      go_wp2
      go_loopg [10, 12] M (fun g0 s10 s12 wr => ∃ (k : Nat) (L : List St), k ≤ M ∧ g0 = M - k ∧ s12 = .int .i64 (k : Int) ∧ OwnS wr (w6.heap.size + 1) s10 L ∧ Blk wr w6.heap.size 4 (boolV (tkn A L)) ∧ (∀ s ∈ L, s ∈ A) ∧ L.Nodup ∧ L.length ≤ k ∧ Below w6.heap.size w6 wr ∧ w6.heap.size + 1 ≤ wr.heap.size)
      case atStart => exact ⟨0, [], Nat.zero_le _, rfl, rfl, OwnS.nil _ _, by rw [tkn_nil, HN.out]; exact hbk7, (fun s hs => by cases hs), List.nodup_nil, Nat.le_refl _, hb7, by omega⟩
      case round =>
        obtain ⟨k, L, hk, rfl, rfl, ho, hbk, hsub, hnd, hLk, hbw, hsz⟩ := hrel
        have HO := Lib.hid ho
        have HBK := Lib.hid hbk
        have HSUB := Lib.hid hsub
        have HNDL := Lib.hid hnd
        clear ho hbk hsub hnd
        go_upto_region 12 with fail
        go_cut [54] from 46 to 78 (fun s54 wx => s54 = .bool (decide (k < M ∧ 0 < n)) ∧ wr = wx)
        case first =>
          by_cases h1 : k < M
          · have h1i : (k : Int) < (M : Int) := by omega
            by_cases h2 : 0 < n
            · have h2i : (0 : Int) < (n : Int) := by omega
              have HD := Lib.hid (decide_eq_true (show k < M ∧ 0 < n from ⟨h1, h2⟩))
              go_wp2
              go_meet
              exact ⟨by rw [HD.out], rfl⟩
            · have h2i : ¬ (0 : Int) < (n : Int) := by omega
              have HD := Lib.hid (decide_eq_false (show ¬ (k < M ∧ 0 < n) from fun h => h2 h.2))
              go_wp2
              go_meet
              exact ⟨by rw [HD.out], rfl⟩
          · have h1i : ¬ (k : Int) < (M : Int) := by omega
            have HD := Lib.hid (decide_eq_false (show ¬ (k < M ∧ 0 < n) from fun h => h1 h.1))
            go_wp2
            go_meet
            exact ⟨by rw [HD.out], rfl⟩
        case rest =>
          obtain ⟨rfl, rfl⟩ := hcut
          cases hd : decide (k < M ∧ 0 < n) with
          | true =>
            obtain ⟨h1, h2⟩ := of_decide_eq_true hd
            clear hd
            have hk0 : (0 : Int) ≤ (k : Int) := by omega
            have hki : (k : Int) < (M : Int) := by omega
            obtain ⟨bp, op, rfl, cp0⟩ := int_at (HPK6.out.mono hbw) (i := k) (by rw [HMl.out]; exact h1)
            generalize pk.getD k 0 = x at *
            have CPx := Lib.hid fun W => CP.out W x h2
            go_upto_region 15 with (first
              | (go_at_call 34; (with_reducible refine (CPx.out _).mono ?_); rintro e w8 ⟨j, hjn, rfl, rfl⟩))
            have hjN : j < A.length := by rw [HN.out]; exact hjn
            have hji : (j : Int) < (n : Int) := by omega
            have hj0 : (0 : Int) ≤ (j : Int) := by omega
            have htk : wr.cell? ⟨w6.heap.size, j, none⟩ = some (.bool (decide (A.getD j st0 ∈ L))) := (HBK.out.cell j).trans ((boolV_get (by rw [tkn_len]; exact hjN)).trans (by rw [tkn_at hjN]))
            have hfz : wr.frozen? ⟨w6.heap.size, j, none⟩ = false := HBK.out.frozen j
            by_cases hin : A.getD j st0 ∈ L
            · rw [decide_eq_true hin] at htk
              clear hin cp0
              go_wp2
              go_roundg (M - (k + 1))
              case measure => omega
              case rel => exact ⟨k + 1, L, by omega, rfl, by go_num, HO.out, HBK.out, HSUB.out, HNDL.out, by omega, hbw, hsz⟩
            · rw [decide_eq_false hin] at htk
              have hbs : Below w6.heap.size w6 (wr.setCell ⟨w6.heap.size, j, none⟩ (.bool true)) := hbw.setCell (p := ⟨w6.heap.size, j, none⟩) (Nat.le_refl _) _
              have HBN : RowKit.Hid (Blk (wr.setCell ⟨w6.heap.size, j, none⟩ (.bool true)) w6.heap.size 4 (boolV (tkn A (L ++ [A.getD j st0])))) := Lib.hid (by
                rw [tkn_push HND.out hjN, ← boolV_set]
                exact HBK.out.set j _)
              have HOS : RowKit.Hid (OwnS (wr.setCell ⟨w6.heap.size, j, none⟩ (.bool true)) (w6.heap.size + 1) u10 L) := Lib.hid (World.ownsRow.kept HO.out (gr_setCell1 (World.grownBy.refl _ _) j _) (by
                cases hv : u10.ownBlock with
                | none => exact .inl rfl
                | some j2 =>
                  refine .inr fun e => ?_
                  have := (World.ownsRow.lt HO.out j2 hv).1
                  injection e with e
                  omega))
              have hszs : w6.heap.size + 1 ≤ (wr.setCell ⟨w6.heap.size, j, none⟩ (.bool true)).heap.size := by
                simp [World.setCell]
                omega
              have HSU : RowKit.Hid (∀ s ∈ L ++ [A.getD j st0], s ∈ A) := Lib.hid fun s hs => by
                rcases List.mem_append.1 hs with h1 | h1
                · exact HSUB.out s h1
                · rw [List.mem_singleton.1 h1]; exact List.mem_of_getElem? (getD_get hjN)
              have HNU : RowKit.Hid (L ++ [A.getD j st0]).Nodup := Lib.hid (nodup_push HNDL.out hin)
              have hL1 : L.length + 1 ≤ 1000000 := by omega
              obtain ⟨bb, off, rfl, hr, _, _⟩ := st_at (HO6.out.mono hbs) hjN
              clear hin
              generalize A.getD j st0 = s at *
              go_upto_region 17 with fail
              generalize wr.setCell ⟨w6.heap.size, j, none⟩ (.bool true) = ws at *
              clear htk hfz cp0
              go_wp2_with (first
                | (refine wpList_load_mid rfl 23 _ rfl bb (off + j * 2) rfl [.int .i64 s.1, .int .u8 s.2.toNat] _ hr Tryd.underlying23 rfl info_seat ?_)
                | (at_builtin; refine wpList_push_seat rfl _ _ rfl (w6.heap.size + 1) u10 L s rfl HOS.out rfl hL1 hszs ?_; intro v4 w4 ho4 hb4 _))
              go_roundg (M - (k + 1))
              case measure => omega
              case rel => exact ⟨k + 1, L ++ [s], by omega, rfl, by go_num, ho4, HBN.out.keep hb4 (Nat.lt_succ_self _), HSU.out, HNU.out, by rw [List.length_append]; simp; omega, hbs.trans (below_le hb4 (Nat.le_succ _)), Nat.le_trans hszs hb4.size⟩
          | false =>
            clear hd
            have hL7 : L.length ≤ 700 := by omega
            obtain ⟨wB, rfl⟩ : ∃ y : World, y = wr := ⟨_, rfl⟩
            have HFL : RowKit.Hid ((A.filter fun s => decide (s ∈ L)).length ≤ 600) := Lib.hid (Nat.le_trans (List.length_filter_le _ _) (by rw [HN.out]; exact hAn))
            go_wp2
            go_loopg [14, 15] n (fun g0 s14 s15 wx => ∃ k2 : Nat, k2 ≤ n ∧ g0 = n - k2 ∧ s15 = .int .i64 (k2 : Int) ∧ OwnS wx wB.heap.size s14 ((A.take k2).filter fun s => decide (s ∈ L)) ∧ Below wB.heap.size wB wx)
            case atStart => exact ⟨0, Nat.zero_le _, rfl, rfl, OwnS.nil _ _, Below.refl _ _⟩
            case round =>
              obtain ⟨k2, hk2, rfl, rfl, ho2, hb2⟩ := hrel
              have HO2 := Lib.hid ho2
              clear ho2
              by_cases hlt : k2 < n
              · have hki : (k2 : Int) < (n : Int) := by omega
                have hk0 : (0 : Int) ≤ (k2 : Int) := by omega
                have hkN : k2 < A.length := by rw [HN.out]; exact hlt
                have htk := ((HBK.out.mono hb2).cell k2).trans ((boolV_get (by rw [tkn_len]; exact hkN)).trans (by rw [tkn_at hkN]))
                have HFT := Lib.hid (flt_take (q := fun s => decide (s ∈ L)) hkN)
                by_cases hin : A.getD k2 st0 ∈ L
                · rw [decide_eq_true hin] at htk
                  have HFT2 : RowKit.Hid ((A.take (k2 + 1)).filter (fun s => decide (s ∈ L)) = (A.take k2).filter (fun s => decide (s ∈ L)) ++ [A.getD k2 st0]) := Lib.hid (HFT.out.trans (by rw [if_pos (decide_eq_true hin)]))
                  have hL1 : ((A.take k2).filter fun s => decide (s ∈ L)).length + 1 ≤ 1000000 := by
                    have h1 := List.length_filter_le (fun s => decide (s ∈ L)) (A.take k2)
                    rw [List.length_take] at h1
                    omega
                  have hbase := hb2.size
                  obtain ⟨bb, off, rfl, hr, _, _⟩ := st_at (HO6.out.mono (bel_trans hbw hb2)) hkN
                  clear hin HFT
                  generalize A.getD k2 st0 = s at *
                  go_wp2_with (first
                    | (refine wpList_load_mid rfl 23 _ rfl bb (off + k2 * 2) rfl [.int .i64 s.1, .int .u8 s.2.toNat] _ hr Tryd.underlying23 rfl info_seat ?_)
                    | (at_builtin; refine wpList_push_seat rfl _ _ rfl wB.heap.size u14 ((A.take k2).filter fun s => decide (s ∈ L)) s rfl HO2.out rfl hL1 hbase ?_; intro v4 w4 ho4 hb4 _))
                  go_roundg (n - (k2 + 1))
                  case measure => omega
                  case rel => exact ⟨k2 + 1, by omega, rfl, by go_num, ho4.cast HFT2.out.symm, hb2.trans hb4⟩
                · rw [decide_eq_false hin] at htk
                  have HFT2 : RowKit.Hid ((A.take (k2 + 1)).filter (fun s => decide (s ∈ L)) = (A.take k2).filter (fun s => decide (s ∈ L))) := Lib.hid (HFT.out.trans (by rw [if_neg (by simpa using hin), List.append_nil]))
                  clear hin HFT
                  go_wp2
                  go_roundg (n - (k2 + 1))
                  case measure => omega
                  case rel => exact ⟨k2 + 1, by omega, rfl, by go_num, HO2.out.cast HFT2.out.symm, hb2⟩
              · have hke : k2 = n := by omega
                subst hke
                have hki : ¬ (k2 : Int) < (k2 : Int) := by omega
                have hb6 := bel_trans hbw hb2
                have HWA : RowKit.Hid (HasE stC wr u14 (A.filter fun s => decide (s ∈ L))) := Lib.hid (by
                  have := HO2.out.has
                  rw [← HN.out, List.take_length] at this
                  exact this)
                have HLL := Lib.hid (HO.out.has.mono hb2)
                have hL1000 : L.length ≤ 1000 := by omega
                by_cases hE : eO = 0
                · subst hE
                  have hB1 := CM.out rfl
                  have CC0 := Lib.hid (CC.out rfl)
                  go_wp2_with (first
                    | (go_at_call 35; (with_reducible refine (CB.out _ _ _ _ _ L _ HMK.out hb6 HSUB.out HNDL.out hL1000 HLL.out).mono ?_); rintro e wC ⟨vC, rfl, hoC, hbC⟩)
                    | (go_at_call 38; (with_reducible refine (CO.out _ _ _ _ _ L _ HMK.out (bel_trans hb6 hbC) HSUB.out HNDL.out hoC.has).mono ?_); rintro e wD ⟨vD, rfl, hoD, hbD⟩)
                    | (go_at_call 24; (with_reducible refine (CSA.out _ _ _ _ HFL.out hoD.has (HWA.out.mono (bel_trans hbC hbD))).mono ?_); rintro e wE ⟨rfl, hbE⟩; have hb6E := bel_trans hb6 (bel_trans hbC (bel_trans hbD hbE)))
                    | (go_at_call 38; (with_reducible refine (CA.out _ _ _ _ _ _ HMK.out hb6E (HBT6.out.mono hb6E)).mono ?_); rintro e wF ⟨vF, rfl, hoF, hbF⟩)
                    | (go_at_call 35; (with_reducible refine (CC0.out _ _ _ _ _ _ HMK.out (bel_trans hb6E hbF) hoF.has).mono ?_); rintro e wG ⟨vG, rfl, hoG, hbG⟩)
                    | (go_at_call 37; (with_reducible refine (CW.out _ _ _ hB1 hoG.has (HBT6.out.mono (bel_trans hb6E (bel_trans hbF hbG)))).mono ?_); rintro e wH ⟨rfl, hbH⟩))
                  go_ret
                  exact ⟨rfl, bel_trans HB06.out (bel_trans hb6E (bel_trans hbF (bel_trans hbG hbH)))⟩
                · have hr0 := CN.out hE
                  subst hr0
                  go_wp2_with (first
                    | (go_at_call 35; (with_reducible refine (CB.out _ _ _ _ _ L _ HMK.out hb6 HSUB.out HNDL.out hL1000 HLL.out).mono ?_); rintro e wC ⟨vC, rfl, hoC, hbC⟩)
                    | (go_at_call 38; (with_reducible refine (CO.out _ _ _ _ _ L _ HMK.out (bel_trans hb6 hbC) HSUB.out HNDL.out hoC.has).mono ?_); rintro e wD ⟨vD, rfl, hoD, hbD⟩)
                    | (go_at_call 24; (with_reducible refine (CSA.out _ _ _ _ HFL.out hoD.has (HWA.out.mono (bel_trans hbC hbD))).mono ?_); rintro e wE ⟨rfl, hbE⟩; have hb6E := bel_trans hb6 (bel_trans hbC (bel_trans hbD hbE)))
                    | (go_at_call 38; (with_reducible refine (CA.out _ _ _ _ _ _ HMK.out hb6E (HBT6.out.mono hb6E)).mono ?_); rintro e wF ⟨vF, rfl, hoF, hbF⟩; obtain ⟨pF, cF, rfl⟩ := hoF.has.len))
                  go_ret
                  exact ⟨rfl, bel_trans HB06.out (bel_trans hb6E hbF)⟩
end Go.Proofs.YtpmmjccdogjncaaDoor
