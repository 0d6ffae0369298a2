/- The law PlanBits: the walk. -/
import Derived.Test.YtpmmjccdogjncaaDoorPlnBt
import Derived.SizedLaws
namespace Go.Proofs.YtpmmjccdogjncaaDoor
open Go.RowKit Go.ChangeMaps
set_option linter.unusedSimpArgs false
set_option linter.unusedVariables false

set_option maxRecDepth 20000 in
set_option maxHeartbeats 16000000 in
theorem planBits_walk (v : Value) (p : Pl) (v1 : Value) (pk : List Int) (v2 : Value) (od : List St) (v3 : Value) (B : List Nat) (w : World) (h : PlanIn w v p) (hpk : Ints w v1 pk) (hod : Seats w v2 od) (hbt : Words w v3 B) (hB8 : B.length * 8 ≤ 140737488355328) :
    Calls Tryd.prog 7 #[v, v1, v2, v3] w fun e w' => e = .returned (.bool true) ∧ Below w.heap.size w w' := by
  obtain ⟨ve, vb, rfl, ⟨he, _⟩, ⟨hb, _⟩, _, _, _⟩ := h
  obtain ⟨hpk, _⟩ := hpk
  obtain ⟨hod, hodr⟩ := hod
  obtain ⟨hbt, hbwf⟩ := hbt
  have HA : RowKit.Hid (∀ W, Calls Tryd.prog 14 #[] W fun e w' => e = .returned (.bool true) ∧ Below W.heap.size W w') := Lib.hid fun W => awakeP_any W
  have HF : RowKit.Hid (∀ W, HasE intC W ve p.exits → HasE stC W vb p.bks → Calls Tryd.prog 19 #[planV p ve vb] W fun e w' => e = .returned (.bool (fewP p)) ∧ Below W.heap.size W w') := Lib.hid fun W h1 h2 => fewP_any p ve vb W h1 h2
  have HBL := Lib.hid (planC_blk w p ve vb)
  obtain ⟨pp, cp, rfl⟩ := hpk.len
  obtain ⟨po, co, rfl⟩ := hod.len
  by_cases hsmall : fewP p = true ∧ pk.length ≤ 700 ∧ od.length ≤ 50
  · obtain ⟨hf, hpl, hol⟩ := hsmall
    obtain ⟨f1, f2, f3⟩ := of_decide_eq_true hf
    rw [hf] at HF
    have hpi : ¬ (700 : Int) < (pk.length : Int) := by omega
    have hoi : ¬ (50 : Int) < (od.length : Int) := by omega
    cases hr : rightB p with
    | false =>
      have HM : RowKit.Hid (∀ W, HasE intC W ve p.exits → HasE stC W vb p.bks → Calls Tryd.prog 23 #[planV p ve vb] W fun e w' => ∃ v, e = .returned (.tuple #[v, .bool false]) ∧ Below W.heap.size W w') := Lib.hid fun W h1 h2 => made_no p ve vb W h1 h2 hf hr
      have HR : RowKit.Hid (∀ W, HasE intC W ve p.exits → HasE stC W vb p.bks → Calls Tryd.prog 20 #[planV p ve vb] W fun e w' => e = .returned (.bool false) ∧ Below W.heap.size W w') := Lib.hid fun W h1 h2 => by
        have := right_any p ve vb W h1 h2 (by unfold maxLen; omega) (by omega)
        rw [hr] at this
        exact this
      obtain ⟨a, b, q, x, bk⟩ := p
      obtain ⟨pe, ce, rfl⟩ := he.len
      obtain ⟨pb, cb, rfl⟩ := hb.len
      simp only at he hb HF HM HR ⊢
      obtain ⟨w1, e1, a0, a1, a2, a3, a4, hb1, hz1⟩ := plan_boxed w a b q (.slice pe x.length ce) (.slice pb bk.length cb)
      unfold planC at HBL
      simp only at HBL
      rw [e1] at HBL
      have HE := Lib.hid (he.mono hb1)
      have HS := Lib.hid (hb.mono hb1)
      have HB := Lib.hid hb1
      unfold planV at HF HM HR ⊢
      clear he hb hb1 hz1 hf a0 a1 a2 a3 a4 hr f1 f2 f3
      go_enter Tryd.func7, Tryd.ntmps7
      go_wp2_with (first
        | (go_at_call 14; (with_reducible refine (HA.out _).mono ?_); rintro e w3 ⟨rfl, hb3⟩)
        | (refine wpList_load_mid rfl 32 (.tmp 4) rfl w.heap.size 0 rfl _ _ (HBL.out.mono hb3).range Tryd.underlying32 rfl info_plan ?_)
        | (go_at_call 19; (with_reducible refine (HF.out _ (HE.out.mono hb3) (HS.out.mono hb3)).mono ?_); rintro e w4 ⟨rfl, hb4⟩; have hb24 := bel_trans hb3 hb4; clear hb3 hb4)
        | (refine wpList_load_mid rfl 32 (.tmp 4) rfl w.heap.size 0 rfl _ _ (HBL.out.mono hb24).range Tryd.underlying32 rfl info_plan ?_)
        | (go_at_call 23; (with_reducible refine (HM.out _ (HE.out.mono hb24) (HS.out.mono hb24)).mono ?_); rintro e w5 ⟨v5, rfl, hb5⟩; have hb25 := bel_trans hb24 hb5; clear hb24 hb5)
        | (refine wpList_load_mid rfl 32 (.tmp 4) rfl w.heap.size 0 rfl _ _ (HBL.out.mono hb25).range Tryd.underlying32 rfl info_plan ?_)
        | (go_at_call 20; (with_reducible refine (HR.out _ (HE.out.mono hb25) (HS.out.mono hb25)).mono ?_); rintro e w6 ⟨rfl, hb6⟩))
      go_ret
      exact ⟨rfl, bel_trans HB.out (bel_trans hb25 hb6)⟩
    | true =>
      obtain ⟨l, hk, hrp⟩ := okP_few hf hr
      have HM : RowKit.Hid (∀ W, HasE intC W ve p.exits → HasE stC W vb p.bks → Calls Tryd.prog 23 #[planV p ve vb] W fun e w' => ∃ g b vl, e = .returned (.tuple #[.pointer (some ⟨g, 0, none⟩), .bool true]) ∧ MapK w' g b vl p l ∧ Below W.heap.size W w') := Lib.hid fun W h1 h2 => made_ok p ve vb l W h1 h2 hf hr hk.hl
      have hlen := hk.len
      generalize hAA : ((placesL p.first p.last l).filter fun s => !decide (s ∈ p.bks)) = A at *
      have hAn : A.length ≤ 600 := by rw [← hAA]; exact Nat.le_trans (List.length_filter_le _ _) hlen
      have HAP : RowKit.Hid (∀ s ∈ A, s ∈ placesL p.first p.last l) := Lib.hid fun s hs => by
        rw [← hAA] at hs
        exact (List.mem_filter.1 hs).1
      have CS : RowKit.Hid (∀ W, HasE stC W vb p.bks → Calls Tryd.prog 26 #[planV p ve vb] W fun e w' => ∃ v, e = .returned v ∧ OwnS w' W.heap.size v A ∧ Below W.heap.size W w') := Lib.hid fun W h => by
        have := rseats_any p ve vb l W hk h
        rw [hAA] at this
        exact this
      have CB : RowKit.Hid (∀ W W' g b vl (L : List St) vs, MapK W g b vl p l → Below W.heap.size W W' → (∀ s ∈ L, s ∈ A) → L.length ≤ 1000 → HasE stC W' vs (L ++ od) → Calls Tryd.prog 35 #[.pointer (some ⟨g, 0, none⟩), vs] W' fun e w' => ∃ v, e = .returned (.tuple #[v, .int .i64 (bitsE (hasB p l) (L ++ od))]) ∧ OwnW w' W'.heap.size v (bitsR (placesL p.first p.last l) (hasB p l) (L ++ od)) ∧ Below W'.heap.size W' w') := Lib.hid fun W W' g b vl L vs h hb h1 h3 h4 => by
        have h5 := h.mono hb
        refine h5.callBits vs (L ++ od) h4 (by omega) (by rw [List.length_append]; omega) (fun s hs => ?_) h5.nodup
        rcases List.mem_append.1 hs with h6 | h6
        · exact h5.ob.map.2.2 s (HAP.out s (h1 s h6))
        · exact hodr s h6
      have CR : RowKit.Hid (∀ W (L : List St) vs, HasE stC W vb p.bks → L.length ≤ 1000 → HasE stC W vs (L ++ od) → Calls Tryd.prog 36 #[planV p ve vb, vs] W fun e w' => ∃ v, e = .returned (.tuple #[v, .int .i64 (bitsE (hasB p l) (L ++ od))]) ∧ OwnW w' W.heap.size v (bitsR (placesL p.first p.last l) (hasB p l) (L ++ od)) ∧ Below W.heap.size W w') := Lib.hid fun W L vs h1 h2 h3 =>
        rbits_any p ve vb vs l (L ++ od) W hk h1 h3 (by rw [List.length_append]; omega)
      have CBL : RowKit.Hid (∀ L : List St, (bitsR (placesL p.first p.last l) (hasB p l) L).length ≤ 1000) := Lib.hid fun L => by
        unfold bitsR
        split
        · rw [wordsN_len]; unfold nWords; omega
        · exact Nat.zero_le _
      have CA : RowKit.Hid (∀ W W' g b vl vw, MapK W g b vl p l → Below W.heap.size W W' → HasE wordC W' vw B → Calls Tryd.prog 38 #[.pointer (some ⟨g, 0, none⟩), vw] W' fun e w' => ∃ v, e = .returned (.tuple #[v, .int .i64 (ofE (placesL p.first p.last l) (hasB p l) B)]) ∧ OwnS w' W'.heap.size v (ofR (placesL p.first p.last l) (hasB p l) B) ∧ Below W'.heap.size W' w') := Lib.hid fun W W' g b vl vw h hb h1 =>
        (h.mono hb).ofAny vw B h1 (by omega) hbwf
      have CO : RowKit.Hid (∀ W vw, HasE stC W vb p.bks → HasE wordC W vw B → Calls Tryd.prog 39 #[planV p ve vb, vw] W fun e w' => ∃ v, e = .returned (.tuple #[v, .int .i64 (ofE (placesL p.first p.last l) (hasB p l) B)]) ∧ OwnS w' W.heap.size v (ofR (placesL p.first p.last l) (hasB p l) B) ∧ Below W.heap.size W w') := Lib.hid fun W vw h1 h2 =>
        rof_all p ve vb vw l B W hk h1 h2 hbwf
      have hrl : (ofR (placesL p.first p.last l) (hasB p l) B).length ≤ 600 := Nat.le_trans (ofR_len (placesL_nodup _ _ (letF_rises hk.hl))).1 hlen
      have CSA : RowKit.Hid (∀ (L : List St) W va vb, L.length ≤ 600 → HasE stC W va L → HasE stC W vb L → Calls Tryd.prog 24 #[va, vb] W fun e w' => e = .returned (.bool true) ∧ Below W.heap.size W w') := Lib.hid fun L W va vb h0 h1 h2 => by
        have := sameS_any L L va vb W h1 h2 (by omega)
        rw [decide_eq_true rfl] at this
        exact this
      have CW : RowKit.Hid (∀ (X : List Nat) W va vb, X.length ≤ 1000 → HasE wordC W va X → HasE wordC W vb X → Calls Tryd.prog 37 #[va, vb] W fun e w' => e = .returned (.bool true) ∧ Below W.heap.size W w') := Lib.hid fun X W va vb h0 h1 h2 => by
        have := words_any X X va vb W h1 h2 (by omega)
        rw [decide_eq_true rfl] at this
        exact this
      have CP : RowKit.Hid (∀ W x, 0 < A.length → Calls Tryd.prog 34 #[.int .i64 x, .int .i64 A.length] W fun e w' => ∃ n : Nat, n < A.length ∧ e = .returned (.int .i64 n) ∧ W = w') := Lib.hid fun W x h0 => (place_any x A.length W h0 (by omega)).mono fun e w' h => by
        obtain ⟨rfl, rfl⟩ := h
        have h1 := Int.emod_nonneg x (show (A.length : Int) ≠ 0 by omega)
        have h2 := Int.emod_lt_of_pos x (show 0 < (A.length : Int) by omega)
        obtain ⟨n, hn⟩ := Int.eq_ofNat_of_zero_le h1
        exact ⟨n, by omega, by rw [hn], rfl⟩
      generalize ofE (placesL p.first p.last l) (hasB p l) B = eO at *
      generalize ofR (placesL p.first p.last l) (hasB p l) B = rO at *
      generalize bitsE (hasB p l) = eB at *
      generalize bitsR (placesL p.first p.last l) (hasB p l) = rB at *
      obtain ⟨pe, ce, rfl⟩ := he.len
      obtain ⟨pb, cb, rfl⟩ := hb.len
      obtain ⟨pt, ct, rfl⟩ := hbt.len
      obtain ⟨i2, hi2, hz2', hs2, hy2⟩ := seat_info
      obtain ⟨i3, hi3, hz3', hs3, hy3⟩ := word_info
      obtain ⟨w1, e1, a0, a1, a2, a3, a4, hb1, hz1⟩ := plan_boxed w p.first p.last p.lets (.slice pe p.exits.length ce) (.slice pb p.bks.length cb)
      unfold planC at HBL
      rw [e1] at HBL
      have HE := Lib.hid (he.mono hb1)
      have HS := Lib.hid (hb.mono hb1)
      have HB := Lib.hid hb1
      have HPK := Lib.hid hpk
      have HOD := Lib.hid hod
      have HBT := Lib.hid hbt
      have HB8 := Lib.hid hB8
      have HRL := Lib.hid hrl
      unfold planV at HF HM CS CR CO ⊢
      clear he hb hb1 hf hr f1 f2 f3 hrp hk hpk hbt hod a0 a1 a2 a3 a4 hbwf hlen hodr hB8 hrl hAA HAP
      go_enter Tryd.func7, Tryd.ntmps7
      go_upto_region 9 with (first
        | (go_at_call 14; (with_reducible refine (HA.out _).mono ?_); rintro e w3 ⟨rfl, hb3⟩)
        | (refine wpList_load_mid rfl 32 (.tmp 4) rfl w.heap.size 0 rfl _ _ (HBL.out.mono hb3).range Tryd.underlying32 rfl info_plan ?_)
        | (go_at_call 19; (with_reducible refine (HF.out _ (HE.out.mono hb3) (HS.out.mono hb3)).mono ?_); rintro e w4 ⟨rfl, hb4⟩; have hb24 := bel_trans hb3 hb4; clear hb3 hb4)
        | (refine wpList_load_mid rfl 32 (.tmp 4) rfl w.heap.size 0 rfl _ _ (HBL.out.mono hb24).range Tryd.underlying32 rfl info_plan ?_)
        | (go_at_call 23; (with_reducible refine (HM.out _ (HE.out.mono hb24) (HS.out.mono hb24)).mono ?_); rintro e w5 ⟨g, bm, vl, rfl, hmk, hb5⟩; have hb25 := bel_trans hb24 hb5; clear hb24 hb5)
        | (refine wpList_load_mid rfl 32 (.tmp 4) rfl w.heap.size 0 rfl _ _ (HBL.out.mono hb25).range Tryd.underlying32 rfl info_plan ?_)
        | (go_at_call 26; (with_reducible refine (CS.out _ (HS.out.mono hb25)).mono ?_); rintro e w6 ⟨v6, rfl, ho6, hb6⟩; obtain ⟨p6, c6, rfl⟩ := ho6.has.len))
      have hb16 := bel_trans hb25 hb6
      have HMK := Lib.hid (hmk.mono hb6)
      have HB06 := Lib.hid (bel_trans HB.out hb16)
      have HO6 := Lib.hid ho6.has
      have HPK6 := Lib.hid (HPK.out.mono HB06.out)
      have HOD6 := Lib.hid (HOD.out.mono HB06.out)
      have HBT6 := Lib.hid (HBT.out.mono HB06.out)
      have HS6 := Lib.hid (HS.out.mono hb16)
      have HBL6 := Lib.hid (HBL.out.mono hb16)
      clear hmk hb25 hb6 hb16 ho6 HM HF HA HBL HE HS e1 CS HB HPK HBT HOD
      generalize hn : A.length = n at *
      have HN := Lib.hid hn
      generalize hM : pk.length = M at *
      have HMl := Lib.hid hM
      generalize hO : od.length = no at *
      have HOl := Lib.hid hO
      generalize hBl : B.length = nb at *
      have HBl := Lib.hid hBl
      clear hn hM hO hBl
      go_wp2
      go_loopg [12, 13] M (fun g0 s12 s13 wr => ∃ (k : Nat) (L : List St), k ≤ M ∧ g0 = M - k ∧ s13 = .int .i64 (k : Int) ∧ OwnS wr w6.heap.size s12 L ∧ (∀ s ∈ L, s ∈ A) ∧ L.length ≤ k ∧ Below w6.heap.size w6 wr)
      case atStart => exact ⟨0, [], Nat.zero_le _, rfl, rfl, OwnS.nil _ _, (fun s hs => by cases hs), Nat.le_refl _, Below.refl _ _⟩
      case round =>
        obtain ⟨k, L, hk, rfl, rfl, ho, hsub, hLk, hbw⟩ := hrel
        have HO := Lib.hid ho
        have HSUB := Lib.hid hsub
        clear ho hsub
        go_upto_region 11 with fail
        go_cut [55] from 47 to 70 (fun s55 wx => s55 = .bool (decide (k < M ∧ 0 < n)) ∧ wr = wx)
        case first =>
          by_cases h1 : k < M
          · have h1i : (k : Int) < (M : Int) := by omega
            by_cases h2 : 0 < n
            · have h2i : (0 : Int) < (n : Int) := by omega
              have HD := Lib.hid (decide_eq_true (show k < M ∧ 0 < n from ⟨h1, h2⟩))
              go_wp2
              go_meet
              exact ⟨by rw [HD.out], rfl⟩
            · have h2i : ¬ (0 : Int) < (n : Int) := by omega
              have HD := Lib.hid (decide_eq_false (show ¬ (k < M ∧ 0 < n) from fun h => h2 h.2))
              go_wp2
              go_meet
              exact ⟨by rw [HD.out], rfl⟩
          · have h1i : ¬ (k : Int) < (M : Int) := by omega
            have HD := Lib.hid (decide_eq_false (show ¬ (k < M ∧ 0 < n) from fun h => h1 h.1))
            go_wp2
            go_meet
            exact ⟨by rw [HD.out], rfl⟩
        case rest =>
          obtain ⟨rfl, rfl⟩ := hcut
          cases hd : decide (k < M ∧ 0 < n) with
          | true =>
            obtain ⟨h1, h2⟩ := of_decide_eq_true hd
            clear hd
            have hk0 : (0 : Int) ≤ (k : Int) := by omega
            have hki : (k : Int) < (M : Int) := by omega
            obtain ⟨bp, op, rfl, cp0⟩ := int_at (HPK6.out.mono hbw) (i := k) (by rw [HMl.out]; exact h1)
            generalize pk.getD k 0 = x at *
            have CPx := Lib.hid fun W => CP.out W x h2
            have hL1 : L.length + 1 ≤ 1000000 := by omega
            have hbase := hbw.size
            have HRD : RowKit.Hid (∀ j, j < n → ∃ bb off s, p6 = some ⟨bb, off, none⟩ ∧ wr.rangeAt bb (off + j * 2) (seatC s.1 s.2) ∧ s ∈ A) := Lib.hid fun j hj => by
              obtain ⟨bb, off, e, h, _⟩ := st_at (HO6.out.mono hbw) (i := j) (by rw [HN.out]; exact hj)
              exact ⟨bb, off, _, e, h, List.mem_of_getElem? (getD_get (l := A) (k := j) (by rw [HN.out]; exact hj))⟩
            go_wp2_with (first
              | (go_at_call 34; (with_reducible refine (CPx.out _).mono ?_); rintro e w8 ⟨j, hjn, rfl, rfl⟩; obtain ⟨bb, off, s, rfl, hr, hsj⟩ := HRD.out j hjn; have hji : (j : Int) < (n : Int) := Int.ofNat_lt.2 hjn; have hj0 : (0 : Int) ≤ (j : Int) := Int.natCast_nonneg j)
              | (refine wpList_load_mid rfl 23 _ rfl bb (off + j * 2) rfl [.int .i64 s.1, .int .u8 s.2.toNat] _ hr Tryd.underlying23 rfl info_seat ?_)
              | (at_builtin; refine wpList_push_seat rfl _ _ rfl w6.heap.size u12 L s rfl HO.out rfl hL1 hbase ?_; intro v4 w4 ho4 hb4 _))
            go_roundg (M - (k + 1))
            case measure => omega
            case rel =>
              refine ⟨k + 1, L ++ [s], by omega, rfl, by go_num, ho4, fun t ht => ?_, by rw [List.length_append]; simp; omega, hbw.trans hb4⟩
              rcases List.mem_append.1 ht with h3 | h3
              · exact HSUB.out t h3
              · rw [List.mem_singleton.1 h3]; exact hsj
          | false =>
            clear hd
            have hL7 : L.length ≤ 700 := by omega
            have hL1000 : L.length ≤ 1000 := by omega
            have hlo : L.length + od.length ≤ 1000000 := by rw [HOl.out]; omega
            obtain ⟨wB, rfl⟩ : ∃ y : World, y = wr := ⟨_, rfl⟩
            have hbase := hbw.size
            have HEB := Lib.hid (CBL.out (L ++ od))
            have HLO : RowKit.Hid ((L ++ od).length ≤ 1000000) := Lib.hid (by rw [List.length_append]; exact hlo)
            have HVN : RowKit.Hid (([] : List St).length + (L ++ od).length ≤ 1000000) := Lib.hid (by simpa using HLO.out)
            have HB82 : RowKit.Hid ((([] : List Nat).length + B.length) * 8 ≤ 140737488355328) := Lib.hid (by rw [HBl.out]; simpa using HB8.out)
            have HBM : RowKit.Hid (([] : List Nat).length + B.length ≤ maxLen) := Lib.hid (by have := HBT6.out.max; simpa using this)
            have hzz : (eB (L ++ od) != eB (L ++ od)) = false := by simp
            have hoo : (eO == eO) = true := by simp
            go_upto_region 15 with (first
              | (at_builtin; refine wpList_append_has (enc := stC) (st := 2) stC_len stC_one (by decide) rfl _ _ 30 rfl w6.heap.size 23 i2 _ 16 Tryd.underlying30 hi2 hz2' hs2 hy2 rfl (by decide) u12 L rfl HO.out (.slice po no co) od rfl (HOD6.out.mono hbw) hlo hbase ?_; intro v9 w9 ho9 _ hb9))
            have hb69 : Below w6.heap.size w6 w9 := hbw.trans hb9
            have HL9 : RowKit.Hid (HasE stC w9 v9 (L ++ od)) := Lib.hid (HasE.own (enc := stC) ho9)
            obtain ⟨p9, c9, rfl⟩ := HL9.out.len
            clear ho9 hb9
            have CBX := Lib.hid fun W' vs h1 h2 => CB.out w6 W' g bm vl L vs HMK.out h1 HSUB.out hL1000 h2
            have CRX := Lib.hid fun W vs h1 h2 => CR.out W L vs h1 hL1000 h2
            clear CB CR
            generalize L ++ od = X at *
            generalize X.length = nX at HL9 ⊢
            go_wp2_with (first
              | (at_builtin; refine wpList_append_has (enc := stC) (st := 2) stC_len stC_one (by decide) rfl _ _ 30 rfl w9.heap.size 23 i2 _ 16 Tryd.underlying30 hi2 hz2' hs2 hy2 rfl (by decide) (.slice (some ⟨w9.heap.size, 0, none⟩) 0 0) [] rfl (own_lit0 _ _ _ _ (Nat.le_refl _)) (.slice p9 nX c9) X rfl (HL9.out.mono ((Below.refl _ _).alloc (Nat.le_refl _) _)) HVN.out (by simp) ?_; intro vA wA hoA _ hbA; rw [List.nil_append] at hoA; have hb9A : Below w9.heap.size w9 wA := ((Below.refl _ _).alloc (Nat.le_refl _) _).trans hbA; have hb6A := bel_trans hb69 hb9A)
              | (go_at_call 35; (with_reducible refine (CBX.out _ _ hb6A (HasE.own (enc := stC) hoA)).mono ?_); rintro e wC ⟨vC, rfl, hoC, hbC⟩; have hb6C := bel_trans hb6A hbC)
              | (refine wpList_load_mid rfl 32 (.tmp 4) rfl w.heap.size 0 rfl _ _ (HBL6.out.mono hb6C).range Tryd.underlying32 rfl info_plan ?_)
              | (go_at_call 36; (with_reducible refine (CRX.out _ _ (HS6.out.mono hb6C) (HL9.out.mono (bel_trans hb9A hbC))).mono ?_); rintro e wD ⟨vD, rfl, hoD, hbD⟩; have hb6D := bel_trans hb6C hbD)
              | (go_at_call 37; (with_reducible refine (CW.out _ _ _ _ HEB.out (hoC.has.mono hbD) hoD.has).mono ?_); rintro e wE ⟨rfl, hbE⟩; have hb6E := bel_trans hb6D hbE; clear hb6C)
              | (at_builtin; refine wpList_append_big (enc := wordC) (st := 1) wordC_len wordC_one (by decide) rfl _ _ 49 rfl wE.heap.size 80 i3 _ 8 Tryd.underlying49 hi3 hz3' hs3 hy3 rfl (.slice (some ⟨wE.heap.size, 0, none⟩) 0 0) [] rfl (own_lit0 _ _ _ _ (Nat.le_refl _)) (.slice pt nb ct) B rfl ((HBT6.out.mono hb6E).mono ((Below.refl _ _).alloc (Nat.le_refl _) _)) HBM.out HB82.out (by simp) ?_; intro vF wF hoF _ hbF; rw [List.nil_append] at hoF; have hbEF : Below wE.heap.size wE wF := ((Below.refl _ _).alloc (Nat.le_refl _) _).trans hbF; have hb6F := bel_trans hb6E hbEF)
              | (go_at_call 38; (with_reducible refine (CA.out _ _ _ _ _ _ HMK.out hb6F (HasE.own (enc := wordC) hoF)).mono ?_); rintro e wG ⟨vG, rfl, hoG, hbG⟩; have hb6G := bel_trans hb6F hbG)
              | (refine wpList_load_mid rfl 32 (.tmp 4) rfl w.heap.size 0 rfl _ _ (HBL6.out.mono hb6G).range Tryd.underlying32 rfl info_plan ?_)
              | (go_at_call 39; (with_reducible refine (CO.out _ _ (HS6.out.mono hb6G) (HBT6.out.mono hb6G)).mono ?_); rintro e wH ⟨vH, rfl, hoH, hbH⟩; have hb6H := bel_trans hb6G hbH)
              | (go_at_call 24; (with_reducible refine (CSA.out rO _ _ _ HRL.out (hoG.has.mono hbH) hoH.has).mono ?_); rintro e wI ⟨rfl, hbI⟩))
            go_ret
            exact ⟨rfl, bel_trans HB06.out (bel_trans hb6H hbI)⟩
  · have hfc : fewP p = true → ¬ (700 < pk.length) → 50 < od.length := fun h1 h2 => by
      rcases Nat.lt_or_ge 50 od.length with h3 | h3
      · exact h3
      · exact absurd ⟨h1, by omega, h3⟩ hsmall
    clear hsmall
    obtain ⟨a, b, q, x, bk⟩ := p
    obtain ⟨pe, ce, rfl⟩ := he.len
    obtain ⟨pb, cb, rfl⟩ := hb.len
    simp only at he hb HF ⊢
    obtain ⟨w1, e1, a0, a1, a2, a3, a4, hb1, hz1⟩ := plan_boxed w a b q (.slice pe x.length ce) (.slice pb bk.length cb)
    unfold planC at HBL
    simp only at HBL
    rw [e1] at HBL
    have HE := Lib.hid (he.mono hb1)
    have HS := Lib.hid (hb.mono hb1)
    have HB := Lib.hid hb1
    unfold planV at HF ⊢
    generalize fewP ⟨a, b, q, x, bk⟩ = fw at *
    clear he hb hb1 hz1 a0 a1 a2 a3 a4 hB8 hbwf hodr hpk hod hbt
    cases fw with
    | false =>
      clear hfc
      go_enter Tryd.func7, Tryd.ntmps7
      go_wp2_with (first
        | (go_at_call 14; (with_reducible refine (HA.out _).mono ?_); rintro e w3 ⟨rfl, hb3⟩)
        | (refine wpList_load_mid rfl 32 (.tmp 4) rfl w.heap.size 0 rfl _ _ (HBL.out.mono hb3).range Tryd.underlying32 rfl info_plan ?_)
        | (go_at_call 19; (with_reducible refine (HF.out _ (HE.out.mono hb3) (HS.out.mono hb3)).mono ?_); rintro e w4 ⟨rfl, hb4⟩))
      go_ret
      exact ⟨rfl, bel_trans HB.out (bel_trans hb3 hb4)⟩
    | true =>
      by_cases h7 : 700 < pk.length
      · have h7i : (700 : Int) < (pk.length : Int) := by omega
        clear hfc
        go_enter Tryd.func7, Tryd.ntmps7
        go_wp2_with (first
          | (go_at_call 14; (with_reducible refine (HA.out _).mono ?_); rintro e w3 ⟨rfl, hb3⟩)
          | (refine wpList_load_mid rfl 32 (.tmp 4) rfl w.heap.size 0 rfl _ _ (HBL.out.mono hb3).range Tryd.underlying32 rfl info_plan ?_)
          | (go_at_call 19; (with_reducible refine (HF.out _ (HE.out.mono hb3) (HS.out.mono hb3)).mono ?_); rintro e w4 ⟨rfl, hb4⟩))
        go_ret
        exact ⟨rfl, bel_trans HB.out (bel_trans hb3 hb4)⟩
      · have h7i : ¬ (700 : Int) < (pk.length : Int) := by omega
        have h5 := hfc rfl h7
        have h5i : (50 : Int) < (od.length : Int) := by omega
        clear hfc h5 h7
        go_enter Tryd.func7, Tryd.ntmps7
        go_wp2_with (first
          | (go_at_call 14; (with_reducible refine (HA.out _).mono ?_); rintro e w3 ⟨rfl, hb3⟩)
          | (refine wpList_load_mid rfl 32 (.tmp 4) rfl w.heap.size 0 rfl _ _ (HBL.out.mono hb3).range Tryd.underlying32 rfl info_plan ?_)
          | (go_at_call 19; (with_reducible refine (HF.out _ (HE.out.mono hb3) (HS.out.mono hb3)).mono ?_); rintro e w4 ⟨rfl, hb4⟩))
        go_ret
        exact ⟨rfl, bel_trans HB.out (bel_trans hb3 hb4)⟩

section
open Go.ChangeShapes Go.WideShapes Go.Joins Go.Deep
variable {H : Type} {enc : TypeId × Value → H} {W : World}

/-- Words that came in take no more than memory bears. -/
theorem words_room {ts : List TypeId} {ds : List (DataW H)} (h : (DataW.weightsEach Tryd.prog ts ds).all (· ≤ reachBytes) = true) {j : Nat} (ht : ts[j]? = some 49) {d : DataW H} (hd : ds[j]? = some d) {v : Value} {l : List Nat} {ps : List MemPlace}
    (hT : DataW.Trod enc Tryd.prog W 0 (fun _ => true) true 49 v d ps) (hw : Words W v l) : l.length * 8 ≤ 140737488355328 := by
  obtain ⟨pp, c, rfl⟩ := hw.1.len
  have hs := sliceLen_Trod Tryd.underlying49 hT
  have hby : Tryd.prog.bytesOf 80 = 8 := by kernel_rfl
  have hr : reachBytes = 140737488351232 := rfl
  cases d with
  | slice el sp =>
    have h1 := sized_slice h ht hd Tryd.underlying49
    rw [hby, hr] at h1
    simp [sliceLen] at hs
    omega
  | _ =>
    simp [sliceLen] at hs
    omega
end
end Go.Proofs.YtpmmjccdogjncaaDoor
