/- The map's Of. -/
import Derived.Test.YtpmmjccdogjncaaDoorPlnX
namespace Go.Proofs.YtpmmjccdogjncaaDoor
open Go.RowKit Go.ChangeMaps
set_option linter.unusedSimpArgs false

theorem ofK_len {P : List St} {q : St → Bool} {W : List Nat} : ∀ {k : Nat} {o : List St}, ofK P q W k = some o → o.length ≤ k
  | 0, o, h => by injection h with h; rw [← h]; exact Nat.le_refl _
  | k + 1, o, h => by
    rw [ofK] at h
    cases hk : ofK P q W k with
    | none => rw [hk] at h; cases h
    | some o' =>
      rw [hk] at h
      have ih := ofK_len hk
      have h' : (if bitAt W k = true then (if k < P.length ∧ q (P.getD k st0) = true then some (o' ++ [P.getD k st0]) else none) else some o') = some o := h
      split at h'
      · split at h'
        · injection h' with h'; rw [← h', List.length_append]; simp; omega
        · cases h'
      · injection h' with h'; rw [← h']; omega

theorem iand63 (n : Nat) : bits .and .i64 (n : Int) 63 = ((n % 64 : Nat) : Int) := by
  have h63 : (BitVec.ofInt 64 63).toNat = 2 ^ 6 - 1 := by decide
  have key : (BitVec.ofInt 64 (n : Int) &&& BitVec.ofInt 64 63).toNat = ((n : Int) % ((2 ^ 64 : Nat) : Int)).toNat % 2 ^ 6 := by
    rw [BitVec.toNat_and, BitVec.toNat_ofInt, h63, Nat.and_two_pow_sub_one_eq_mod]
  show IntKind.i64.wrap ((BitVec.ofInt 64 (n : Int) &&& BitVec.ofInt 64 63).toNat : Nat) = _
  rw [key, IntKind.wrap_i64]
  omega

set_option maxRecDepth 20000 in
set_option maxHeartbeats 16000000 in
theorem of_ob (g b : Nat) (vl vw : Value) (P : List St) (f : St → Mk) (W : List Nat) (w : World) (h : Ob w g b P f) (hv : w.cell? ⟨g, 1, none⟩ = some vl) (hvl : HasE stC w vl P) (hvw : HasE wordC w vw W) (hP : P.length ≤ 1000) (hW : W.length ≤ 1000000)
    (hwf : ∀ x, x ∈ W → x < 18446744073709551616) :
    Calls Tryd.prog 38 #[.pointer (some ⟨g, 0, none⟩), vw] w fun e w' => ∃ v, e = .returned (.tuple #[v, .int .i64 (ofE P (obQ P f) W)]) ∧ OwnS w' w.heap.size v (ofR P (obQ P f) W) ∧ Below w.heap.size w w' := by
  obtain ⟨pl, cl, rfl⟩ := hvl.len
  obtain ⟨pw, cw, rfl⟩ := hvw.len
  have hwn : ((P.length : Int) + 63) / 64 = (nWords P : Nat) := by unfold nWords; omega
  have HWN : RowKit.Hid (64 * nWords P ≤ P.length + 63) := Lib.hid (by unfold nWords; omega)
  by_cases hlw : W.length = nWords P
  · have hok := h.map.2.2
    have HO := Lib.hid h
    have HV := Lib.hid hvl
    have HS := Lib.hid hvw
    have HHS : RowKit.Hid (∀ W s, Below w.heap.size w W → okRow s.1 → Calls Tryd.prog 28 #[.pointer (some ⟨g, 0, none⟩), .agg #[.int .i64 s.1, .int .u8 s.2.toNat]] W fun e w' => e = .returned (.bool (obQ P f s)) ∧ Below W.heap.size W w') := Lib.hid fun W s h1 h2 => has_ob g b P f s W (h.mono h1) h2
    have HNO : RowKit.Hid (∀ k, k ≤ 64 * W.length → ofK P (obQ P f) W k = none → ofE P (obQ P f) W = 15 ∧ ofR P (obQ P f) W = []) := Lib.hid fun k h1 h2 => ofE_no hlw h2 h1
    have HYES : RowKit.Hid (∀ o, ofK P (obQ P f) W (64 * W.length) = some o → ofE P (obQ P f) W = 0 ∧ ofR P (obQ P f) W = o) := Lib.hid fun o h1 => ofE_yes hlw h1
    have HB0 : RowKit.Hid (∀ i o, ofK P (obQ P f) W i = some o → bitAt W i = false → ofK P (obQ P f) W (i + 1) = some o) := Lib.hid fun i o h1 h2 => ofK_skip h1 h2
    have HB1 : RowKit.Hid (∀ i o, ofK P (obQ P f) W i = some o → bitAt W i = true → i < P.length → obQ P f (P.getD i st0) = true → ofK P (obQ P f) W (i + 1) = some (o ++ [P.getD i st0])) := Lib.hid fun i o h1 h2 h3 h4 => ofK_take h1 h2 h3 h4
    have HB2 : RowKit.Hid (∀ i o, ofK P (obQ P f) W i = some o → bitAt W i = true → ¬ (i < P.length ∧ obQ P f (P.getD i st0) = true) → ofK P (obQ P f) W (i + 1) = none) := Lib.hid fun i o h1 h2 h3 => ofK_bad h1 h2 h3
    have HLEN : RowKit.Hid (∀ k o, ofK P (obQ P f) W k = some o → o.length ≤ k) := Lib.hid fun k o h => ofK_len h
    have HBA : RowKit.Hid (∀ i, bitAt W i = (W.getD (i / 64) 0).testBit (i % 64)) := Lib.hid fun i => rfl
    have HK0 : RowKit.Hid (ofK P (obQ P f) W 0 = some []) := Lib.hid rfl
    generalize obQ P f = q at *
    generalize hK : ofK P q W = K at *
    generalize hN : P.length = N at *
    generalize hM : W.length = M at *
    have HN := Lib.hid hN
    have HM := Lib.hid hM
    have hneq : ((M : Int) != ((N : Int) + 63) / 64) = false := by
      rw [bne_eq_false_iff_eq]; omega
    have hT : 64 * M ≤ N + 63 := by have := HWN.out; omega
    clear h hvl hvw hN hM hlw hwn hK
    go_enter Tryd.func38, Tryd.ntmps38
    go_wp2
    go_loopg [6, 21] (64 * M) (fun g0 o i wr => ∃ (k : Nat) (O : List St), k ≤ 64 * M ∧ g0 = 64 * M - k ∧ i = .int .i64 (k : Int) ∧ OwnS wr w.heap.size o O ∧ K k = some O ∧ Below w.heap.size w wr)
    case atStart => exact ⟨0, [], Nat.zero_le _, rfl, rfl, OwnS.nil _ _, HK0.out, Below.refl _ _⟩
    case round =>
      obtain ⟨k, O, hk, rfl, rfl, ho, hK, hb⟩ := hrel
      have HOW := Lib.hid ho
      have HKK := Lib.hid hK
      have hOl := HLEN.out k O hK
      clear ho hK
      by_cases hlt : k < 64 * M
      · have hki : (k : Int) < 64 * (M : Int) := by omega
        have hk0 : (0 : Int) ≤ (k : Int) := by omega
        obtain ⟨bw, offw, rfl, cw0⟩ := word_at (HS.out.mono hb) (i := k / 64) (by rw [HM.out]; omega)
        have hwd : W.getD (k / 64) 0 < 18446744073709551616 := hwf _ (by
          rw [List.getD_eq_getElem?_getD, List.getElem?_eq_getElem (by rw [HM.out]; omega)]
          exact List.getElem_mem _)
        have HBK := Lib.hid (HBA.out k)
        have c0 := (HO.out.mono hb).cell
        have c1 := cell_bel hb hv
        generalize W.getD (k / 64) 0 = wd at *
        have hj0 : ((k : Int) / 64) = ((k / 64 : Nat) : Int) := by omega
        have hjM : k / 64 < M := by omega
        have ha63 := iand63 k
        have hc64 : k % 64 < 64 := Nat.mod_lt _ (by omega)
        generalize k / 64 = j at *
        generalize k % 64 = c at *
        have hjMi : (j : Int) < (M : Int) := by omega
        have hw1 : wd / 2 ^ c < 18446744073709551616 := Nat.lt_of_le_of_lt (Nat.div_le_self _ _) hwd
        have ha1 := and1 (wd / 2 ^ c) hw1
        rw [← div_cast] at ha1
        have hbm := bit_mod wd c
        cases hbit : bitAt W k with
        | false =>
          have HN2 := Lib.hid (HB0.out k O HKK.out hbit)
          have h1 : ((wd / 2 ^ c % 2 : Nat) : Int) = 0 := by
            have h2 : ¬ wd / 2 ^ c % 2 = 1 := fun h => by
              have := hbm.1 h
              rw [← HBK.out, hbit] at this
              cases this
            omega
          rw [h1] at ha1
          clear h1 hbm hbit
          go_wp2
          go_roundg (64 * M - (k + 1))
          case measure => omega
          case rel => exact ⟨k + 1, O, by omega, rfl, by go_num, HOW.out, HN2.out, hb⟩
        | true =>
          have h1 : ((wd / 2 ^ c % 2 : Nat) : Int) = 1 := by
            have := hbm.2 (by rw [← HBK.out]; exact hbit)
            omega
          rw [h1] at ha1
          by_cases hkN : k < N
          · have hkNi : (k : Int) < (N : Int) := by omega
            have hkNi2 : ¬ (N : Int) ≤ (k : Int) := by omega
            obtain ⟨bb, off, rfl, hr, _, _⟩ := st_at (HV.out.mono hb) (i := k) (by rw [HN.out]; exact hkN)
            have hokk := hok (P.getD k st0) (List.mem_of_getElem? (getD_get (by rw [HN.out]; exact hkN)))
            have HHSk : RowKit.Hid (∀ W, Below w.heap.size w W → _) := Lib.hid fun W h => HHS.out W (P.getD k st0) h hokk
            cases hq : q (P.getD k st0) with
            | false =>
              have HF := Lib.hid (HNO.out (k + 1) (by omega) (HB2.out k O HKK.out hbit (fun h => by rw [hq] at h; cases h.2)))
              rw [hq] at HHSk
              clear hq
              generalize P.getD k st0 = s at *
              clear h1 hbm hbit hkN
              go_wp2_with (first
                | (refine wpList_load_mid rfl 23 _ rfl bb (off + k * 2) rfl [.int .i64 s.1, .int .u8 s.2.toNat] _ hr Tryd.underlying23 rfl info_seat ?_)
                | (go_at_call 28; (with_reducible refine (HHSk.out _ hb).mono ?_); rintro e w9 ⟨rfl, hb9⟩))
              go_ret2
              exact ⟨_, by rw [HF.out.1]; rfl, by rw [HF.out.2]; exact OwnS.nil _ _, below_low hb hb.size hb9⟩
            | true =>
              have HN2 := Lib.hid (HB1.out k O HKK.out hbit hkN hq)
              rw [hq] at HHSk
              clear hq
              have hlen1 : O.length + 1 ≤ 1000000 := by omega
              generalize P.getD k st0 = s at *
              clear h1 hbm hbit hkN
              go_wp2_with (first
                | (refine wpList_load_mid rfl 23 (.tmp 49) rfl bb (off + k * 2) rfl [.int .i64 s.1, .int .u8 s.2.toNat] _ hr Tryd.underlying23 rfl info_seat ?_)
                | (go_at_call 28; (with_reducible refine (HHSk.out _ hb).mono ?_); rintro e w9 ⟨rfl, hb9⟩; have hr9 : w9.rangeAt bb (off + k * 2) (seatC s.1 s.2) := fun j u hj => cell_bel hb9 (hr j u hj); have c19 := cell_bel hb9 c1; have HOW9 := Lib.hid (HOW.out.mono hb9); have hb09 := below_low hb hb.size hb9; have hbase := hb09.size)
                | (refine wpList_load_mid rfl 23 (.tmp 60) rfl bb (off + k * 2) rfl [.int .i64 s.1, .int .u8 s.2.toNat] _ hr9 Tryd.underlying23 rfl info_seat ?_)
                | (at_builtin; refine wpList_push_seat rfl _ _ rfl w.heap.size u6 O s rfl HOW9.out rfl hlen1 hbase ?_; intro v4 w4 ho4 hb4 _))
              go_roundg (64 * M - (k + 1))
              case measure => omega
              case rel => exact ⟨k + 1, O ++ [s], by omega, rfl, by go_num, ho4, HN2.out, hb09.trans hb4⟩
          · have hkNi : ¬ (k : Int) < (N : Int) := by omega
            have hkNi2 : (N : Int) ≤ (k : Int) := by omega
            have HF := Lib.hid (HNO.out (k + 1) (by omega) (HB2.out k O HKK.out hbit (fun h => hkN h.1)))
            clear h1 hbm hbit hkN
            go_wp2
            go_ret2
            exact ⟨_, by rw [HF.out.1]; rfl, by rw [HF.out.2]; exact OwnS.nil _ _, hb⟩
      · have hke : k = 64 * M := by omega
        subst hke
        have hki : ¬ (64 : Int) * (M : Int) < 64 * (M : Int) := by omega
        have HF := Lib.hid (HYES.out O HKK.out)
        go_wp2
        go_ret2
        exact ⟨_, by rw [HF.out.1]; rfl, by rw [HF.out.2]; exact HOW.out, hb⟩
  · have hF := Lib.hid (ofE_size (q := obQ P f) hlw)
    have hneq : ((W.length : Int) != ((P.length : Int) + 63) / 64) = true := by
      rw [bne_iff_ne]; omega
    clear h hvl hvw hwn hlw
    go_enter Tryd.func38, Tryd.ntmps38
    go_wp2
    go_ret2
    exact ⟨_, by rw [hF.out.1]; rfl, by rw [hF.out.2]; exact OwnS.nil _ _, Below.refl _ _⟩
end Go.Proofs.YtpmmjccdogjncaaDoor
