/- The reference's Bits. -/
import Derived.Test.YtpmmjccdogjncaaDoorPlnY
namespace Go.Proofs.YtpmmjccdogjncaaDoor
open Go.RowKit Go.ChangeMaps
set_option linter.unusedSimpArgs false

theorem has_take {w : World} {p : Option Addr} {n c : Nat} {L : List St} (h : HasE stC w (.slice p n c) L) {k : Nat} (hk : k < L.length) : HasE stC w (.slice p k c) (L.take k) := by
  have hl : (L.take k).length = k := by rw [List.length_take]; omega
  rcases h with ⟨p', c', e, rfl, _⟩ | ⟨b, off, c', e, h1, h2, h3⟩
  · simp at hk
  · injection e with e1 e2 e3
    subst e1
    subst e3
    refine .inr ⟨b, off, c, by rw [hl], by omega, h2, fun j u hj => h3 j u ?_⟩
    have hjl : j < ((L.take k).flatMap stC).length := (List.getElem?_eq_some_iff.1 hj).1
    have : L.flatMap stC = (L.take k).flatMap stC ++ (L.drop k).flatMap stC := by rw [← List.flatMap_append, List.take_append_drop]
    rw [this, List.getElem?_append_left hjl]
    exact hj

theorem has_cap {w : World} {p : Option Addr} {n c : Nat} {L : List St} (h : HasE stC w (.slice p n c) L) (h0 : 0 < L.length) : L.length ≤ c ∧ c ≤ maxLen := by
  rcases h with ⟨p', c', e, rfl, _⟩ | ⟨b, off, c', e, h1, h2, h3⟩
  · simp at h0
  · injection e with e1 e2 e3
    omega

/-- The unit behind m doublings. -/
def unitN (m : Nat) : Nat := 2 ^ m % 18446744073709551616

theorem unitN_low {m : Nat} (h : m < 64) : unitN m = 2 ^ m := Nat.mod_eq_of_lt (pow_low h)

theorem unitN_next (m : Nat) : IntKind.u64.wrap ((unitN m : Nat) * 2) = ((unitN (m + 1) : Nat) : Int) := by
  rw [IntKind.wrap_u64]
  unfold unitN
  rw [Nat.pow_succ]
  generalize 2 ^ m = x
  omega

theorem unit_add {n m : Nat} (hn : n < 2 ^ m) (hm : m < 64) : IntKind.u64.wrap ((n : Int) + (unitN m : Nat)) = ((n + 2 ^ m : Nat) : Int) := by
  rw [unitN_low hm, IntKind.wrap_u64]
  have h1 : 2 ^ (m + 1) ≤ 2 ^ 64 := Nat.pow_le_pow_right (by omega) (by omega)
  rw [Nat.pow_succ] at h1
  have h2 : (2 : Nat) ^ 64 = 18446744073709551616 := rfl
  generalize 2 ^ m = x at *
  omega

theorem wordK_yes {q : Nat → Bool} {k : Nat} (h : q k = true) : wordK q (k + 1) = wordK q k + 2 ^ k := by rw [wordK, if_pos h]
theorem wordK_no {q : Nat → Bool} {k : Nat} (h : q k = false) : wordK q (k + 1) = wordK q k := by rw [wordK, h]; rfl

theorem inL_out {P l : List St} {i : Nat} (h : ¬ i < P.length) : inL P l i = false := by
  unfold inL
  rw [List.getElem?_eq_none (by omega)]

set_option maxRecDepth 20000 in
set_option maxHeartbeats 16000000 in
theorem rbits_any (p : Pl) (ve vb vs : Value) (l : List UInt8) (L : List St) (w : World) (hk : OkP p l) (hb : HasE stC w vb p.bks) (hvs : HasE stC w vs L) (hL : L.length ≤ 100000) :
    Calls Tryd.prog 36 #[planV p ve vb, vs] w fun e w' => ∃ v, e = .returned (.tuple #[v, .int .i64 (bitsE (hasB p l) L)]) ∧ OwnW w' w.heap.size v (bitsR (placesL p.first p.last l) (hasB p l) L) ∧ Below w.heap.size w w' := by
  have HPL : RowKit.Hid (∀ W, Calls Tryd.prog 27 #[planV p ve vb] W fun e w' => ∃ v, e = .returned v ∧ OwnS w' W.heap.size v (placesL p.first p.last l) ∧ Below W.heap.size W w') := Lib.hid fun W => places_any p ve vb l W hk.hl hk.szm hk.h1 hk.h2
  have HRH : RowKit.Hid (∀ W s, Below w.heap.size w W → Calls Tryd.prog 29 #[planV p ve vb, .agg #[.int .i64 s.1, .int .u8 s.2.toNat]] W fun e w' => e = .returned (.bool (hasB p l s)) ∧ Below W.heap.size W w') := Lib.hid fun W s h => rhas_any p ve vb s l W hk (hb.mono h)
  have hlen := hk.len
  have HBL := Lib.hid (planC_blk w p ve vb)
  have HE1 : RowKit.Hid (∀ k, k < L.length → hasB p l (L.getD k st0) = false → bitsE (hasB p l) L = 15) := Lib.hid fun k h1 h2 => bitsE_seat h1 h2
  have HE2 : RowKit.Hid ((∀ k, k < L.length → hasB p l (L.getD k st0) = true) → ∀ k, k < L.length → L.getD k st0 ∈ L.take k → bitsE (hasB p l) L = 8) := Lib.hid fun h k h1 h2 => bitsE_twice (all_of h) h1 h2
  have HE3 : RowKit.Hid ((∀ k, k < L.length → hasB p l (L.getD k st0) = true) → (L.take L.length).Nodup → bitsE (hasB p l) L = 0) := Lib.hid fun h h1 => bitsE_ok (all_of h) h1
  have HR0 := Lib.hid (@bitsR_ok (placesL p.first p.last l) (hasB p l) L)
  have HRN : RowKit.Hid (∀ e, bitsE (hasB p l) L = e → e ≠ 0 → bitsR (placesL p.first p.last l) (hasB p l) L = []) := Lib.hid fun e h1 h2 => bitsR_no h1 h2
  generalize hasB p l = q at *
  obtain ⟨a, b, tx, x, bk⟩ := p
  obtain ⟨ps, cs, rfl⟩ := hvs.len
  simp only at hb HPL hlen HR0 HRN ⊢
  obtain ⟨w1, e1, a0, a1, a2, a3, a4, hb1, hz1⟩ := plan_boxed w a b tx ve vb
  unfold planC at HBL
  simp only at HBL
  rw [e1] at HBL
  have HB := Lib.hid hb1
  have HS := Lib.hid (hvs.mono hb1)
  unfold planV at HPL HRH ⊢
  generalize placesL a b l = P at *
  generalize hN : P.length = N at *
  generalize hM : L.length = M at *
  have HN := Lib.hid hN
  have HM := Lib.hid hM
  clear hb hvs hz1 hk hN hM
  go_enter Tryd.func36, Tryd.ntmps36
  go_wp2_with (first
    | (refine wpList_load_mid rfl 32 (.tmp 2) rfl w.heap.size 0 rfl _ _ HBL.out.range Tryd.underlying32 rfl info_plan ?_)
    | (go_at_call 27; (with_reducible refine (HPL.out _).mono ?_); rintro e w3 ⟨v3, rfl, ho3, hb3⟩; obtain ⟨p3, c3, rfl⟩ := ho3.has.len; have HV := Lib.hid ho3.has))
  have HC : RowKit.Hid (∀ W, Below w3.heap.size w3 W → (W.cell? ⟨w.heap.size, 0, none⟩ = some (.int .i64 a) ∧ W.cell? ⟨w.heap.size, 1, none⟩ = some (.int .i64 b) ∧ W.cell? ⟨w.heap.size, 2, none⟩ = some (.string tx) ∧ W.cell? ⟨w.heap.size, 3, none⟩ = some ve ∧ W.cell? ⟨w.heap.size, 4, none⟩ = some vb) ∧ Below w.heap.size w W) := Lib.hid fun W h =>
    have h2 := bel_trans hb3 h
    ⟨⟨cell_bel h2 a0, cell_bel h2 a1, cell_bel h2 a2, cell_bel h2 a3, cell_bel h2 a4⟩, bel_trans HB.out h2⟩
  have HS3 := Lib.hid (HS.out.mono hb3)
  clear e1 a0 a1 a2 a3 a4 ho3 HBL hb1
  rw [HN.out] at HV ⊢
  go_loopg [7] M (fun g0 i wr => ∃ (k : Nat), k ≤ M ∧ g0 = M - k ∧ i = .int .i64 (k : Int) ∧ Below w3.heap.size w3 wr ∧ ∀ i, i < k → q (L.getD i st0) = true)
  case atStart => exact ⟨0, Nat.zero_le _, rfl, rfl, Below.refl _ _, fun i hi => absurd hi (Nat.not_lt_zero _)⟩
  case round =>
    obtain ⟨k, hkM, rfl, rfl, hb4, hall⟩ := hrel
    have HALL := Lib.hid hall
    clear hall
    by_cases hlt : k < M
    · have hki : (k : Int) < (M : Int) := by omega
      have hk0 : (0 : Int) ≤ (k : Int) := by omega
      obtain ⟨bb, off, rfl, _, g0, g1⟩ := st_at (HS3.out.mono hb4) (i := k) (by rw [HM.out]; exact hlt)
      obtain ⟨⟨f0, f1, f2, f3, f4⟩, hbw4⟩ := HC.out wr hb4
      have HE1k := Lib.hid (HE1.out k hlt)
      have HNX : RowKit.Hid (q (L.getD k st0) = true → ∀ i, i < k + 1 → q (L.getD i st0) = true) := Lib.hid fun h i hi => by
        rcases Nat.lt_or_ge i k with h1 | h1
        · exact HALL.out i h1
        · rw [show i = k by omega]; exact h
      have HH : RowKit.Hid (∀ W, Below wr.heap.size wr W → _) := Lib.hid fun W h => HRH.out W (L.getD k st0) (below_low hbw4 hbw4.size h)
      have HST : RowKit.Hid (∀ W, Below wr.heap.size wr W → W.cell? ⟨w.heap.size, 0, none⟩ = some (.int .i64 a) ∧ W.cell? ⟨w.heap.size, 1, none⟩ = some (.int .i64 b) ∧ W.cell? ⟨w.heap.size, 2, none⟩ = some (.string tx) ∧ W.cell? ⟨w.heap.size, 3, none⟩ = some ve ∧ W.cell? ⟨w.heap.size, 4, none⟩ = some vb ∧ W.cell? ⟨bb, off + k * 2, none⟩ = some (.int .i64 (L.getD k st0).1) ∧ W.cell? ⟨bb, off + k * 2 + 1, none⟩ = some (.int .u8 (L.getD k st0).2.toNat) ∧ Below wr.heap.size wr W) := Lib.hid fun W h => ⟨cell_bel h f0, cell_bel h f1, cell_bel h f2, cell_bel h f3, cell_bel h f4, cell_bel h g0, cell_bel h g1, h⟩
      have hS0 := HST.out wr.drew (Below.refl _ _).drew
      generalize L.getD k st0 = s at *
      go_upto_region 5 with fail
      go_region_held3 (fun W => W.cell? ⟨w.heap.size, 0, none⟩ = some (.int .i64 a) ∧ W.cell? ⟨w.heap.size, 1, none⟩ = some (.int .i64 b) ∧ W.cell? ⟨w.heap.size, 2, none⟩ = some (.string tx) ∧ W.cell? ⟨w.heap.size, 3, none⟩ = some ve ∧ W.cell? ⟨w.heap.size, 4, none⟩ = some vb ∧ W.cell? ⟨bb, off + k * 2, none⟩ = some (.int .i64 s.1) ∧ W.cell? ⟨bb, off + k * 2 + 1, none⟩ = some (.int .u8 s.2.toNat) ∧ Below wr.heap.size wr W)
        (first
          | exact hS0
          | assumption
          | exact HST.out _ (bel_trans (show _ ∧ _ ∧ _ ∧ _ ∧ _ ∧ _ ∧ _ ∧ Below wr.heap.size wr _ by assumption).2.2.2.2.2.2.2 hb5))
        (first
          | (go_at_call 29; (with_reducible refine (HH.out _ (show _ ∧ _ ∧ _ ∧ _ ∧ _ ∧ _ ∧ _ ∧ Below wr.heap.size wr _ by assumption).2.2.2.2.2.2.2).mono ?_); rintro e w5 ⟨rfl, hb5⟩))
      have hb6 : Below wr.heap.size wr w5 := (show _ ∧ _ ∧ _ ∧ _ ∧ _ ∧ _ ∧ _ ∧ Below wr.heap.size wr w5 by assumption).2.2.2.2.2.2.2
      have hb46 := bel_trans hb4 hb6
      clear hS0
      cases hq : q s with
      | false =>
        have HF := Lib.hid (HE1k.out hq)
        have HF2 := Lib.hid (HRN.out 15 HF.out (by decide))
        clear hq
        go_wp2
        go_ret2
        exact ⟨_, by rw [HF.out]; rfl, by rw [HF2.out]; exact OwnW.nil _ _, (HC.out _ hb46).2⟩
      | true =>
        have HY := Lib.hid (HNX.out hq)
        clear hq
        go_wp2
        go_roundg (M - (k + 1))
        case measure => omega
        case rel => exact ⟨k + 1, by omega, rfl, by go_num, hb46, HY.out⟩
    · have hke : k = M := by omega
      subst hke
      have hki : ¬ (k : Int) < (k : Int) := by omega
      have HE2k := Lib.hid (HE2.out HALL.out)
      have HE3k := Lib.hid (HE3.out HALL.out)
      clear HE1 HE2 HE3 HRH
      go_wp2
      go_loopg [8] k (fun g0 i wr => ∃ (m : Nat), m ≤ k ∧ g0 = k - m ∧ i = .int .i64 (m : Int) ∧ Below w3.heap.size w3 wr ∧ (L.take m).Nodup)
      case atStart => exact ⟨0, Nat.zero_le _, rfl, rfl, hb4, List.nodup_nil⟩
      case round =>
        obtain ⟨m, hmk, rfl, rfl, hb5, hnd⟩ := hrel
        have HND := Lib.hid hnd
        clear hnd
        by_cases hlt2 : m < k
        · have hmi : (m : Int) < (k : Int) := by omega
          have hm0 : (0 : Int) ≤ (m : Int) := by omega
          have hcap := has_cap (HS3.out.mono hb5) (by rw [HM.out]; omega)
          rw [HM.out] at hcap
          have hmc : m ≤ cs := by omega
          have hmci : (m : Int) ≤ (cs : Int) := by omega
          obtain ⟨bb, off, rfl, _, g0, g1⟩ := st_at (HS3.out.mono hb5) (i := m) (by rw [HM.out]; exact hlt2)
          have HTK : RowKit.Hid (∀ W, Below wr.heap.size wr W → HasE stC W (.slice (some ⟨bb, off, none⟩) m cs) (L.take m)) := Lib.hid fun W h => has_take ((HS3.out.mono hb5).mono h) (by rw [HM.out]; exact hlt2)
          have HE2m := Lib.hid (HE2k.out m hlt2)
          have HSTP := Lib.hid (nodup_step (l := L) (k := m) (by rw [HM.out]; exact hlt2) HND.out)
          have htl : (L.take m).length ≤ 1000000 := by rw [List.length_take]; omega
          generalize L.getD m st0 = s at *
          have HAT : RowKit.Hid (∀ W, Below wr.heap.size wr W → Calls Tryd.prog 31 #[.slice (some ⟨bb, off, none⟩) m cs, .agg #[.int .i64 s.1, .int .u8 s.2.toNat]] W fun e w' => e = .returned (.int .i64 (atL (L.take m) s)) ∧ Below W.heap.size W w') := Lib.hid fun W h => at_any _ _ s W (HTK.out W h) htl
          have hann := Lib.hid (@atL_nn (L.take m) s)
          have hS0 : wr.drew.cell? ⟨bb, off + m * 2, none⟩ = some (.int .i64 s.1) ∧ wr.drew.cell? ⟨bb, off + m * 2 + 1, none⟩ = some (.int .u8 s.2.toNat) ∧ Below wr.heap.size wr wr.drew := ⟨g0, g1, (Below.refl _ _).drew⟩
          generalize atL (L.take m) s = A at *
          clear HTK htl hcap
          go_upto_region 10 with fail
          go_region_held3 (fun W => W.cell? ⟨bb, off + m * 2, none⟩ = some (.int .i64 s.1) ∧ W.cell? ⟨bb, off + m * 2 + 1, none⟩ = some (.int .u8 s.2.toNat) ∧ Below wr.heap.size wr W)
            (first
              | exact hS0
              | assumption
              | exact held2_bel (by assumption) hb6)
            (first
              | (go_at_call 31; (with_reducible refine (HAT.out _ (show _ ∧ _ ∧ Below wr.heap.size wr _ by assumption).2.2).mono ?_); rintro e w6 ⟨rfl, hb6⟩))
          have hb7 : Below wr.heap.size wr w6 := (show _ ∧ _ ∧ Below wr.heap.size wr w6 by assumption).2.2
          have hb57 := bel_trans hb5 hb7
          clear hS0
          by_cases hA : 0 ≤ A
          · have hAd : decide (0 ≤ A) = true := decide_eq_true hA
            have HF := Lib.hid (HE2m.out (hann.out.1 hA))
            have HF2 := Lib.hid (HRN.out 8 HF.out (by decide))
            clear hann
            go_wp2
            go_ret2
            exact ⟨_, by rw [HF.out]; rfl, by rw [HF2.out]; exact OwnW.nil _ _, (HC.out _ hb57).2⟩
          · have hAd : decide (0 ≤ A) = false := decide_eq_false hA
            have HY := Lib.hid (HSTP.out fun h => hA (hann.out.2 h))
            clear hann
            go_wp2
            go_roundg (k - (m + 1))
            case measure => omega
            case rel => exact ⟨m + 1, by omega, rfl, by go_num, hb57, HY.out⟩
        · have hme : m = k := by omega
          subst hme
          have hmi : ¬ (m : Int) < (m : Int) := by omega
          have HF := Lib.hid (HE3k.out HND.out)
          have HF2 := Lib.hid (HR0.out HF.out)
          clear HE2k HE3k
          have HLN : RowKit.Hid (∀ (W : World), Below w3.heap.size w3 W → HasE stC W (.slice p3 N c3) P) := Lib.hid fun W h => HV.out.mono h
          have HLS : RowKit.Hid (∀ (W : World), Below w3.heap.size w3 W → HasE stC W (.slice ps m cs) L) := Lib.hid fun W h => HS3.out.mono h
          go_wp2
          have HWN : RowKit.Hid (∀ j, 64 * j < N ↔ j < nWords P) := Lib.hid fun j => by unfold nWords; rw [HN.out]; omega
          have HWL : RowKit.Hid (nWords P ≤ 1000 ∧ wordsN P L = (List.range (nWords P)).map (wordN P L)) := Lib.hid ⟨by unfold nWords; rw [HN.out]; omega, rfl⟩
          have HBW := Lib.hid (HC.out wr hb5).2
          obtain ⟨wA, rfl⟩ : ∃ y : World, y = wr := ⟨_, rfl⟩
          go_loopg [9, 10] (nWords P) (fun g0 o i wr2 => ∃ (j s0 : Nat), s0 = 64 * j ∧ j ≤ nWords P ∧ g0 = nWords P - j ∧ i = .int .i64 (s0 : Int) ∧ OwnW wr2 wA.heap.size o ((List.range j).map (wordN P L)) ∧ Below wA.heap.size wA wr2)
          case atStart => exact ⟨0, 0, rfl, Nat.zero_le _, rfl, rfl, OwnW.nil _ _, Below.refl _ _⟩
          case round =>
            obtain ⟨j, s0, hs0, hj, rfl, rfl, ho, hb8⟩ := hrel
            have HO := Lib.hid ho
            clear ho
            by_cases hlt3 : j < nWords P
            · have hsN : s0 < N := by have := (HWN.out j).2 hlt3; omega
              have hji : (s0 : Int) < (N : Int) := by omega
              have HSZ := Lib.hid hs0
              have HQW : RowKit.Hid (wordN P L j = wordK (fun k => inL P L (64 * j + k)) 64) := Lib.hid rfl
              have HQ0 : RowKit.Hid (wordK (fun k => inL P L (64 * j + k)) 0 = 0) := Lib.hid rfl
              have HQL : RowKit.Hid (∀ m, wordK (fun k => inL P L (64 * j + k)) m < 2 ^ m) := Lib.hid fun m => wordK_lt _ m
              have HQY : RowKit.Hid (∀ m, inL P L (64 * j + m) = true → wordK (fun k => inL P L (64 * j + k)) (m + 1) = wordK (fun k => inL P L (64 * j + k)) m + 2 ^ m) := Lib.hid fun m h => wordK_yes h
              have HQN : RowKit.Hid (∀ m, inL P L (64 * j + m) = false → wordK (fun k => inL P L (64 * j + k)) (m + 1) = wordK (fun k => inL P L (64 * j + k)) m) := Lib.hid fun m h => wordK_no h
              generalize wordK (fun k => inL P L (64 * j + k)) = wk at *
              have hu0 : ((unitN 0 : Nat) : Int) = 1 := rfl
              obtain ⟨wB, rfl⟩ : ∃ y : World, y = wr := ⟨_, rfl⟩
              have hb58 := bel_trans hb5 hb8
              clear hs0
              go_wp2
              go_loopg [11, 12, 13] 64 (fun g0 n un i wr3 => ∃ (m t : Nat), t = 64 * j + m ∧ m ≤ 64 ∧ g0 = 64 - m ∧ i = .int .i64 (t : Int) ∧ n = .int .u64 (wk m : Nat) ∧ un = .int .u64 (unitN m : Nat) ∧ Below wB.heap.size wB wr3)
              case atStart => exact ⟨0, s0, by have := HSZ.out; omega, by omega, rfl, rfl, by rw [HQ0.out]; rfl, by rw [hu0], Below.refl _ _⟩
              case round =>
                obtain ⟨m2, t, ht, hm, rfl, rfl, rfl, rfl, hb9⟩ := hrel
                by_cases hlt4 : m2 < 64
                · have hti : (t : Int) < (s0 : Int) + 64 := by have := HSZ.out; omega
                  have hun := unitN_next m2
                  have hadd := unit_add (HQL.out m2) hlt4
                  have HQYm := Lib.hid (HQY.out m2)
                  have HQNm := Lib.hid (HQN.out m2)
                  rw [← ht] at HQYm HQNm
                  have HT := Lib.hid ht
                  by_cases htN : t < N
                  · have htNi : (t : Int) < (N : Int) := by omega
                    have ht0 : (0 : Int) ≤ (t : Int) := by omega
                    have hb589 := bel_trans hb58 hb9
                    obtain ⟨b3, off3, rfl, hr3, _, _⟩ := st_at (HLN.out _ hb589) (i := t) (by rw [HN.out]; exact htN)
                    have hgt : P[t]? = some (P.getD t st0) := getD_get (by rw [HN.out]; exact htN)
                    have hin := inL_at (l := L) hgt
                    have HAT : RowKit.Hid (∀ W, Below w3.heap.size w3 W → Calls Tryd.prog 31 #[.slice ps m cs, .agg #[.int .i64 (P.getD t st0).1, .int .u8 (P.getD t st0).2.toNat]] W fun e w' => e = .returned (.int .i64 (atL L (P.getD t st0))) ∧ Below W.heap.size W w') := Lib.hid fun W h => at_any _ _ (P.getD t st0) W (HLS.out W h) (by rw [HM.out]; omega)
                    have hann := Lib.hid (@atL_nn L (P.getD t st0))
                    have HIN := Lib.hid hin
                    clear hgt hin ht
                    generalize P.getD t st0 = s at *
                    generalize atL L s = A at *
                    by_cases hA : 0 ≤ A
                    · have hAd : decide (0 ≤ A) = true := decide_eq_true hA
                      have HNX := Lib.hid (HQYm.out (by rw [HIN.out]; exact decide_eq_true (hann.out.1 hA)))
                      go_wp2_with (first
                        | (refine wpList_load_mid rfl 23 _ rfl b3 (off3 + t * 2) rfl [.int .i64 s.1, .int .u8 s.2.toNat] _ hr3 Tryd.underlying23 rfl info_seat ?_)
                        | (go_at_call 31; (with_reducible refine (HAT.out _ hb589).mono ?_); rintro e wA ⟨rfl, hbA⟩))
                      go_roundg (64 - (m2 + 1))
                      case measure => omega
                      case rel => exact ⟨m2 + 1, t + 1, by have := HT.out; omega, by omega, rfl, by go_num, (by rw [HNX.out, Int.natCast_add, Int.natCast_pow]; rfl), (by first | rfl | rw [hun]), bel_trans hb9 hbA⟩
                    · have hAd : decide (0 ≤ A) = false := decide_eq_false hA
                      have HNX := Lib.hid (HQNm.out (by rw [HIN.out]; exact decide_eq_false (fun h => hA (hann.out.2 h))))
                      clear hadd
                      go_wp2_with (first
                        | (refine wpList_load_mid rfl 23 _ rfl b3 (off3 + t * 2) rfl [.int .i64 s.1, .int .u8 s.2.toNat] _ hr3 Tryd.underlying23 rfl info_seat ?_)
                        | (go_at_call 31; (with_reducible refine (HAT.out _ hb589).mono ?_); rintro e wA ⟨rfl, hbA⟩))
                      go_roundg (64 - (m2 + 1))
                      case measure => omega
                      case rel => exact ⟨m2 + 1, t + 1, by have := HT.out; omega, by omega, rfl, by go_num, by rw [HNX.out], (by first | rfl | rw [hun]), bel_trans hb9 hbA⟩
                  · have htNi : ¬ (t : Int) < (N : Int) := by omega
                    have HNX := Lib.hid (HQNm.out (inL_out (by rw [HN.out]; exact htN)))
                    clear hadd ht
                    go_wp2
                    go_roundg (64 - (m2 + 1))
                    case measure => omega
                    case rel => exact ⟨m2 + 1, t + 1, by have := HT.out; omega, by omega, rfl, by go_num, by rw [HNX.out], (by first | rfl | rw [hun]), hb9⟩
                · have hme : m2 = 64 := by omega
                  subst hme
                  have hti : ¬ (t : Int) < (s0 : Int) + 64 := by have := HSZ.out; omega
                  have HWV : RowKit.Hid (wordN P L j = wk 64) := Lib.hid HQW.out
                  have ho9 := HO.out.mono hb9
                  have hrl : ((List.range j).map (wordN P L)).length = j := by simp
                  have hbase : wA.heap.size ≤ wr.heap.size := Nat.le_trans hb8.size hb9.size
                  have HNXT : RowKit.Hid ((List.range (j + 1)).map (wordN P L) = (List.range j).map (wordN P L) ++ [wk 64]) := Lib.hid (by rw [List.range_succ, List.map_append, ← HWV.out]; rfl)
                  obtain ⟨i0, hi, hz0, hz1, hz2⟩ := word_info
                  unfold OwnW at ho9
                  rw [hrl] at ho9
                  have hj1000 := HWL.out.1
                  generalize (List.range j).map (wordN P L) = os at *
                  generalize wk 64 = wv at *
                  go_wp2_with (first
                    | (at_builtin; refine wpList_push rfl _ _ 49 rfl wA.heap.size 80 i0 _ 8 Tryd.underlying49 hi hz0 hz1 hz2 rfl u9 j (os.flatMap wordC) rfl ho9 (.int .u64 (wv : Nat)) rfl rfl (by unfold maxLen; omega) (by omega) hbase ?_; intro v7 w7 ho7 hb7 _))
                  go_roundg (nWords P - (j + 1))
                  case measure => omega
                  case rel => exact ⟨j + 1, s0 + 64, by have := HSZ.out; omega, by omega, rfl, by go_num, by
                    unfold OwnW
                    rw [HNXT.out, List.length_append, hrl, List.flatMap_append]
                    exact ho7, (below_low hb8 hb8.size hb9).trans hb7⟩
            · have hje : j = nWords P := by omega
              have hji : ¬ (s0 : Int) < (N : Int) := by
                have h1 : ¬ 64 * j < N := fun h => hlt3 ((HWN.out j).1 h)
                omega
              clear hs0
              go_wp2
              go_ret2
              refine ⟨_, by rw [HF.out]; rfl, ?_, bel_trans HBW.out hb8⟩
              rw [HF2.out, HWL.out.2, ← hje]
              exact own_low HO.out HBW.out.size
end Go.Proofs.YtpmmjccdogjncaaDoor
