/- The reference's Right. -/
import Derived.Test.YtahghakpmjfefaaDoorKA
import Derived.Test.YtahghakpmjfefaaDoorKD
import Derived.Test.YtahghakpmjfefaaDoorPlnF
import Derived.Test.YtahghakpmjfefaaDoorKF
import Derived.Test.YtahghakpmjfefaaDoorPlnI
import Derived.Test.YtahghakpmjfefaaDoorPlnJ
import Derived.Test.YtahghakpmjfefaaDoorPlnN
import Derived.Test.YtahghakpmjfefaaDoorRows
import Derived.WalkKit
import Derived.WalkSpells
import Derived.WalkLawsBesides
import Derived.Lib.ConvBytes
import Derived.Lib.Hide
import Derived.Lib.SliceRun
import Derived.IntWalk
import Derived.BigQuiet
import Derived.Deep.QuietTactic
import Derived.Deep.RegionWith
import Derived.Deep.RegionHeld3
import Derived.Deep.LoopGhost
import Derived.Deep.CutRange
import Derived.Deep.CutBlock
import Derived.Deep.MidRow
import Derived.Laws.OwnMore
import Derived.OwnWalk
import Derived.Laws.AppendOwnNone
import Derived.Maps.AppendAt
import Derived.Laws.Rows
import Derived.Maps.OwnOps
import Derived.DeepKeys5
import Derived.Lib.Bytealg
namespace Go.Proofs.YtahghakpmjfefaaDoor
open Go.RowKit
set_option linter.unusedSimpArgs false

theorem right_no_head {p : Pl} (h : headB p (letF p.lets.data.toList).isSome = false) : rightB p = false := by
  rw [← right_loops, h]; rfl

theorem right_no_exit {p : Pl} {k : Nat} (hk : k < p.exits.length) (h : ¬ exOk p.first p.last p.exits k) : rightB p = false := by
  cases hl : letF p.lets.data.toList with
  | none => exact rightB_none hl
  | some l => rw [rightB_of hl]; exact decide_eq_false fun hr => h (hr.2.2.2.2.1 k hk)

theorem right_no_bk {p : Pl} {l : List UInt8} {k : Nat} (hl : letF p.lets.data.toList = some l) (hk : k < p.bks.length) (h : ¬ bkAt (placesL p.first p.last l) p.bks k) : rightB p = false := by
  rw [rightB_of hl]
  refine decide_eq_false fun hr => h ?_
  exact (bk_same (letF_rises hl) _).1 hr.2.2.2.2.2 k hk

theorem right_yes {p : Pl} {l : List UInt8} (hl : letF p.lets.data.toList = some l) (h1 : headB p true = true) (h2 : ∀ i, i < p.exits.length → exOk p.first p.last p.exits i) (h3 : ∀ i, i < p.bks.length → bkAt (placesL p.first p.last l) p.bks i) : rightB p = true := by
  rw [rightB_of hl]
  unfold headB at h1
  rw [Bool.true_and] at h1
  obtain ⟨a1, a2, a3, a4⟩ := of_decide_eq_true h1
  exact decide_eq_true ⟨a1, a2, a3, a4, h2, (bk_same (letF_rises hl) _).2 h3⟩

theorem planC_blk (w : World) (p : Pl) (ve vb : Value) : Blk (w.alloc (.cells (planC p ve vb).toArray 53)) w.heap.size 53 (planC p ve vb) := Blk.new w _ _

set_option maxRecDepth 20000 in
set_option maxHeartbeats 16000000 in
theorem right_any (p : Pl) (ve vb : Value) (w : World) (he : HasE intC w ve p.exits) (hb : HasE stC w vb p.bks) (hsz : p.lets.size ≤ maxLen) (hx : p.exits.length ≤ 100000) :
    Calls Tryd.prog 45 #[planV p ve vb] w fun e w' => e = .returned (.bool (rightB p)) ∧ Below w.heap.size w w' := by
  have HNH := Lib.hid (@right_no_head p)
  have HNE : RowKit.Hid (∀ k, k < p.exits.length → ¬ exOk p.first p.last p.exits k → rightB p = false) := Lib.hid fun k h1 h2 => right_no_exit h1 h2
  have HNB : RowKit.Hid (∀ l k, letF p.lets.data.toList = some l → k < p.bks.length → ¬ bkAt (placesL p.first p.last l) p.bks k → rightB p = false) := Lib.hid fun l k h0 h1 h2 => right_no_bk h0 h1 h2
  have HYES : RowKit.Hid (∀ l, letF p.lets.data.toList = some l → headB p true = true → (∀ i, i < p.exits.length → exOk p.first p.last p.exits i) → (∀ i, i < p.bks.length → bkAt (placesL p.first p.last l) p.bks i) → rightB p = true) := Lib.hid fun l h0 h1 h2 h3 => right_yes h0 h1 h2 h3
  have hhead : ∀ o, headB p o = (o && decide (1 ≤ p.first ∧ p.first ≤ p.last ∧ p.last ≤ 60 ∧ p.bks.length ≤ 40)) := fun _ => rfl
  have HPL : RowKit.Hid (∀ l W, letF p.lets.data.toList = some l → 1 ≤ p.first → p.last ≤ 60 → Calls Tryd.prog 62 #[planV p ve vb] W fun e w' => ∃ v, e = .returned v ∧ OwnS w' W.heap.size v (placesL p.first p.last l) ∧ Below W.heap.size W w') := Lib.hid fun l W h0 h1 h2 => places_any_c p ve vb l W h0 hsz h1 h2
  have HBL := Lib.hid (planC_blk w p ve vb)
  obtain ⟨a, b, q, x, bk⟩ := p
  obtain ⟨pe, ce, rfl⟩ := he.len
  obtain ⟨pb, cb, rfl⟩ := hb.len
  simp only at he hb hsz hx hhead HNH HNE HNB HYES HPL ⊢
  obtain ⟨w1, e1, a0, a1, a2, a3, a4, hb1, hz1⟩ := plan_boxed w a b q (.slice pe x.length ce) (.slice pb bk.length cb)
  unfold planC at HBL
  simp only at HBL
  rw [e1] at HBL
  have HE := Lib.hid (he.mono hb1)
  have HS := Lib.hid (hb.mono hb1)
  have HB := Lib.hid hb1
  have HC := Lib.hid (refLetters_any_c q w1 hsz)
  have HEX : RowKit.Hid (∀ k, exOk a b x k ↔ a ≤ x.getD k 0 ∧ x.getD k 0 ≤ b ∧ (k = 0 ∨ x.getD (k - 1) 0 < x.getD k 0)) := Lib.hid fun k => Iff.rfl
  unfold planV at HPL ⊢
  clear he hb hb1 hz1
  generalize hN : x.length = N at *
  generalize hM : bk.length = M at *
  have HN := Lib.hid hN
  have HM := Lib.hid hM
  clear hN hM
  go_enter Tryd.func45, Tryd.ntmps45
  cases hl : letF q.data.toList with
  | none =>
    have HF : RowKit.Hid (rightB ⟨a, b, q, x, bk⟩ = false) := Lib.hid (HNH.out (by rw [hl]; rfl))
    rw [hl] at HC
    go_wp2_with (first
      | (go_at_call 61; (with_reducible refine HC.out.mono ?_); rintro e w2 ⟨L, rfl, _, hb2⟩; have c0 := cell_bel hb2 a0; have c1 := cell_bel hb2 a1; have c3 := cell_bel hb2 a3; have c4 := cell_bel hb2 a4))
    go_ret
    exact ⟨ret_bool (by rw [HF.out]), bel_trans HB.out hb2⟩
  | some l =>
    rw [hl] at HC HNH
    have hrise := letF_some hl
    have HNB2 : RowKit.Hid (∀ k, k < M → ¬ bkAt (placesL a b l) bk k → rightB ⟨a, b, q, x, bk⟩ = false) := Lib.hid fun k => HNB.out l k hl
    have HYES2 := Lib.hid (HYES.out l hl)
    have HPL2 : RowKit.Hid (∀ W, 1 ≤ a → b ≤ 60 → _) := Lib.hid fun W => HPL.out l W hl
    have HLEN : RowKit.Hid (1 ≤ a → b ≤ 60 → (placesL a b l).length ≤ 600) := Lib.hid fun h1 h2 => by
      rw [placesL_len]
      calc (b + 1 - a).toNat * l.length ≤ 60 * 10 := Nat.mul_le_mul (by omega) hrise.2.1
        _ = 600 := rfl
    clear hl hrise HNB HYES HPL
    go_upto_region 2 with (first
      | (go_at_call 61; (with_reducible refine HC.out.mono ?_); rintro e w2 ⟨L, rfl, _, hb2⟩; have c0 := cell_bel hb2 a0; have c1 := cell_bel hb2 a1; have c3 := cell_bel hb2 a3; have c4 := cell_bel hb2 a4))
    have hbw := bel_trans HB.out hb2
    have HE2 := Lib.hid (HE.out.mono hb2)
    have HS2 := Lib.hid (HS.out.mono hb2)
    have HBL2 := Lib.hid (HBL.out.mono hb2)
    clear e1 a0 a1 a2 a3 a4 HC
    go_cut [40] from 10 to 103 (fun s4 wx => s4 = .bool (!headB ⟨a, b, q, x, bk⟩ true) ∧ w2 = wx)
    case first =>
      by_cases h1 : a < 1
      · have hh := Lib.hid ((hhead true).trans (by rw [decide_eq_false (fun h => by omega)]; rfl : _ = false))
        go_wp2
        go_meet
        exact ⟨by rw [hh.out]; rfl, rfl⟩
      · by_cases h2 : b < a
        · have hh := Lib.hid ((hhead true).trans (by rw [decide_eq_false (fun h => by omega)]; rfl : _ = false))
          go_wp2
          go_meet
          exact ⟨by rw [hh.out]; rfl, rfl⟩
        · by_cases h3 : 60 < b
          · have hh := Lib.hid ((hhead true).trans (by rw [decide_eq_false (fun h => by omega)]; rfl : _ = false))
            go_wp2
            go_meet
            exact ⟨by rw [hh.out]; rfl, rfl⟩
          · by_cases h4 : 40 < (M : Int)
            · have hh := Lib.hid ((hhead true).trans (by rw [decide_eq_false (fun h => by omega)]; rfl : _ = false))
              go_wp2
              go_meet
              exact ⟨by rw [hh.out]; rfl, rfl⟩
            · have hh := Lib.hid ((hhead true).trans (by rw [decide_eq_true ⟨by omega, by omega, by omega, by omega⟩]; rfl : _ = true))
              go_wp2
              go_meet
              exact ⟨by rw [hh.out]; rfl, rfl⟩
    case rest =>
      obtain ⟨rfl, rfl⟩ := hcut
      cases hhd : headB ⟨a, b, q, x, bk⟩ true with
      | false =>
        have HF := Lib.hid (HNH.out hhd)
        clear hhead hhd
        go_wp2
        go_ret
        exact ⟨ret_bool (by rw [HF.out]), hbw⟩
      | true =>
        have hq : 1 ≤ a ∧ a ≤ b ∧ b ≤ 60 ∧ M ≤ 40 := by
          have := hhead true
          rw [hhd, Bool.true_and] at this
          exact of_decide_eq_true this.symm
        obtain ⟨q1, q2, q3, q4⟩ := hq
        have HYES3 := Lib.hid (HYES2.out hhd)
        have HPL3 : RowKit.Hid (∀ W, _) := Lib.hid fun W => HPL2.out W q1 q3
        have HLN := HLEN.out q1 q3
        clear hhead hhd HYES2 HPL2 HLEN HNH
        go_wp2
        go_loopg [5] N (fun g i wr => ∃ (k : Nat), k ≤ N ∧ g = N - k ∧ i = .int .i64 (k : Int) ∧ Below w2.heap.size w2 wr ∧ ∀ i, i < k → exOk a b x i)
        case atStart => exact ⟨0, Nat.zero_le _, rfl, rfl, Below.refl _ _, fun i hi => absurd hi (Nat.not_lt_zero _)⟩
        case round =>
          obtain ⟨k, hk, rfl, rfl, hb3, hall⟩ := hrel
          have HALL := Lib.hid hall
          clear hall
          have d0 := cell_bel hb3 c0
          have d1 := cell_bel hb3 c1
          have d3 := cell_bel hb3 c3
          by_cases hlt : k < N
          · have hki : (k : Int) < (N : Int) := by omega
            have hk0 : (0 : Int) ≤ (k : Int) := by omega
            obtain ⟨b1, off, rfl, g0⟩ := int_at (HE2.out.mono hb3) (i := k) (by rw [HN.out]; exact hlt)
            have HX := Lib.hid (HEX.out k)
            have HNX : RowKit.Hid (exOk a b x k → ∀ i, i < k + 1 → exOk a b x i) := Lib.hid fun h i hi => by
              rcases Nat.lt_or_ge i k with h1 | h1
              · exact HALL.out i h1
              · rw [show i = k by omega]; exact h
            have HNE2 := Lib.hid (HNE.out k hlt)
            generalize hy : x.getD k 0 = y at *
            clear hy
            by_cases y1 : y < a
            · have y1d : decide (y < a) = true := decide_eq_true y1
              have HF := Lib.hid (HNE2.out fun h => by have := (HX.out.1 h).1; omega)
              go_upto_region 7 with fail
              go_quiet (fail)
              go_wp2
              go_ret
              exact ⟨ret_bool (by rw [HF.out]), bel_trans hbw (below_drewN hb3 _)⟩
            · have y1d : decide (y < a) = false := decide_eq_false y1
              by_cases y2 : b < y
              · have y2d : decide (b < y) = true := decide_eq_true y2
                have HF := Lib.hid (HNE2.out fun h => by have := (HX.out.1 h).2.1; omega)
                go_upto_region 7 with fail
                go_quiet (fail)
                go_wp2
                go_ret
                exact ⟨ret_bool (by rw [HF.out]), bel_trans hbw (below_drewN hb3 _)⟩
              · have y2d : decide (b < y) = false := decide_eq_false y2
                by_cases hz : k = 0
                · have hz1 : decide ((0 : Int) < (k : Int)) = false := decide_eq_false (by omega)
                  have hz2 : decide (0 < k) = false := decide_eq_false (by omega)
                  have HY := Lib.hid (HX.out.2 ⟨by omega, by omega, .inl hz⟩)
                  clear hz
                  go_upto_region 7 with fail
                  go_quiet (fail)
                  go_wp2
                  go_roundg (N - (k + 1))
                  case measure => omega
                  case rel => exact ⟨k + 1, by omega, rfl, by go_num, below_drewN hb3 _, HNX.out HY.out⟩
                · obtain ⟨j, rfl⟩ : ∃ j, k = j + 1 := ⟨k - 1, by omega⟩
                  have hz1 : decide ((0 : Int) < (j : Int) + 1) = true := decide_eq_true (by omega)
                  obtain ⟨b2, off2, e2, g2⟩ := int_at (HE2.out.mono hb3) (i := j) (by rw [HN.out]; omega)
                  injection e2 with e2
                  injection e2 with e2 e3 e4
                  subst e2
                  subst e3
                  have HX2 : RowKit.Hid (exOk a b x (j + 1) ↔ a ≤ y ∧ y ≤ b ∧ (j + 1 = 0 ∨ x.getD j 0 < y)) := Lib.hid HX.out
                  have hjM : (j : Int) < (N : Int) := by omega
                  have hj0 : (0 : Int) ≤ (j : Int) := by omega
                  have hjM2 : j < N := by omega
                  have hwj : IntKind.i64.wrap (j : Int) = (j : Int) := IntWalk.i64_in _ ⟨by omega, by omega⟩
                  generalize x.getD j 0 = z at *
                  clear hz
                  by_cases y3 : y ≤ z
                  · have y3d : decide (y ≤ z) = true := decide_eq_true y3
                    have HF := Lib.hid (HNE2.out fun h => by have := (HX2.out.1 h).2.2.resolve_left (by omega); omega)
                    go_upto_region 7 with fail
                    go_quiet (fail)
                    go_wp2
                    go_ret
                    exact ⟨ret_bool (by rw [HF.out]), bel_trans hbw (below_drewN hb3 _)⟩
                  · have y3d : decide (y ≤ z) = false := decide_eq_false y3
                    have HY := Lib.hid (HX2.out.2 ⟨by omega, by omega, .inr (by omega)⟩)
                    go_upto_region 7 with fail
                    go_quiet (fail)
                    go_wp2
                    go_roundg (N - (j + 1 + 1))
                    case measure => omega
                    case rel => exact ⟨j + 1 + 1, by omega, rfl, by go_num, below_drewN hb3 _, HNX.out HY.out⟩
          · have hkn : k = N := by omega
            subst hkn
            have hki : ¬ (k : Int) < (k : Int) := by omega
            have HYES4 := Lib.hid (HYES3.out HALL.out)
            clear HALL HYES3
            have HBL3 := Lib.hid (HBL2.out.mono hb3)
            have HS3 := Lib.hid (HS2.out.mono hb3)
            have hbw3 := bel_trans hbw hb3
            have d4 := cell_bel hb3 c4
            clear d0 d1 c0 c1 c3 c4
            go_wp2_with (first
              | (refine wpList_load_mid rfl 53 (.tmp 1) rfl w.heap.size 0 rfl _ _ HBL3.out.range Tryd.underlying53 rfl info_plan ?_)
              | (go_at_call 62; (with_reducible refine (HPL3.out _).mono ?_); rintro e w4 ⟨v4, rfl, ho4, hb4⟩))
            have HV4 := Lib.hid ho4.has
            have d44 := cell_bel hb4 d4
            have HS4 := Lib.hid (HS3.out.mono hb4)
            have hbw4 := bel_trans hbw3 hb4
            obtain ⟨p4, c4, rfl⟩ := ho4.has.len
            have HBA : RowKit.Hid (∀ n, bkAt (placesL a b l) bk n ↔ lastAt (placesL a b l) bk n < atL (placesL a b l) (bk.getD n st0)) := Lib.hid fun n => Iff.rfl
            have HLS : RowKit.Hid (∀ n, lastAt (placesL a b l) bk (n + 1) = atL (placesL a b l) (bk.getD n st0)) := Lib.hid fun n => rfl
            have HL0 : RowKit.Hid (lastAt (placesL a b l) bk 0 = -1) := Lib.hid rfl
            generalize placesL a b l = all at *
            clear ho4 d4
            go_loopg [7, 8] M (fun g la i wr => ∃ (n : Nat), n ≤ M ∧ g = M - n ∧ i = .int .i64 (n : Int) ∧ la = .int .i64 (lastAt all bk n) ∧ Below w4.heap.size w4 wr ∧ ∀ i, i < n → bkAt all bk i)
            case atStart => exact ⟨0, Nat.zero_le _, rfl, rfl, by rw [HL0.out], Below.refl _ _, fun i hi => absurd hi (Nat.not_lt_zero _)⟩
            case round =>
              obtain ⟨n, hn, rfl, rfl, rfl, hb5, hall⟩ := hrel
              have HALL := Lib.hid hall
              clear hall
              have d4 := cell_bel hb5 d44
              by_cases hlt2 : n < M
              · have hni : (n : Int) < (M : Int) := by omega
                have hn0 : (0 : Int) ≤ (n : Int) := by omega
                obtain ⟨bb, off, rfl, hr, _, _⟩ := st_at (HS4.out.mono hb5) (i := n) (by rw [HM.out]; exact hlt2)
                have HAT : RowKit.Hid (∀ W, Below w4.heap.size w4 W → Calls Tryd.prog 63 #[.slice p4 all.length c4, seatK_c (bk.getD n st0)] W fun e w' => e = .returned (.int .i64 (atL all (bk.getD n st0))) ∧ Below W.heap.size W w') := Lib.hid fun W h => at_any all _ (bk.getD n st0) W (HV4.out.mono h) (by omega)
                have HX := Lib.hid (HBA.out n)
                have HN1 := Lib.hid (HLS.out n)
                have HNB3 := Lib.hid (HNB2.out n hlt2)
                have HNX : RowKit.Hid (bkAt all bk n → ∀ i, i < n + 1 → bkAt all bk i) := Lib.hid fun h i hi => by
                  rcases Nat.lt_or_ge i n with h1 | h1
                  · exact HALL.out i h1
                  · rw [show i = n by omega]; exact h
                unfold seatK_c seatV at HAT
                generalize bk.getD n st0 = s at *
                generalize atL all s = A at *
                generalize hLA : lastAt all bk n = La at *
                clear hLA
                by_cases hc : A ≤ La
                · have HF := Lib.hid (HNB3.out fun h => by have := HX.out.1 h; omega)
                  go_wp2_with (first
                    | (refine wpList_load_mid rfl 80 _ rfl bb (off + n * 2) rfl [.int .i64 s.1, .int .u8 s.2.toNat] _ hr Tryd.underlying80 rfl info_seat ?_)
                    | (go_at_call 63; (with_reducible refine (HAT.out _ hb5).mono ?_); rintro e w6 ⟨rfl, hb6⟩))
                  go_ret
                  exact ⟨ret_bool (by rw [HF.out]), bel_trans hbw4 (bel_trans hb5 hb6)⟩
                · have HY := Lib.hid (HNX.out (HX.out.2 (by omega)))
                  go_wp2_with (first
                    | (refine wpList_load_mid rfl 80 _ rfl bb (off + n * 2) rfl [.int .i64 s.1, .int .u8 s.2.toNat] _ hr Tryd.underlying80 rfl info_seat ?_)
                    | (go_at_call 63; (with_reducible refine (HAT.out _ hb5).mono ?_); rintro e w6 ⟨rfl, hb6⟩))
                  go_roundg (M - (n + 1))
                  case measure => omega
                  case rel => exact ⟨n + 1, by omega, rfl, by go_num, by rw [HN1.out], bel_trans hb5 hb6, HY.out⟩
              · have hnn : n = M := by omega
                subst hnn
                have hni : ¬ (n : Int) < (n : Int) := by omega
                have HF := Lib.hid (HYES4.out HALL.out)
                go_wp2
                go_ret
                exact ⟨ret_bool (by rw [HF.out]), bel_trans hbw4 hb5⟩
end Go.Proofs.YtahghakpmjfefaaDoor
