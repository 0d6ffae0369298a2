/- The statement about maps of seats: its walk. Printed by tools/gen_sld.py. -/
import Derived.Test.YtahghakpmjfefaaDoorSX
import Derived.Test.YtahghakpmjfefaaDoorSY
namespace Go.Proofs.YtahghakpmjfefaaDoor.Sh
open Go.RowKit Go.ChangeMaps En
set_option linter.unusedSimpArgs false
set_option linter.unusedVariables false
set_option maxRecDepth 20000

theorem mapL_few {p : Pl} {held : List HeT} {loc : ByteArray} : ((mapL p held loc).map mkB).length ≤ 1000000 := by
  rw [List.length_map]
  cases hr : rightB p with
  | false => rw [mapL_no hr]; exact Nat.zero_le _
  | true =>
    obtain ⟨l, hl, h1, h2, h3, _⟩ := rightB_some hr
    rw [mapL_yes hr hl, List.length_cons, List.length_map, rowsL_len]
    omega

set_option maxHeartbeats 16000000 in
theorem showMaps_walk (v : Value) (p : Pl) (vh : Value) (held : List HeT) (loc : ByteArray) (hlo : loc.size ≤ maxLen) (w : World) (h : PlanIn w v p) (hh : HeldIn w vh held) (ht : Da.LenTab w) (hp : PowTab w) (hm : MaxCell w) :
    Calls Tryd.prog 5 #[v, vh, .string loc] w fun e w' => e = .returned (.bool true) ∧ Below w.heap.size w w' := by
  obtain ⟨ve, vb, rfl, he, hbk, _, _, _⟩ := h
  have hb1 : Below w.heap.size w (w.alloc (.cells (planC p ve vb).toArray 53)) := (Below.refl _ _).alloc (Nat.le_refl _) _
  have HBL := Lib.hid (planC_blk w p ve vb)
  have HAW : RowKit.Hid (∀ W, Below w.heap.size w W → Calls Tryd.prog 9 #[] W fun e w' => e = .returned (.bool true) ∧ Below W.heap.size W w') := Lib.hid fun W h => awake_any W (hm.keep h) (ht.keep h) (powTab_keep hp h)
  have HSH : RowKit.Hid (p.lets.size ≤ 200 → p.exits.length ≤ 200 → p.bks.length ≤ 200 → held.length ≤ 300 → ∀ W v', Below w.heap.size w W → HasE heC W v' held → Calls Tryd.prog 16 #[planV p ve vb, v', .string loc] W fun e w' => (∃ v, e = .returned v ∧ OwnL w' W.heap.size v ((mapL p held loc).map mkB)) ∧ Below W.heap.size W w') := Lib.hid fun h1 h2 h3 h4 W v' hW hv => (map_any p _ _ _ held loc W (he.1.mono hW) (hbk.1.mono hW) hv h1 h2 h3 (by omega) hh.2 (hm.keep hW) (powTab_keep hp hW)).mono fun e w' ⟨h1, h2⟩ => ⟨lines_own h1, h2⟩
  have HRF : RowKit.Hid (p.lets.size ≤ 200 → p.exits.length ≤ 200 → p.bks.length ≤ 200 → held.length ≤ 300 → ∀ W, Below w.heap.size w W → Calls Tryd.prog 17 #[planV p ve vb, vh, .string loc] W fun e w' => (∃ v, e = .returned v ∧ OwnL w' W.heap.size v ((mapL p held loc).map mkB)) ∧ Below W.heap.size W w') := Lib.hid fun h1 h2 h3 h4 W hW => (rmap_any p _ _ _ held loc W (he.1.mono hW) (hbk.1.mono hW) (hh.1.mono hW) h1 h2 h3 (by omega) hh.2).mono fun e w' ⟨h1, h2⟩ => ⟨lines_own h1, h2⟩
  have HSA : RowKit.Hid (∀ va vb W, HasL W va ((mapL p held loc).map mkB) → HasL W vb ((mapL p held loc).map mkB) → Calls Tryd.prog 11 #[va, vb] W fun e w' => e = .returned (.bool true) ∧ Below W.heap.size W w') := Lib.hid fun va vb W h1 h2 => same_true _ va vb W h1 h2 mapL_few
  generalize (mapL p held loc).map mkB = LL at *
  obtain ⟨pe, ce, rfl⟩ := he.1.len
  obtain ⟨pb, cb, rfl⟩ := hbk.1.len
  obtain ⟨ph, ch, rfl⟩ := hh.1.len
  have HHH := Lib.hid hh.1
  unfold planC at HBL hb1
  unfold planV at HSH HRF ⊢
  simp only [List.toArray] at HBL hb1
  generalize p.exits.length = NX at *
  generalize p.bks.length = NB at *
  obtain ⟨NH, hNH⟩ : ∃ n, held.length = n := ⟨_, rfl⟩
  rw [hNH] at HSH HRF HHH ⊢
  have HNH := Lib.hid hNH
  clear hNH
  generalize hw1 : w.alloc (.cells #[.int .i64 p.first, .int .i64 p.last, .string p.lets, .slice pe NX ce, .slice pb NB cb] 53) = w1 at HBL hb1
  have HB := Lib.hid hb1
  have HCX : RowKit.Hid (∀ W, Below w1.heap.size w1 W → W.cell? ⟨w.heap.size, 0, none⟩ = some (.int .i64 p.first) ∧ W.cell? ⟨w.heap.size, 1, none⟩ = some (.int .i64 p.last) ∧ W.cell? ⟨w.heap.size, 2, none⟩ = some (.string p.lets) ∧ W.cell? ⟨w.heap.size, 3, none⟩ = some (.slice pe NX ce) ∧ W.cell? ⟨w.heap.size, 4, none⟩ = some (.slice pb NB cb) ∧ Below w1.heap.size w1 W) := Lib.hid fun W h => ⟨((HBL.out.mono h).cell 0).trans rfl, ((HBL.out.mono h).cell 1).trans rfl, ((HBL.out.mono h).cell 2).trans rfl, ((HBL.out.mono h).cell 3).trans rfl, ((HBL.out.mono h).cell 4).trans rfl, h⟩
  have HLN : RowKit.Hid True := Lib.hid trivial
  clear he hbk hh ht hp hm
  by_cases hi1 : p.lets.size ≤ 200
  rotate_left
  · have hg1 : (200 : Int) < (p.lets.size : Int) := by omega
    clear hb1 HSH HRF HLN HHH
    go_enter Tryd.func5, Tryd.ntmps5
    go_upto_region 1 with fail
    try rw [hw1]
    clear hw1
    go_wp2_with (first
      | (go_at_call 9; (with_reducible refine (HAW.out _ HB.out).mono ?_); rintro e w2 ⟨rfl, hb2⟩; have c2 := (HCX.out _ hb2).2.2.1; have c3 := (HCX.out _ hb2).2.2.2.1; have c4 := (HCX.out _ hb2).2.2.2.2.1))
    go_ret
    exact ⟨rfl, bel_trans HB.out hb2⟩
  have hg1 : ¬ (200 : Int) < (p.lets.size : Int) := by omega
  by_cases hi2 : NX ≤ 200
  rotate_left
  · have hg2 : (200 : Int) < (NX : Int) := by omega
    clear hb1 HSH HRF HLN HHH
    go_enter Tryd.func5, Tryd.ntmps5
    go_upto_region 1 with fail
    try rw [hw1]
    clear hw1
    go_wp2_with (first
      | (go_at_call 9; (with_reducible refine (HAW.out _ HB.out).mono ?_); rintro e w2 ⟨rfl, hb2⟩; have c2 := (HCX.out _ hb2).2.2.1; have c3 := (HCX.out _ hb2).2.2.2.1; have c4 := (HCX.out _ hb2).2.2.2.2.1))
    go_ret
    exact ⟨rfl, bel_trans HB.out hb2⟩
  have hg2 : ¬ (200 : Int) < (NX : Int) := by omega
  by_cases hi3 : NB ≤ 200
  rotate_left
  · have hg3 : (200 : Int) < (NB : Int) := by omega
    clear hb1 HSH HRF HLN HHH
    go_enter Tryd.func5, Tryd.ntmps5
    go_upto_region 1 with fail
    try rw [hw1]
    clear hw1
    go_wp2_with (first
      | (go_at_call 9; (with_reducible refine (HAW.out _ HB.out).mono ?_); rintro e w2 ⟨rfl, hb2⟩; have c2 := (HCX.out _ hb2).2.2.1; have c3 := (HCX.out _ hb2).2.2.2.1; have c4 := (HCX.out _ hb2).2.2.2.2.1))
    go_ret
    exact ⟨rfl, bel_trans HB.out hb2⟩
  have hg3 : ¬ (200 : Int) < (NB : Int) := by omega
  by_cases hi4 : NH ≤ 300
  rotate_left
  · have hg4 : (300 : Int) < (NH : Int) := by omega
    clear hb1 HSH HRF HLN HHH
    go_enter Tryd.func5, Tryd.ntmps5
    go_upto_region 1 with fail
    try rw [hw1]
    clear hw1
    go_wp2_with (first
      | (go_at_call 9; (with_reducible refine (HAW.out _ HB.out).mono ?_); rintro e w2 ⟨rfl, hb2⟩; have c2 := (HCX.out _ hb2).2.2.1; have c3 := (HCX.out _ hb2).2.2.2.1; have c4 := (HCX.out _ hb2).2.2.2.2.1))
    go_ret
    exact ⟨rfl, bel_trans HB.out hb2⟩
  have hg4 : ¬ (300 : Int) < (NH : Int) := by omega
  have HSH2 := Lib.hid (HSH.out hi1 hi2 hi3 hi4)
  have HRF2 := Lib.hid (HRF.out hi1 hi2 hi3 hi4)
  have hl1 : held.length ≤ maxLen := by have := HNH.out; unfold maxLen; omega
  have hl2 : held.length * 40 ≤ 140737488355328 := by have := HNH.out; omega
  have HL1 := Lib.hid hl1
  have HL2 := Lib.hid hl2
  obtain ⟨i2, hi22, hz2, hsz2, hby2⟩ := held_info
  clear hl1 hl2 hi1 hi2 hi3 hi4 hb1 HSH HRF HLN
  go_enter Tryd.func5, Tryd.ntmps5
  go_upto_region 1 with fail
  try rw [hw1]
  clear hw1
  go_upto_region 5 with (first
    | (go_at_call 9; (with_reducible refine (HAW.out _ HB.out).mono ?_); rintro e w2 ⟨rfl, hb2⟩; have c2 := (HCX.out _ hb2).2.2.1; have c3 := (HCX.out _ hb2).2.2.2.1; have c4 := (HCX.out _ hb2).2.2.2.2.1))
  have hS0 := HCX.out w2.drew hb2.drew
  have HB2 := Lib.hid hb2
  clear hb2 c2 c3 c4 hg1 hg2 hg3 hg4
  go_region_held3 (fun W => W.cell? ⟨w.heap.size, 0, none⟩ = some (.int .i64 p.first) ∧ W.cell? ⟨w.heap.size, 1, none⟩ = some (.int .i64 p.last) ∧ W.cell? ⟨w.heap.size, 2, none⟩ = some (.string p.lets) ∧ W.cell? ⟨w.heap.size, 3, none⟩ = some (.slice pe NX ce) ∧ W.cell? ⟨w.heap.size, 4, none⟩ = some (.slice pb NB cb) ∧ Below w1.heap.size w1 W)
    (first
      | (with_reducible exact hS0)
      | (with_reducible assumption)
      | (with_reducible exact HCX.out _ ((show _ ∧ _ ∧ _ ∧ _ ∧ _ ∧ Below w1.heap.size w1 _ by assumption).2.2.2.2.2.alloc (show _ ∧ _ ∧ _ ∧ _ ∧ _ ∧ Below w1.heap.size w1 _ by assumption).2.2.2.2.2.size _))
      | (with_reducible exact HCX.out _ (below_grown2 (show _ ∧ _ ∧ _ ∧ _ ∧ _ ∧ Below w1.heap.size w1 _ by assumption).2.2.2.2.2 hg6 (show _ ∧ _ ∧ _ ∧ _ ∧ _ ∧ Below w1.heap.size w1 _ by assumption).2.2.2.2.2.size))
      | (with_reducible exact HCX.out _ (HB2.out.alloc HB2.out.size _).drew)
      | (with_reducible exact HCX.out _ (below_grown2 (HB2.out.alloc HB2.out.size _).drew hg6 HB2.out.size))
      | (with_reducible exact HCX.out _ (bel_trans (show _ ∧ _ ∧ _ ∧ _ ∧ _ ∧ Below w1.heap.size w1 _ by assumption).2.2.2.2.2 hb4))
      | (with_reducible exact HCX.out _ (bel_trans (show _ ∧ _ ∧ _ ∧ _ ∧ _ ∧ Below w1.heap.size w1 _ by assumption).2.2.2.2.2 hb5))
      | (with_reducible exact HCX.out _ (bel_trans (show _ ∧ _ ∧ _ ∧ _ ∧ _ ∧ Below w1.heap.size w1 _ by assumption).2.2.2.2.2 hb7)))
    (first
      | (refine step_copyE heC_len heC_one (by decide) (by rfl) _ _ 54 (by rfl) _ 84 i2 _ 40 Tryd.underlying54 hi22 hz2 hsz2 hby2 (by rfl) (by rfl) (by first | exact blkND (by simp) | exact blkN (by simp)) _ held (by rfl) (HHH.out.mono (bel_trans HB.out (show _ ∧ _ ∧ _ ∧ _ ∧ _ ∧ Below w1.heap.size w1 _ by assumption).2.2.2.2.2)) HL1.out HL2.out ?_; intro v6 w6 hv6 hg6 hk6; obtain ⟨p6, c6, rfl⟩ := hv6.len)
      | (go_at_call 16; (with_reducible refine (HSH2.out _ _ (bel_trans HB.out (show _ ∧ _ ∧ _ ∧ _ ∧ _ ∧ Below w1.heap.size w1 _ by assumption).2.2.2.2.2) hv6).mono ?_); rintro e w4 ⟨⟨v4, rfl, ho4⟩, hb4⟩)
      | (go_at_call 17; (with_reducible refine (HRF2.out _ (bel_trans HB.out (show _ ∧ _ ∧ _ ∧ _ ∧ _ ∧ Below w1.heap.size w1 _ by assumption).2.2.2.2.2)).mono ?_); rintro e w5 ⟨⟨v5, rfl, ho5⟩, hb5⟩; have hc1 := OwnL.has (OwnL.mono ho4 hb5); have hc2 := OwnL.has ho5)
      | (go_at_call 11; (with_reducible refine (HSA.out _ _ _ hc1 hc2).mono ?_); rintro e w7 ⟨rfl, hb7⟩))
  all_goals (
    have hy : Below w1.heap.size w1 w7 := (show _ ∧ _ ∧ _ ∧ _ ∧ _ ∧ Below w1.heap.size w1 w7 by assumption).2.2.2.2.2
    go_wp2
    go_ret
    exact ⟨rfl, bel_trans HB.out hy⟩)
end Go.Proofs.YtahghakpmjfefaaDoor.Sh
