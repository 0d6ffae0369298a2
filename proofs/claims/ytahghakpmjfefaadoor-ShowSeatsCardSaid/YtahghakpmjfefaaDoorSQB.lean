/- The statement that counts the signs of a map: its walk. Printed by tools/gen_sqb.py. -/
import Derived.Test.YtahghakpmjfefaaDoorSQA
import Derived.Test.YtahghakpmjfefaaDoorSY
namespace Go.Proofs.YtahghakpmjfefaaDoor.Sh
open Go.RowKit Go.ChangeMaps En
set_option linter.unusedSimpArgs false
set_option linter.unusedVariables false
set_option maxRecDepth 20000

theorem seatsM_any {w : World} {B : Nat} {v : Value} {p : Pl} {l : List UInt8} (h : MapObj w B v p l) (hP : (placesL p.first p.last l).length ≤ 1000) :
    ∃ gm, v = .pointer (some ⟨gm, 0, none⟩) ∧ ∀ W, Below w.heap.size w W → Calls Tryd.prog 27 #[.pointer (some ⟨gm, 0, none⟩)] W fun e w' => (∃ v, e = .returned v ∧ OwnS w' W.heap.size v ((placesL p.first p.last l).filter fun s => !decide (s ∈ p.bks))) ∧ Below W.heap.size W w' := by
  obtain ⟨g, b, vl, rfl, h0⟩ := h
  refine ⟨g, rfl, fun W hW => ?_⟩
  have h := h0.mono hW
  have := seats_ob g b vl _ _ W h.ob ((h.blk.cell 1).trans rfl) h.own.has hP
  have e : (fun s => !(markF p l s).blk) = fun s => !decide (s ∈ p.bks) := funext fun s => by
    unfold markF
    by_cases hs : s ∈ p.bks
    · rw [if_pos hs, decide_eq_true hs]
    · rw [if_neg hs, decide_eq_false hs]
  rw [e] at this
  exact this.mono fun e w' ⟨v, h1, h2, h3⟩ => ⟨⟨v, h1, h2⟩, h3⟩
theorem getD_mapLn {p : Pl} {l : List UInt8} {held : List HeT} {loc : ByteArray} (hr : rightB p = true) (hl : letF p.lets.data.toList = some l) {k : Nat} (h1 : 1 ≤ k) (h2 : k < ((mapL p held loc).map mkB).length) :
    toL (((mapL p held loc).map mkB).getD k ByteArray.empty) = mapLn p l held loc (p.first + ((k - 1 : Nat) : Int)) := by
  rw [mapL_yes hr hl] at h2 ⊢
  obtain ⟨i, rfl⟩ : ∃ i, k = i + 1 := ⟨k - 1, by omega⟩
  rw [List.map_cons, List.length_cons, List.length_map, List.length_map, rowsL_len] at h2
  have hi : i < (p.last + 1 - p.first).toNat := by omega
  rw [List.map_cons, List.getD_cons_succ, List.map_map]
  unfold rowsL
  rw [List.map_map]
  simp [List.getD, hi]
  exact toL_mk _
theorem row_at_byte {p : Pl} {l : List UInt8} {held : List HeT} {loc : ByteArray} {r : Int} (h1 : 1 ≤ r) (h2 : r ≤ 60) {S : ByteArray} (hS : toL S = mapLn p l held loc r) {m : Nat} (hm : 3 ≤ m) (hm2 : m < 3 + p.lets.size) :
    S.data.toList.getD m 0 = (marksA p l held loc r).getD (m - 3) 0 := by
  have hS : S.data.toList = rowTx r ++ (marksA p l held loc r ++ exT p.exits r) := hS
  have h3 := row_len h1 h2
  have hl : (marksA p l held loc r).length = p.lets.size := by unfold marksA; rw [List.length_map]; rfl
  rw [hS]
  simp only [List.getD_eq_getElem?_getD]
  rw [List.getElem?_append_right (by omega), h3, List.getElem?_append_left (by omega)]
theorem row_size {p : Pl} {l : List UInt8} {held : List HeT} {loc : ByteArray} {r : Int} (h1 : 1 ≤ r) (h2 : r ≤ 60) {S : ByteArray} (hS : toL S = mapLn p l held loc r) : 3 + p.lets.size ≤ S.size := by
  have h : (toL S).length = S.size := rfl
  rw [hS] at h
  unfold mapLn at h
  rw [List.length_append, row_len h1 h2, List.length_append, List.length_map] at h
  have : p.lets.data.toList.length = p.lets.size := rfl
  omega
/-- The signs of the first rows. -/
def signsT (p : Pl) (l : List UInt8) (held : List HeT) (loc : ByteArray) (i : Nat) : List UInt8 := ((rowsL p.first p.last).take i).flatMap (marksA p l held loc)
theorem signs_succ {p : Pl} {l : List UInt8} {held : List HeT} {loc : ByteArray} {i : Nat} (h : i < (p.last + 1 - p.first).toNat) : signsT p l held loc (i + 1) = signsT p l held loc i ++ marksA p l held loc (p.first + (i : Int)) := by
  have hl : i < (rowsL p.first p.last).length := by rw [rowsL_len]; exact h
  unfold signsT
  rw [take_getD 0 hl, List.flatMap_append]
  have : (rowsL p.first p.last).getD i 0 = p.first + (i : Int) := by
    unfold rowsL
    simp [List.getD, h]
  rw [this]
  simp

set_option maxHeartbeats 16000000 in
theorem showSeats_walk (v : Value) (p : Pl) (vh : Value) (held : List HeT) (loc : ByteArray) (hlo : loc.size ≤ maxLen) (w : World) (h : PlanIn w v p) (hh : HeldIn w vh held) (ht : Da.LenTab w) (hp : PowTab w) (hm : MaxCell w) :
    Calls Tryd.prog 8 #[v, vh, .string loc] w fun e w' => e = .returned (.bool true) ∧ Below w.heap.size w w' := by
  obtain ⟨ve, vb, rfl, he, hbk, _, _, _⟩ := h
  have hb1 : Below w.heap.size w (w.alloc (.cells (planC p ve vb).toArray 53)) := (Below.refl _ _).alloc (Nat.le_refl _) _
  have HBL := Lib.hid (planC_blk w p ve vb)
  have HAW : RowKit.Hid (∀ W, Below w.heap.size w W → Calls Tryd.prog 9 #[] W fun e w' => e = .returned (.bool true) ∧ Below W.heap.size W w') := Lib.hid fun W h => awake_any W (hm.keep h) (ht.keep h) (powTab_keep hp h)
  have HMP : RowKit.Hid (p.lets.size ≤ 200 → p.exits.length ≤ 200 → p.bks.length ≤ 200 → held.length ≤ 300 → ∀ W, Below w.heap.size w W → Calls Tryd.prog 16 #[planV p ve vb, vh, .string loc] W fun e w' => (∃ v, e = .returned v ∧ OwnL w' W.heap.size v ((mapL p held loc).map mkB)) ∧ Below W.heap.size W w') := Lib.hid fun h1 h2 h3 h4 W hW => (map_any p _ _ _ held loc W (he.1.mono hW) (hbk.1.mono hW) (hh.1.mono hW) h1 h2 h3 (by omega) hh.2 (hm.keep hW) (powTab_keep hp hW)).mono fun e w' ⟨h1, h2⟩ => ⟨lines_own h1, h2⟩
  have HNW : RowKit.Hid (p.lets.size ≤ 200 → p.exits.length ≤ 200 → p.bks.length ≤ 200 → ∀ W, Below w.heap.size w W → Calls Tryd.prog 26 #[planV p ve vb] W fun e w' => newE p W.heap.size e w' ∧ Below W.heap.size W w') := Lib.hid fun h1 h2 h3 W hW => new_any p ve vb W (he.1.mono hW) (hbk.1.mono hW) (by omega) (by omega) (by omega)
  obtain ⟨pe, ce, rfl⟩ := he.1.len
  obtain ⟨pb, cb, rfl⟩ := hbk.1.len
  obtain ⟨ph, ch, rfl⟩ := hh.1.len
  have HHH := Lib.hid hh.1
  have HOK := Lib.hid hh.2
  unfold planC at HBL hb1
  unfold planV at HNW HMP ⊢
  simp only [List.toArray] at HBL hb1
  generalize p.exits.length = NX at *
  generalize p.bks.length = NB at *
  obtain ⟨NH, hNH⟩ : ∃ n, held.length = n := ⟨_, rfl⟩
  rw [hNH] at HMP HHH ⊢
  have HNH := Lib.hid hNH
  clear hNH
  generalize hw1 : w.alloc (.cells #[.int .i64 p.first, .int .i64 p.last, .string p.lets, .slice pe NX ce, .slice pb NB cb] 53) = w1 at HBL hb1
  have HB := Lib.hid hb1
  have HCX : RowKit.Hid (∀ W, Below w1.heap.size w1 W → W.cell? ⟨w.heap.size, 0, none⟩ = some (.int .i64 p.first) ∧ W.cell? ⟨w.heap.size, 1, none⟩ = some (.int .i64 p.last) ∧ W.cell? ⟨w.heap.size, 2, none⟩ = some (.string p.lets) ∧ W.cell? ⟨w.heap.size, 3, none⟩ = some (.slice pe NX ce) ∧ W.cell? ⟨w.heap.size, 4, none⟩ = some (.slice pb NB cb)) := Lib.hid fun W h => ⟨((HBL.out.mono h).cell 0).trans rfl, ((HBL.out.mono h).cell 1).trans rfl, ((HBL.out.mono h).cell 2).trans rfl, ((HBL.out.mono h).cell 3).trans rfl, ((HBL.out.mono h).cell 4).trans rfl⟩
  clear he hbk hh ht hp hm
  by_cases hi1 : p.lets.size ≤ 200
  rotate_left
  · have hg1 : (200 : Int) < (p.lets.size : Int) := by omega
    clear hb1 HNW HMP
    go_enter Tryd.func8, Tryd.ntmps8
    go_upto_region 1 with fail
    try rw [hw1]
    clear hw1
    go_wp2_with (first
      | (go_at_call 9; (with_reducible refine (HAW.out _ HB.out).mono ?_); rintro e w2 ⟨rfl, hb2⟩; have c2 := (HCX.out _ hb2).2.2.1; have c3 := (HCX.out _ hb2).2.2.2.1; have c4 := (HCX.out _ hb2).2.2.2.2; have hr2 := (HBL.out.mono hb2).range))
    go_ret
    exact ⟨rfl, bel_trans HB.out hb2⟩
  have hg1 : ¬ (200 : Int) < (p.lets.size : Int) := by omega
  by_cases hi2 : NX ≤ 200
  rotate_left
  · have hg2 : (200 : Int) < (NX : Int) := by omega
    clear hb1 HNW HMP
    go_enter Tryd.func8, Tryd.ntmps8
    go_upto_region 1 with fail
    try rw [hw1]
    clear hw1
    go_wp2_with (first
      | (go_at_call 9; (with_reducible refine (HAW.out _ HB.out).mono ?_); rintro e w2 ⟨rfl, hb2⟩; have c2 := (HCX.out _ hb2).2.2.1; have c3 := (HCX.out _ hb2).2.2.2.1; have c4 := (HCX.out _ hb2).2.2.2.2; have hr2 := (HBL.out.mono hb2).range))
    go_ret
    exact ⟨rfl, bel_trans HB.out hb2⟩
  have hg2 : ¬ (200 : Int) < (NX : Int) := by omega
  by_cases hi3 : NB ≤ 200
  rotate_left
  · have hg3 : (200 : Int) < (NB : Int) := by omega
    clear hb1 HNW HMP
    go_enter Tryd.func8, Tryd.ntmps8
    go_upto_region 1 with fail
    try rw [hw1]
    clear hw1
    go_wp2_with (first
      | (go_at_call 9; (with_reducible refine (HAW.out _ HB.out).mono ?_); rintro e w2 ⟨rfl, hb2⟩; have c2 := (HCX.out _ hb2).2.2.1; have c3 := (HCX.out _ hb2).2.2.2.1; have c4 := (HCX.out _ hb2).2.2.2.2; have hr2 := (HBL.out.mono hb2).range))
    go_ret
    exact ⟨rfl, bel_trans HB.out hb2⟩
  have hg3 : ¬ (200 : Int) < (NB : Int) := by omega
  by_cases hi4 : NH ≤ 300
  rotate_left
  · have hg4 : (300 : Int) < (NH : Int) := by omega
    clear hb1 HNW HMP
    go_enter Tryd.func8, Tryd.ntmps8
    go_upto_region 1 with fail
    try rw [hw1]
    clear hw1
    go_wp2_with (first
      | (go_at_call 9; (with_reducible refine (HAW.out _ HB.out).mono ?_); rintro e w2 ⟨rfl, hb2⟩; have c2 := (HCX.out _ hb2).2.2.1; have c3 := (HCX.out _ hb2).2.2.2.1; have c4 := (HCX.out _ hb2).2.2.2.2; have hr2 := (HBL.out.mono hb2).range))
    go_ret
    exact ⟨rfl, bel_trans HB.out hb2⟩
  have hg4 : ¬ (300 : Int) < (NH : Int) := by omega
  have HMP2 := Lib.hid (HMP.out hi1 hi2 hi3 hi4)
  have HNW2 := Lib.hid (HNW.out hi1 hi2 hi3)
  clear HMP HNW hb1
  cases hr : rightB p with
  | false =>
    have HN2 : RowKit.Hid (∀ W, Below w.heap.size w W → Calls Tryd.prog 26 #[.agg #[.int .i64 p.first, .int .i64 p.last, .string p.lets, .slice pe NX ce, .slice pb NB cb]] W fun e w' => e = .returned (.tuple #[.pointer none, .int .i64 4]) ∧ Below W.heap.size W w') := Lib.hid fun W hW => (HNW2.out W hW).mono fun e w' ⟨h1, h2⟩ => by
      rcases h1 with ⟨_, h⟩ | ⟨v, l2, h, _⟩
      · exact ⟨h, h2⟩
      · exact absurd (hr.symm.trans h) (by decide)
    have HM2 : RowKit.Hid (∀ W, Below w.heap.size w W → Calls Tryd.prog 16 #[.agg #[.int .i64 p.first, .int .i64 p.last, .string p.lets, .slice pe NX ce, .slice pb NB cb], .slice ph NH ch, .string loc] W fun e w' => (∃ q c, e = .returned (.slice q 0 c)) ∧ Below W.heap.size W w') := Lib.hid fun W hW => (HMP2.out W hW).mono fun e w' ⟨⟨v, h1, ho⟩, h2⟩ => by
      rw [mapL_no hr] at ho
      obtain ⟨q, c, rfl⟩ := hasL_len2 (OwnL.has ho)
      exact ⟨⟨q, c, h1⟩, h2⟩
    clear HMP2 HNW2 hr
    go_enter Tryd.func8, Tryd.ntmps8
    go_upto_region 1 with fail
    try rw [hw1]
    clear hw1
    go_wp2_with (first
      | (go_at_call 9; (with_reducible refine (HAW.out _ HB.out).mono ?_); rintro e w2 ⟨rfl, hb2⟩; have c2 := (HCX.out _ hb2).2.2.1; have c3 := (HCX.out _ hb2).2.2.2.1; have c4 := (HCX.out _ hb2).2.2.2.2; have hr2 := (HBL.out.mono hb2).range)
      | (refine wpList_load_mid rfl 53 (.tmp 3) rfl w.heap.size 0 rfl _ _ hr2 Tryd.underlying53 rfl info_plan2 ?_)
      | (go_at_call 26; (with_reducible refine (HN2.out _ (bel_trans HB.out hb2)).mono ?_); rintro e w3 ⟨rfl, hb3⟩; have hb23 := bel_trans hb2 hb3; have hr3 := (HBL.out.mono hb23).range)
      | (refine wpList_load_mid rfl 53 (.tmp 3) rfl w.heap.size 0 rfl _ _ hr3 Tryd.underlying53 rfl info_plan2 ?_)
      | (go_at_call 16; (with_reducible refine (HM2.out _ (bel_trans HB.out hb23)).mono ?_); rintro e w4 ⟨⟨q4, d4, rfl⟩, hb4⟩))
    go_ret
    exact ⟨rfl, bel_trans HB.out (bel_trans hb23 hb4)⟩
  | true =>
    obtain ⟨l, hl, hrp⟩ := rightB_some hr
    have hpl := right_places hrp hl
    obtain ⟨r1, r2, r3, _⟩ := hrp
    have HN2 : RowKit.Hid (∀ W, Below w.heap.size w W → Calls Tryd.prog 26 #[.agg #[.int .i64 p.first, .int .i64 p.last, .string p.lets, .slice pe NX ce, .slice pb NB cb]] W fun e w' => (∃ gm, e = .returned (.tuple #[.pointer (some ⟨gm, 0, none⟩), .int .i64 0]) ∧ ∀ W, Below w'.heap.size w' W → Calls Tryd.prog 27 #[.pointer (some ⟨gm, 0, none⟩)] W fun e w'' => (∃ v, e = .returned v ∧ OwnS w'' W.heap.size v ((placesL p.first p.last l).filter fun s => !decide (s ∈ p.bks))) ∧ Below W.heap.size W w'') ∧ Below W.heap.size W w') := Lib.hid fun W hW => (HNW2.out W hW).mono fun e w' ⟨h1, h2⟩ => by
      rcases h1 with ⟨h, _⟩ | ⟨v, l2, _, hl2, rfl, hmo⟩
      · exact absurd (hr.symm.trans h) (by decide)
      · have : l2 = l := by rw [hl] at hl2; injection hl2 with e; exact e.symm
        subst this
        obtain ⟨gm, rfl, hs⟩ := seatsM_any hmo (by omega)
        exact ⟨⟨gm, rfl, hs⟩, h2⟩
    obtain ⟨N, hN⟩ : ∃ N, ((mapL p held loc).map mkB).length = N := ⟨_, rfl⟩
    have HM2 : RowKit.Hid (∀ W, Below w.heap.size w W → Calls Tryd.prog 16 #[.agg #[.int .i64 p.first, .int .i64 p.last, .string p.lets, .slice pe NX ce, .slice pb NB cb], .slice ph NH ch, .string loc] W fun e w' => (∃ q c, e = .returned (.slice q N c) ∧ HasL w' (.slice q N c) ((mapL p held loc).map mkB)) ∧ Below W.heap.size W w') := Lib.hid fun W hW => (HMP2.out W hW).mono fun e w' ⟨⟨v, h1, ho⟩, h2⟩ => by
      have hhs := OwnL.has ho
      obtain ⟨q, c, rfl⟩ := hasL_len2 hhs
      rw [hN] at h1 hhs
      exact ⟨⟨q, c, h1, hhs⟩, h2⟩
    have HNR : RowKit.Hid (N = (p.last + 1 - p.first).toNat + 1) := Lib.hid (by rw [← hN, mapL_yes hr hl, List.length_map, List.length_cons, List.length_map, rowsL_len])
    have HLN : RowKit.Hid (∀ k, 1 ≤ k → k < N → toL (((mapL p held loc).map mkB).getD k ByteArray.empty) = mapLn p l held loc (p.first + ((k - 1 : Nat) : Int))) := Lib.hid fun k h1 h2 => getD_mapLn hr hl h1 (by rw [hN]; exact h2)
    have HNL := Lib.hid hN
    generalize (mapL p held loc).map mkB = LL at *
    have HPL := Lib.hid (seats_plain (held := held) (loc := loc) hl)
    have HSL : RowKit.Hid (((placesL p.first p.last l).filter fun s => !decide (s ∈ p.bks)).length ≤ 600) := Lib.hid (Nat.le_trans (List.length_filter_le _ _) hpl.2)
    have HSOK : RowKit.Hid (∀ s ∈ ((placesL p.first p.last l).filter fun s => !decide (s ∈ p.bks)), okRow s.1) := Lib.hid fun s hs => by
      obtain ⟨rr, hrr, hs2⟩ := List.mem_flatMap.1 (List.mem_filter.1 hs).1
      obtain ⟨cc, _, rfl⟩ := List.mem_map.1 hs2
      obtain ⟨kk, hkk, rfl⟩ := List.mem_map.1 hrr
      have := List.mem_range.1 hkk
      exact WalkArith.wf_i64 (by show -9223372036854775808 ≤ p.first + (kk : Int) ∧ p.first + (kk : Int) ≤ 9223372036854775807; omega)
    generalize ((placesL p.first p.last l).filter fun s => !decide (s ∈ p.bks)) = SS at *
    have HRR : RowKit.Hid (1 ≤ p.first ∧ p.first ≤ p.last ∧ p.last ≤ 60 ∧ p.lets.size ≤ 200) := Lib.hid ⟨r1, r2, r3, hi1⟩
    have hNI : (N : Int) = p.last - p.first + 2 := by have := HNR.out; omega
    have hwa : IntKind.i64.wrap (p.last - p.first) = p.last - p.first := IntWalk.i64_in _ (by omega)
    have hwb : IntKind.i64.wrap (p.last - p.first + 2) = p.last - p.first + 2 := IntWalk.i64_in _ (by omega)
    have hne : ((N : Int) != p.last - p.first + 2) = false := by rw [hNI]; simp
    clear HMP2 HNW2 hr hl hpl r1 r2 r3 hN hNI
    go_enter Tryd.func8, Tryd.ntmps8
    go_upto_region 1 with fail
    try rw [hw1]
    clear hw1
    go_upto_region 9 with (first
      | (go_at_call 9; (with_reducible refine (HAW.out _ HB.out).mono ?_); rintro e w2 ⟨rfl, hb2⟩; have c2 := (HCX.out _ hb2).2.2.1; have c3 := (HCX.out _ hb2).2.2.2.1; have c4 := (HCX.out _ hb2).2.2.2.2; have hr2 := (HBL.out.mono hb2).range)
      | (refine wpList_load_mid rfl 53 (.tmp 3) rfl w.heap.size 0 rfl _ _ hr2 Tryd.underlying53 rfl info_plan2 ?_)
      | (go_at_call 26; (with_reducible refine (HN2.out _ (bel_trans HB.out hb2)).mono ?_); rintro e w3 ⟨⟨gm, rfl, hse⟩, hb3⟩; have HSE := Lib.hid hse; clear hse; have hb23 := bel_trans hb2 hb3; have hr3 := (HBL.out.mono hb23).range)
      | (refine wpList_load_mid rfl 53 (.tmp 3) rfl w.heap.size 0 rfl _ _ hr3 Tryd.underlying53 rfl info_plan2 ?_)
      | (go_at_call 16; (with_reducible refine (HM2.out _ (bel_trans HB.out hb23)).mono ?_); rintro e w4 ⟨⟨q4, d4, rfl, hll⟩, hb4⟩; have HLL := Lib.hid hll; clear hll))
    have HSE2 := Lib.hid (HSE.out w4 hb4)
    have HB4 := Lib.hid (bel_trans hb23 hb4)
    obtain ⟨e0, e1, e2, _, _⟩ := HCX.out _ HB4.out
    clear hb2 hb3 hb4 hb23 hr2 hr3 HSE c2 c3 c4 hg1 hg2 hg3 hg4 hi2 hi3 HAW HN2 HM2
    go_upto_block 0 with fail
    clear e0 e1 hwa hwb hne
    go_cut [10, 11, 12] from 70 to 110 (fun s10 s11 s12 wx => s10 = .int .i64 (K8 111 ((rowsL p.first p.last).flatMap (marksA p l held loc))) ∧ s11 = .int .i64 (K8 88 ((rowsL p.first p.last).flatMap (marksA p l held loc))) ∧ s12 = .int .i64 (K8 43 ((rowsL p.first p.last).flatMap (marksA p l held loc))) ∧ w4 = wx)
    case first =>
      go_wp2
      go_loopg [10, 11, 12, 13] (N - 1) (fun g0 s10 s11 s12 s13 wx => ∃ (k : Nat) (T : List UInt8), 1 ≤ k ∧ k ≤ N ∧ g0 = N - k ∧ s13 = .int .i64 (k : Int) ∧ s10 = .int .i64 (K8 111 T) ∧ s11 = .int .i64 (K8 88 T) ∧ s12 = .int .i64 (K8 43 T) ∧ RowKit.Hid (T = signsT p l held loc (k - 1) ∧ T.length ≤ 200 * (k - 1)) ∧ w4 = wx)
      case atStart => exact ⟨1, [], Nat.le_refl _, by have := HNR.out; omega, rfl, rfl, rfl, rfl, rfl, Lib.hid ⟨rfl, Nat.le_refl _⟩, rfl⟩
      case round =>
        obtain ⟨k, T, hk1, hkN, rfl, rfl, rfl, rfl, rfl, HT, rfl⟩ := hrel
        have hk61 : k ≤ 62 := by have := HRR.out; have := HNR.out; omega
        have hlz : p.lets.size ≤ 200 := HRR.out.2.2.2
        by_cases hk : k < N
        · have hkk : (k : Int) < (N : Int) := by omega
          have hk0 : (0 : Int) ≤ (k : Int) := by omega
          have hwk : IntKind.i64.wrap ((k : Int) + 1) = (k : Int) + 1 := IntWalk.i64_in _ (by omega)
          obtain ⟨bb, of2, nn2, cc2, he2, cs⟩ := text_at2 HLL.out (i := k) (by rw [HNL.out]; exact hk)
          injection he2 with f1 f2 f3
          subst f1
          subst f2
          subst f3
          have hS := HLN.out k hk1 hk
          generalize LL.getD k ByteArray.empty = S at cs hS
          have hr1 : 1 ≤ p.first + ((k - 1 : Nat) : Int) := by have := HRR.out; omega
          have hr2 : p.first + ((k - 1 : Nat) : Int) ≤ 60 := by have := HRR.out; have := HNR.out; omega
          have HSU := Lib.hid (signs_succ (p := p) (l := l) (held := held) (loc := loc) (i := k - 1) (by have := HNR.out; omega))
          rw [show k - 1 + 1 = k by omega] at HSU
          have hZ := row_size hr1 hr2 hS
          have HBY : RowKit.Hid (∀ m, 3 ≤ m → m < 3 + p.lets.size → S.data.toList.getD m 0 = (marksA p l held loc (p.first + ((k - 1 : Nat) : Int))).getD (m - 3) 0) := Lib.hid fun m h1 h2 => row_at_byte hr1 hr2 hS h1 h2
          have HML : RowKit.Hid ((marksA p l held loc (p.first + ((k - 1 : Nat) : Int))).length = p.lets.size) := Lib.hid (by unfold marksA; rw [List.length_map]; rfl)
          generalize marksA p l held loc (p.first + ((k - 1 : Nat) : Int)) = MK at *
          clear hS hr1 hr2
          have hw3 : IntKind.i64.wrap (3 + (p.lets.size : Int)) = 3 + (p.lets.size : Int) := IntWalk.i64_in _ (by omega)
          go_wp2
          go_loopg [10, 11, 12, 14] p.lets.size (fun g1 s10 s11 s12 s14 wx => ∃ (m : Nat) (T2 : List UInt8), 3 ≤ m ∧ m ≤ 3 + p.lets.size ∧ g1 = 3 + p.lets.size - m ∧ s14 = .int .i64 (m : Int) ∧ s10 = .int .i64 (K8 111 T2) ∧ s11 = .int .i64 (K8 88 T2) ∧ s12 = .int .i64 (K8 43 T2) ∧ RowKit.Hid (T2 = T ++ MK.take (m - 3)) ∧ w4 = wx)
          case atStart => exact ⟨3, T, Nat.le_refl _, by omega, by omega, rfl, rfl, rfl, rfl, Lib.hid (by simp), rfl⟩
          case round =>
            obtain ⟨m, T2, hm3, hmN, rfl, rfl, rfl, rfl, rfl, HT2, rfl⟩ := hrel
            have hTl : T2.length ≤ 13000 := by
              have h1 := HT.out.2
              have h2 := HT2.out
              have h3 := congrArg List.length h2
              rw [List.length_append, List.length_take] at h3
              have h4 : 200 * (k - 1) ≤ 200 * 61 := Nat.mul_le_mul_left _ (by omega)
              omega
            have hm0 : (0 : Int) ≤ (m : Int) := by omega
            have hwm : IntKind.i64.wrap ((m : Int) + 1) = (m : Int) + 1 := IntWalk.i64_in _ (by omega)
            by_cases hml : m < 3 + p.lets.size
            · have hmS : m < S.size := by omega
              have hms : (m : Int) < (S.size : Int) := by omega
              have hml2 : (m : Int) < 3 + (p.lets.size : Int) := by omega
              have hgl : (S[m]'hmS) = S.data.toList.getD m 0 := get_list S m hmS
              rw [HBY.out m hm3 hml] at hgl
              have HTK := Lib.hid (take_getD 0 (l := MK) (i := m - 3) (by rw [HML.out]; omega))
              rw [show m - 3 + 1 = m + 1 - 3 by omega] at HTK
              generalize MK.getD (m - 3) 0 = b at *
              have HT3 : RowKit.Hid (T2 ++ [b] = T ++ MK.take (m + 1 - 3)) := Lib.hid (by rw [HTK.out, HT2.out, List.append_assoc])
              have HK1 := K8_snoc 111 b T2
              have HK2 := K8_snoc 88 b T2
              have HK3 := K8_snoc 43 b T2
              have l1 := K8_le 111 T2
              have l2 := K8_le 88 T2
              have l3 := K8_le 43 T2
              have hw1 : IntKind.i64.wrap (K8 111 T2 + 1) = K8 111 T2 + 1 := IntWalk.i64_in _ (by omega)
              have hw2 : IntKind.i64.wrap (K8 88 T2 + 1) = K8 88 T2 + 1 := IntWalk.i64_in _ (by omega)
              have hw4 : IntKind.i64.wrap (K8 43 T2 + 1) = K8 43 T2 + 1 := IntWalk.i64_in _ (by omega)
              generalize T2 ++ [b] = T3 at *
              generalize K8 111 T2 = a1 at *
              generalize K8 88 T2 = a2 at *
              generalize K8 43 T2 = a3 at *
              clear HTK l1 l2 l3 hTl
              by_cases hb : b.toNat = 111
              · have hb111 : ((b.toNat : Int) == 111) = true := by rw [hb]; rfl
                rw [if_pos (show b = 111 from UInt8.toNat_inj.1 hb)] at HK1
                have hb88 : ((b.toNat : Int) == 88) = false := by rw [beq_eq_false_iff_ne]; rw [hb]; decide
                rw [if_neg (fun e : b = 88 => by rw [e] at hb; exact absurd hb (by decide)), Int.add_zero] at HK2
                have hb43 : ((b.toNat : Int) == 43) = false := by rw [beq_eq_false_iff_ne]; rw [hb]; decide
                rw [if_neg (fun e : b = 43 => by rw [e] at hb; exact absurd hb (by decide)), Int.add_zero] at HK3
                have HKK := Lib.hid (And.intro HK1 (And.intro HK2 HK3))
                clear HK1 HK2 HK3
                go_wp2
                go_roundg (3 + p.lets.size - (m + 1))
                case measure => omega
                case rel => exact ⟨m + 1, T3, by omega, by omega, rfl, by go_num, by rw [HKK.out.1], by rw [HKK.out.2.1], by rw [HKK.out.2.2], HT3, rfl⟩
              have n111 : ¬ b.toNat = 111 := hb
              clear hb
              by_cases hb : b.toNat = 88
              · have hb111 : ((b.toNat : Int) == 111) = false := by rw [beq_eq_false_iff_ne]; rw [hb]; decide
                rw [if_neg (fun e : b = 111 => by rw [e] at hb; exact absurd hb (by decide)), Int.add_zero] at HK1
                have hb88 : ((b.toNat : Int) == 88) = true := by rw [hb]; rfl
                rw [if_pos (show b = 88 from UInt8.toNat_inj.1 hb)] at HK2
                have hb43 : ((b.toNat : Int) == 43) = false := by rw [beq_eq_false_iff_ne]; rw [hb]; decide
                rw [if_neg (fun e : b = 43 => by rw [e] at hb; exact absurd hb (by decide)), Int.add_zero] at HK3
                have HKK := Lib.hid (And.intro HK1 (And.intro HK2 HK3))
                clear HK1 HK2 HK3
                go_wp2
                go_roundg (3 + p.lets.size - (m + 1))
                case measure => omega
                case rel => exact ⟨m + 1, T3, by omega, by omega, rfl, by go_num, by rw [HKK.out.1], by rw [HKK.out.2.1], by rw [HKK.out.2.2], HT3, rfl⟩
              have n88 : ¬ b.toNat = 88 := hb
              clear hb
              by_cases hb : b.toNat = 43
              · have hb111 : ((b.toNat : Int) == 111) = false := by rw [beq_eq_false_iff_ne]; rw [hb]; decide
                rw [if_neg (fun e : b = 111 => by rw [e] at hb; exact absurd hb (by decide)), Int.add_zero] at HK1
                have hb88 : ((b.toNat : Int) == 88) = false := by rw [beq_eq_false_iff_ne]; rw [hb]; decide
                rw [if_neg (fun e : b = 88 => by rw [e] at hb; exact absurd hb (by decide)), Int.add_zero] at HK2
                have hb43 : ((b.toNat : Int) == 43) = true := by rw [hb]; rfl
                rw [if_pos (show b = 43 from UInt8.toNat_inj.1 hb)] at HK3
                have HKK := Lib.hid (And.intro HK1 (And.intro HK2 HK3))
                clear HK1 HK2 HK3
                go_wp2
                go_roundg (3 + p.lets.size - (m + 1))
                case measure => omega
                case rel => exact ⟨m + 1, T3, by omega, by omega, rfl, by go_num, by rw [HKK.out.1], by rw [HKK.out.2.1], by rw [HKK.out.2.2], HT3, rfl⟩
              have n43 : ¬ b.toNat = 43 := hb
              clear hb
              have hb111 : ((b.toNat : Int) == 111) = false := by rw [beq_eq_false_iff_ne]; omega
              rw [if_neg (fun e : b = 111 => by rw [e] at n111; exact n111 rfl), Int.add_zero] at HK1
              have hb88 : ((b.toNat : Int) == 88) = false := by rw [beq_eq_false_iff_ne]; omega
              rw [if_neg (fun e : b = 88 => by rw [e] at n88; exact n88 rfl), Int.add_zero] at HK2
              have hb43 : ((b.toNat : Int) == 43) = false := by rw [beq_eq_false_iff_ne]; omega
              rw [if_neg (fun e : b = 43 => by rw [e] at n43; exact n43 rfl), Int.add_zero] at HK3
              have HKK := Lib.hid (And.intro HK1 (And.intro HK2 HK3))
              clear HK1 HK2 HK3
              go_wp2
              go_roundg (3 + p.lets.size - (m + 1))
              case measure => omega
              case rel => exact ⟨m + 1, T3, by omega, by omega, rfl, by go_num, by rw [HKK.out.1], by rw [HKK.out.2.1], by rw [HKK.out.2.2], HT3, rfl⟩
            · have hme : m = 3 + p.lets.size := by omega
              have hml2 : ¬ (m : Int) < 3 + (p.lets.size : Int) := by omega
              have HT4 : RowKit.Hid (T2 = signsT p l held loc k) := Lib.hid (by
                rw [HT2.out, HSU.out, HT.out.1, List.take_of_length_le (by rw [HML.out]; omega)])
              have hTl2 : T2.length ≤ 200 * k := by
                have h1 := HT.out.2
                have h2 := HT2.out
                have h3 := congrArg List.length h2
                have h5 := HML.out
                rw [List.length_append, List.length_take] at h3
                have h4 : 200 * (k - 1) + 200 = 200 * k := by omega
                omega
              have HTL2 := Lib.hid hTl2
              clear hTl2 hTl hme
              by_cases hmS : m < S.size
              · have hms : (m : Int) < (S.size : Int) := by omega
                clear hmS
                go_wp2
                go_roundg (N - (k + 1))
                case measure => omega
                case rel => exact ⟨k + 1, T2, by omega, by omega, rfl, by go_num, rfl, rfl, rfl, Lib.hid ⟨HT4.out, HTL2.out⟩, rfl⟩
              · have hms : ¬ (m : Int) < (S.size : Int) := by omega
                clear hmS
                go_wp2
                go_roundg (N - (k + 1))
                case measure => omega
                case rel => exact ⟨k + 1, T2, by omega, by omega, rfl, by go_num, rfl, rfl, rfl, Lib.hid ⟨HT4.out, HTL2.out⟩, rfl⟩
        · have hke : k = N := by omega
          have hkk : ¬ (k : Int) < (N : Int) := by omega
          have HTE : RowKit.Hid (T = (rowsL p.first p.last).flatMap (marksA p l held loc)) := Lib.hid (by
            rw [HT.out.1]
            unfold signsT
            rw [List.take_of_length_le (by rw [rowsL_len]; have := HNR.out; omega)])
          go_wp2
          go_meet
          exact ⟨by rw [HTE.out], by rw [HTE.out], by rw [HTE.out], rfl⟩
    case rest =>
      obtain ⟨g10, g11, g12, hww⟩ := hcut
      subst g10
      subst g11
      subst g12
      subst hww
      have HA : RowKit.Hid (0 ≤ K8 111 ((rowsL p.first p.last).flatMap (marksA p l held loc)) ∧ 0 ≤ K8 88 ((rowsL p.first p.last).flatMap (marksA p l held loc)) ∧ 0 ≤ K8 43 ((rowsL p.first p.last).flatMap (marksA p l held loc))) := Lib.hid ⟨(K8_le _ _).1, (K8_le _ _).1, (K8_le _ _).1⟩
      generalize K8 111 ((rowsL p.first p.last).flatMap (marksA p l held loc)) = A1 at *
      generalize K8 88 ((rowsL p.first p.last).flatMap (marksA p l held loc)) = A2 at *
      generalize K8 43 ((rowsL p.first p.last).flatMap (marksA p l held loc)) = A3 at *
      go_upto_region 27 with (first
        | (go_at_call 27; (with_reducible refine (HSE2.out).mono ?_); rintro e w5 ⟨⟨v5, rfl, ho5⟩, hb5⟩; obtain ⟨q5, c5, rfl⟩ := (OwnS.has ho5).len))
      have HS5 := Lib.hid (OwnS.has ho5)
      have HW5 : RowKit.Hid (Below w1.heap.size w1 w5) := Lib.hid (bel_trans HB4.out hb5)
      obtain ⟨NS, hNS⟩ : ∃ n, SS.length = n := ⟨_, rfl⟩
      rw [hNS] at HS5 HPL HSL ⊢
      have HNS := Lib.hid hNS
      clear ho5 hb5 hNS HSE2 e2
      go_upto_block 5 with fail
      go_cut [16, 17] from 113 to 146 (fun s16 s17 wx => s16 = .int .i64 ((SS.countP (wantB held) : Nat) : Int) ∧ s17 = .int .i64 ((SS.countP (ownB held loc) : Nat) : Int) ∧ Below w5.heap.size w5 wx)
      case first =>
        go_wp2
        go_loopg [16, 17, 18] NS (fun g0 s16 s17 s18 wr => ∃ n : Nat, n ≤ NS ∧ g0 = NS - n ∧ s18 = .int .i64 (n : Int) ∧ s16 = .int .i64 (((SS.take n).countP (wantB held) : Nat) : Int) ∧ s17 = .int .i64 (((SS.take n).countP (ownB held loc) : Nat) : Int) ∧ Below w5.heap.size w5 wr)
        case atStart => exact ⟨0, Nat.zero_le _, rfl, rfl, rfl, rfl, Below.refl _ _⟩
        case round =>
          obtain ⟨n, hnN, rfl, rfl, rfl, rfl, hbw⟩ := hrel
          rename World => wr
          have HBW := Lib.hid hbw
          have hsl := HSL.out
          by_cases hn : n < NS
          · have hnn : (n : Int) < (NS : Int) := by omega
            have hn0 : (0 : Int) ≤ (n : Int) := by omega
            have hnl : n < SS.length := by rw [HNS.out]; exact hn
            have hwn : IntKind.i64.wrap ((n : Int) + 1) = (n : Int) + 1 := IntWalk.i64_in _ (by omega)
            obtain ⟨bs, os, rfl, _, _, _⟩ := st_at (HS5.out.mono hbw) hnl
            have HST : RowKit.Hid (∀ W, Below w5.heap.size w5 W → W.cell? ⟨bs, os + n * 2, none⟩ = some (.int .i64 (SS.getD n st0).1) ∧ W.cell? ⟨bs, os + n * 2 + 1, none⟩ = some (.int .u8 (SS.getD n st0).2.toNat)) := Lib.hid fun W hW => by
              obtain ⟨b', o', e', _, y0, y1⟩ := st_at (HS5.out.mono hW) hnl
              injection e' with e'
              injection e' with e1 e2 e3
              subst e1
              subst e2
              exact ⟨y0, y1⟩
            have HSO := Lib.hid (HSOK.out _ (List.mem_of_getElem? (getD_at st0 hnl)))
            have HTK := Lib.hid (take_getD st0 hnl)
            have hca : (SS.take n).countP (wantB held) ≤ n := by
              have := List.countP_le_length (p := wantB held) (l := SS.take n)
              rw [List.length_take] at this
              omega
            have hcb : (SS.take n).countP (ownB held loc) ≤ n := by
              have := List.countP_le_length (p := ownB held loc) (l := SS.take n)
              rw [List.length_take] at this
              omega
            have HCA : RowKit.Hid ((SS.take (n + 1)).countP (wantB held) = (SS.take n).countP (wantB held) + (if wantB held (SS.getD n st0) = true then 1 else 0) ∧ (SS.take (n + 1)).countP (ownB held loc) = (SS.take n).countP (ownB held loc) + (if ownB held loc (SS.getD n st0) = true then 1 else 0)) := Lib.hid (by
              rw [HTK.out, List.countP_append, List.countP_append, List.countP_singleton, List.countP_singleton]
              exact ⟨rfl, rfl⟩)
            generalize SS.getD n st0 = s at *
            generalize (SS.take n).countP (wantB held) = ca at *
            generalize (SS.take n).countP (ownB held loc) = cb' at *
            obtain ⟨r, c⟩ := s
            simp only at HST
            have hwa1 : IntKind.i64.wrap ((ca : Int) + 1) = (ca : Int) + 1 := IntWalk.i64_in _ (by omega)
            have hwb1 : IntKind.i64.wrap ((cb' : Int) + 1) = (cb' : Int) + 1 := IntWalk.i64_in _ (by omega)
            have HWN : RowKit.Hid (∀ i, i = held.length → (∀ j, j < i → (held.getD j hl0).1 ≠ (r, c)) → whoH held (r, c) = none) := Lib.hid fun i h1 h2 => who_none h1 h2
            have HWF : RowKit.Hid (∀ i, i < held.length → (∀ j, j < i → (held.getD j hl0).1 ≠ (r, c)) → (held.getD i hl0).1 = (r, c) → whoH held (r, c) = some (held.getD i hl0)) := Lib.hid fun i h1 h2 h3 => who_first h1 h2 h3
            clear HTK hca hcb hbw
            go_upto_block 6 with fail
            go_cut [16, 17] from 119 to 146 (fun s16 s17 wx => s16 = .int .i64 ((ca + (if wantB held (r, c) = true then 1 else 0) : Nat) : Int) ∧ s17 = .int .i64 ((cb' + (if ownB held loc (r, c) = true then 1 else 0) : Nat) : Int) ∧ Below w5.heap.size w5 wx)
            case first =>
              go_wp2
              go_loopg [16, 17, 19] NH (fun g1 s16 s17 s19 wx => ∃ k : Nat, k ≤ NH ∧ g1 = NH - k ∧ s19 = .int .i64 (k : Int) ∧ s16 = .int .i64 (ca : Int) ∧ s17 = .int .i64 (cb' : Int) ∧ Below w5.heap.size w5 wx ∧ RowKit.Hid (∀ j, j < k → (held.getD j hl0).1 ≠ (r, c)))
              case atStart => exact ⟨0, Nat.zero_le _, rfl, rfl, rfl, rfl, HBW.out, Lib.hid fun j hj => absurd hj (Nat.not_lt_zero _)⟩
              case round =>
                obtain ⟨k, hkN, rfl, rfl, rfl, rfl, hbv, HNO⟩ := hrel
                rename World => wv
                have HBV := Lib.hid hbv
                clear hbv
                by_cases hk : k < NH
                · have hkk : (k : Int) < (NH : Int) := by omega
                  have hk0 : (0 : Int) ≤ (k : Int) := by omega
                  have hkl : k < held.length := by rw [HNH.out]; exact hk
                  have hwk : IntKind.i64.wrap ((k : Int) + 1) = (k : Int) + 1 := IntWalk.i64_in _ (by omega)
                  obtain ⟨bb, of2, rfl, y0, y1, y2, y3⟩ := he_at (HHH.out.mono (bel_trans HB.out (bel_trans HW5.out HBV.out))) hkl
                  have HFX : RowKit.Hid ((held.getD k hl0).1 = (r, c) → whoH held (r, c) = some (held.getD k hl0)) := Lib.hid fun h => HWF.out k hkl HNO.out h
                  have HNX : RowKit.Hid (¬ (held.getD k hl0).1 = (r, c) → ∀ j, j < k + 1 → (held.getD j hl0).1 ≠ (r, c)) := Lib.hid fun h j hj => by
                    rcases Nat.lt_or_ge j k with h1 | h1
                    · exact HNO.out j h1
                    · have : j = k := by omega
                      subst this
                      exact h
                  have HOX := Lib.hid (HOK.out _ (List.mem_of_getElem? (getD_at hl0 hkl)))
                  generalize held.getD k hl0 = x at *
                  obtain ⟨⟨xr, xc⟩, xl, xp⟩ := x
                  simp only at y0 y1 y2 y3
                  obtain ⟨x0, x1⟩ := HST.out wv HBV.out
                  have heq := st_eq (xr, xc) (r, c) HOX.out HSO.out
                  simp only at heq
                  go_upto_region 33 with fail
                  by_cases hse : (xr, xc) = (r, c)
                  · have hed : decide ((xr, xc) = (r, c)) = true := decide_eq_true hse
                    rw [hed] at heq
                    have HWH := Lib.hid (HFX.out hse)
                    have HWB : RowKit.Hid (wantB held (r, c) = true) := Lib.hid (by unfold wantB; rw [HWH.out]; rfl)
                    clear hse hed HNX HFX
                    by_cases hlo2 : xl = loc
                    · have hle : (xl.toList == loc.toList) = true := by rw [hlo2]; exact beq_self_eq_true _
                      have HOB : RowKit.Hid (ownB held loc (r, c) = true) := Lib.hid (by unfold ownB hoOf; rw [HWH.out]; simp [hlo2])
                      clear hlo2 HWH
                      go_quiet (fail)
                      go_wp2
                      go_meet
                      exact ⟨by rw [if_pos HWB.out]; push_cast; rfl, by rw [if_pos HOB.out]; push_cast; rfl, by first | exact below_drewN HBV.out _ | exact HBV.out⟩
                    · have hle : (xl.toList == loc.toList) = false := by rw [beq_eq_false_iff_ne]; exact fun e => hlo2 (toList_inj e)
                      have HOB : RowKit.Hid (ownB held loc (r, c) = false) := Lib.hid (by unfold ownB hoOf; rw [HWH.out]; simp [hlo2])
                      clear hlo2 HWH
                      go_quiet (fail)
                      go_wp2
                      go_meet
                      exact ⟨by rw [if_pos HWB.out]; push_cast; rfl, by rw [HOB.out]; rfl, by first | exact below_drewN HBV.out _ | exact HBV.out⟩
                  · have hed : decide ((xr, xc) = (r, c)) = false := decide_eq_false hse
                    rw [hed] at heq
                    have HNN := Lib.hid (HNX.out hse)
                    clear hse hed HNX HFX
                    go_quiet (fail)
                    go_wp2
                    go_roundg (NH - (k + 1))
                    case measure => omega
                    case rel => exact ⟨k + 1, by omega, rfl, by go_num, rfl, rfl, by first | exact below_drewN HBV.out _ | exact HBV.out, HNN⟩
                · have hke : k = NH := by omega
                  have hkk : ¬ (k : Int) < (NH : Int) := by omega
                  have HWH := Lib.hid (HWN.out k (by rw [HNH.out]; exact hke) HNO.out)
                  have HWB : RowKit.Hid (wantB held (r, c) = false) := Lib.hid (by unfold wantB; rw [HWH.out]; rfl)
                  have HOB : RowKit.Hid (ownB held loc (r, c) = false) := Lib.hid (by unfold ownB; rw [HWH.out]; rfl)
                  go_wp2
                  go_meet
                  exact ⟨by rw [HWB.out]; rfl, by rw [HOB.out]; rfl, HBV.out⟩
            case rest =>
              obtain ⟨g16, g17, hbx⟩ := hcut
              rename World => wx
              generalize ca + (if wantB held (r, c) = true then 1 else 0) = VA at *
              generalize cb' + (if ownB held loc (r, c) = true then 1 else 0) = VB at *
              subst g16
              subst g17
              have HBX := Lib.hid hbx
              go_wp2
              go_roundg (NS - (n + 1))
              case measure => omega
              case rel => exact ⟨n + 1, by omega, rfl, by go_num, by rw [HCA.out.1], by rw [HCA.out.2], HBX.out⟩
          · have hne2 : n = NS := by omega
            have hnn : ¬ (n : Int) < (NS : Int) := by omega
            have HTA : RowKit.Hid (SS.take n = SS) := Lib.hid (List.take_of_length_le (by rw [HNS.out]; omega))
            clear hne2
            go_wp2
            go_meet
            exact ⟨by rw [HTA.out], by rw [HTA.out], HBW.out⟩
      case rest =>
        obtain ⟨g16, g17, hbx⟩ := hcut
        subst g16
        subst g17
        obtain ⟨m1, m2, m3⟩ := HPL.out
        obtain ⟨n1, n2, n3⟩ := HA.out
        have hsl := HSL.out
        generalize ((SS.countP (wantB held) : Nat) : Int) = CW at *
        generalize ((SS.countP (ownB held loc) : Nat) : Int) = CO at *
        have hx1 : IntKind.i64.wrap (A1 + A2) = A1 + A2 := IntWalk.i64_in _ (by omega)
        have hx2 : IntKind.i64.wrap (A1 + A2 + A3) = A1 + A2 + A3 := IntWalk.i64_in _ (by omega)
        have hx3 : IntKind.i64.wrap (A2 + A3) = A2 + A3 := IntWalk.i64_in _ (by omega)
        have hy1 : ((A1 + A2 + A3) == (NS : Int)) = true := by rw [beq_iff_eq]; exact m1
        have hy2 : ((A2 + A3) == CW) = true := by rw [beq_iff_eq]; exact m2
        have hy3 : (A3 == CO) = true := by rw [beq_iff_eq]; exact m3
        have HYY := Lib.hid (bel_trans HB.out (bel_trans HW5.out hbx))
        clear m1 m2 m3 n1 n2 n3 HPL HA hbx
        go_wp2
        go_ret
        exact ⟨rfl, HYY.out⟩
end Go.Proofs.YtahghakpmjfefaaDoor.Sh
