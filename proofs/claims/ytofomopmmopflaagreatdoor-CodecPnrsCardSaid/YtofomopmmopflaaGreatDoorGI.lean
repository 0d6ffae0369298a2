/- The reference's seats of a PNR. -/
import Derived.Test.YtofomopmmopflaaGreatDoorMA
import Derived.Test.YtofomopmmopflaaGreatDoorMB
import Derived.Test.YtofomopmmopflaaGreatDoorMC
import Derived.Test.YtofomopmmopflaaGreatDoorMD
import Derived.Test.YtofomopmmopflaaGreatDoorME
import Derived.Test.YtofomopmmopflaaGreatDoorFI
import Derived.Test.YtofomopmmopflaaGreatDoorFN
import Derived.Test.YtofomopmmopflaaGreatDoorGB
import Derived.Test.YtofomopmmopflaaGreatDoorGH
import Derived.Test.YtofomopmmopflaaGreatDoorRows
import Derived.WalkKit
import Derived.WalkSpells
import Derived.WalkLawsBesides
import Derived.Lib.ConvBytes
import Derived.Lib.Hide
import Derived.Lib.SliceRun
import Derived.IntWalk
import Derived.BigQuiet
import Derived.Deep.QuietTactic
import Derived.Deep.RegionWith
import Derived.Deep.RegionHeld3
import Derived.Deep.LoopGhost
import Derived.Deep.CutRange
import Derived.Deep.CutBlock
import Derived.Deep.MidRow
import Derived.Laws.OwnMore
import Derived.OwnWalk
import Derived.Laws.AppendOwnNone
import Derived.Laws.Rows
import Derived.Laws.MakeOwn
import Derived.Laws.CopyOwn
import Derived.Laws.BitsAllLaws
import Derived.DeepKeys5
import Derived.Maps.OwnOps
import Derived.Handy
import Derived.Lib.AppendStr
import Derived.StillTailTactics
import Derived.Deep.AppendLies
namespace Go.Proofs.YtofomopmmopflaaGreatDoor
open Go.RowKit Go.ChangeMaps
set_option linter.unusedSimpArgs false
set_option linter.unusedVariables false
set_option maxRecDepth 20000

def okPair (y x : PlaceT) : Prop := lowP y x ∧ seatK y ≠ seatK x
def refOk (segs : List SegT) (nn : Nat) (l : List PlaceT) : Prop := ∀ (i : Nat) (x : PlaceT), l[i]? = some x → placeOk segs nn x ∧ ∀ (k : Nat) (y : PlaceT), k < i → l[k]? = some y → okPair y x

theorem low_all {segs : List SegT} {nn : Nat} {l : List PlaceT} (h : Rise (placeOk segs nn) lowP l) : ∀ (d k : Nat) (y x : PlaceT), l[k]? = some y → l[k + d + 1]? = some x → lowP y x
  | 0, k, y, x, hy, hx => (h (k + 0 + 1) x hx).2 y (Nat.succ_pos _) hy
  | d + 1, k, y, x, hy, hx => by
    have hlt : k + d + 1 < l.length := by
      have := (List.getElem?_eq_some_iff.1 hx).1
      omega
    have hz : l[k + d + 1]? = some l[k + d + 1] := List.getElem?_eq_getElem hlt
    have h1 := low_all h d k y _ hy hz
    have h2 := (h (k + (d + 1) + 1) x hx).2 l[k + d + 1] (Nat.succ_pos _) hz
    unfold lowP at h1 h2 ⊢
    omega

theorem refOk_iff {segs : List SegT} {nn : Nat} {l : List PlaceT} : refOk segs nn l ↔ Rise (placeOk segs nn) lowP l ∧ (l.map seatK).Nodup := by
  constructor
  · intro h
    refine ⟨fun i x hx => ⟨(h i x hx).1, fun y h0 hy => ((h i x hx).2 (i - 1) y (by omega) hy).1⟩, ?_⟩
    rw [List.nodup_iff_pairwise_ne, List.pairwise_map, List.pairwise_iff_getElem]
    intro k i hk hi hki
    exact ((h i l[i] (List.getElem?_eq_getElem hi)).2 k l[k] hki (List.getElem?_eq_getElem hk)).2
  · rintro ⟨h1, h2⟩ i x hx
    refine ⟨(h1 i x hx).1, fun k y hk hy => ⟨?_, ?_⟩⟩
    · obtain ⟨d, rfl⟩ : ∃ d, i = k + d + 1 := ⟨i - k - 1, by omega⟩
      exact low_all h1 d k y x hy hx
    · rw [List.nodup_iff_pairwise_ne, List.pairwise_map, List.pairwise_iff_getElem] at h2
      obtain ⟨hi, e1⟩ := List.getElem?_eq_some_iff.1 hx
      obtain ⟨hk', e2⟩ := List.getElem?_eq_some_iff.1 hy
      rw [← e1, ← e2]
      exact h2 k i hk' hi hk

open Classical in
noncomputable def placesS (segs : List SegT) (nn : Nat) (l : List PlaceT) : Bool := decide (Rise (placeOk segs nn) lowP l ∧ (l.map seatK).Nodup)
theorem placesS_yes {segs : List SegT} {nn : Nat} {l : List PlaceT} (h : Rise (placeOk segs nn) lowP l ∧ (l.map seatK).Nodup) : placesS segs nn l = true := by unfold placesS; simp [h]
theorem placesS_no {segs : List SegT} {nn : Nat} {l : List PlaceT} (h : ¬ (Rise (placeOk segs nn) lowP l ∧ (l.map seatK).Nodup)) : placesS segs nn l = false := by unfold placesS; simp only [h]; rfl

set_option maxHeartbeats 16000000 in
theorem refSeats_any (p : PnrT) (vn vs vp vr vx : Value) (w : World) (hn : HasE nameC w vn p.names) (hs : HasE segC w vs p.segs) (hx : HasE placeC w vx p.seats) (hw : ∀ x ∈ p.seats, (Lit.int .i64 x.seg).wf = true) (h1 : p.names.length ≤ 1000) (h2 : p.segs.length ≤ 1000) (h3 : p.seats.length ≤ 1000) :
    Calls Tryz.prog 64 #[.agg (pnrC p vn vs vp vr vx).toArray] w fun e w' => e = .returned (.bool (placesS p.segs p.names.length p.seats)) ∧ Below w.heap.size w w' := by
  obtain ⟨pn, cn, rfl⟩ := hn.len
  obtain ⟨px, cx, rfl⟩ := hx.len
  have HIL : RowKit.Hid (∀ W n, Below w.heap.size w W → (Lit.int .i64 n).wf = true → Calls Tryz.prog 92 #[.agg (pnrC p (.slice pn p.names.length cn) vs vp vr (.slice px p.seats.length cx)).toArray, .int .i64 n] W fun e w' => e = .returned (.bool (liveS p.segs n)) ∧ Below W.heap.size W w') := Lib.hid fun W n hb hwf => isLive_any p _ vs vp vr _ n W hwf (hs.mono hb) h2
  have hbk := Blk.new w 29 (pnrC p (.slice pn p.names.length cn) vs vp vr (.slice px p.seats.length cx))
  have hb1 : Below w.heap.size w (w.alloc (.cells (pnrC p (.slice pn p.names.length cn) vs vp vr (.slice px p.seats.length cx)).toArray 29)) := (Below.refl _ _).alloc (Nat.le_refl _) _
  have HX := Lib.hid (hx.mono hb1)
  obtain ⟨loc, off, names, segs, phones, tk, td, tm, recv, remarks, seats, queued⟩ := p
  unfold pnrC at hbk hb1 HX HIL ⊢
  simp only at hbk hb1 hs hx h1 h2 h3 hw HX HIL ⊢
  have HBK := Lib.hid hbk
  have HB := Lib.hid hb1
  have HW := Lib.hid hw
  have HYES : RowKit.Hid (refOk segs names.length seats → placesS segs names.length seats = true) := Lib.hid fun h => placesS_yes (refOk_iff.1 h)
  have HNO : RowKit.Hid (¬ refOk segs names.length seats → placesS segs names.length seats = false) := Lib.hid fun h => placesS_no fun k => h (refOk_iff.2 k)
  generalize placesS segs names.length seats = sb at *
  have HLV : RowKit.Hid (∀ n, liveS segs n = true → liveAt segs n) := Lib.hid fun n h => by
    by_cases k : liveAt segs n
    · exact k
    · rw [liveS_no k] at h; cases h
  have HLN : RowKit.Hid (∀ n, liveS segs n = false → ¬ liveAt segs n) := Lib.hid fun n h k => by rw [liveS_yes k] at h; cases h
  generalize hNN : names.length = NN at *
  generalize hM : seats.length = M at *
  have HM := Lib.hid hM
  clear hbk hb1 hs hx hw hM hn hNN
  go_enter Tryz.func64, Tryz.ntmps64
  go_upto_region 1 with fail
  generalize w.alloc (.cells #[.string loc, .string off, .slice pn NN cn, vs, vp, .int .i64 tk, .int .i64 td, .int .i64 tm, .string recv, vr, .slice px M cx, .bool queued] 29) = w1 at *
  have c8 : w1.cell? ⟨w.heap.size, 10, none⟩ = some (.slice px M cx) := (HBK.out.cell 10).trans rfl
  go_wp2
  go_loopg [3] M (fun g0 s3 wr => ∃ i : Nat, i ≤ M ∧ g0 = M - i ∧ s3 = .int .i64 (i : Int) ∧ refOk segs NN (seats.take i) ∧ Below w1.heap.size w1 wr)
  case atStart => exact ⟨0, Nat.zero_le _, rfl, rfl, (fun j x h => by simp at h), Below.refl _ _⟩
  case round =>
    obtain ⟨i, hiM, rfl, rfl, hok, hbw⟩ := hrel
    have HOK := Lib.hid hok
    clear hok
    have d8 := cell_bel hbw c8
    by_cases hlt : i < M
    · have hii : (i : Int) < (M : Int) := by omega
      have hi0 : (0 : Int) ≤ (i : Int) := by omega
      have hiM2 : i < seats.length := by rw [HM.out]; exact hlt
      obtain ⟨bb, off2, rfl, hr, _, _, _, _⟩ := place_at (HX.out.mono hbw) hiM2
      have hwf := HW.out _ (List.mem_of_getElem? (getD_at pl0 hiM2))
      have HXI := Lib.hid (getD_at pl0 hiM2)
      generalize seats.getD i pl0 = x at *
      obtain ⟨sg, pa, row, c⟩ := x
      simp only at hwf
      go_upto_region 5 with (first
        | (refine wpList_load_mid rfl 73 _ rfl bb (off2 + i * 4) rfl (placeC ⟨sg, pa, row, c⟩) _ hr Tryz.underlying73 rfl info_place ?_)
        | (refine wpList_store_blk rfl 73 (.tmp 4) (.tmp 18) rfl wr.heap.size 73 (placeC pl0) (placeC ⟨sg, pa, row, c⟩) rfl rfl (Blk.new wr 73 (placeC pl0)) rfl info_place (placeC_one _) ?_; intro w8 ha8 hb8 hgr8))
      dsimp only [Act.put]
      have hal : Below wr.heap.size wr (wr.alloc (.cells (placeC pl0).toArray 73)) := (Below.refl _ _).alloc (Nat.le_refl _) _
      have hb38 := hbw.trans ((hal.trans hb8).mono hbw.size)
      have HA8 := Lib.hid ha8
      have hpr := (HBK.out.mono hb38).range
      have HTX : RowKit.Hid (∀ W, Calls Tryz.prog 93 #[.agg #[.int .i64 row, .int .u8 c.toNat]] W fun e w' => e = .returned (.string (seatT row c)) ∧ Below W.heap.size W w') := Lib.hid fun W => refText_any row c W
      have hse := seatT_empty (r := row) (c := c)
      generalize seatT row c = st at *
      have hb08 := below_w HB.out hb38
      have HLVk := Lib.hid (HLV.out sg)
      have HLNk := Lib.hid (HLN.out sg)
      have HILk := Lib.hid (HIL.out w8 sg hb08 hwf)
      clear hr ha8 hb8 hbw hal hgr8 d8 hwf
      have HBAD : RowKit.Hid (¬ placeOk segs NN ⟨sg, pa, row, c⟩ → sb = false) := Lib.hid fun h => HNO.out fun k => h (k i _ HXI.out).1
      have t0 : w8.cell? ⟨wr.heap.size, 0, none⟩ = some (.int .i64 sg) := (HA8.out.cell 0).trans rfl
      cases hlv : liveS segs sg with
      | false =>
        have HF := Lib.hid (HBAD.out fun h => HLNk.out hlv h.1)
        rw [hlv] at HILk
        clear hlv
        go_wp2_with (first
          | (refine wpList_load_mid rfl 29 (.tmp 1) rfl w.heap.size 0 rfl _ _ hpr Tryz.underlying29 rfl info_pnr ?_)
          | (go_at_call 92; (with_reducible refine HILk.out.mono ?_); rintro e w9 ⟨rfl, hb9⟩))
        go_ret
        exact ⟨ret_bool HF.out.symm, below_low hb08 hb08.size hb9⟩
      | true =>
        have HLA := Lib.hid (HLVk.out hlv)
        rw [hlv] at HILk
        clear hlv
        have t1 : ∀ W, Below w8.heap.size w8 W → W.cell? ⟨wr.heap.size, 1, none⟩ = some (.int .i64 pa) := fun W h => ((HA8.out.mono h).cell 1).trans rfl
        have T1 := Lib.hid t1
        have T2 : RowKit.Hid (∀ W, Below w8.heap.size w8 W → W.cell? ⟨wr.heap.size, 2, none⟩ = some (.int .i64 row) ∧ W.cell? ⟨wr.heap.size, 3, none⟩ = some (.int .u8 c.toNat) ∧ W.cell? ⟨w.heap.size, 2, none⟩ = some (.slice pn NN cn)) := Lib.hid fun W h => ⟨((HA8.out.mono h).cell 2).trans rfl, ((HA8.out.mono h).cell 3).trans rfl, ((HBK.out.mono (hb38.trans (h.mono hb38.size))).cell 2).trans rfl⟩
        clear t1
        by_cases hp1 : pa < 1
        · have HF := Lib.hid (HBAD.out fun h => by have := h.2.1.1; simp only at this; omega)
          go_wp2_with (first
            | (refine wpList_load_mid rfl 29 (.tmp 1) rfl w.heap.size 0 rfl _ _ hpr Tryz.underlying29 rfl info_pnr ?_)
            | (go_at_call 92; (with_reducible refine HILk.out.mono ?_); rintro e w9 ⟨rfl, hb9⟩; have u1 := T1.out w9 hb9; obtain ⟨u2, u3, u4⟩ := T2.out w9 hb9))
          go_ret
          exact ⟨ret_bool HF.out.symm, below_low hb08 hb08.size hb9⟩
        by_cases hp2 : (NN : Int) < pa
        · have HF := Lib.hid (HBAD.out fun h => by have := h.2.1.2; simp only at this; omega)
          go_wp2_with (first
            | (refine wpList_load_mid rfl 29 (.tmp 1) rfl w.heap.size 0 rfl _ _ hpr Tryz.underlying29 rfl info_pnr ?_)
            | (go_at_call 92; (with_reducible refine HILk.out.mono ?_); rintro e w9 ⟨rfl, hb9⟩; have u1 := T1.out w9 hb9; obtain ⟨u2, u3, u4⟩ := T2.out w9 hb9))
          go_ret
          exact ⟨ret_bool HF.out.symm, below_low hb08 hb08.size hb9⟩
        by_cases hseat : 1 ≤ row ∧ row ≤ 99 ∧ bL c = true
        rotate_left
        · rw [decide_eq_false hseat] at hse
          have hse2 : (st.toList == []) = true := hse
          have HF := Lib.hid (HBAD.out fun h => hseat h.2.2)
          clear hse hseat
          go_wp2_with (first
            | (refine wpList_load_mid rfl 29 (.tmp 1) rfl w.heap.size 0 rfl _ _ hpr Tryz.underlying29 rfl info_pnr ?_)
            | (go_at_call 92; (with_reducible refine HILk.out.mono ?_); rintro e w9 ⟨rfl, hb9⟩; have u1 := T1.out w9 hb9; obtain ⟨u2, u3, u4⟩ := T2.out w9 hb9)
            | (go_at_call 93; (with_reducible refine (HTX.out _).mono ?_); rintro e w10 ⟨rfl, hb10⟩))
          go_ret
          exact ⟨ret_bool HF.out.symm, below_low hb08 hb08.size (bel_trans hb9 hb10)⟩
        rw [decide_eq_true hseat] at hse
        have hse2 : (st.toList == []) = false := hse
        have HPO : RowKit.Hid (placeOk segs NN ⟨sg, pa, row, c⟩) := Lib.hid ⟨HLA.out, ⟨by simp only; omega, by simp only; omega⟩, hseat⟩
        clear hse hseat
        go_upto_region 7 with (first
          | (refine wpList_load_mid rfl 29 (.tmp 1) rfl w.heap.size 0 rfl _ _ hpr Tryz.underlying29 rfl info_pnr ?_)
          | (go_at_call 92; (with_reducible refine HILk.out.mono ?_); rintro e w9 ⟨rfl, hb9⟩; have u1 := T1.out w9 hb9; obtain ⟨u2, u3, u4⟩ := T2.out w9 hb9)
          | (go_at_call 93; (with_reducible refine (HTX.out _).mono ?_); rintro e w10 ⟨rfl, hb10⟩))
        have hb810 := bel_trans hb9 hb10
        have HBX := Lib.hid (hb38.trans (hb810.mono hb38.size))
        have HAX := Lib.hid (HA8.out.mono hb810)
        clear hb9 hb10 hb810 u1 u2 u3 u4 t0 hpr HTX HILk T1 T2 HA8 hb08 hb38
        have HPN : RowKit.Hid (∀ (k : Nat) (y : PlaceT), k < i → seats[k]? = some y → ¬ okPair y ⟨sg, pa, row, c⟩ → sb = false) := Lib.hid fun k y hk hy h => HNO.out fun q => h ((q i _ HXI.out).2 k y hk hy)
        have HNX : RowKit.Hid ((∀ (k : Nat) (y : PlaceT), k < i → seats[k]? = some y → okPair y ⟨sg, pa, row, c⟩) → refOk segs NN (seats.take (i + 1))) := Lib.hid fun h j y hy => by
          have hj : j < i + 1 := by
            rcases Nat.lt_or_ge j (i + 1) with h | h
            · exact h
            · rw [List.getElem?_take, if_neg (by omega)] at hy; cases hy
          rw [take_at hj] at hy
          rcases Nat.lt_or_ge j i with hji | hji
          · obtain ⟨k1, k2⟩ := HOK.out j y (by rw [take_at hji]; exact hy)
            refine ⟨k1, fun k z hk hz => k2 k z hk ?_⟩
            rw [take_at (by omega)] at hz ⊢
            exact hz
          · have e : j = i := by omega
            subst e
            rw [HXI.out] at hy
            injection hy with hy
            subst hy
            refine ⟨HPO.out, fun k z hk hz => h k z hk ?_⟩
            rw [take_at (by omega)] at hz
            exact hz
        have hgx : RowKit.Hid (wr.heap.size = wr.heap.size) := Lib.hid rfl
        generalize wr.heap.size = gx at *
        go_wp2
        go_loopg [5] i (fun g0 s5 wx => ∃ k : Nat, k ≤ i ∧ g0 = i - k ∧ s5 = .int .i64 (k : Int) ∧ (∀ (j : Nat) (y : PlaceT), j < k → seats[j]? = some y → okPair y ⟨sg, pa, row, c⟩) ∧ Below w10.heap.size w10 wx)
        case atStart => exact ⟨0, Nat.zero_le _, rfl, rfl, (fun j y h => absurd h (Nat.not_lt_zero _)), Below.refl _ _⟩
        case round =>
          obtain ⟨k, hk, rfl, rfl, hall, hbx⟩ := hrel
          have HALL := Lib.hid hall
          clear hall
          by_cases hki : k < i
          · have hkii : (k : Int) < (i : Int) := by omega
            have hk0 : (0 : Int) ≤ (k : Int) := by omega
            have hkM : (k : Int) < (M : Int) := by omega
            have hkM2 : k < seats.length := by rw [HM.out]; omega
            have hb1x := HBX.out.trans (hbx.mono HBX.out.size)
            have e8 := cell_bel hb1x c8
            obtain ⟨bb2, off3, e2, hr, _, _, _, _⟩ := place_at (HX.out.mono hb1x) hkM2
            simp at e2
            obtain ⟨rfl, rfl⟩ := e2
            have HY := Lib.hid (getD_at pl0 hkM2)
            have HPNk := Lib.hid (HPN.out k _ hki HY.out)
            have HNXk : RowKit.Hid (okPair (seats.getD k pl0) ⟨sg, pa, row, c⟩ → ∀ (j : Nat) (y : PlaceT), j < k + 1 → seats[j]? = some y → okPair y ⟨sg, pa, row, c⟩) := Lib.hid fun h j y hj hy => by
              rcases Nat.lt_or_ge j k with h1 | h1
              · exact HALL.out j y h1 hy
              · have e : j = k := by omega
                subst e
                rw [HY.out] at hy
                injection hy with hy
                rw [← hy]
                exact h
            generalize seats.getD k pl0 = y at *
            obtain ⟨sg', pa', row', c'⟩ := y
            go_upto_region 11 with (first
              | (refine wpList_load_mid rfl 73 _ rfl bb (off2 + k * 4) rfl (placeC ⟨sg', pa', row', c'⟩) _ hr Tryz.underlying73 rfl info_place ?_)
              | (refine wpList_store_blk rfl 73 (.tmp 6) (.tmp 52) rfl wr.heap.size 73 (placeC pl0) (placeC ⟨sg', pa', row', c'⟩) rfl rfl (Blk.new wr 73 (placeC pl0)) rfl info_place (placeC_one _) ?_; intro w8 ha8 hb8 hgr8))
            dsimp only [Act.put]
            have hal : Below wr.heap.size wr (wr.alloc (.cells (placeC pl0).toArray 73)) := (Below.refl _ _).alloc (Nat.le_refl _) _
            have h18 := hal.trans hb8
            have hbx8 := hbx.trans (h18.mono hbx.size)
            have HXX := Lib.hid (HAX.out.mono hbx8)
            have x0 : w8.cell? ⟨gx, 0, none⟩ = some (.int .i64 sg) := (HXX.out.cell 0).trans rfl
            have x1 : w8.cell? ⟨gx, 1, none⟩ = some (.int .i64 pa) := (HXX.out.cell 1).trans rfl
            have x2 : w8.cell? ⟨gx, 2, none⟩ = some (.int .i64 row) := (HXX.out.cell 2).trans rfl
            have x3 : w8.cell? ⟨gx, 3, none⟩ = some (.int .u8 c.toNat) := (HXX.out.cell 3).trans rfl
            have y0 : w8.cell? ⟨wr.heap.size, 0, none⟩ = some (.int .i64 sg') := (ha8.cell 0).trans rfl
            have y1 : w8.cell? ⟨wr.heap.size, 1, none⟩ = some (.int .i64 pa') := (ha8.cell 1).trans rfl
            have y2 : w8.cell? ⟨wr.heap.size, 2, none⟩ = some (.int .i64 row') := (ha8.cell 2).trans rfl
            have y3 : w8.cell? ⟨wr.heap.size, 3, none⟩ = some (.int .u8 c'.toNat) := (ha8.cell 3).trans rfl
            have HBR := Lib.hid (below_w HB.out (HBX.out.trans (hbx8.mono HBX.out.size)))
            have HBX8 := Lib.hid hbx8
            clear hr ha8 hb8 hgr8 hal h18 hbx8 hbx e8 hb1x
            by_cases hA : sg < sg'
            · have HF := Lib.hid (HPNk.out fun h => by have := h.1; unfold lowP at this; simp only at this; omega)
              go_wp2
              go_ret
              exact ⟨ret_bool HF.out.symm, HBR.out⟩
            by_cases hE : sg' = sg
            · have hEb : (sg' == sg) = true := by rw [beq_iff_eq]; exact hE
              by_cases hP : pa ≤ pa'
              · have HF := Lib.hid (HPNk.out fun h => by have := h.1; unfold lowP at this; simp only at this; omega)
                clear hE
                go_wp2
                go_ret
                exact ⟨ret_bool HF.out.symm, HBR.out⟩
              · by_cases hR : row' = row
                · by_cases hC : c' = c
                  · have HF := Lib.hid (HPNk.out fun h => h.2 (by unfold seatK; simp only; rw [hE, hR, hC]))
                    subst hR hC
                    clear hE
                    go_wp2
                    go_ret
                    exact ⟨ret_bool HF.out.symm, HBR.out⟩
                  · have hCb : ((c'.toNat : Int) == (c.toNat : Int)) = false := by
                      rw [beq_eq_false_iff_ne]
                      exact fun h => hC (UInt8.toNat_inj.1 (by omega))
                    have HN2 := Lib.hid (HNXk.out ⟨by unfold lowP; simp only; omega, fun h => hC (by unfold seatK at h; simp only [Prod.mk.injEq] at h; exact h.2.2)⟩)
                    subst hR
                    clear hE hC
                    go_wp2
                    go_roundg (i - (k + 1))
                    case measure => omega
                    case rel => exact ⟨k + 1, by omega, rfl, by go_num, HN2.out, HBX8.out⟩
                · have hRb : (row' == row) = false := by rw [beq_eq_false_iff_ne]; exact hR
                  have HN2 := Lib.hid (HNXk.out ⟨by unfold lowP; simp only; omega, fun h => hR (by unfold seatK at h; simp only [Prod.mk.injEq] at h; exact h.2.1)⟩)
                  clear hE hR
                  go_wp2
                  go_roundg (i - (k + 1))
                  case measure => omega
                  case rel => exact ⟨k + 1, by omega, rfl, by go_num, HN2.out, HBX8.out⟩
            · have hEb : (sg' == sg) = false := by rw [beq_eq_false_iff_ne]; exact hE
              have HN2 := Lib.hid (HNXk.out ⟨by unfold lowP; simp only; omega, fun h => hE (by unfold seatK at h; simp only [Prod.mk.injEq] at h; exact h.1)⟩)
              clear hE
              go_wp2
              go_roundg (i - (k + 1))
              case measure => omega
              case rel => exact ⟨k + 1, by omega, rfl, by go_num, HN2.out, HBX8.out⟩
          · have hke : k = i := by omega
            subst hke
            have hkii : ¬ (k : Int) < (k : Int) := by omega
            have HN3 := Lib.hid (HNX.out HALL.out)
            go_wp2
            go_roundg (M - (k + 1))
            case measure => omega
            case rel => exact ⟨k + 1, by omega, rfl, by go_num, HN3.out, HBX.out.trans (hbx.mono HBX.out.size)⟩
    · have hie : i = M := by omega
      subst hie
      have hii : ¬ (i : Int) < (i : Int) := by omega
      have HT := Lib.hid (HYES.out (by have := HOK.out; rwa [List.take_of_length_le (by rw [HM.out]; exact Nat.le_refl _)] at this))
      go_wp2
      go_ret
      exact ⟨ret_bool HT.out.symm, below_w HB.out hbw⟩
end Go.Proofs.YtofomopmmopflaaGreatDoor
