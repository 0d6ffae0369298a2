/- check.seats. -/
import Derived.Test.YtofomopmmopflaaGreatDoorMA
import Derived.Test.YtofomopmmopflaaGreatDoorMB
import Derived.Test.YtofomopmmopflaaGreatDoorMC
import Derived.Test.YtofomopmmopflaaGreatDoorMD
import Derived.Test.YtofomopmmopflaaGreatDoorME
import Derived.Test.YtofomopmmopflaaGreatDoorFI
import Derived.Test.YtofomopmmopflaaGreatDoorFN
import Derived.Test.YtofomopmmopflaaGreatDoorFQ
import Derived.Test.YtofomopmmopflaaGreatDoorGB
import Derived.Test.YtofomopmmopflaaGreatDoorGF
import Derived.Test.YtofomopmmopflaaGreatDoorGH
import Derived.Test.YtofomopmmopflaaGreatDoorGI
import Derived.Test.YtofomopmmopflaaGreatDoorGK
import Derived.Test.YtofomopmmopflaaGreatDoorRows
import Derived.WalkKit
import Derived.WalkSpells
import Derived.WalkLawsBesides
import Derived.Lib.ConvBytes
import Derived.Lib.Hide
import Derived.Lib.SliceRun
import Derived.IntWalk
import Derived.BigQuiet
import Derived.Deep.QuietTactic
import Derived.Deep.RegionWith
import Derived.Deep.RegionHeld3
import Derived.Deep.LoopGhost
import Derived.Deep.CutRange
import Derived.Deep.CutBlock
import Derived.Deep.MidRow
import Derived.Laws.OwnMore
import Derived.OwnWalk
import Derived.Laws.AppendOwnNone
import Derived.Laws.Rows
import Derived.Laws.MakeOwn
import Derived.Laws.CopyOwn
import Derived.Laws.BitsAllLaws
import Derived.DeepKeys5
import Derived.Maps.OwnOps
import Derived.Handy
import Derived.Lib.AppendStr
import Derived.StillTailTactics
import Derived.Deep.AppendLies
import Derived.WideKeyEntry
namespace Go.Proofs.YtofomopmmopflaaGreatDoor
open Go.RowKit Go.ChangeMaps
set_option linter.unusedSimpArgs false
set_option linter.unusedVariables false
set_option maxRecDepth 20000

/-- The place ahead of place i. -/
def lastP (l : List PlaceT) (i : Nat) : PlaceT := if i = 0 then pl0 else l.getD (i - 1) pl0
theorem lastP_succ (l : List PlaceT) (i : Nat) : lastP l (i + 1) = l.getD i pl0 := by unfold lastP; rw [if_neg (by omega)]; rfl
theorem lastP_low {l : List PlaceT} {i : Nat} {x : PlaceT} (hi : i < l.length) (h : lowP (lastP l i) x) : ∀ y, 0 < i → l[i - 1]? = some y → lowP y x := by
  intro y h0 hy
  unfold lastP at h
  rw [if_neg (by omega), List.getD_eq_getElem?_getD, hy] at h
  exact h
theorem lastP_not {segs : List SegT} {nn : Nat} {l : List PlaceT} {i : Nat} {x : PlaceT} (hx : l[i]? = some x) (h1 : 1 ≤ x.seg) (h : ¬ lowP (lastP l i) x) : ¬ Rise (placeOk segs nn) lowP l := by
  intro hr
  unfold lastP at h
  by_cases h0 : i = 0
  · rw [if_pos h0] at h
    exact h (.inl (by show (0 : Int) < x.seg; omega))
  · rw [if_neg h0] at h
    have hlt : i - 1 < l.length := by
      have := (List.getElem?_eq_some_iff.1 hx).1
      omega
    exact h ((hr i x hx).2 _ (by omega) (getD_at pl0 hlt))

open Classical in
noncomputable def placeS (segs : List SegT) (nn : Nat) (x : PlaceT) : Bool := decide (placeOk segs nn x)
theorem placeS_yes {segs : List SegT} {nn : Nat} {x : PlaceT} (h : placeOk segs nn x) : placeS segs nn x = true := by unfold placeS; simp [h]
theorem placeS_no {segs : List SegT} {nn : Nat} {x : PlaceT} (h : ¬ placeOk segs nn x) : placeS segs nn x = false := by unfold placeS; simp only [h]; rfl
theorem placeS_iff {segs : List SegT} {nn : Nat} {x : PlaceT} : placeS segs nn x = true ↔ placeOk segs nn x := by
  constructor
  · intro h
    by_cases k : placeOk segs nn x
    · exact k
    · rw [placeS_no k] at h; cases h
  · exact placeS_yes

theorem place_ok_key {segs : List SegT} {nn : Nat} {x : PlaceT} (h : placeOk segs nn x) (hs : segs.length ≤ 1000) : takOkK (seatK x) := by
  obtain ⟨⟨h1, s, h2, _⟩, _, h3, h4, _⟩ := h
  have hlt := (List.getElem?_eq_some_iff.1 h2).1
  exact ⟨wfI_of (by simp only [seatK]; omega) (by simp only [seatK]; omega), wfI_of (by simp only [seatK]; omega) (by simp only [seatK]; omega)⟩

theorem seats_sub {l : List PlaceT} {i : Nat} {x : PlaceT} (hx : l[i]? = some x) (h : (l.map seatK).Nodup) : seatK x ∉ (l.take i).map seatK := by
  have h2 : ((l.take (i + 1)).map seatK).Nodup := List.Sublist.nodup ((List.take_sublist _ _).map _) h
  rw [List.take_add_one, hx, List.map_append] at h2
  intro hm
  exact (List.nodup_append.1 h2).2.2 _ hm _ (List.mem_singleton.2 rfl) rfl

theorem live_nat {segs : List SegT} {n : Nat} (h : n < segs.length) : liveAt segs ((n : Int) + 1) ↔ (segs.getD n sg0).live = true := by
  unfold liveAt
  have e : ((n : Int) + 1 - 1).toNat = n := by omega
  rw [e, getD_at sg0 h]
  constructor
  · rintro ⟨_, s, h1, h2⟩
    injection h1 with h1
    rw [h1]; exact h2
  · intro h1
    exact ⟨by omega, _, rfl, h1⟩

theorem taken_one (a b c : Int) : ∀ v ∈ ([.int .i64 a, .int .i64 b, .int .u8 c] : List Value), v.oneCell' = true := by
  intro v hv
  simp at hv
  rcases hv with rfl | rfl | rfl <;> rfl
theorem info_taken : (Tryz.prog.info? 129).map (·.size) = some 3 := by kernel_rfl

set_option maxHeartbeats 16000000 in
theorem seats_any (p : PnrT) (vn vs vp vr vx : Value) (w : World) (hn : HasE nameC w vn p.names) (hs : HasE segC w vs p.segs) (hx : HasE placeC w vx p.seats) (h1 : p.names.length ≤ 1000) (h2 : p.segs.length ≤ 1000) (h3 : p.seats.length ≤ 1000) :
    Calls Tryz.prog 54 #[.agg (pnrC p vn vs vp vr vx).toArray] w fun e w' => e = .returned (.bool (placesS p.segs p.names.length p.seats)) ∧ Below w.heap.size w w' := by
  obtain ⟨pn, cn, rfl⟩ := hn.len
  obtain ⟨ps, cs, rfl⟩ := hs.len
  obtain ⟨px, cx, rfl⟩ := hx.len
  have hbk := Blk.new w 29 (pnrC p (.slice pn p.names.length cn) (.slice ps p.segs.length cs) vp vr (.slice px p.seats.length cx))
  have hb1 : Below w.heap.size w (w.alloc (.cells (pnrC p (.slice pn p.names.length cn) (.slice ps p.segs.length cs) vp vr (.slice px p.seats.length cx)).toArray 29)) := (Below.refl _ _).alloc (Nat.le_refl _) _
  have HX := Lib.hid (hx.mono hb1)
  have HSG := Lib.hid (hs.mono hb1)
  obtain ⟨loc, off, names, segs, phones, tk, td, tm, recv, remarks, seats, queued⟩ := p
  unfold pnrC at hbk hb1 HX HSG ⊢
  simp only at hbk hb1 hs hx h1 h2 h3 HX HSG ⊢
  have HBK := Lib.hid hbk
  have HB := Lib.hid hb1
  have HYES : RowKit.Hid (Rise (placeOk segs names.length) lowP seats → (seats.map seatK).Nodup → placesS segs names.length seats = true) := Lib.hid fun h k => placesS_yes ⟨h, k⟩
  have HNO : RowKit.Hid (¬ (Rise (placeOk segs names.length) lowP seats ∧ (seats.map seatK).Nodup) → placesS segs names.length seats = false) := Lib.hid placesS_no
  generalize placesS segs names.length seats = sb at *
  generalize hNN : names.length = NN at *
  generalize hM : seats.length = M at *
  generalize hNS : segs.length = NS at *
  have HM := Lib.hid hM
  have HNS := Lib.hid hNS
  have hmk : ∀ W, (Instr.makeMap 126 none).run Tryz.prog W = .ok (.map (some W.heap.size)) (W.alloc (.map #[] 0)) := fun W => run_makeMap _ W
  clear hbk hb1 hs hx hM hn hNN hNS
  go_enter Tryz.func54, Tryz.ntmps54
  go_upto_region 1 with fail
  generalize w.alloc (.cells #[.string loc, .string off, .slice pn NN cn, .slice ps NS cs, vp, .int .i64 tk, .int .i64 td, .int .i64 tm, .string recv, vr, .slice px M cx, .bool queued] 29) = w1 at *
  have hzw : w.heap.size < w1.heap.size := HBK.out.lt
  go_upto_region 2 with fail
  have hm0 : MapS takV takOkK (w1.alloc (.map #[] 0)) w1.heap.size [] := MapS.made w1
  have hbm : Below w1.heap.size w1 (w1.alloc (.map #[] 0)) := (Below.refl _ _).alloc (Nat.le_refl _) _
  have hzm : w1.heap.size < (w1.alloc (.map #[] 0)).heap.size := by simp
  generalize w1.alloc (.map #[] 0) = wm at *
  go_upto_region 3 with (first
    | (refine wpList_store_blk rfl 73 (.tmp 4) (.tmp 9) rfl wm.heap.size 73 [.int .i64 0, .int .i64 0, .int .i64 0, .int .u8 0] [.int .i64 0, .int .i64 0, .int .i64 0, .int .u8 0] rfl rfl (Blk.new wm 73 [.int .i64 0, .int .i64 0, .int .i64 0, .int .u8 0]) rfl info_place (placeC_one pl0) ?_; intro w3 ha3 hb3 hgr3))
  dsimp only [Act.put]
  have hb13 : Below w1.heap.size w1 w3 := hbm.trans ((((Below.refl _ _).alloc (Nat.le_refl _) _).trans hb3).mono hbm.size)
  have hm3 : MapS takV takOkK w3 w1.heap.size [] := hm0.mono (((Below.refl _ _).alloc (Nat.le_refl _) _).trans hb3)
  have c10 : w3.cell? ⟨w.heap.size, 10, none⟩ = some (.slice px M cx) := ((HBK.out.mono hb13).cell 10).trans rfl
  have HL0 : RowKit.Hid (Blk w3 wm.heap.size 73 (placeC (lastP seats 0))) := Lib.hid ha3
  have hzl : w1.heap.size < wm.heap.size := hzm
  generalize wm.heap.size = gl at *
  clear hm0 hbm hzm ha3 hb3 hgr3 hmk
  go_wp2
  go_loopg [13] M (fun g0 s13 wr => ∃ i : Nat, i ≤ M ∧ g0 = M - i ∧ s13 = .int .i64 (i : Int) ∧ Rise (placeOk segs NN) lowP (seats.take i) ∧ MapS takV takOkK wr w1.heap.size ((seats.take i).map seatK) ∧ Blk wr gl 73 (placeC (lastP seats i)) ∧ Below w1.heap.size w1 wr)
  case atStart => exact ⟨0, Nat.zero_le _, rfl, rfl, Rise.nil, hm3, HL0.out, hb13⟩
  case round =>
    obtain ⟨i, hiM, rfl, rfl, hri, hmap, hla, hbw⟩ := hrel
    clear hm3 hb13 c10 HL0
    have HRI := Lib.hid hri
    have HMAP := Lib.hid hmap
    have HLA := Lib.hid hla
    have HBW := Lib.hid hbw
    clear hri hmap hla hbw
    by_cases hlt : i < M
    · have hii : (i : Int) < (M : Int) := by omega
      have hi0 : (0 : Int) ≤ (i : Int) := by omega
      have hiM2 : i < seats.length := by rw [HM.out]; exact hlt
      obtain ⟨bb, of2, rfl, hr, _, _, _, _⟩ := place_at (HX.out.mono HBW.out) hiM2
      have HXI := Lib.hid (getD_at pl0 hiM2)
      have HBAD : RowKit.Hid (¬ placeOk segs NN (seats.getD i pl0) → sb = false) := Lib.hid fun h => HNO.out fun k => Rise.bad1 HXI.out h k.1
      have HNOT : RowKit.Hid (1 ≤ (seats.getD i pl0).seg → ¬ lowP (lastP seats i) (seats.getD i pl0) → sb = false) := Lib.hid fun h1 h2 => HNO.out fun k => lastP_not HXI.out h1 h2 k.1
      have HLOW : RowKit.Hid (placeOk segs NN (seats.getD i pl0) → lowP (lastP seats i) (seats.getD i pl0) → Rise (placeOk segs NN) lowP (seats.take (i + 1))) := Lib.hid fun h1 h2 => HRI.out.next HXI.out h1 (lastP_low hiM2 h2)
      have HTW : RowKit.Hid (seatK (seats.getD i pl0) ∈ (seats.take i).map seatK → sb = false) := Lib.hid fun h => HNO.out fun k => seats_sub HXI.out k.2 h
      have HMN : RowKit.Hid ((seats.take (i + 1)).map seatK = (seats.take i).map seatK ++ [seatK (seats.getD i pl0)]) := Lib.hid (by rw [List.take_add_one, HXI.out, List.map_append]; rfl)
      have HLS := Lib.hid (lastP_succ seats i)
      have HKO : RowKit.Hid (placeOk segs NN (seats.getD i pl0) → takOkK (seatK (seats.getD i pl0))) := Lib.hid fun h => place_ok_key h (by rw [HNS.out]; exact h2)
      have HPY : RowKit.Hid (placeOk segs NN (seats.getD i pl0) → placeS segs NN (seats.getD i pl0) = true) := Lib.hid placeS_yes
      have HPN : RowKit.Hid (¬ placeOk segs NN (seats.getD i pl0) → placeS segs NN (seats.getD i pl0) = false) := Lib.hid placeS_no
      have HPI : RowKit.Hid (placeS segs NN (seats.getD i pl0) = true → placeOk segs NN (seats.getD i pl0)) := Lib.hid placeS_iff.1
      have HPX : RowKit.Hid (placeS segs NN (seats.getD i pl0) = false → ¬ placeOk segs NN (seats.getD i pl0)) := Lib.hid fun h k => by rw [placeS_yes k] at h; cases h
      clear HNO HRI
      generalize placeS segs NN (seats.getD i pl0) = ok at *
      generalize seats.getD i pl0 = x at *
      generalize lastP seats i = y at *
      obtain ⟨sg, pa, row, c⟩ := x
      obtain ⟨lsg, lpa, lrow, lc⟩ := y
      unfold placeC at hr
      simp only at hr
      go_upto_region 6 with (first
        | (refine wpList_load_mid rfl 73 _ rfl bb (of2 + i * 4) rfl [.int .i64 sg, .int .i64 pa, .int .i64 row, .int .u8 c.toNat] _ hr Tryz.underlying73 rfl info_place ?_)
        | (refine wpList_store_blk rfl 73 (.tmp 6) (.tmp 16) rfl wr.heap.size 73 (placeC pl0) [.int .i64 sg, .int .i64 pa, .int .i64 row, .int .u8 c.toNat] rfl rfl (Blk.new wr 73 (placeC pl0)) rfl info_place (placeC_one ⟨sg, pa, row, c⟩) ?_; intro w8 ha8 hb8 hgr8))
      dsimp only [Act.put]
      have h18 : Below wr.heap.size wr w8 := ((Below.refl _ _).alloc (Nat.le_refl _) _).trans hb8
      have HX8 := Lib.hid ha8
      have HB8 : RowKit.Hid (Below w1.heap.size w1 w8) := Lib.hid (HBW.out.trans (h18.mono HBW.out.size))
      have HM8 := Lib.hid (HMAP.out.mono h18)
      have HL8 := Lib.hid (HLA.out.mono h18)
      have HGX : RowKit.Hid (gl < wr.heap.size) := Lib.hid HLA.out.lt
      clear hr ha8 hb8 hgr8 h18 HMAP HLA HBW
      generalize wr.heap.size = gx at *
      have t0 : w8.cell? ⟨gx, 0, none⟩ = some (.int .i64 sg) := (HX8.out.cell 0).trans rfl
      have t1 : w8.cell? ⟨gx, 1, none⟩ = some (.int .i64 pa) := (HX8.out.cell 1).trans rfl
      have t2 : w8.cell? ⟨gx, 2, none⟩ = some (.int .i64 row) := (HX8.out.cell 2).trans rfl
      have t3 : w8.cell? ⟨gx, 3, none⟩ = some (.int .u8 c.toNat) := (HX8.out.cell 3).trans rfl
      have c2 : w8.cell? ⟨w.heap.size, 2, none⟩ = some (.slice pn NN cn) := ((HBK.out.mono HB8.out).cell 2).trans rfl
      have c3 : w8.cell? ⟨w.heap.size, 3, none⟩ = some (.slice ps NS cs) := ((HBK.out.mono HB8.out).cell 3).trans rfl
      have HTX : RowKit.Hid (∀ W, Calls Tryz.prog 84 #[.agg #[.int .i64 row, .int .u8 c.toNat]] W fun e w' => e = .returned (.string (seatT row c)) ∧ Below W.heap.size W w') := Lib.hid fun W => text_any row c W
      have hse := seatT_empty (r := row) (c := c)
      generalize seatT row c = st at *
      go_cut [57] from 17 to 57 (fun s57 wx => s57 = .bool (!ok) ∧ Below w8.heap.size w8 wx)
      case first =>
        clear HTW HMN HLS HKO HLOW HNOT HM8 HL8
        by_cases hs1 : sg < 1
        · have HF := Lib.hid (HPN.out fun h => by have := h.1.1; simp only at this; omega)
          have hok := HF.out
          subst hok
          go_wp2
          go_meet
          exact ⟨rfl, Below.refl _ _⟩
        by_cases hs2 : (NS : Int) < sg
        · have HF := Lib.hid (HPN.out fun h => by
            obtain ⟨h1, s, h3, _⟩ := h.1
            have := (List.getElem?_eq_some_iff.1 h3).1
            rw [HNS.out] at this
            simp only at this h1
            omega)
          have hok := HF.out
          subst hok
          go_wp2
          go_meet
          exact ⟨by simp [hs1, hs2], Below.refl _ _⟩
        obtain ⟨n, rfl⟩ : ∃ n : Nat, sg = (n : Int) + 1 := ⟨(sg - 1).toNat, by omega⟩
        have hnS : n < NS := by omega
        have hnS2 : n < segs.length := by rw [HNS.out]; exact hnS
        obtain ⟨bs, os, rfl, _, _, _, _, _, g4⟩ := seg_at (HSG.out.mono HB8.out) hnS2
        have HLN := Lib.hid (live_nat hnS2)
        generalize (segs.getD n sg0).live = lv at *
        have hn0 : (0 : Int) ≤ (n : Int) := by omega
        have hnI : (n : Int) < (NS : Int) := by omega
        cases lv with
        | false =>
          have HF := Lib.hid (HPN.out fun h => by have := HLN.out.1 h.1; cases this)
          have hok := HF.out
          subst hok
          go_wp2
          go_meet
          exact ⟨by simp [hs1, hs2], Below.refl _ _⟩
        | true =>
          have HLV := Lib.hid (HLN.out.2 (by first | rfl | trivial))
          by_cases hp1 : pa < 1
          · have HF := Lib.hid (HPN.out fun h => by have := h.2.1.1; simp only at this; omega)
            have hok := HF.out
            subst hok
            go_wp2
            go_meet
            exact ⟨by simp [hs1, hs2], Below.refl _ _⟩
          by_cases hp2 : (NN : Int) < pa
          · have HF := Lib.hid (HPN.out fun h => by have := h.2.1.2; simp only at this; omega)
            have hok := HF.out
            subst hok
            go_wp2
            go_meet
            exact ⟨by simp [hs1, hs2, hp1, hp2], Below.refl _ _⟩
          by_cases hseat : 1 ≤ row ∧ row ≤ 99 ∧ bL c = true
          · rw [decide_eq_true hseat] at hse
            have hse2 : (st.toList == []) = false := hse
            have HT := Lib.hid (HPY.out ⟨HLV.out, ⟨by simp only; omega, by simp only; omega⟩, hseat⟩)
            have hok := HT.out
            subst hok
            clear hse hseat
            go_wp2_with (first
              | (go_at_call 84; (with_reducible refine (HTX.out _).mono ?_); rintro e w9 ⟨rfl, hb9⟩))
            go_meet
            exact ⟨by simp [hs1, hs2, hp1, hp2, hse2], hb9⟩
          · rw [decide_eq_false hseat] at hse
            have hse2 : (st.toList == []) = true := hse
            have HF := Lib.hid (HPN.out fun h => hseat h.2.2)
            have hok := HF.out
            subst hok
            clear hse hseat
            go_wp2_with (first
              | (go_at_call 84; (with_reducible refine (HTX.out _).mono ?_); rintro e w9 ⟨rfl, hb9⟩))
            go_meet
            exact ⟨by simp [hs1, hs2, hp1, hp2, hse2], hb9⟩
      case rest =>
        obtain ⟨rfl, hbx⟩ := hcut
        rename World => wx
        have HBX := Lib.hid (HB8.out.trans (hbx.mono HB8.out.size))
        have HXX := Lib.hid (HX8.out.mono hbx)
        have HMX := Lib.hid (HM8.out.mono hbx)
        have HLX := Lib.hid (HL8.out.mono hbx)
        clear t0 t1 t2 t3 c2 c3 HTX hse HX8 HM8 HL8 HB8 HPY HPN hbx HSG
        cases ok with
        | false =>
          have HF := Lib.hid (HBAD.out (HPX.out rfl))
          go_wp2
          go_ret
          exact ⟨ret_bool HF.out.symm, below_w HB.out HBX.out⟩
        | true =>
          have HPO := Lib.hid (HPI.out rfl)
          have hs1 : 1 ≤ sg := HPO.out.1.1
          have HKK : RowKit.Hid (takOkK (sg, row, c)) := Lib.hid (HKO.out HPO.out)
          clear HBAD HPX HPI HKO
          have t0 : wx.cell? ⟨gx, 0, none⟩ = some (.int .i64 sg) := (HXX.out.cell 0).trans rfl
          have t1 : wx.cell? ⟨gx, 1, none⟩ = some (.int .i64 pa) := (HXX.out.cell 1).trans rfl
          have l0 : wx.cell? ⟨gl, 0, none⟩ = some (.int .i64 lsg) := (HLX.out.cell 0).trans rfl
          have l1 : wx.cell? ⟨gl, 1, none⟩ = some (.int .i64 lpa) := (HLX.out.cell 1).trans rfl
          by_cases hlow : lsg < sg ∨ (lsg = sg ∧ lpa < pa)
          rotate_left
          · have HF := Lib.hid (HNOT.out hs1 hlow)
            by_cases ha : sg < lsg
            · clear hlow
              go_wp2
              go_ret
              exact ⟨ret_bool HF.out.symm, below_w HB.out HBX.out⟩
            · have he : (sg == lsg) = true := by rw [beq_iff_eq]; omega
              have hp : pa ≤ lpa := by omega
              clear hlow
              go_wp2
              go_ret
              exact ⟨ret_bool HF.out.symm, below_w HB.out HBX.out⟩
          have HNX := Lib.hid (HLOW.out HPO.out hlow)
          have HMT : Tryz.prog.underlying 126 = some (.map 129 3) := Tryz.underlying126
          have ha : ¬ sg < lsg := by omega
          have hg8 : ((sg == lsg) = true ∧ ¬ pa ≤ lpa) ∨ ((sg == lsg) = false) := by
            by_cases he : sg = lsg
            · exact .inl ⟨by rw [beq_iff_eq]; exact he, by omega⟩
            · exact .inr (by rw [beq_eq_false_iff_ne]; exact he)
          have hsr : wx.rangeAt gx 2 [.int .i64 row, .int .u8 c.toNat] := rangeAt_part HXX.out 2 _ fun j u hj => by
            match j, hj with
            | 0, hj => exact hj
            | 1, hj => exact hj
          clear hlow HLOW HNOT
          go_upto_region 8 with fail
          go_cut [76] from 58 to 76 (fun s76 wy => s76 = .bool false ∧ wx = wy)
          case first =>
            rcases hg8 with ⟨he, hp⟩ | he
            · go_wp2
              go_meet
              exact ⟨by simp [ha, he, hp], rfl⟩
            · go_wp2
              go_meet
              exact ⟨by simp [ha, he], rfl⟩
          case rest =>
            obtain ⟨rfl, rfl⟩ := hcut
            clear hg8 ha l0 l1 t1
            have HBWX := Lib.hid (below_w HB.out HBX.out)
            go_upto_region 11 with (first
              | (refine wpList_load_mid rfl 71 _ rfl gx 2 rfl [.int .i64 row, .int .u8 c.toNat] _ hsr Tryz.underlying71 rfl info_seat2 ?_)
              | (refine wpList_store_blk rfl 129 (.tmp 7) (.tmp 81) rfl wx.heap.size 129 [.int .i64 0, .int .i64 0, .int .u8 0] [.int .i64 sg, .int .i64 row, .int .u8 c.toNat] rfl rfl (Blk.new wx 129 [.int .i64 0, .int .i64 0, .int .u8 0]) rfl info_taken (taken_one _ _ _) ?_; intro wy hay hby hgy))
            try dsimp only [Act.put]
            have hxy : Below wx.heap.size wx wy := ((Below.refl _ _).alloc (Nat.le_refl _) _).trans hby
            have HYY := Lib.hid (HXX.out.mono hxy)
            have HMY := Lib.hid (HMX.out.mono hxy)
            have HLY := Lib.hid (HLX.out.mono hxy)
            have HBY := Lib.hid (HBX.out.trans (hxy.mono HBX.out.size))
            have HAY := Lib.hid hay
            have HTM : RowKit.Hid (wx.heap.size ≠ w1.heap.size) := Lib.hid (by have := HMX.out.lt; omega)
            have HGM : RowKit.Hid (gx ≠ w1.heap.size ∧ gl ≠ w1.heap.size ∧ gl ≠ gx) := Lib.hid ⟨by have := HGX.out; omega, by omega, by have := HGX.out; omega⟩
            clear hsr hay hby hgy hxy t0 HXX HMX HLX HBX HBWX
            generalize wx.heap.size = gt at *
            have hwr1 : IntKind.i64.wrap 1 = 1 := by decide
            have hwr2 : IntKind.i64.wrap 2 = 2 := by decide
            have HMD : RowKit.Hid (MapS takV takOkK wy.drew w1.heap.size ((seats.take i).map seatK)) := Lib.hid (HMY.out.mono (Below.refl _ _).drew)
            by_cases hin : (sg, row, c) ∈ (seats.take i).map seatK
            · have HF := Lib.hid (HTW.out hin)
              obtain ⟨v0, st', w2, w3, e1, e2, e3, e4, g2, g3, z3⟩ := HMD.out.bump_old tak_keyK HMT _ hin
              have q1 : (Instr.mapEntry 126 (.map (some w1.heap.size)) (.agg #[.int .i64 sg, .int .i64 row, .int .u8 c.toNat])).run Tryz.prog wy.drew = .ok (.tuple #[v0, goInt st']) w2 := e1
              have q2 : (Instr.lookup 126 (.map (some w1.heap.size)) (.agg #[.int .i64 sg, .int .i64 row, .int .u8 c.toNat]) false).run Tryz.prog w2 = .ok (.int .i64 1) w2 := e2
              have q3 : (Instr.entryStore 126 (.map (some w1.heap.size)) (goInt st') (.int .i64 2)).run Tryz.prog w2 = .ok () w3 := e3
              have q4 : (Instr.lookup 126 (.map (some w1.heap.size)) (.agg #[.int .i64 sg, .int .i64 row, .int .u8 c.toNat]) false).run Tryz.prog w3 = .ok (.int .i64 2) w3 := e4 w3 rfl
              have q0 : (Instr.lookup 126 (.map (some w1.heap.size)) (.agg #[.int .i64 sg, .int .i64 row, .int .u8 c.toNat]) false).run Tryz.prog wy.drew = .ok (.int .i64 1) wy.drew := by
                have h := HMD.out.look tak_keyK HMT _ HKK.out
                rw [if_pos hin] at h
                exact h
              have a0 : wy.cell? ⟨gt, 0, none⟩ = some (.int .i64 sg) := (HAY.out.cell 0).trans rfl
              have a1 : wy.cell? ⟨gt, 1, none⟩ = some (.int .i64 row) := (HAY.out.cell 1).trans rfl
              have a2 : wy.cell? ⟨gt, 2, none⟩ = some (.int .u8 c.toNat) := (HAY.out.cell 2).trans rfl
              have HX2 := Lib.hid (HAY.out.mono (Below.refl _ _).drew |>.far g2 (fun e => HTM.out (by injection e)))
              have HX3 := Lib.hid (HAY.out.mono (Below.refl _ _).drew |>.far g3 (fun e => HTM.out (by injection e)))
              have b0 : w2.cell? ⟨gt, 0, none⟩ = some (.int .i64 sg) := (HX2.out.cell 0).trans rfl
              have b1 : w2.cell? ⟨gt, 1, none⟩ = some (.int .i64 row) := (HX2.out.cell 1).trans rfl
              have b2 : w2.cell? ⟨gt, 2, none⟩ = some (.int .u8 c.toNat) := (HX2.out.cell 2).trans rfl
              have x0 : w3.cell? ⟨gt, 0, none⟩ = some (.int .i64 sg) := (HX3.out.cell 0).trans rfl
              have x1 : w3.cell? ⟨gt, 1, none⟩ = some (.int .i64 row) := (HX3.out.cell 1).trans rfl
              have x2 : w3.cell? ⟨gt, 2, none⟩ = some (.int .u8 c.toNat) := (HX3.out.cell 2).trans rfl
              have HB3 : RowKit.Hid (Below w1.heap.size w1 w3) := Lib.hid (Below.grown HBY.out.drew g3 HBY.out.drew.size fun k hk => by injection hk with hk; omega)
              generalize goInt st' = gs at *
              clear e1 e2 e3 e4 g2 g3 z3 hin HMT HKK HLY HMY HYY
              go_region
              all_goals
                go_wp2
                go_ret
                exact ⟨ret_bool HF.out.symm, below_w HB.out HB3.out⟩
            · obtain ⟨v0, st', w2, w3, e1, e2, e3, e4, g2, g3, z3⟩ := HMD.out.bump_new tak_keyK HMT _ HKK.out hin
              have q1 : (Instr.mapEntry 126 (.map (some w1.heap.size)) (.agg #[.int .i64 sg, .int .i64 row, .int .u8 c.toNat])).run Tryz.prog wy.drew = .ok (.tuple #[v0, goInt st']) w2 := e1
              have q2 : (Instr.lookup 126 (.map (some w1.heap.size)) (.agg #[.int .i64 sg, .int .i64 row, .int .u8 c.toNat]) false).run Tryz.prog w2 = .ok (.int .i64 0) w2 := e2
              have q3 : (Instr.entryStore 126 (.map (some w1.heap.size)) (goInt st') (.int .i64 1)).run Tryz.prog w2 = .ok () w3 := e3
              have q4 : (Instr.lookup 126 (.map (some w1.heap.size)) (.agg #[.int .i64 sg, .int .i64 row, .int .u8 c.toNat]) false).run Tryz.prog w3 = .ok (.int .i64 1) w3 := by
                have h := e4.look tak_keyK HMT _ HKK.out
                rw [if_pos (List.mem_append_right _ (List.mem_singleton.2 rfl))] at h
                exact h
              have q0 : (Instr.lookup 126 (.map (some w1.heap.size)) (.agg #[.int .i64 sg, .int .i64 row, .int .u8 c.toNat]) false).run Tryz.prog wy.drew = .ok (.int .i64 0) wy.drew := by
                have h := HMD.out.look tak_keyK HMT _ HKK.out
                rw [if_neg hin] at h
                exact h
              have a0 : wy.cell? ⟨gt, 0, none⟩ = some (.int .i64 sg) := (HAY.out.cell 0).trans rfl
              have a1 : wy.cell? ⟨gt, 1, none⟩ = some (.int .i64 row) := (HAY.out.cell 1).trans rfl
              have a2 : wy.cell? ⟨gt, 2, none⟩ = some (.int .u8 c.toNat) := (HAY.out.cell 2).trans rfl
              have HX2 := Lib.hid (HAY.out.mono (Below.refl _ _).drew |>.far g2 (fun e => HTM.out (by injection e)))
              have HX3 := Lib.hid (HAY.out.mono (Below.refl _ _).drew |>.far g3 (fun e => HTM.out (by injection e)))
              have HY3 := Lib.hid (HYY.out.mono (Below.refl _ _).drew |>.far g3 (fun e => HGM.out.1 (by injection e)))
              have HL3 := Lib.hid (HLY.out.mono (Below.refl _ _).drew |>.far g3 (fun e => HGM.out.2.1 (by injection e)))
              have b0 : w2.cell? ⟨gt, 0, none⟩ = some (.int .i64 sg) := (HX2.out.cell 0).trans rfl
              have b1 : w2.cell? ⟨gt, 1, none⟩ = some (.int .i64 row) := (HX2.out.cell 1).trans rfl
              have b2 : w2.cell? ⟨gt, 2, none⟩ = some (.int .u8 c.toNat) := (HX2.out.cell 2).trans rfl
              have x0 : w3.cell? ⟨gt, 0, none⟩ = some (.int .i64 sg) := (HX3.out.cell 0).trans rfl
              have x1 : w3.cell? ⟨gt, 1, none⟩ = some (.int .i64 row) := (HX3.out.cell 1).trans rfl
              have x2 : w3.cell? ⟨gt, 2, none⟩ = some (.int .u8 c.toNat) := (HX3.out.cell 2).trans rfl
              have hrr : w3.rangeAt gx 0 [.int .i64 sg, .int .i64 pa, .int .i64 row, .int .u8 c.toNat] := HY3.out.range
              have HB3 : RowKit.Hid (Below w1.heap.size w1 w3) := Lib.hid (Below.grown HBY.out.drew g3 HBY.out.drew.size fun k hk => by injection hk with hk; omega)
              have HM3 := Lib.hid e4
              generalize goInt st' = gs at *
              clear e1 e2 e3 e4 g2 g3 z3 hin HMT HKK HLY HMY HYY
              go_region
              all_goals
                go_wp2_with (first
                  | (refine wpList_load_mid rfl 73 _ rfl gx 0 rfl [.int .i64 sg, .int .i64 pa, .int .i64 row, .int .u8 c.toNat] _ hrr Tryz.underlying73 rfl info_place ?_)
                  | (refine wpList_store_blk rfl 73 (.tmp 4) (.tmp 92) rfl gl 73 (placeC ⟨lsg, lpa, lrow, lc⟩) [.int .i64 sg, .int .i64 pa, .int .i64 row, .int .u8 c.toNat] rfl rfl HL3.out rfl info_place (placeC_one ⟨sg, pa, row, c⟩) ?_; intro w4 ha4 hb4 hgr4))
                go_roundg (M - (i + 1))
                case measure => omega
                case rel => exact ⟨i + 1, by omega, rfl, by go_num, HNX.out, by rw [HMN.out]; exact HM3.out.kept hgr4 (fun e => HGM.out.2.1 (by injection e)), by rw [HLS.out]; exact ha4, HB3.out.trans (hb4.mono (by omega))⟩
    · have hie : i = M := by omega
      subst hie
      have hii : ¬ (i : Int) < (i : Int) := by omega
      have htk : seats.take i = seats := List.take_of_length_le (by rw [HM.out]; exact Nat.le_refl _)
      have HT := Lib.hid (HYES.out (by have := HRI.out; rwa [htk] at this) (by have := HMAP.out.2.1; rwa [htk] at this))
      clear htk
      go_wp2
      go_ret
      exact ⟨ret_bool HT.out.symm, below_w HB.out HBW.out⟩
end Go.Proofs.YtofomopmmopflaaGreatDoor
