/- The reference's Sound. -/
import Derived.Test.YtmhhbnnjilbdnaaGreatDoorKA
import Derived.Test.YtmhhbnnjilbdnaaGreatDoorKB
import Derived.Test.YtmhhbnnjilbdnaaGreatDoorKF
import Derived.Test.YtmhhbnnjilbdnaaGreatDoorPlnP
import Derived.Test.YtmhhbnnjilbdnaaGreatDoorKG
import Derived.Test.YtmhhbnnjilbdnaaGreatDoorKJ
import Derived.Test.YtmhhbnnjilbdnaaGreatDoorKL
import Derived.Test.YtmhhbnnjilbdnaaGreatDoorLB
import Derived.Test.YtmhhbnnjilbdnaaGreatDoorLA
import Derived.Test.YtmhhbnnjilbdnaaGreatDoorLC
import Derived.Test.YtmhhbnnjilbdnaaGreatDoorRows
import Derived.WalkKit
import Derived.WalkSpells
import Derived.WalkLawsBesides
import Derived.Lib.ConvBytes
import Derived.Lib.Hide
import Derived.Lib.SliceRun
import Derived.IntWalk
import Derived.BigQuiet
import Derived.Deep.QuietTactic
import Derived.Deep.RegionWith
import Derived.Deep.RegionHeld3
import Derived.Deep.LoopGhost
import Derived.Deep.CutRange
import Derived.Deep.CutBlock
import Derived.Deep.MidRow
import Derived.Laws.OwnMore
import Derived.OwnWalk
import Derived.Laws.AppendOwnNone
import Derived.Laws.Rows
import Derived.Laws.MakeOwn
import Derived.Laws.CopyOwn
import Derived.Laws.BitsAllLaws
import Derived.DeepKeys5
import Derived.Maps.OwnOps
import Derived.Handy
import Derived.Lib.AppendStr
import Derived.StillTailTactics
import Derived.Deep.AppendLies
import Derived.WideKeyEntry
namespace Go.Proofs.YtmhhbnnjilbdnaaGreatDoor
open Go.RowKit Go.ChangeMaps
set_option linter.unusedSimpArgs false
set_option linter.unusedVariables false
set_option maxRecDepth 20000

set_option maxHeartbeats 16000000 in
theorem refSoundP_any (p : PnrT) (vn vs vp vr vx : Value) (w : World) (h : PIn w p vn vs vp vr vx) :
    Calls Tryz.prog 7 #[.agg (pnrC p vn vs vp vr vx).toArray] w fun e w' => e = .returned (.bool (soundPS p)) ∧ Below w.heap.size w w' := by
  have HYES : RowKit.Hid (SoundP p → soundPS p = true) := Lib.hid soundPS_yes
  have HNO : RowKit.Hid (¬ SoundP p → soundPS p = false) := Lib.hid soundPS_no
  have HREST : RowKit.Hid (orL p.loc 6 = true → orL p.off 3 = true → p.names.length ≤ 9 → (∀ x ∈ p.names, nameOk x) → soundPS p = (segsS p.segs && (textsS p.phones 4 && (textsS p.remarks 10 && (orF p.recv && (tickS p.tk p.td p.tm p.queued && placesS p.segs p.names.length p.seats)))))) := Lib.hid fun h1 h2 h3 h4 => sound_rest h1 h2 h3 h4
  generalize soundPS p = sb at *
  have HSE : RowKit.Hid (∀ W, Below w.heap.size w W → Calls Tryz.prog 25 #[.agg (pnrC p vn vs vp vr vx).toArray] W fun e w' => e = .returned (.bool (placesS p.segs p.names.length p.seats)) ∧ Below W.heap.size W w') := Lib.hid fun W hb => refSeats_any p vn vs vp vr vx W (h.n.mono hb) (h.s.mono hb) (h.x.mono hb) h.wf h.few.1 h.few.2.1 h.few.2.2.2.2
  have HPH : RowKit.Hid (∀ W, Below w.heap.size w W → Calls Tryz.prog 23 #[vp, .int .i64 4] W fun e w' => e = .returned (.bool (textsS p.phones 4)) ∧ W = w') := Lib.hid fun W hb => refTexts_any p.phones vp 4 W (h.ph.mono hb) h.fit.2.2.2.2.1 (by omega)
  have HRM : RowKit.Hid (∀ W, Below w.heap.size w W → Calls Tryz.prog 23 #[vr, .int .i64 10] W fun e w' => e = .returned (.bool (textsS p.remarks 10)) ∧ W = w') := Lib.hid fun W hb => refTexts_any p.remarks vr 10 W (h.rm.mono hb) h.fit.2.2.2.2.2.2 (by omega)
  have HFR : RowKit.Hid (∀ W, Calls Tryz.prog 24 #[.string p.recv] W fun e w' => e = .returned (.bool (freeS (toL p.recv))) ∧ W = w') := Lib.hid fun W => refFree_any2 p.recv W h.fit.2.2.2.2.2.1
  have HRF : RowKit.Hid (orF p.recv = ((p.recv.toList == []) || freeS (toL p.recv))) := Lib.hid rfl
  generalize freeS (toL p.recv) = fr at *
  generalize orF p.recv = orr at *
  generalize textsS p.phones 4 = b2 at *
  generalize textsS p.remarks 10 = b3 at *
  obtain ⟨pn, cn, rfl⟩ := h.n.len
  obtain ⟨ps, cs, rfl⟩ := h.s.len
  have hbk := Blk.new w 29 (pnrC p (.slice pn p.names.length cn) (.slice ps p.segs.length cs) vp vr vx)
  have hb1 : Below w.heap.size w (w.alloc (.cells (pnrC p (.slice pn p.names.length cn) (.slice ps p.segs.length cs) vp vr vx).toArray 29)) := (Below.refl _ _).alloc (Nat.le_refl _) _
  have HP := Lib.hid (h.mono hb1)
  have HF := Lib.hid h.fit
  obtain ⟨loc, off, names, segs, phones, tk, td, tm, recv, remarks, seats, queued⟩ := p
  unfold pnrC at hbk hb1 HP HSE ⊢
  simp only at hbk hb1 HP HF HSE HPH HRM HFR HRF HREST ⊢
  have HBK := Lib.hid hbk
  have HB := Lib.hid hb1
  have hlo : loc.size ≤ maxLen := h.fit.1
  have hof : off.size ≤ maxLen := h.fit.2.1
  have HLO : RowKit.Hid (∀ W, Calls Tryz.prog 18 #[.string loc] W fun e w' => e = .returned (.bool (lettersS (toL loc) 6 6)) ∧ W = w') := Lib.hid fun W => refLocator_any loc W hlo
  have HCI : RowKit.Hid (∀ W, Calls Tryz.prog 19 #[.string off] W fun e w' => e = .returned (.bool (lettersS (toL off) 3 3)) ∧ W = w') := Lib.hid fun W => refCity_any off W hof
  have HL6 : RowKit.Hid (orL loc 6 = ((loc.toList == []) || lettersS (toL loc) 6 6)) := Lib.hid rfl
  have HO3 : RowKit.Hid (orL off 3 = ((off.toList == []) || lettersS (toL off) 3 3)) := Lib.hid rfl
  have HNL : RowKit.Hid (orL loc 6 = false → sb = false) := Lib.hid fun h => HNO.out fun k => by rw [orL_iff.2 k.loc] at h; cases h
  have HNF : RowKit.Hid (orL off 3 = false → sb = false) := Lib.hid fun h => HNO.out fun k => by rw [orL_iff.2 k.off] at h; cases h
  have HYL : RowKit.Hid (orL loc 6 = true → toL loc = [] ∨ lettersS (toL loc) 6 6 = true) := Lib.hid orL_iff.1
  have HYF : RowKit.Hid (orL off 3 = true → toL off = [] ∨ lettersS (toL off) 3 3 = true) := Lib.hid orL_iff.1
  clear hbk hb1 h hlo hof
  generalize orL loc 6 = ol at *
  generalize orL off 3 = oo at *
  generalize lettersS (toL loc) 6 6 = ll at HLO HL6 HYL
  generalize lettersS (toL off) 3 3 = lo at HCI HO3 HYF
  generalize hNN : names.length = NN at *
  generalize hNS : segs.length = NS at *
  have HNN := Lib.hid hNN
  have HNS := Lib.hid hNS
  clear hNN hNS
  go_enter Tryz.func7, Tryz.ntmps7
  go_upto_region 1 with fail
  generalize w.alloc (.cells #[.string loc, .string off, .slice pn NN cn, .slice ps NS cs, vp, .int .i64 tk, .int .i64 td, .int .i64 tm, .string recv, vr, vx, .bool queued] 29) = w1 at *
  have c0 : w1.cell? ⟨w.heap.size, 0, none⟩ = some (.string loc) := (HBK.out.cell 0).trans rfl
  have c1 : w1.cell? ⟨w.heap.size, 1, none⟩ = some (.string off) := (HBK.out.cell 1).trans rfl
  have c2 : w1.cell? ⟨w.heap.size, 2, none⟩ = some (.slice pn NN cn) := (HBK.out.cell 2).trans rfl
  have c3 : w1.cell? ⟨w.heap.size, 3, none⟩ = some (.slice ps NS cs) := (HBK.out.cell 3).trans rfl
  go_cut [26] from 7 to 26 (fun s26 wx => s26 = .bool (!(ol && oo)) ∧ w1 = wx)
  case first =>
    have hl := HL6.out
    have ho := HO3.out
    generalize hle : (loc.toList == []) = le at *
    generalize hoe : (off.toList == []) = oe at *
    have hln : (loc.toList != []) = !le := by rw [bne, hle]
    have hon : (off.toList != []) = !oe := by rw [bne, hoe]
    subst hl ho
    cases le <;> cases ll <;> cases oe <;> cases lo
    all_goals (
      go_wp2_with (first
        | (go_at_call 18; (with_reducible refine (HLO.out _).mono ?_); rintro e w9 ⟨rfl, rfl⟩)
        | (go_at_call 19; (with_reducible refine (HCI.out _).mono ?_); rintro e w9 ⟨rfl, rfl⟩))
      go_meet
      exact ⟨rfl, rfl⟩)
  case rest =>
    obtain ⟨rfl, rfl⟩ := hcut
    clear HLO HCI HL6 HO3 c0 c1
    cases ol with
    | false =>
      have HF := Lib.hid (HNL.out rfl)
      go_wp2
      go_ret
      exact ⟨ret_bool HF.out.symm, HB.out⟩
    | true =>
      cases oo with
      | false =>
        have HF := Lib.hid (HNF.out rfl)
        go_wp2
        go_ret
        exact ⟨ret_bool HF.out.symm, HB.out⟩
      | true =>
        have HLOC := Lib.hid (HYL.out (by first | rfl | trivial))
        have HOFF := Lib.hid (HYF.out (by first | rfl | trivial))
        clear HNL HNF HYL HYF
        by_cases h9 : NN ≤ 9
        rotate_left
        · have h9i : ¬ (NN : Int) ≤ 9 := by omega
          have HF := Lib.hid (HNO.out fun k => h9 (by have := k.names.1; simp only at this; rw [HNN.out] at this; exact this))
          clear h9
          go_wp2
          go_ret
          exact ⟨ret_bool HF.out.symm, HB.out⟩
        have h9i : (NN : Int) ≤ 9 := by omega
        by_cases h8 : NS ≤ 8
        rotate_left
        · have h8i : ¬ (NS : Int) ≤ 8 := by omega
          have HF := Lib.hid (HNO.out fun k => h8 (by have := k.segs.1; simp only at this; rw [HNS.out] at this; exact this))
          clear h8
          go_wp2
          go_ret
          exact ⟨ret_bool HF.out.symm, HB.out⟩
        have h8i : (NS : Int) ≤ 8 := by omega
        have HNB : RowKit.Hid (∀ x ∈ names, ¬ nameOk x → sb = false) := Lib.hid fun x hx h => HNO.out fun k => h (k.names.2 x hx)
        have HSZ : RowKit.Hid (∀ x ∈ names, x.last.size ≤ maxLen ∧ x.first.size ≤ maxLen) := Lib.hid HF.out.2.2.1
        go_wp2
        go_loopg [3] NN (fun g0 s3 wr => ∃ i : Nat, i ≤ NN ∧ g0 = NN - i ∧ s3 = .int .i64 (i : Int) ∧ (∀ x ∈ names.take i, nameOk x) ∧ w1 = wr)
        case atStart => exact ⟨0, Nat.zero_le _, rfl, rfl, (fun x h => by cases h), rfl⟩
        case round =>
          obtain ⟨i, hiN, rfl, rfl, hall, rfl⟩ := hrel
          have HALL := Lib.hid hall
          clear hall
          by_cases hlt : i < NN
          · have hii : (i : Int) < (NN : Int) := by omega
            have hi0 : (0 : Int) ≤ (i : Int) := by omega
            have hiN2 : i < names.length := by rw [HNN.out]; exact hlt
            obtain ⟨bb, of2, rfl, _, g0, g1⟩ := name_at HP.out.n hiN2
            have hmem := List.mem_of_getElem? (getD_at nm0 hiN2)
            obtain ⟨z1, z2⟩ := HSZ.out _ hmem
            have HNBk := Lib.hid (HNB.out _ hmem)
            have HTK : RowKit.Hid (names.take (i + 1) = names.take i ++ [names.getD i nm0]) := Lib.hid (by rw [List.take_add_one, getD_at nm0 hiN2]; rfl)
            clear hmem
            generalize names.getD i nm0 = x at *
            obtain ⟨la, fi⟩ := x
            simp only at z1 z2 g0 g1
            have HP1 : RowKit.Hid (∀ W, Calls Tryz.prog 20 #[.string la] W fun e w' => e = .returned (.bool (lettersS (toL la) 1 16)) ∧ W = w') := Lib.hid fun W => refPerson_any la W z1
            have HP2 : RowKit.Hid (∀ W, Calls Tryz.prog 20 #[.string fi] W fun e w' => e = .returned (.bool (lettersS (toL fi) 1 16)) ∧ W = w') := Lib.hid fun W => refPerson_any fi W z2
            cases hl1 : lettersS (toL la) 1 16 with
            | false =>
              have HF := Lib.hid (HNBk.out fun k => by rw [k.1] at hl1; cases hl1)
              rw [hl1] at HP1
              clear hl1
              go_wp2_with (first
                | (go_at_call 20; (with_reducible refine (HP1.out _).mono ?_); rintro e w9 ⟨rfl, rfl⟩))
              go_ret
              exact ⟨ret_bool HF.out.symm, HB.out⟩
            | true =>
              rw [hl1] at HP1
              have HL1 := Lib.hid hl1
              clear hl1
              cases hl2 : lettersS (toL fi) 1 16 with
              | false =>
                have HF := Lib.hid (HNBk.out fun k => by rw [k.2] at hl2; cases hl2)
                rw [hl2] at HP2
                clear hl2
                go_wp2_with (first
                  | (go_at_call 20; (with_reducible refine (HP1.out _).mono ?_); rintro e w9 ⟨rfl, rfl⟩)
                  | (go_at_call 20; (with_reducible refine (HP2.out _).mono ?_); rintro e w9 ⟨rfl, rfl⟩))
                go_ret
                exact ⟨ret_bool HF.out.symm, HB.out⟩
              | true =>
                rw [hl2] at HP2
                have HL2 := Lib.hid hl2
                clear hl2
                go_wp2_with (first
                  | (go_at_call 20; (with_reducible refine (HP1.out _).mono ?_); rintro e w9 ⟨rfl, rfl⟩)
                  | (go_at_call 20; (with_reducible refine (HP2.out _).mono ?_); rintro e w9 ⟨rfl, rfl⟩))
                go_roundg (NN - (i + 1))
                case measure => omega
                case rel => exact ⟨i + 1, by omega, rfl, by go_num, (fun t ht => by
                  rw [HTK.out] at ht
                  rcases List.mem_append.1 ht with h1 | h1
                  · exact HALL.out t h1
                  · rw [List.mem_singleton.1 h1]; exact ⟨HL1.out, HL2.out⟩), rfl⟩
          · have hie : i = NN := by omega
            subst hie
            have hii : ¬ (i : Int) < (i : Int) := by omega
            have hall2 : ∀ x ∈ names, nameOk x := by have := HALL.out; rwa [List.take_of_length_le (by rw [HNN.out]; exact Nat.le_refl _)] at this
            have HNAM := Lib.hid hall2
            clear hall2 HALL HNB HSZ
            have HSB : RowKit.Hid (∀ x ∈ segs, ¬ segOk x → sb = false) := Lib.hid fun x hx h => HNO.out fun k => h (k.segs.2.1 x hx)
            have HSO : RowKit.Hid (¬ LiveOnce segs → sb = false) := Lib.hid fun h => HNO.out fun k => h (liveOnce_iff.2 k.segs.2.2)
            have HSZ : RowKit.Hid (∀ x ∈ segs, x.car.size ≤ maxLen) := Lib.hid HF.out.2.2.2.1
            go_wp2
            go_loopg [4] NS (fun g0 s4 wr => ∃ i : Nat, i ≤ NS ∧ g0 = NS - i ∧ s4 = .int .i64 (i : Int) ∧ (∀ x ∈ segs.take i, segOk x) ∧ LiveOnce (segs.take i) ∧ Below w1.heap.size w1 wr)
            case atStart => exact ⟨0, Nat.zero_le _, rfl, rfl, (fun x h => by cases h), (fun i k x y _ h => by simp at h), Below.refl _ _⟩
            case round =>
              obtain ⟨i, hiN, rfl, rfl, hall, honce, hbw⟩ := hrel
              have HALL := Lib.hid hall
              have HONC := Lib.hid honce
              clear hall honce
              have d3 := cell_bel hbw c3
              by_cases hlt : i < NS
              · have hii : (i : Int) < (NS : Int) := by omega
                have hi0 : (0 : Int) ≤ (i : Int) := by omega
                have hiN2 : i < segs.length := by rw [HNS.out]; exact hlt
                obtain ⟨bb, of2, rfl, hr, g0, g1, g2, _, g4⟩ := seg_at (HP.out.s.mono hbw) hiN2
                have HXI := Lib.hid (getD_at sg0 hiN2)
                have hmem := List.mem_of_getElem? HXI.out
                have z1 := HSZ.out _ hmem
                have HSBk := Lib.hid (HSB.out _ hmem)
                have HTK : RowKit.Hid (segs.take (i + 1) = segs.take i ++ [segs.getD i sg0]) := Lib.hid (by rw [List.take_add_one, HXI.out]; rfl)
                have HSF : RowKit.Hid (∀ W, Calls Tryz.prog 21 #[.agg (segC (segs.getD i sg0)).toArray] W fun e w' => e = .returned (.bool (segS (segs.getD i sg0))) ∧ Below W.heap.size W w') := Lib.hid fun W => segFormed_any _ W z1
                have HSY : RowKit.Hid (segS (segs.getD i sg0) = true → segOk (segs.getD i sg0)) := Lib.hid fun h => by
                  by_cases k : segOk (segs.getD i sg0)
                  · exact k
                  · rw [segS_no k] at h; cases h
                have HSN : RowKit.Hid (segS (segs.getD i sg0) = false → ¬ segOk (segs.getD i sg0)) := Lib.hid fun h k => by rw [segS_yes k] at h; cases h
                clear hmem z1
                generalize segs.getD i sg0 = x at *
                cases hsx : segS x with
                | false =>
                  have HF := Lib.hid (HSBk.out (HSN.out hsx))
                  rw [hsx] at HSF
                  clear hsx
                  obtain ⟨car, num, day, cls, live⟩ := x
                  unfold segC at hr HSF
                  go_wp2_with (first
                    | (refine wpList_load_mid rfl 44 _ rfl bb (of2 + i * 5) rfl _ _ hr Tryz.underlying44 rfl info_seg ?_)
                    | (go_at_call 21; (with_reducible refine (HSF.out _).mono ?_); rintro e w9 ⟨rfl, hb9⟩))
                  go_ret
                  exact ⟨ret_bool HF.out.symm, below_low (below_w HB.out hbw) (below_w HB.out hbw).size hb9⟩
                | true =>
                  have HSXO := Lib.hid (HSY.out hsx)
                  rw [hsx] at HSF
                  clear hsx
                  obtain ⟨car, num, day, cls, live⟩ := x
                  unfold segC at hr HSF
                  go_upto_region 15 with (first
                    | (refine wpList_load_mid rfl 44 _ rfl bb (of2 + i * 5) rfl _ _ hr Tryz.underlying44 rfl info_seg ?_)
                    | (go_at_call 21; (with_reducible refine (HSF.out _).mono ?_); rintro e w9 ⟨rfl, hb9⟩))
                  have hb19 := hbw.trans (hb9.mono hbw.size)
                  have HB19 := Lib.hid hb19
                  have HPR : RowKit.Hid (∀ (k : Nat) (y : SegT), k < i → segs[k]? = some y → live = true → y.live = true → ¬ legK y ≠ legK ⟨car, num, day, cls, live⟩ → sb = false) := Lib.hid fun k y hk hy h1 h2 h3 => HSO.out fun q => h3 (q i k _ y hk HXI.out hy h1 h2)
                  have HNX : RowKit.Hid ((∀ (k : Nat) (y : SegT), k < i → segs[k]? = some y → live = true → y.live = true → legK y ≠ legK ⟨car, num, day, cls, live⟩) → LiveOnce (segs.take (i + 1))) := Lib.hid fun h a k x y hka hx hy h1 h2 => by
                    have ha : a < i + 1 := by
                      rcases Nat.lt_or_ge a (i + 1) with h | h
                      · exact h
                      · rw [List.getElem?_take, if_neg (by omega)] at hx; cases hx
                    rw [take_at ha] at hx
                    rw [take_at (by omega)] at hy
                    rcases Nat.lt_or_ge a i with hai | hai
                    · exact HONC.out a k x y hka (by rw [take_at hai]; exact hx) (by rw [take_at (by omega)]; exact hy) h1 h2
                    · have e : a = i := by omega
                      subst e
                      rw [HXI.out] at hx
                      injection hx with hx
                      subst hx
                      exact h k y hka hy h1 h2
                  clear hr g0 g1 g2 g4 hb9 hb19 HSF hbw d3
                  go_wp2
                  go_loopg [5] i (fun g0 s5 wx => ∃ k : Nat, k ≤ i ∧ g0 = i - k ∧ s5 = .int .i64 (k : Int) ∧ (∀ (j : Nat) (y : SegT), j < k → segs[j]? = some y → live = true → y.live = true → legK y ≠ legK ⟨car, num, day, cls, live⟩) ∧ Below w1.heap.size w1 wx)
                  case atStart => exact ⟨0, Nat.zero_le _, rfl, rfl, (fun j y h => absurd h (Nat.not_lt_zero _)), HB19.out⟩
                  case round =>
                    obtain ⟨k, hk, rfl, rfl, hall, hbx⟩ := hrel
                    have HALK := Lib.hid hall
                    clear hall
                    have HBX := Lib.hid hbx
                    by_cases hki : k < i
                    · have hkii : (k : Int) < (i : Int) := by omega
                      have hk0 : (0 : Int) ≤ (k : Int) := by omega
                      have hkM : (k : Int) < (NS : Int) := by omega
                      have hkM2 : k < segs.length := by rw [HNS.out]; omega
                      have d3 := cell_bel hbx c3
                      obtain ⟨bb3, of3, e3, _, g0, g1, g2, _, g4⟩ := seg_at (HP.out.s.mono hbx) hiN2
                      simp at e3
                      obtain ⟨rfl, rfl⟩ := e3
                      obtain ⟨bb2, of3, e2, _, k0, k1, k2, _, k4⟩ := seg_at (HP.out.s.mono hbx) hkM2
                      simp at e2
                      obtain ⟨rfl, rfl⟩ := e2
                      have hxe : segs.getD i sg0 = ⟨car, num, day, cls, live⟩ := by
                        have := getD_at sg0 hiN2
                        rw [HXI.out] at this
                        exact (Option.some.inj this).symm
                      rw [hxe] at g0 g1 g2 g4
                      simp only at g0 g1 g2 g4
                      have HY := Lib.hid (getD_at sg0 hkM2)
                      have HPRk := Lib.hid (HPR.out k _ hki HY.out)
                      have HNXk : RowKit.Hid ((live = true → (segs.getD k sg0).live = true → legK (segs.getD k sg0) ≠ legK ⟨car, num, day, cls, live⟩) → ∀ (j : Nat) (y : SegT), j < k + 1 → segs[j]? = some y → live = true → y.live = true → legK y ≠ legK ⟨car, num, day, cls, live⟩) := Lib.hid fun h j y hj hy => by
                        rcases Nat.lt_or_ge j k with h1 | h1
                        · exact HALK.out j y h1 hy
                        · have e : j = k := by omega
                          subst e
                          rw [HY.out] at hy
                          injection hy with hy
                          rw [← hy]
                          exact h
                      clear hxe hbx
                      generalize segs.getD k sg0 = y at *
                      obtain ⟨car', num', day', cls', live'⟩ := y
                      simp only at k0 k1 k2 k4 HNXk HPRk
                      cases live' with
                      | false =>
                        have HN2 := Lib.hid (HNXk.out fun _ h => by cases h)
                        go_upto_region 18 with fail
                        go_quiet (fail)
                        go_wp2
                        go_roundg (i - (k + 1))
                        case measure => omega
                        case rel => exact ⟨k + 1, by omega, rfl, by go_num, HN2.out, below_drewN HBX.out _⟩
                      | true =>
                        cases live with
                        | false =>
                          have HN2 := Lib.hid (HNXk.out fun h => by cases h)
                          go_upto_region 18 with fail
                          go_quiet (fail)
                          go_wp2
                          go_roundg (i - (k + 1))
                          case measure => omega
                          case rel => exact ⟨k + 1, by omega, rfl, by go_num, HN2.out, below_drewN HBX.out _⟩
                        | true =>
                          by_cases ec : car' = car
                          rotate_left
                          · have hcb : (car'.toList == car.toList) = false := by rw [beq_eq_false_iff_ne]; exact fun h => ec (toList_inj h)
                            have HN2 := Lib.hid (HNXk.out fun _ _ h => ec (by unfold legK at h; simp only [Prod.mk.injEq] at h; exact h.1))
                            clear ec
                            go_upto_region 18 with fail
                            go_quiet (fail)
                            go_wp2
                            go_roundg (i - (k + 1))
                            case measure => omega
                            case rel => exact ⟨k + 1, by omega, rfl, by go_num, HN2.out, below_drewN HBX.out _⟩
                          have hcb : (car'.toList == car.toList) = true := by rw [ec]; simp
                          by_cases en : num' = num
                          rotate_left
                          · have hnb : (num' == num) = false := by rw [beq_eq_false_iff_ne]; exact en
                            have HN2 := Lib.hid (HNXk.out fun _ _ h => en (by unfold legK at h; simp only [Prod.mk.injEq] at h; exact h.2.1))
                            clear ec en
                            go_upto_region 18 with fail
                            go_quiet (fail)
                            go_wp2
                            go_roundg (i - (k + 1))
                            case measure => omega
                            case rel => exact ⟨k + 1, by omega, rfl, by go_num, HN2.out, below_drewN HBX.out _⟩
                          have hnb : (num' == num) = true := by rw [beq_iff_eq]; exact en
                          by_cases ed : day' = day
                          rotate_left
                          · have hdb : (day' == day) = false := by rw [beq_eq_false_iff_ne]; exact ed
                            have HN2 := Lib.hid (HNXk.out fun _ _ h => ed (by unfold legK at h; simp only [Prod.mk.injEq] at h; exact h.2.2))
                            clear ec en ed
                            go_upto_region 18 with fail
                            go_quiet (fail)
                            go_wp2
                            go_roundg (i - (k + 1))
                            case measure => omega
                            case rel => exact ⟨k + 1, by omega, rfl, by go_num, HN2.out, below_drewN HBX.out _⟩
                          have hdb : (day' == day) = true := by rw [beq_iff_eq]; exact ed
                          have HF := Lib.hid (HPRk.out (by first | rfl | trivial) (by first | rfl | trivial) (fun h => h (by unfold legK; simp only; rw [ec, en, ed])))
                          clear ec en ed
                          go_upto_region 18 with fail
                          go_quiet (fail)
                          go_wp2
                          go_ret
                          exact ⟨ret_bool HF.out.symm, below_w HB.out (below_drewN HBX.out _)⟩
                    · have hke : k = i := by omega
                      subst hke
                      have hkii : ¬ (k : Int) < (k : Int) := by omega
                      have HN3 := Lib.hid (HNX.out HALK.out)
                      go_wp2
                      go_roundg (NS - (k + 1))
                      case measure => omega
                      case rel => exact ⟨k + 1, by omega, rfl, by go_num, (fun t ht => by
                        rw [HTK.out] at ht
                        rcases List.mem_append.1 ht with h1 | h1
                        · exact HALL.out t h1
                        · rw [List.mem_singleton.1 h1]; exact HSXO.out), HN3.out, hbx⟩
              · have hie : i = NS := by omega
                subst hie
                have hii : ¬ (i : Int) < (i : Int) := by omega
                have hsl : segs.length ≤ i := by rw [HNS.out]; exact Nat.le_refl _
                have hall3 : ∀ x ∈ segs, segOk x := by have := HALL.out; rwa [List.take_of_length_le hsl] at this
                have honce3 : LiveOnce segs := by have := HONC.out; rwa [List.take_of_length_le hsl] at this
                have HSEG := Lib.hid (And.intro hall3 honce3)
                have HBW := Lib.hid hbw
                have HBKr := Lib.hid (HBK.out.mono hbw)
                clear hall3 honce3 hsl HALL HONC HSB HSO HSZ hbw
                go_upto_region 21 with (first
                  | (refine wpList_store_blk rfl 26 (.tmp 6) (.tmp 110) rfl wr.heap.size 26 [.int .i64 0, .int .i64 0, .int .i64 0] [.int .i64 0, .int .i64 0, .int .i64 0] rfl rfl (Blk.new wr 26 [.int .i64 0, .int .i64 0, .int .i64 0]) rfl info_ticket tick3_one ?_; intro w8 ha8 hb8 hgr8))
                try dsimp only [Act.put]
                have h18 : Below wr.heap.size wr w8 := ((Below.refl _ _).alloc (Nat.le_refl _) _).trans hb8
                have HB8 := Lib.hid (HBW.out.trans (h18.mono HBW.out.size))
                have HBK8 := Lib.hid (HBKr.out.mono h18)
                have t5 : w8.cell? ⟨w.heap.size, 5, none⟩ = some (.int .i64 tk) := (HBK8.out.cell 5).trans rfl
                have t6 : w8.cell? ⟨w.heap.size, 6, none⟩ = some (.int .i64 td) := (HBK8.out.cell 6).trans rfl
                have t7 : w8.cell? ⟨w.heap.size, 7, none⟩ = some (.int .i64 tm) := (HBK8.out.cell 7).trans rfl
                have z0 : w8.cell? ⟨wr.heap.size, 0, none⟩ = some (.int .i64 0) := (ha8.cell 0).trans rfl
                have z1 : w8.cell? ⟨wr.heap.size, 1, none⟩ = some (.int .i64 0) := (ha8.cell 1).trans rfl
                have z2 : w8.cell? ⟨wr.heap.size, 2, none⟩ = some (.int .i64 0) := (ha8.cell 2).trans rfl
                have q8 : ∀ W, Below w8.heap.size w8 W → W.cell? ⟨w.heap.size, 11, none⟩ = some (.bool queued) ∧ W.cell? ⟨w.heap.size, 5, none⟩ = some (.int .i64 tk) := fun W h => ⟨((HBK8.out.mono h).cell 11).trans rfl, ((HBK8.out.mono h).cell 5).trans rfl⟩
                have Q8 := Lib.hid q8
                obtain ⟨q11, _⟩ := q8 w8 (Below.refl _ _)
                have HTF := Lib.hid fun W => ticketFormed_any tk td tm W
                have HTS : RowKit.Hid (tickS tk td tm queued = ((((tk == 0) && ((td == 0) && (tm == 0))) || tfS tk td tm) && (!queued || (tk == 1)))) := Lib.hid tickS_bool
                generalize tfS tk td tm = tf at *
                clear ha8 hb8 hgr8 h18 q8
                go_cut [130] from 111 to 130 (fun s130 wx => s130 = .bool (!tickS tk td tm queued) ∧ Below w8.heap.size w8 wx)
                case first =>
                  have hts := HTS.out
                  have hn1 : (tk != 1) = !(tk == 1) := rfl
                  generalize tickS tk td tm queued = ts at *
                  by_cases hz : tk = 0 ∧ td = 0 ∧ tm = 0
                  · obtain ⟨e0, e1, e2⟩ := hz
                    subst e0 e1 e2
                    cases queued <;> (
                      simp at hts
                      subst hts
                      go_wp2
                      go_meet
                      exact ⟨rfl, Below.refl _ _⟩)
                  · have hneq : ((tk == 0) && ((td == 0) && (tm == 0))) = false := by
                      rw [Bool.eq_false_iff]
                      intro h
                      rw [Bool.and_eq_true, Bool.and_eq_true, beq_iff_eq, beq_iff_eq, beq_iff_eq] at h
                      exact hz h
                    rw [hneq, Bool.false_or] at hts
                    clear hneq
                    by_cases e0 : tk = 0
                    · subst e0
                      clear hn1
                      by_cases e1 : td = 0
                      · subst e1
                        have hb2 : (tm == 0) = false := by rw [beq_eq_false_iff_ne]; exact fun h => hz ⟨rfl, rfl, h⟩
                        clear hz
                        cases tf with
                        | false =>
                          simp at hts
                          subst hts
                          go_wp2_with (first
                            | (go_at_call 22; (with_reducible refine (HTF.out _).mono ?_); rintro e w9 ⟨rfl, hb9⟩; obtain ⟨r11, r5⟩ := Q8.out w9 hb9))
                          go_meet
                          exact ⟨rfl, hb9⟩
                        | true =>
                          cases queued with
                          | false =>
                            simp at hts
                            subst hts
                            go_wp2_with (first
                              | (go_at_call 22; (with_reducible refine (HTF.out _).mono ?_); rintro e w9 ⟨rfl, hb9⟩; obtain ⟨r11, r5⟩ := Q8.out w9 hb9))
                            go_meet
                            exact ⟨rfl, hb9⟩
                          | true =>
                            simp at hts
                            subst hts
                            go_wp2_with (first
                              | (go_at_call 22; (with_reducible refine (HTF.out _).mono ?_); rintro e w9 ⟨rfl, hb9⟩; obtain ⟨r11, r5⟩ := Q8.out w9 hb9))
                            go_meet
                            exact ⟨rfl, hb9⟩
                      · have hb1 : (td == 0) = false := by rw [beq_eq_false_iff_ne]; exact e1
                        clear hz e1
                        cases tf with
                        | false =>
                          simp at hts
                          subst hts
                          go_wp2_with (first
                            | (go_at_call 22; (with_reducible refine (HTF.out _).mono ?_); rintro e w9 ⟨rfl, hb9⟩; obtain ⟨r11, r5⟩ := Q8.out w9 hb9))
                          go_meet
                          exact ⟨rfl, hb9⟩
                        | true =>
                          cases queued with
                          | false =>
                            simp at hts
                            subst hts
                            go_wp2_with (first
                              | (go_at_call 22; (with_reducible refine (HTF.out _).mono ?_); rintro e w9 ⟨rfl, hb9⟩; obtain ⟨r11, r5⟩ := Q8.out w9 hb9))
                            go_meet
                            exact ⟨rfl, hb9⟩
                          | true =>
                            simp at hts
                            subst hts
                            go_wp2_with (first
                              | (go_at_call 22; (with_reducible refine (HTF.out _).mono ?_); rintro e w9 ⟨rfl, hb9⟩; obtain ⟨r11, r5⟩ := Q8.out w9 hb9))
                            go_meet
                            exact ⟨rfl, hb9⟩
                    · have hb0 : (tk == 0) = false := by rw [beq_eq_false_iff_ne]; exact e0
                      clear hz e0
                      cases tf with
                      | false =>
                        simp at hts
                        subst hts
                        go_wp2_with (first
                          | (go_at_call 22; (with_reducible refine (HTF.out _).mono ?_); rintro e w9 ⟨rfl, hb9⟩; obtain ⟨r11, r5⟩ := Q8.out w9 hb9))
                        go_meet
                        exact ⟨rfl, hb9⟩
                      | true =>
                        cases queued with
                        | false =>
                          simp at hts
                          subst hts
                          go_wp2_with (first
                            | (go_at_call 22; (with_reducible refine (HTF.out _).mono ?_); rintro e w9 ⟨rfl, hb9⟩; obtain ⟨r11, r5⟩ := Q8.out w9 hb9))
                          go_meet
                          exact ⟨rfl, hb9⟩
                        | true =>
                          cases hk1 : (tk == 1) with
                          | true =>
                            have hk2 : (tk != 1) = false := by rw [hn1, hk1]; rfl
                            rw [hk1] at hts
                            simp at hts
                            subst hts
                            clear hn1
                            go_wp2_with (first
                              | (go_at_call 22; (with_reducible refine (HTF.out _).mono ?_); rintro e w9 ⟨rfl, hb9⟩; obtain ⟨r11, r5⟩ := Q8.out w9 hb9))
                            go_meet
                            exact ⟨by first | rfl | simp [hk2], hb9⟩
                          | false =>
                            have hk2 : (tk != 1) = true := by rw [hn1, hk1]; rfl
                            rw [hk1] at hts
                            simp at hts
                            subst hts
                            clear hn1
                            go_wp2_with (first
                              | (go_at_call 22; (with_reducible refine (HTF.out _).mono ?_); rintro e w9 ⟨rfl, hb9⟩; obtain ⟨r11, r5⟩ := Q8.out w9 hb9))
                            go_meet
                            exact ⟨by first | rfl | simp [hk2], hb9⟩
                case rest =>
                  obtain ⟨rfl, hbx⟩ := hcut
                  rename World => wx
                  have HW9 := Lib.hid (below_w HB.out (HB8.out.trans (hbx.mono HB8.out.size)))
                  have HBKx := Lib.hid (HBK8.out.mono hbx)
                  have HSS := Lib.hid (segsS_yes ⟨by first | exact h8 | (rw [HNS.out]; exact h8), HSEG.out.1, liveOnce_iff.1 HSEG.out.2⟩)
                  have HT := Lib.hid (HREST.out (by first | rfl | trivial) (by first | rfl | trivial) (by first | exact h9 | (rw [HNN.out]; exact h9)) HNAM.out)
                  rw [HSS.out, Bool.true_and] at HT
                  clear hbx t5 t6 t7 z0 z1 z2 q11 Q8 HTF HTS HREST HYES HNO HSS
                  have c4 : wx.cell? ⟨w.heap.size, 4, none⟩ = some vp := (HBKx.out.cell 4).trans rfl
                  have c9 : wx.cell? ⟨w.heap.size, 9, none⟩ = some vr := (HBKx.out.cell 9).trans rfl
                  have c8 : wx.cell? ⟨w.heap.size, 8, none⟩ = some (.string recv) := (HBKx.out.cell 8).trans rfl
                  have hld := pnr_load HBKx.out rfl
                  generalize tickS tk td tm queued = ts at *
                  generalize placesS segs names.length seats = b6 at *
                  cases ts with
                  | false =>
                    have HF : RowKit.Hid (sb = false) := Lib.hid (by rw [HT.out]; simp)
                    go_wp2
                    go_ret
                    exact ⟨ret_bool HF.out.symm, HW9.out⟩
                  | true =>
                    have hrf := HRF.out
                    clear HRF
                    generalize hre : (recv.toList == []) = re at *
                    subst hrf
                    cases b2 with
                    | false =>
                      go_wp2_with (first
                        | (go_at_call 23; (with_reducible refine (HPH.out _ HW9.out).mono ?_); rintro e w10 ⟨rfl, rfl⟩))
                      go_ret
                      exact ⟨ret_bool (by rw [HT.out]; first | rfl | simp), HW9.out⟩
                    | true =>
                      cases b3 with
                      | false =>
                        go_wp2_with (first
                          | (go_at_call 23; (with_reducible refine (HPH.out _ HW9.out).mono ?_); rintro e w10 ⟨rfl, rfl⟩)
                          | (go_at_call 23; (with_reducible refine (HRM.out _ HW9.out).mono ?_); rintro e w11 ⟨rfl, rfl⟩))
                        go_ret
                        exact ⟨ret_bool (by rw [HT.out]; first | rfl | simp), HW9.out⟩
                      | true =>
                        cases re with
                        | true =>
                          go_wp2_with (first
                            | (go_at_call 23; (with_reducible refine (HPH.out _ HW9.out).mono ?_); rintro e w10 ⟨rfl, rfl⟩)
                            | (go_at_call 23; (with_reducible refine (HRM.out _ HW9.out).mono ?_); rintro e w11 ⟨rfl, rfl⟩)
                            | (go_at_call 24; (with_reducible refine (HFR.out _).mono ?_); rintro e w12 ⟨rfl, rfl⟩)
                            | (refine wpList_load_yes 29 (.tmp 1) rfl (by rfl) ⟨w.heap.size, 0, none⟩ rfl _ hld ?_)
                            | (go_at_call 25; (with_reducible refine (HSE.out _ HW9.out).mono ?_); rintro e w13 ⟨rfl, hb13⟩))
                          go_ret
                          exact ⟨ret_bool (by rw [HT.out]; first | rfl | simp), below_low HW9.out HW9.out.size hb13⟩
                        | false =>
                          cases fr with
                          | false =>
                            go_wp2_with (first
                              | (go_at_call 23; (with_reducible refine (HPH.out _ HW9.out).mono ?_); rintro e w10 ⟨rfl, rfl⟩)
                              | (go_at_call 23; (with_reducible refine (HRM.out _ HW9.out).mono ?_); rintro e w11 ⟨rfl, rfl⟩)
                              | (go_at_call 24; (with_reducible refine (HFR.out _).mono ?_); rintro e w12 ⟨rfl, rfl⟩))
                            go_ret
                            exact ⟨ret_bool (by rw [HT.out]; first | rfl | simp), HW9.out⟩
                          | true =>
                            go_wp2_with (first
                              | (go_at_call 23; (with_reducible refine (HPH.out _ HW9.out).mono ?_); rintro e w10 ⟨rfl, rfl⟩)
                              | (go_at_call 23; (with_reducible refine (HRM.out _ HW9.out).mono ?_); rintro e w11 ⟨rfl, rfl⟩)
                              | (go_at_call 24; (with_reducible refine (HFR.out _).mono ?_); rintro e w12 ⟨rfl, rfl⟩)
                              | (refine wpList_load_yes 29 (.tmp 1) rfl (by rfl) ⟨w.heap.size, 0, none⟩ rfl _ hld ?_)
                              | (go_at_call 25; (with_reducible refine (HSE.out _ HW9.out).mono ?_); rintro e w13 ⟨rfl, hb13⟩))
                            go_ret
                            exact ⟨ret_bool (by rw [HT.out]; first | rfl | simp), below_low HW9.out HW9.out.size hb13⟩
end Go.Proofs.YtmhhbnnjilbdnaaGreatDoor
