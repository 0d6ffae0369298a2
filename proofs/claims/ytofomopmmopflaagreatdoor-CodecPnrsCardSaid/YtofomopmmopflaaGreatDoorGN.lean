/- check.Sound. -/
import Derived.Test.YtofomopmmopflaaGreatDoorMA
import Derived.Test.YtofomopmmopflaaGreatDoorMB
import Derived.Test.YtofomopmmopflaaGreatDoorMC
import Derived.Test.YtofomopmmopflaaGreatDoorMD
import Derived.Test.YtofomopmmopflaaGreatDoorME
import Derived.Test.YtofomopmmopflaaGreatDoorFI
import Derived.Test.YtofomopmmopflaaGreatDoorFN
import Derived.Test.YtofomopmmopflaaGreatDoorGA
import Derived.Test.YtofomopmmopflaaGreatDoorGB
import Derived.Test.YtofomopmmopflaaGreatDoorGD
import Derived.Test.YtofomopmmopflaaGreatDoorGF
import Derived.Test.YtofomopmmopflaaGreatDoorGH
import Derived.Test.YtofomopmmopflaaGreatDoorGI
import Derived.Test.YtofomopmmopflaaGreatDoorGK
import Derived.Test.YtofomopmmopflaaGreatDoorGL
import Derived.Test.YtofomopmmopflaaGreatDoorGM
import Derived.Test.YtofomopmmopflaaGreatDoorGJA
import Derived.Test.YtofomopmmopflaaGreatDoorRows
import Derived.WalkKit
import Derived.WalkSpells
import Derived.WalkLawsBesides
import Derived.Lib.ConvBytes
import Derived.Lib.Hide
import Derived.Lib.SliceRun
import Derived.IntWalk
import Derived.BigQuiet
import Derived.Deep.QuietTactic
import Derived.Deep.RegionWith
import Derived.Deep.RegionHeld3
import Derived.Deep.LoopGhost
import Derived.Deep.CutRange
import Derived.Deep.CutBlock
import Derived.Deep.MidRow
import Derived.Laws.OwnMore
import Derived.OwnWalk
import Derived.Laws.AppendOwnNone
import Derived.Laws.Rows
import Derived.Laws.MakeOwn
import Derived.Laws.CopyOwn
import Derived.Laws.BitsAllLaws
import Derived.DeepKeys5
import Derived.Maps.OwnOps
import Derived.Handy
import Derived.Lib.AppendStr
import Derived.StillTailTactics
import Derived.Deep.AppendLies
import Derived.WideKeyEntry
namespace Go.Proofs.YtofomopmmopflaaGreatDoor
open Go.RowKit Go.ChangeMaps
set_option linter.unusedSimpArgs false
set_option linter.unusedVariables false
set_option maxRecDepth 20000

set_option maxHeartbeats 16000000 in
theorem soundP_any (p : PnrT) (vn vs vp vr vx : Value) (w : World) (h : PIn w p vn vs vp vr vx) :
    Calls Tryz.prog 17 #[.agg (pnrC p vn vs vp vr vx).toArray] w fun e w' => e = .returned (.bool (soundPS p)) ∧ Below w.heap.size w w' := by
  have HNO : RowKit.Hid (¬ SoundP p → soundPS p = false) := Lib.hid soundPS_no
  have HREST : RowKit.Hid (orL p.loc 6 = true → orL p.off 3 = true → p.names.length ≤ 9 → (∀ x ∈ p.names, nameOk x) → soundPS p = (segsS p.segs && (textsS p.phones 4 && (textsS p.remarks 10 && (orF p.recv && (tickS p.tk p.td p.tm p.queued && placesS p.segs p.names.length p.seats)))))) := Lib.hid fun h1 h2 h3 h4 => sound_rest h1 h2 h3 h4
  generalize soundPS p = sb at *
  have hbk := Blk.new w 29 (pnrC p vn vs vp vr vx)
  have hb1 : Below w.heap.size w (w.alloc (.cells (pnrC p vn vs vp vr vx).toArray 29)) := (Below.refl _ _).alloc (Nat.le_refl _) _
  have HP := Lib.hid (h.mono hb1)
  have HF := Lib.hid h.fit
  have HTI : RowKit.Hid (∀ W, Calls Tryz.prog 53 #[.agg (pnrC p vn vs vp vr vx).toArray] W fun e w' => e = .returned (.bool (tickS p.tk p.td p.tm p.queued)) ∧ Below W.heap.size W w') := Lib.hid fun W => ticket_any p vn vs vp vr vx W
  have HSE : RowKit.Hid (∀ W, Below w.heap.size w W → Calls Tryz.prog 54 #[.agg (pnrC p vn vs vp vr vx).toArray] W fun e w' => e = .returned (.bool (placesS p.segs p.names.length p.seats)) ∧ Below W.heap.size W w') := Lib.hid fun W hb => seats_any p vn vs vp vr vx W (h.n.mono hb) (h.s.mono hb) (h.x.mono hb) h.few.1 h.few.2.1 h.few.2.2.2.2
  have HSG : RowKit.Hid (∀ W, Below w.heap.size w W → Calls Tryz.prog 50 #[vs] W fun e w' => e = .returned (.bool (segsS p.segs)) ∧ Below W.heap.size W w') := Lib.hid fun W hb => segments_any p.segs vs W (h.s.mono hb) h.fit.2.2.2.1
  have HPH : RowKit.Hid (∀ W, Below w.heap.size w W → Calls Tryz.prog 51 #[vp, .int .i64 4] W fun e w' => e = .returned (.bool (textsS p.phones 4)) ∧ Below W.heap.size W w') := Lib.hid fun W hb => texts_any p.phones vp 4 W (h.ph.mono hb) h.fit.2.2.2.2.1 (by omega)
  have HRM : RowKit.Hid (∀ W, Below w.heap.size w W → Calls Tryz.prog 51 #[vr, .int .i64 10] W fun e w' => e = .returned (.bool (textsS p.remarks 10)) ∧ Below W.heap.size W w') := Lib.hid fun W hb => texts_any p.remarks vr 10 W (h.rm.mono hb) h.fit.2.2.2.2.2.2 (by omega)
  obtain ⟨pn, cn, rfl⟩ := h.n.len
  obtain ⟨loc, off, names, segs, phones, tk, td, tm, recv, remarks, seats, queued⟩ := p
  unfold pnrC at hbk hb1 HP HTI HSE ⊢
  simp only at hbk hb1 HP HF HTI HSE HSG HPH HRM HREST ⊢
  have HBK := Lib.hid hbk
  have HB := Lib.hid hb1
  have hlo : loc.size ≤ maxLen := h.fit.1
  have hof : off.size ≤ maxLen := h.fit.2.1
  have hrs : recv.size ≤ maxLen := h.fit.2.2.2.2.2.1
  have HLO : RowKit.Hid (∀ W, Calls Tryz.prog 45 #[.string loc] W fun e w' => e = .returned (.bool (lettersS (toL loc) 6 6)) ∧ Below W.heap.size W w') := Lib.hid fun W => locator_any loc W hlo
  have HCI : RowKit.Hid (∀ W, Calls Tryz.prog 48 #[.string off] W fun e w' => e = .returned (.bool (lettersS (toL off) 3 3)) ∧ Below W.heap.size W w') := Lib.hid fun W => city_any off W hof
  have HFR : RowKit.Hid (∀ W, Calls Tryz.prog 52 #[.string recv] W fun e w' => e = .returned (.bool (freeS (toL recv))) ∧ Below W.heap.size W w') := Lib.hid fun W => free_any recv W hrs
  have HL6 : RowKit.Hid (orL loc 6 = ((loc.toList == []) || lettersS (toL loc) 6 6)) := Lib.hid rfl
  have HO3 : RowKit.Hid (orL off 3 = ((off.toList == []) || lettersS (toL off) 3 3)) := Lib.hid rfl
  have HRF : RowKit.Hid (orF recv = ((recv.toList == []) || freeS (toL recv))) := Lib.hid rfl
  have HNL : RowKit.Hid (orL loc 6 = false → sb = false) := Lib.hid fun h => HNO.out fun k => by rw [orL_iff.2 k.loc] at h; cases h
  have HNF : RowKit.Hid (orL off 3 = false → sb = false) := Lib.hid fun h => HNO.out fun k => by rw [orL_iff.2 k.off] at h; cases h
  clear hbk hb1 h hlo hof hrs
  generalize orL loc 6 = ol at *
  generalize orL off 3 = oo at *
  generalize orF recv = orr at *
  generalize lettersS (toL loc) 6 6 = ll at HLO HL6
  generalize lettersS (toL off) 3 3 = lo at HCI HO3
  generalize freeS (toL recv) = fr at HFR HRF
  generalize segsS segs = b1 at *
  generalize textsS phones 4 = b2 at *
  generalize textsS remarks 10 = b3 at *
  generalize tickS tk td tm queued = b5 at *
  generalize hNN : names.length = NN at *
  generalize placesS segs NN seats = b6 at *
  have HNN := Lib.hid hNN
  clear hNN
  go_enter Tryz.func17, Tryz.ntmps17
  go_upto_region 1 with fail
  have HLD : RowKit.Hid (∀ W, Below (w.heap.size + 1) (w.alloc (.cells #[.string loc, .string off, .slice pn NN cn, vs, vp, .int .i64 tk, .int .i64 td, .int .i64 tm, .string recv, vr, vx, .bool queued] 29)) W → (loadVar 29 ⟨w.heap.size, 0, none⟩).run Tryz.prog W = .ok (.agg #[.string loc, .string off, .slice pn NN cn, vs, vp, .int .i64 tk, .int .i64 td, .int .i64 tm, .string recv, vr, vx, .bool queued]) W) := Lib.hid fun W hb => pnr_load (HBK.out.keep hb (Nat.lt_succ_self _)) rfl
  have hz1 : (w.alloc (.cells #[.string loc, .string off, .slice pn NN cn, vs, vp, .int .i64 tk, .int .i64 td, .int .i64 tm, .string recv, vr, vx, .bool queued] 29)).heap.size = w.heap.size + 1 := by simp
  rw [← hz1] at HLD
  clear hz1
  generalize w.alloc (.cells #[.string loc, .string off, .slice pn NN cn, vs, vp, .int .i64 tk, .int .i64 td, .int .i64 tm, .string recv, vr, vx, .bool queued] 29) = w1 at *
  have HCS : RowKit.Hid (∀ W, Below w1.heap.size w1 W → W.cell? ⟨w.heap.size, 1, none⟩ = some (.string off) ∧ W.cell? ⟨w.heap.size, 2, none⟩ = some (.slice pn NN cn) ∧ W.cell? ⟨w.heap.size, 3, none⟩ = some vs ∧ W.cell? ⟨w.heap.size, 4, none⟩ = some vp ∧ W.cell? ⟨w.heap.size, 9, none⟩ = some vr ∧ W.cell? ⟨w.heap.size, 8, none⟩ = some (.string recv)) := Lib.hid fun W hb => ⟨((HBK.out.mono hb).cell 1).trans rfl, ((HBK.out.mono hb).cell 2).trans rfl, ((HBK.out.mono hb).cell 3).trans rfl, ((HBK.out.mono hb).cell 4).trans rfl, ((HBK.out.mono hb).cell 9).trans rfl, ((HBK.out.mono hb).cell 8).trans rfl⟩
  have c0 : w1.cell? ⟨w.heap.size, 0, none⟩ = some (.string loc) := (HBK.out.cell 0).trans rfl
  obtain ⟨c1, c2, _⟩ := HCS.out w1 (Below.refl _ _)
  obtain ⟨nb, hnb⟩ : ∃ nb, nb = decide (NN ≤ 9) := ⟨_, rfl⟩
  have HNB9 := Lib.hid hnb
  clear hnb
  go_cut [30] from 5 to 30 (fun s30 wx => s30 = .bool (!(ol && oo && nb)) ∧ Below w1.heap.size w1 wx)
  case first =>
    have hl := HL6.out
    have ho := HO3.out
    clear HREST HNL HNF HRF HTI HSE HSG HPH HRM HFR HLD
    generalize hle : (loc.toList == []) = le at *
    generalize hoe : (off.toList == []) = oe at *
    have hln : (loc.toList != []) = !le := by rw [bne, hle]
    have hon : (off.toList != []) = !oe := by rw [bne, hoe]
    subst hl ho
    have hd9 : (decide (9 < (NN : Int))) = !nb := by
      rw [HNB9.out]
      by_cases h9 : NN ≤ 9
      · rw [decide_eq_true h9, decide_eq_false (by omega)]; rfl
      · rw [decide_eq_false h9, decide_eq_true (by omega)]; rfl
    cases le <;> cases ll <;> cases oe <;> cases lo
    all_goals (
      go_wp2_with (first
        | (go_at_call 45; (with_reducible refine (HLO.out _).mono ?_); rintro e w9 ⟨rfl, hb9⟩; obtain ⟨d1, d2, _⟩ := HCS.out w9 hb9)
        | (go_at_call 48; (with_reducible refine (HCI.out _).mono ?_); rintro e w10 ⟨rfl, hb10⟩; first | have e2 := cell_bel hb10 d2 | have e2 := cell_bel hb10 c2))
      go_meet
      refine ⟨by first | rfl | (simp only [hd9]; rfl) | simp [hd9], ?_⟩
      first
        | exact Below.refl _ _
        | exact hb9
        | exact hb10
        | exact bel_trans hb9 hb10)
  case rest =>
    obtain ⟨rfl, hbx⟩ := hcut
    rename World => wx
    clear HLO HCI HL6 HO3 c0 c1 c2
    obtain ⟨_, d2, _⟩ := HCS.out wx hbx
    have HBX := Lib.hid hbx
    clear hbx
    cases ol with
    | false =>
      have HF := Lib.hid (HNL.out rfl)
      go_wp2
      go_ret
      exact ⟨ret_bool HF.out.symm, below_w HB.out HBX.out⟩
    | true =>
      cases oo with
      | false =>
        have HF := Lib.hid (HNF.out rfl)
        go_wp2
        go_ret
        exact ⟨ret_bool HF.out.symm, below_w HB.out HBX.out⟩
      | true =>
        clear HNL HNF
        cases nb with
        | false =>
          have HF := Lib.hid (HNO.out fun k => of_decide_eq_false HNB9.out.symm (by have := k.names.1; simp only at this; rw [HNN.out] at this; exact this))
          go_wp2
          go_ret
          exact ⟨ret_bool HF.out.symm, below_w HB.out HBX.out⟩
        | true =>
        have h9 : NN ≤ 9 := of_decide_eq_true HNB9.out.symm
        have HNB : RowKit.Hid (∀ x ∈ names, ¬ nameOk x → sb = false) := Lib.hid fun x hx h => HNO.out fun k => h (k.names.2 x hx)
        have HSZ : RowKit.Hid (∀ x ∈ names, x.last.size ≤ maxLen ∧ x.first.size ≤ maxLen) := Lib.hid HF.out.2.2.1
        go_wp2
        go_loopg [34] NN (fun g0 s34 wr => ∃ i : Nat, i ≤ NN ∧ g0 = NN - i ∧ s34 = .int .i64 (i : Int) ∧ (∀ x ∈ names.take i, nameOk x) ∧ Below w1.heap.size w1 wr)
        case atStart => exact ⟨0, Nat.zero_le _, rfl, rfl, (fun x h => by cases h), HBX.out⟩
        case round =>
          obtain ⟨i, hiN, rfl, rfl, hall, hbw⟩ := hrel
          have HALL := Lib.hid hall
          have HBW := Lib.hid hbw
          clear hall hbw d2
          by_cases hlt : i < NN
          · have hii : (i : Int) < (NN : Int) := by omega
            have hi0 : (0 : Int) ≤ (i : Int) := by omega
            have hiN2 : i < names.length := by rw [HNN.out]; exact hlt
            obtain ⟨bb, of2, rfl, hr, _, _⟩ := name_at (HP.out.n.mono HBW.out) hiN2
            have hmem := List.mem_of_getElem? (getD_at nm0 hiN2)
            obtain ⟨z1, z2⟩ := HSZ.out _ hmem
            have HNBk := Lib.hid (HNB.out _ hmem)
            have HTK : RowKit.Hid (names.take (i + 1) = names.take i ++ [names.getD i nm0]) := Lib.hid (by rw [List.take_add_one, getD_at nm0 hiN2]; rfl)
            clear hmem
            generalize names.getD i nm0 = x at *
            obtain ⟨la, fi⟩ := x
            unfold nameC at hr
            simp only at z1 z2 hr
            have HP1 : RowKit.Hid (∀ W, Calls Tryz.prog 49 #[.string la] W fun e w' => e = .returned (.bool (lettersS (toL la) 1 16)) ∧ Below W.heap.size W w') := Lib.hid fun W => person_any la W z1
            have HP2 : RowKit.Hid (∀ W, Calls Tryz.prog 49 #[.string fi] W fun e w' => e = .returned (.bool (lettersS (toL fi) 1 16)) ∧ Below W.heap.size W w') := Lib.hid fun W => person_any fi W z2
            go_upto_region 6 with (first
              | (refine wpList_load_mid rfl 59 _ rfl bb (of2 + i * 2) rfl [.string la, .string fi] _ hr Tryz.underlying59 rfl info_name ?_)
              | (refine wpList_store_blk rfl 59 (.tmp 4) (.tmp 37) rfl wr.heap.size 59 (nameC nm0) [.string la, .string fi] rfl rfl (Blk.new wr 59 (nameC nm0)) rfl info_name (nameC_one ⟨la, fi⟩) ?_; intro w8 ha8 hb8 hgr8))
            dsimp only [Act.put]
            have h18 : Below wr.heap.size wr w8 := ((Below.refl _ _).alloc (Nat.le_refl _) _).trans hb8
            have HB8 := Lib.hid (HBW.out.trans (h18.mono HBW.out.size))
            have t0 : w8.cell? ⟨wr.heap.size, 0, none⟩ = some (.string la) := (ha8.cell 0).trans rfl
            have t1 : w8.cell? ⟨wr.heap.size, 1, none⟩ = some (.string fi) := (ha8.cell 1).trans rfl
            clear hr ha8 hb8 hgr8 h18
            cases hl1 : lettersS (toL la) 1 16 with
            | false =>
              have HF := Lib.hid (HNBk.out fun k => by rw [k.1] at hl1; cases hl1)
              rw [hl1] at HP1
              clear hl1
              go_wp2_with (first
                | (go_at_call 49; (with_reducible refine (HP1.out _).mono ?_); rintro e w9 ⟨rfl, hb9⟩))
              go_ret
              exact ⟨ret_bool HF.out.symm, below_w HB.out (below_low HB8.out HB8.out.size hb9)⟩
            | true =>
              rw [hl1] at HP1
              have HL1 := Lib.hid hl1
              clear hl1
              cases hl2 : lettersS (toL fi) 1 16 with
              | false =>
                have HF := Lib.hid (HNBk.out fun k => by rw [k.2] at hl2; cases hl2)
                rw [hl2] at HP2
                clear hl2
                go_wp2_with (first
                  | (go_at_call 49; (with_reducible refine (HP1.out _).mono ?_); rintro e w9 ⟨rfl, hb9⟩; have u1 := cell_bel hb9 t1)
                  | (go_at_call 49; (with_reducible refine (HP2.out _).mono ?_); rintro e w10 ⟨rfl, hb10⟩))
                go_ret
                exact ⟨ret_bool HF.out.symm, below_w HB.out (below_low HB8.out HB8.out.size (bel_trans hb9 hb10))⟩
              | true =>
                rw [hl2] at HP2
                have HL2 := Lib.hid hl2
                clear hl2
                go_wp2_with (first
                  | (go_at_call 49; (with_reducible refine (HP1.out _).mono ?_); rintro e w9 ⟨rfl, hb9⟩; have u1 := cell_bel hb9 t1)
                  | (go_at_call 49; (with_reducible refine (HP2.out _).mono ?_); rintro e w10 ⟨rfl, hb10⟩))
                go_roundg (NN - (i + 1))
                case measure => omega
                case rel => exact ⟨i + 1, by omega, rfl, by go_num, (fun t ht => by
                  rw [HTK.out] at ht
                  rcases List.mem_append.1 ht with h1 | h1
                  · exact HALL.out t h1
                  · rw [List.mem_singleton.1 h1]; exact ⟨HL1.out, HL2.out⟩), below_low HB8.out HB8.out.size (bel_trans hb9 hb10)⟩
          · have hie : i = NN := by omega
            subst hie
            have hii : ¬ (i : Int) < (i : Int) := by omega
            have hall2 : ∀ x ∈ names, nameOk x := by have := HALL.out; rwa [List.take_of_length_le (by rw [HNN.out]; exact Nat.le_refl _)] at this
            have HT := Lib.hid (HREST.out (by first | rfl | trivial) (by first | rfl | trivial) (by first | exact h9 | (rw [HNN.out]; exact h9)) hall2)
            clear hall2 HALL HNB HSZ HREST HNO
            have HB1w : RowKit.Hid (∀ W, Below w1.heap.size w1 W → Below w.heap.size w W) := Lib.hid fun W h => below_w HB.out h
            obtain ⟨_, _, c3, c4, c9, c8⟩ := HCS.out wr HBW.out
            have hld := HLD.out wr HBW.out
            have HSGr := Lib.hid (HSG.out wr (HB1w.out wr HBW.out))
            have hrf := HRF.out
            clear HRF
            generalize hre : (recv.toList == []) = re at *
            subst hrf
            clear c3 hld
            obtain ⟨_, _, c3, _⟩ := HCS.out wr HBW.out
            cases b1 with
            | false =>
              go_wp2_with (first
                | (go_at_call 50; (with_reducible refine HSGr.out.mono ?_); rintro e w2 ⟨rfl, hb2⟩; have hc2 := HBW.out.trans (hb2.mono HBW.out.size); obtain ⟨_, _, _, k4, k9, k8⟩ := HCS.out w2 hc2)
                | (go_at_call 51; (with_reducible refine (HPH.out _ (HB1w.out _ hc2)).mono ?_); rintro e w3 ⟨rfl, hb3⟩; have hc3 := hc2.trans (hb3.mono hc2.size); obtain ⟨_, _, _, l4, l9, l8⟩ := HCS.out w3 hc3)
                | (go_at_call 51; (with_reducible refine (HRM.out _ (HB1w.out _ hc3)).mono ?_); rintro e w4 ⟨rfl, hb4⟩; have hc4 := hc3.trans (hb4.mono hc3.size); obtain ⟨_, _, _, m4, m9, m8⟩ := HCS.out w4 hc4; have hld4 := HLD.out w4 hc4)
                | (go_at_call 52; (with_reducible refine (HFR.out _).mono ?_); rintro e w5 ⟨rfl, hb5⟩; have hc5 := hc4.trans (hb5.mono hc4.size); have hld5 := HLD.out w5 hc5))
              go_ret
              exact ⟨ret_bool (by rw [HT.out]; first | rfl | simp), HB1w.out _ hc2⟩
            | true =>
              cases b2 with
              | false =>
                go_wp2_with (first
                  | (go_at_call 50; (with_reducible refine HSGr.out.mono ?_); rintro e w2 ⟨rfl, hb2⟩; have hc2 := HBW.out.trans (hb2.mono HBW.out.size); obtain ⟨_, _, _, k4, k9, k8⟩ := HCS.out w2 hc2)
                  | (go_at_call 51; (with_reducible refine (HPH.out _ (HB1w.out _ hc2)).mono ?_); rintro e w3 ⟨rfl, hb3⟩; have hc3 := hc2.trans (hb3.mono hc2.size); obtain ⟨_, _, _, l4, l9, l8⟩ := HCS.out w3 hc3)
                  | (go_at_call 51; (with_reducible refine (HRM.out _ (HB1w.out _ hc3)).mono ?_); rintro e w4 ⟨rfl, hb4⟩; have hc4 := hc3.trans (hb4.mono hc3.size); obtain ⟨_, _, _, m4, m9, m8⟩ := HCS.out w4 hc4; have hld4 := HLD.out w4 hc4)
                  | (go_at_call 52; (with_reducible refine (HFR.out _).mono ?_); rintro e w5 ⟨rfl, hb5⟩; have hc5 := hc4.trans (hb5.mono hc4.size); have hld5 := HLD.out w5 hc5))
                go_ret
                exact ⟨ret_bool (by rw [HT.out]; first | rfl | simp), HB1w.out _ hc3⟩
              | true =>
                cases b3 with
                | false =>
                  go_wp2_with (first
                    | (go_at_call 50; (with_reducible refine HSGr.out.mono ?_); rintro e w2 ⟨rfl, hb2⟩; have hc2 := HBW.out.trans (hb2.mono HBW.out.size); obtain ⟨_, _, _, k4, k9, k8⟩ := HCS.out w2 hc2)
                    | (go_at_call 51; (with_reducible refine (HPH.out _ (HB1w.out _ hc2)).mono ?_); rintro e w3 ⟨rfl, hb3⟩; have hc3 := hc2.trans (hb3.mono hc2.size); obtain ⟨_, _, _, l4, l9, l8⟩ := HCS.out w3 hc3)
                    | (go_at_call 51; (with_reducible refine (HRM.out _ (HB1w.out _ hc3)).mono ?_); rintro e w4 ⟨rfl, hb4⟩; have hc4 := hc3.trans (hb4.mono hc3.size); obtain ⟨_, _, _, m4, m9, m8⟩ := HCS.out w4 hc4; have hld4 := HLD.out w4 hc4)
                    | (go_at_call 52; (with_reducible refine (HFR.out _).mono ?_); rintro e w5 ⟨rfl, hb5⟩; have hc5 := hc4.trans (hb5.mono hc4.size); have hld5 := HLD.out w5 hc5))
                  go_ret
                  exact ⟨ret_bool (by rw [HT.out]; first | rfl | simp), HB1w.out _ hc4⟩
                | true =>
                  cases re with
                  | true =>
                    cases b5 with
                    | false =>
                      go_wp2_with (first
                        | (go_at_call 50; (with_reducible refine HSGr.out.mono ?_); rintro e w2 ⟨rfl, hb2⟩; have hc2 := HBW.out.trans (hb2.mono HBW.out.size); obtain ⟨_, _, _, k4, k9, k8⟩ := HCS.out w2 hc2)
                        | (go_at_call 51; (with_reducible refine (HPH.out _ (HB1w.out _ hc2)).mono ?_); rintro e w3 ⟨rfl, hb3⟩; have hc3 := hc2.trans (hb3.mono hc2.size); obtain ⟨_, _, _, l4, l9, l8⟩ := HCS.out w3 hc3)
                        | (go_at_call 51; (with_reducible refine (HRM.out _ (HB1w.out _ hc3)).mono ?_); rintro e w4 ⟨rfl, hb4⟩; have hc4 := hc3.trans (hb4.mono hc3.size); obtain ⟨_, _, _, m4, m9, m8⟩ := HCS.out w4 hc4; have hld4 := HLD.out w4 hc4)
                        | (go_at_call 52; (with_reducible refine (HFR.out _).mono ?_); rintro e w5 ⟨rfl, hb5⟩; have hc5 := hc4.trans (hb5.mono hc4.size); have hld5 := HLD.out w5 hc5)
                        | (refine wpList_load_yes 29 (.tmp 1) rfl (by rfl) ⟨w.heap.size, 0, none⟩ rfl _ hld6 ?_)
                        | (refine wpList_load_yes 29 (.tmp 1) rfl (by rfl) ⟨w.heap.size, 0, none⟩ rfl _ hld5 ?_)
                        | (refine wpList_load_yes 29 (.tmp 1) rfl (by rfl) ⟨w.heap.size, 0, none⟩ rfl _ hld4 ?_)
                        | (go_at_call 53; (with_reducible refine (HTI.out _).mono ?_); rintro e w6 ⟨rfl, hb6⟩; have hc6 := hc4.trans (hb6.mono hc4.size); have hld6 := HLD.out w6 hc6)
                        | (go_at_call 54; (with_reducible refine (HSE.out _ (HB1w.out _ hc6)).mono ?_); rintro e w7 ⟨rfl, hb7⟩; have hc7 := hc6.trans (hb7.mono hc6.size)))
                      go_ret
                      exact ⟨ret_bool (by rw [HT.out]; first | rfl | simp), HB1w.out _ hc6⟩
                    | true =>
                      go_wp2_with (first
                        | (go_at_call 50; (with_reducible refine HSGr.out.mono ?_); rintro e w2 ⟨rfl, hb2⟩; have hc2 := HBW.out.trans (hb2.mono HBW.out.size); obtain ⟨_, _, _, k4, k9, k8⟩ := HCS.out w2 hc2)
                        | (go_at_call 51; (with_reducible refine (HPH.out _ (HB1w.out _ hc2)).mono ?_); rintro e w3 ⟨rfl, hb3⟩; have hc3 := hc2.trans (hb3.mono hc2.size); obtain ⟨_, _, _, l4, l9, l8⟩ := HCS.out w3 hc3)
                        | (go_at_call 51; (with_reducible refine (HRM.out _ (HB1w.out _ hc3)).mono ?_); rintro e w4 ⟨rfl, hb4⟩; have hc4 := hc3.trans (hb4.mono hc3.size); obtain ⟨_, _, _, m4, m9, m8⟩ := HCS.out w4 hc4; have hld4 := HLD.out w4 hc4)
                        | (go_at_call 52; (with_reducible refine (HFR.out _).mono ?_); rintro e w5 ⟨rfl, hb5⟩; have hc5 := hc4.trans (hb5.mono hc4.size); have hld5 := HLD.out w5 hc5)
                        | (refine wpList_load_yes 29 (.tmp 1) rfl (by rfl) ⟨w.heap.size, 0, none⟩ rfl _ hld6 ?_)
                        | (refine wpList_load_yes 29 (.tmp 1) rfl (by rfl) ⟨w.heap.size, 0, none⟩ rfl _ hld5 ?_)
                        | (refine wpList_load_yes 29 (.tmp 1) rfl (by rfl) ⟨w.heap.size, 0, none⟩ rfl _ hld4 ?_)
                        | (go_at_call 53; (with_reducible refine (HTI.out _).mono ?_); rintro e w6 ⟨rfl, hb6⟩; have hc6 := hc4.trans (hb6.mono hc4.size); have hld6 := HLD.out w6 hc6)
                        | (go_at_call 54; (with_reducible refine (HSE.out _ (HB1w.out _ hc6)).mono ?_); rintro e w7 ⟨rfl, hb7⟩; have hc7 := hc6.trans (hb7.mono hc6.size)))
                      go_ret
                      exact ⟨ret_bool (by rw [HT.out]; first | rfl | simp), HB1w.out _ hc7⟩
                  | false =>
                    cases fr with
                    | false =>
                      go_wp2_with (first
                        | (go_at_call 50; (with_reducible refine HSGr.out.mono ?_); rintro e w2 ⟨rfl, hb2⟩; have hc2 := HBW.out.trans (hb2.mono HBW.out.size); obtain ⟨_, _, _, k4, k9, k8⟩ := HCS.out w2 hc2)
                        | (go_at_call 51; (with_reducible refine (HPH.out _ (HB1w.out _ hc2)).mono ?_); rintro e w3 ⟨rfl, hb3⟩; have hc3 := hc2.trans (hb3.mono hc2.size); obtain ⟨_, _, _, l4, l9, l8⟩ := HCS.out w3 hc3)
                        | (go_at_call 51; (with_reducible refine (HRM.out _ (HB1w.out _ hc3)).mono ?_); rintro e w4 ⟨rfl, hb4⟩; have hc4 := hc3.trans (hb4.mono hc3.size); obtain ⟨_, _, _, m4, m9, m8⟩ := HCS.out w4 hc4; have hld4 := HLD.out w4 hc4)
                        | (go_at_call 52; (with_reducible refine (HFR.out _).mono ?_); rintro e w5 ⟨rfl, hb5⟩; have hc5 := hc4.trans (hb5.mono hc4.size); have hld5 := HLD.out w5 hc5))
                      go_ret
                      exact ⟨ret_bool (by rw [HT.out]; first | rfl | simp), HB1w.out _ hc5⟩
                    | true =>
                      cases b5 with
                      | false =>
                        go_wp2_with (first
                          | (go_at_call 50; (with_reducible refine HSGr.out.mono ?_); rintro e w2 ⟨rfl, hb2⟩; have hc2 := HBW.out.trans (hb2.mono HBW.out.size); obtain ⟨_, _, _, k4, k9, k8⟩ := HCS.out w2 hc2)
                          | (go_at_call 51; (with_reducible refine (HPH.out _ (HB1w.out _ hc2)).mono ?_); rintro e w3 ⟨rfl, hb3⟩; have hc3 := hc2.trans (hb3.mono hc2.size); obtain ⟨_, _, _, l4, l9, l8⟩ := HCS.out w3 hc3)
                          | (go_at_call 51; (with_reducible refine (HRM.out _ (HB1w.out _ hc3)).mono ?_); rintro e w4 ⟨rfl, hb4⟩; have hc4 := hc3.trans (hb4.mono hc3.size); obtain ⟨_, _, _, m4, m9, m8⟩ := HCS.out w4 hc4; have hld4 := HLD.out w4 hc4)
                          | (go_at_call 52; (with_reducible refine (HFR.out _).mono ?_); rintro e w5 ⟨rfl, hb5⟩; have hc5 := hc4.trans (hb5.mono hc4.size); have hld5 := HLD.out w5 hc5)
                          | (refine wpList_load_yes 29 (.tmp 1) rfl (by rfl) ⟨w.heap.size, 0, none⟩ rfl _ hld6 ?_)
                          | (refine wpList_load_yes 29 (.tmp 1) rfl (by rfl) ⟨w.heap.size, 0, none⟩ rfl _ hld5 ?_)
                          | (refine wpList_load_yes 29 (.tmp 1) rfl (by rfl) ⟨w.heap.size, 0, none⟩ rfl _ hld4 ?_)
                          | (go_at_call 53; (with_reducible refine (HTI.out _).mono ?_); rintro e w6 ⟨rfl, hb6⟩; have hc6 := hc5.trans (hb6.mono hc5.size); have hld6 := HLD.out w6 hc6)
                          | (go_at_call 54; (with_reducible refine (HSE.out _ (HB1w.out _ hc6)).mono ?_); rintro e w7 ⟨rfl, hb7⟩; have hc7 := hc6.trans (hb7.mono hc6.size)))
                        go_ret
                        exact ⟨ret_bool (by rw [HT.out]; first | rfl | simp), HB1w.out _ hc6⟩
                      | true =>
                        go_wp2_with (first
                          | (go_at_call 50; (with_reducible refine HSGr.out.mono ?_); rintro e w2 ⟨rfl, hb2⟩; have hc2 := HBW.out.trans (hb2.mono HBW.out.size); obtain ⟨_, _, _, k4, k9, k8⟩ := HCS.out w2 hc2)
                          | (go_at_call 51; (with_reducible refine (HPH.out _ (HB1w.out _ hc2)).mono ?_); rintro e w3 ⟨rfl, hb3⟩; have hc3 := hc2.trans (hb3.mono hc2.size); obtain ⟨_, _, _, l4, l9, l8⟩ := HCS.out w3 hc3)
                          | (go_at_call 51; (with_reducible refine (HRM.out _ (HB1w.out _ hc3)).mono ?_); rintro e w4 ⟨rfl, hb4⟩; have hc4 := hc3.trans (hb4.mono hc3.size); obtain ⟨_, _, _, m4, m9, m8⟩ := HCS.out w4 hc4; have hld4 := HLD.out w4 hc4)
                          | (go_at_call 52; (with_reducible refine (HFR.out _).mono ?_); rintro e w5 ⟨rfl, hb5⟩; have hc5 := hc4.trans (hb5.mono hc4.size); have hld5 := HLD.out w5 hc5)
                          | (refine wpList_load_yes 29 (.tmp 1) rfl (by rfl) ⟨w.heap.size, 0, none⟩ rfl _ hld6 ?_)
                          | (refine wpList_load_yes 29 (.tmp 1) rfl (by rfl) ⟨w.heap.size, 0, none⟩ rfl _ hld5 ?_)
                          | (refine wpList_load_yes 29 (.tmp 1) rfl (by rfl) ⟨w.heap.size, 0, none⟩ rfl _ hld4 ?_)
                          | (go_at_call 53; (with_reducible refine (HTI.out _).mono ?_); rintro e w6 ⟨rfl, hb6⟩; have hc6 := hc5.trans (hb6.mono hc5.size); have hld6 := HLD.out w6 hc6)
                          | (go_at_call 54; (with_reducible refine (HSE.out _ (HB1w.out _ hc6)).mono ?_); rintro e w7 ⟨rfl, hb7⟩; have hc7 := hc6.trans (hb7.mono hc6.size)))
                        go_ret
                        exact ⟨ret_bool (by rw [HT.out]; first | rfl | simp), HB1w.out _ hc7⟩
end Go.Proofs.YtofomopmmopflaaGreatDoor
