/- The law ShowBack: the walk. -/
import Derived.Test.YtmhhbnnjilbdnaaGreatDoorUP
import Derived.Test.YtmhhbnnjilbdnaaGreatDoorUM
import Derived.Test.YtmhhbnnjilbdnaaGreatDoorGJ
import Derived.Test.YtmhhbnnjilbdnaaGreatDoorGV
import Derived.Test.YtmhhbnnjilbdnaaGreatDoorSP
import Derived.Test.YtmhhbnnjilbdnaaGreatDoorSAW
import Derived.Test.YtmhhbnnjilbdnaaGreatDoorLE
namespace Go.Proofs.YtmhhbnnjilbdnaaGreatDoor.Sh
open Go.RowKit En Go.ChangeMaps
set_option linter.unusedSimpArgs false
set_option linter.unusedVariables false
set_option maxRecDepth 20000

theorem below_drewQ {B : Nat} {a w : World} (h : Below B a w) (n : Nat) : Below B a (w.drewN n) := ⟨h.os, h.tape, h.output, h.size, h.block⟩

/-- What is asked of each line. -/
def LineG (s : ByteArray) : Prop := 1 ≤ s.size ∧ s.size ≤ 64 ∧ (∀ k (h : k < s.size), 32 ≤ (s[k].toNat : Int) ∧ (s[k].toNat : Int) ≤ 126) ∧ ∀ h : s.size - 1 < s.size, (s[s.size - 1].toNat : Int) ≠ 32
theorem lineG_of {s : ByteArray} (h : goodS s = true) (h0 : s.size ≠ 0) : LineG s := by
  unfold goodS at h
  simp only [Bool.and_eq_true, decide_eq_true_eq, Bool.or_eq_true, bne_iff_ne] at h
  obtain ⟨⟨h1, h2⟩, h3⟩ := h
  refine ⟨by omega, h1, fun k hk => ?_, fun hk => ?_⟩
  · rw [get_list s k hk]
    have hl : k < s.data.toList.length := hk
    have e : s.data.toList.getD k 0 = s.data.toList[k] := by
      rw [List.getD_eq_getElem?_getD, List.getElem?_eq_getElem hl]
      rfl
    rw [e]
    have := List.all_eq_true.1 h3 _ (List.getElem_mem hl)
    unfold okByte at this
    exact of_decide_eq_true this
  · rw [get_list s _ hk]
    intro e
    refine (h2.resolve_left h0) (UInt8.toNat_inj.1 ?_)
    show (s.data.toList.getD (s.size - 1) 0).toNat = 32
    omega
theorem txts_lines {p : PnrT} (h : FineP p) : ∀ i, i < (txtsP p).length → LineG ((txtsP p).getD i ByteArray.empty) := fun i hi => by
  have hm := getD_mem hi
  exact lineG_of ((plain_parts (txts_good h).1).2 _ hm) ((txts_good h).2.1 _ hm)

set_option maxHeartbeats 32000000 in
theorem showBack_walk (v0 : Value) (p : PnrT) (w : World) (h0 : PnrIn w v0 p) (ht : Da.LenTab w) (hpt : PowTab w) (hm : MaxCell w) :
    Calls Tryz.prog 3 #[v0] w fun e w' => e = .returned (.bool true) ∧ Below w.heap.size w w' := by
  obtain ⟨vn, vs, vp, vr, vx, rfl, hp⟩ := h0
  have ha1 : Below w.heap.size w (w.alloc (.cells (pnrC p vn vs vp vr vx).toArray 29)) := (Below.refl _ _).alloc (Nat.le_refl _) _
  have hB0 := Blk.new w 29 (pnrC p vn vs vp vr vx)
  generalize hwa : w.alloc (.cells (pnrC p vn vs vp vr vx).toArray 29) = w1 at ha1 hB0
  have HB01 := Lib.hid ha1
  have HP0 := Lib.hid hB0
  have HST0 : RowKit.Hid (∀ W, Below w1.heap.size w1 W → Below w.heap.size w W) := Lib.hid fun W h => below_w HB01.out h
  have HPI : RowKit.Hid (∀ W, Below w1.heap.size w1 W → PIn0 W p vn vs vp vr vx) := Lib.hid fun W h => by
    have hw := below_w HB01.out h
    exact ⟨hp.n.mono hw, hp.s.mono hw, hp.ph.mono hw, hp.rm.mono hw, hp.x.mono hw, hp.fit, hp.wf⟩
  have HTT : RowKit.Hid (∀ W, Below w1.heap.size w1 W → Da.LenTab W ∧ PowTab W ∧ MaxCell W) := Lib.hid fun W h => have hw := below_w HB01.out h; ⟨ht.keep hw, powTab_keep hpt hw, hm.keep hw⟩
  have HSP : RowKit.Hid (∀ W, Below w1.heap.size w1 W → Calls Tryz.prog 6 #[.agg (pnrC p vn vs vp vr vx).toArray] W fun e w' => e = .returned (.bool (smallB p)) ∧ Below W.heap.size W w') := Lib.hid fun W h => smallP_any p _ _ _ _ _ W (HPI.out W h)
  have HNP : RowKit.Hid (smallB p = true → ∀ W, Below w1.heap.size w1 W → Calls Tryz.prog 7 #[.agg (pnrC p vn vs vp vr vx).toArray] W fun e w' => e = .returned (.bool (soundPS p)) ∧ Below W.heap.size W w') := Lib.hid fun h W hW => refSoundP_any p _ _ _ _ _ W (PIn.of0 (HPI.out W hW) (room_small h).2)
  have HSH : RowKit.Hid (smallB p = true → soundPS p = true → ∀ W, Below w1.heap.size w1 W → Calls Tryz.prog 8 #[.agg (pnrC p vn vs vp vr vx).toArray] W fun e w' => (∃ v, e = .returned v ∧ OwnL w' W.heap.size v (txtsP p)) ∧ Below W.heap.size W w') := Lib.hid fun h hs W hW => have t := HTT.out W hW; (pnrS_any p _ _ _ _ _ W (PIn.of0 (HPI.out W hW) (room_small h).2) (fine_small h hs hp.wf).1.fit t.1 t.2.1).mono fun e w' ⟨h1, h2⟩ => ⟨lines_own h1, h2⟩
  have HRD : RowKit.Hid (smallB p = true → soundPS p = true → ∀ v W, HasL W v (txtsP p) → Calls Tryz.prog 9 #[v] W fun e w' => ReadE p e w' ∧ Below W.heap.size W w') := Lib.hid fun h hs v W hv => read_any p v W hv (sound_yes hs) (fine_small h hs hp.wf).1
  have HSM : RowKit.Hid (smallB p = true → ∀ W un us up ur ux, Below w1.heap.size w1 W → PIn W p un us up ur ux → Calls Tryz.prog 10 #[.agg (pnrC p vn vs vp vr vx).toArray, .agg (pnrC p un us up ur ux).toArray] W fun e w' => e = .returned (.bool true) ∧ Below W.heap.size W w') := Lib.hid fun h W un us up ur ux hW hk => by
    have := samePnr_any p p _ _ _ _ _ _ _ _ _ _ W (PIn.of0 (HPI.out W hW) (room_small h).2) hk
    rwa [sameS_yes rfl] at this
  have HLI : RowKit.Hid (smallB p = true → soundPS p = true → ∀ v W, HasL W v (txtsP p) → Calls Tryz.prog 11 #[v] W fun e w' => (∃ q c, e = .returned (.slice q (txtsP p).length c)) ∧ Below W.heap.size W w') := Lib.hid fun h hs v W hv => by
    have hf := (fine_small h hs hp.wf).1
    refine (lines_any (txtsP p) v W hv (txts_good hf).2.2.2).mono fun e w' k => ?_
    obtain ⟨v', rfl, ho, hb⟩ := k
    obtain ⟨q, c, rfl⟩ := own_len ho.has
    rw [plain_lines (txts_good hf).1, List.length_map]
    exact ⟨⟨q, c, rfl⟩, hb⟩
  have HGD : RowKit.Hid (smallB p = true → soundPS p = true → (txtsP p).length ≤ 303 ∧ ∀ i, i < (txtsP p).length → LineG ((txtsP p).getD i ByteArray.empty)) := Lib.hid fun h hs => ⟨(txts_good (fine_small h hs hp.wf).1).2.2.1, txts_lines (fine_small h hs hp.wf).1⟩
  have HN0 : RowKit.Hid (0 < (txtsP p).length) := Lib.hid (by rw [txts_count]; omega)
  have HAW : RowKit.Hid (∀ W, Below w1.heap.size w1 W → Calls Tryz.prog 5 #[] W fun e w' => e = .returned (.bool true) ∧ Below W.heap.size W w') := Lib.hid fun W hW => have t := HTT.out W hW; awake_any W t.2.2 t.1 t.2.1
  have HRR : RowKit.Hid (∀ W, Below w1.heap.size w1 W → W.rangeAt w.heap.size 0 (pnrC p vn vs vp vr vx)) := Lib.hid fun W h => (HP0.out.mono h).range
  have HLD : RowKit.Hid (∀ W, Below w1.heap.size w1 W → (loadVar 29 ⟨w.heap.size, 0, none⟩).run Tryz.prog W = .ok (.agg (pnrC p vn vs vp vr vx).toArray) W) := Lib.hid fun W h => pnr_load (HP0.out.mono h) rfl
  clear hp ha1 hB0 HPI HP0 ht hpt hm HTT
  unfold pnrC at hwa HSP HNP HSH HSM HRR HLD ⊢
  simp only [List.toArray] at hwa
  generalize smallB p = sp at *
  generalize soundPS p = np at *
  generalize txtsP p = TX at *
  go_enter Tryz.func3, Tryz.ntmps3
  go_upto_region 1 with fail
  try rw [hwa]
  clear hwa
  cases sp with
  | false =>
    go_wp2_with (first
      | (go_at_call 5; (with_reducible refine (HAW.out _ (Below.refl _ _)).mono ?_); rintro e w2 ⟨rfl, hb2⟩; have hr2 := HRR.out w2 hb2)
      | (refine wpList_load_mid rfl 29 (.tmp 1) rfl w.heap.size 0 rfl _ _ hr2 Tryz.underlying29 rfl info_pnr ?_)
      | (go_at_call 6; (with_reducible refine (HSP.out _ hb2).mono ?_); rintro e w3 ⟨rfl, hb3⟩))
    go_ret
    exact ⟨rfl, HST0.out _ (bel_trans hb2 hb3)⟩
  | true =>
  have HNP2 := Lib.hid (HNP.out rfl)
  clear HNP
  cases np with
  | false =>
    go_wp2_with (first
      | (go_at_call 5; (with_reducible refine (HAW.out _ (Below.refl _ _)).mono ?_); rintro e w2 ⟨rfl, hb2⟩; have hr2 := HRR.out w2 hb2)
      | (refine wpList_load_mid rfl 29 (.tmp 1) rfl w.heap.size 0 rfl _ _ hr2 Tryz.underlying29 rfl info_pnr ?_)
      | (go_at_call 6; (with_reducible refine (HSP.out _ hb2).mono ?_); rintro e w3 ⟨rfl, hb3⟩; have hl3 := HLD.out _ (bel_trans hb2 hb3))
      | (refine wpList_load_yes 29 (.tmp 1) rfl (by rfl) ⟨w.heap.size, 0, none⟩ rfl _ hl3 ?_)
      | (go_at_call 7; (with_reducible refine (HNP2.out _ (bel_trans hb2 hb3)).mono ?_); rintro e w4 ⟨rfl, hb4⟩))
    go_ret
    exact ⟨rfl, HST0.out _ (bel_trans (bel_trans hb2 hb3) hb4)⟩
  | true =>
    have HSH2 := Lib.hid (HSH.out rfl rfl)
    have HRD2 := Lib.hid (HRD.out rfl rfl)
    have HSM2 := Lib.hid (HSM.out rfl)
    have HLI2 := Lib.hid (HLI.out rfl rfl)
    obtain ⟨hNN, hGG⟩ := HGD.out rfl rfl
    have HGG := Lib.hid hGG
    clear HSH HRD HSM HLI HGD hGG
    go_upto_region 6 with (first
      | (go_at_call 5; (with_reducible refine (HAW.out _ (Below.refl _ _)).mono ?_); rintro e w2 ⟨rfl, hb2⟩; have hr2 := HRR.out w2 hb2)
      | (refine wpList_load_mid rfl 29 (.tmp 1) rfl w.heap.size 0 rfl _ _ hr2 Tryz.underlying29 rfl info_pnr ?_)
      | (go_at_call 6; (with_reducible refine (HSP.out _ hb2).mono ?_); rintro e w3 ⟨rfl, hb3⟩; have hl3 := HLD.out _ (bel_trans hb2 hb3))
      | (refine wpList_load_yes 29 (.tmp 1) rfl (by rfl) ⟨w.heap.size, 0, none⟩ rfl _ hl3 ?_)
      | (go_at_call 7; (with_reducible refine (HNP2.out _ (bel_trans hb2 hb3)).mono ?_); rintro e w4 ⟨rfl, hb4⟩; have h4 := bel_trans (bel_trans hb2 hb3) hb4; have hr4 := HRR.out w4 h4)
      | (refine wpList_load_mid rfl 29 (.tmp 1) rfl w.heap.size 0 rfl _ _ hr4 Tryz.underlying29 rfl info_pnr ?_)
      | (go_at_call 8; (with_reducible refine (HSH2.out _ h4).mono ?_); rintro e w5 ⟨⟨v5, rfl, ho5⟩, hb5⟩))
    have H5 := Lib.hid (bel_trans h4 hb5)
    have HV5 := Lib.hid ho5.has
    obtain ⟨gb, off, cv, rfl, hcells⟩ := txts_cells ho5.has HN0.out
    have HCE := Lib.hid hcells
    clear hb2 hb3 hb4 hb5 h4 hr2 hl3 hr4 HSP HNP2 HSH2 HAW ho5 hcells
    go_upto_region 7 with (first
      | (go_at_call 9; (with_reducible refine (HRD2.out _ _ HV5.out).mono ?_); rintro e w6 ⟨⟨un, us, up, ur, ux, rfl, hx⟩, hb6⟩; have hone := pin_one hx)
      | (refine wpList_store_blk rfl 29 (.tmp 4) (.tmp 23) rfl w6.heap.size 29 zeroC (pnrC p un us up ur ux) rfl rfl (Blk.new w6 29 zeroC) rfl info_pnr hone ?_; intro w7 hb7 hl7 hg7))
    have hb67 : Below w6.heap.size w6 w7 := ((Below.refl _ _).alloc (Nat.le_refl _) (.cells zeroC.toArray 29)).trans hl7
    have hx7 := hx.mono hb67
    have hb57 := bel_trans hb6 hb67
    have H57 := Lib.hid hb57
    have H7 := Lib.hid (bel_trans H5.out hb57)
    have hlp := HLD.out _ H7.out
    have hlx : (loadVar 29 ⟨w6.heap.size, 0, none⟩).run Tryz.prog w7 = .ok (.agg #[.string p.loc, .string p.off, un, us, up, .int .i64 p.tk, .int .i64 p.td, .int .i64 p.tm, .string p.recv, ur, ux, .bool p.queued]) w7 := pnr_load hb7 rfl
    have HX7 := Lib.hid hx7
    clear hb6 hl7 hg7 hb67 hx hb7 hone hx7 hb57
    go_upto_region 9 with (first
      | (refine wpList_load_yes 29 (.tmp 1) rfl (by rfl) ⟨w.heap.size, 0, none⟩ rfl _ hlp ?_)
      | (refine wpList_load_yes 29 (.tmp 4) rfl (by rfl) ⟨w6.heap.size, 0, none⟩ rfl _ hlx ?_)
      | (go_at_call 10; (with_reducible refine (HSM2.out _ _ _ _ _ _ H7.out HX7.out).mono ?_); rintro e w8 ⟨rfl, hb8⟩))
    have H58 := Lib.hid (bel_trans H57.out hb8)
    have H8 := Lib.hid (bel_trans H7.out hb8)
    clear hb8 hlp hlx HX7 H57 H7 HSM2 HRD2
    generalize hNN2 : TX.length = N at *
    have HNN := Lib.hid hNN2
    clear hNN2
    go_wp2_with fail
    go_loopg [6] N (fun g s6 wr => ∃ k : Nat, k ≤ N ∧ g = N - k ∧ s6 = .int .i64 (k : Int) ∧ Below w8.heap.size w8 wr)
    case atStart => exact ⟨0, Nat.zero_le _, rfl, rfl, Below.refl _ _⟩
    case round =>
      obtain ⟨k, hk, rfl, rfl, hbr⟩ := hrel
      have HBR := Lib.hid hbr
      clear hbr
      have hNN3 := hNN
      by_cases hlt : k < N
      · have hki : (k : Int) < (N : Int) := by omega
        have hk0 : (0 : Int) ≤ (k : Int) := by omega
        have hcell := HCE.out wr (bel_trans H58.out HBR.out) k hlt
        have HCK := Lib.hid (fun W hW => HCE.out W hW k hlt)
        obtain ⟨hs1, hs2, hs3, hs4⟩ := HGG.out k hlt
        have HS3 := Lib.hid hs3
        generalize TX.getD k ByteArray.empty = s at *
        have hd1 : decide ((64 : Int) < (s.size : Int)) = false := by rw [decide_eq_false_iff_not]; omega
        have hd2 : ((s.size : Int) == 0) = false := by rw [beq_eq_false_iff_ne]; omega
        obtain ⟨m, hm⟩ : ∃ m, m = s.size - 1 := ⟨_, rfl⟩
        have hms : m < s.size := by omega
        have hl4 : ((s[m]'hms).toNat : Int) ≠ 32 := by subst hm; exact hs4 hms
        have hd3 : (((s[m]'hms).toNat : Int) == 32) = false := by rw [beq_eq_false_iff_ne]; exact hl4
        have hwm : IntKind.i64.wrap ((s.size : Int) - 1) = (m : Int) := by rw [IntWalk.i64_in _ (by omega)]; omega
        have hm0 : (0 : Int) ≤ (m : Int) := by omega
        have hmi : (m : Int) < (s.size : Int) := by omega
        have hs2i : (s.size : Int) ≤ 64 := by omega
        clear hs3 hs4 hl4 hm hs1 hs2
        go_upto_region 12 with fail
        go_quiet (fail)
        have hbq : Below w8.heap.size w8 (wr.drewN nq) := below_drewQ HBR.out nq
        generalize wr.drewN nq = wq at *
        have HBQ := Lib.hid hbq
        have hcq := HCK.out wq (bel_trans H58.out hbq)
        clear hbq hcell hd1 hd2 hd3 hwm
        go_wp2_with fail
        go_loopg [7] s.size (fun g s7 wr2 => ∃ j : Nat, j ≤ s.size ∧ g = s.size - j ∧ s7 = .int .i64 (j : Int) ∧ wq = wr2)
        case atStart => exact ⟨0, Nat.zero_le _, rfl, rfl, rfl⟩
        case round =>
          obtain ⟨j, hj, rfl, rfl, rfl⟩ := hrel
          by_cases hjl : j < s.size
          · have hji : (j : Int) < (s.size : Int) := by omega
            have hj0 : (0 : Int) ≤ (j : Int) := by omega
            obtain ⟨hb1, hb2⟩ := HS3.out j hjl
            generalize hch : (s[j]'hjl) = ch at *
            have hn1 : ¬ (ch.toNat : Int) < 32 := by omega
            have hn2 : ¬ (126 : Int) < (ch.toNat : Int) := by omega
            clear hb1 hb2
            go_wp2_with fail
            go_roundg (s.size - (j + 1))
            case measure => omega
            case rel => exact ⟨j + 1, by omega, rfl, by go_num, rfl⟩
          · have hji : ¬ (j : Int) < (s.size : Int) := by omega
            go_wp2_with fail
            go_roundg (N - (k + 1))
            case measure => omega
            case rel => exact ⟨k + 1, by omega, rfl, by go_num, HBQ.out⟩
      · have hki : ¬ (k : Int) < (N : Int) := by omega
        have hnn : ((N : Int) == (N : Int)) = true := by simp
        go_wp2_with (first
          | (go_at_call 11; (with_reducible refine (HLI2.out _ _ (HV5.out.mono (bel_trans H58.out HBR.out))).mono ?_); rintro e w9 ⟨⟨q9, c9, rfl⟩, hb9⟩))
        go_ret
        exact ⟨by first | rfl | (simp), HST0.out _ (bel_trans (bel_trans H8.out HBR.out) hb9)⟩
end Go.Proofs.YtmhhbnnjilbdnaaGreatDoor.Sh
