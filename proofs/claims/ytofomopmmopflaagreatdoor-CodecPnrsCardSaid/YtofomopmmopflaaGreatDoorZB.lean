/- jetwayref14.Pnr. Printed by tools/gen_za.py. -/
import Derived.Test.YtofomopmmopflaaGreatDoorZA
namespace Go.Proofs.YtofomopmmopflaaGreatDoor
open Go.RowKit Go.ChangeMaps
set_option linter.unusedSimpArgs false
set_option linter.unusedVariables false
set_option maxRecDepth 20000

theorem num_lenZ (n : Nat) (h : n < 2097152) : (varL n).length ≤ 3 := varL_len 2 n (by omega)
/-- A call's contract, one value, in every world that grew. -/
theorem textC {S1 S2 t : ByteArray} {bs cs : List UInt8} (hs : S1 = strA bs) (he : cs = bs ++ textB t) (hs2 : S2 = strA cs) (h1 : bs.length ≤ 900000) (h2 : t.size ≤ 2000) (W : World) : Calls Tryz.prog 25 #[.string S1, .string t] W fun e w' => e = .returned (.string S2) ∧ Below W.heap.size W w' := by
  subst hs he hs2
  exact rtextS_any bs t W h1 h2
theorem numC {S1 S2 : ByteArray} {n : Int} {bs cs : List UInt8} (hs : S1 = strA bs) (he : cs = bs ++ varL n.toNat) (hs2 : S2 = strA cs) (h1 : bs.length ≤ 900000) (h0 : 0 ≤ n) (h2 : n < 9223372036854775808) (W : World) : Calls Tryz.prog 27 #[.string S1, .int .i64 n] W fun e w' => e = .returned (.string S2) ∧ Below W.heap.size W w' := by
  subst hs he hs2
  have := refNumber_any (strA bs) n W h0 h2 (by rw [strA_size]; omega)
  rw [strA_append] at this
  exact this
theorem fixC {S1 S2 : ByteArray} {n k : Nat} {bs cs : List UInt8} (hs : S1 = strA bs) (he : cs = bs ++ beL n k) (hs2 : S2 = strA cs) (h1 : bs.length ≤ 900000) (h2 : n < 9223372036854775808) (hk : k ≤ 8) (W : World) : Calls Tryz.prog 30 #[.string S1, .int .i64 (n : Nat), .int .i64 (k : Nat)] W fun e w' => e = .returned (.string S2) ∧ Below W.heap.size W w' := by
  subst hs he hs2
  have := refFixed_any (strA bs) n k W h2 (by rw [strA_size]; omega) hk
  rw [strA_append] at this
  exact this
theorem textsC {S1 S2 : ByteArray} {l : List ByteArray} {v : Value} {bs cs : List UInt8} (hs : S1 = strA bs) (he : cs = bs ++ textsB l) (hs2 : S2 = strA cs) (h1 : bs.length ≤ 500000) (hn : l.length ≤ 100) (hz : ∀ s ∈ l, s.size ≤ 1000) (W : World) (h : HasL W v l) : Calls Tryz.prog 29 #[.string S1, v] W fun e w' => e = .returned (.string S2) ∧ Below W.heap.size W w' := by
  subst hs he hs2
  exact rtextsS_any bs l v W h hn hz h1
def nmZ : NameT := ⟨⟨#[]⟩, ⟨#[]⟩⟩
def sgZ : SegT := ⟨⟨#[]⟩, 0, 0, 0, false⟩
def plZ : PlaceT := ⟨0, 0, 0, 0⟩
theorem info_segZ : (Tryz.prog.info? 65).map (·.size) = some 5 := by kernel_rfl
theorem info_placeZ : (Tryz.prog.info? 73).map (·.size) = some 4 := by kernel_rfl

set_option maxHeartbeats 16000000 in
theorem rpnr_any (p : PnrT) (vn vs vp vr vx : Value) (w : World) (h : PIn w p vn vs vp vr vx) :
    Calls Tryz.prog 9 #[.agg (pnrC p vn vs vp vr vx).toArray] w fun e w' => stP (pnrF p) e ∧ Below w.heap.size w w' := by
  have HLF := Lib.hid (pnrF_bool (p := p))
  have HSI : RowKit.Hid (soundPS p = true → SoundP p) := Lib.hid soundPS_iff
  have HSO : RowKit.Hid (∀ W, Below w.heap.size w W → Calls Tryz.prog 24 #[.agg (pnrC p vn vs vp vr vx).toArray] W fun e w' => e = .returned (.bool (soundPS p)) ∧ Below W.heap.size W w') := Lib.hid fun W hb => refSoundP_any p vn vs vp vr vx W (h.mono hb)
  generalize pnrF p = qb at *
  generalize soundPS p = sb at *
  have hbk := Blk.new w 29 (pnrC p vn vs vp vr vx)
  have hb1 : Below w.heap.size w (w.alloc (.cells (pnrC p vn vs vp vr vx).toArray 29)) := (Below.refl _ _).alloc (Nat.le_refl _) _
  have HP := Lib.hid h
  obtain ⟨pn, cn, rfl⟩ := h.n.len
  obtain ⟨ps, cs, rfl⟩ := h.s.len
  obtain ⟨pp, cp, rfl⟩ := own_len h.ph
  obtain ⟨pr, cr, rfl⟩ := own_len h.rm
  obtain ⟨px, cx, rfl⟩ := h.x.len
  unfold pnrC at hbk hb1 HSO ⊢
  simp only [List.toArray] at hbk hb1 HSO ⊢
  clear h
  obtain ⟨NN, hNN⟩ : ∃ n, p.names.length = n := ⟨_, rfl⟩
  obtain ⟨NS, hNS⟩ : ∃ n, p.segs.length = n := ⟨_, rfl⟩
  obtain ⟨NP, hNP⟩ : ∃ n, p.phones.length = n := ⟨_, rfl⟩
  obtain ⟨NR, hNR⟩ : ∃ n, p.remarks.length = n := ⟨_, rfl⟩
  obtain ⟨NX, hNX⟩ : ∃ n, p.seats.length = n := ⟨_, rfl⟩
  rw [hNN, hNS, hNP, hNR, hNX] at hbk hb1 HSO HP ⊢
  have HNN := Lib.hid hNN
  have HNS := Lib.hid hNS
  have HNP := Lib.hid hNP
  have HNR := Lib.hid hNR
  have HNX := Lib.hid hNX
  clear hNN hNS hNP hNR hNX
  generalize hw1 : w.alloc (.cells #[.string p.loc, .string p.off, .slice pn NN cn, .slice ps NS cs, .slice pp NP cp, .int .i64 p.tk, .int .i64 p.td, .int .i64 p.tm, .string p.recv, .slice pr NR cr, .slice px NX cx, .bool p.queued] 29) = w1 at hbk hb1
  have HB := Lib.hid hb1
  have HK := Lib.hid hbk
  have HCS : RowKit.Hid (∀ W, Below w1.heap.size w1 W → W.cell? ⟨w.heap.size, 0, none⟩ = some (.string p.loc) ∧ W.cell? ⟨w.heap.size, 1, none⟩ = some (.string p.off) ∧ W.cell? ⟨w.heap.size, 2, none⟩ = some (.slice pn NN cn) ∧ W.cell? ⟨w.heap.size, 3, none⟩ = some (.slice ps NS cs) ∧ W.cell? ⟨w.heap.size, 4, none⟩ = some (.slice pp NP cp) ∧ W.cell? ⟨w.heap.size, 5, none⟩ = some (.int .i64 p.tk) ∧ W.cell? ⟨w.heap.size, 6, none⟩ = some (.int .i64 p.td) ∧ W.cell? ⟨w.heap.size, 7, none⟩ = some (.int .i64 p.tm) ∧ W.cell? ⟨w.heap.size, 8, none⟩ = some (.string p.recv) ∧ W.cell? ⟨w.heap.size, 9, none⟩ = some (.slice pr NR cr) ∧ W.cell? ⟨w.heap.size, 10, none⟩ = some (.slice px NX cx) ∧ W.cell? ⟨w.heap.size, 11, none⟩ = some (.bool p.queued)) := Lib.hid fun W h => ⟨((HK.out.mono h).cell 0).trans rfl, ((HK.out.mono h).cell 1).trans rfl, ((HK.out.mono h).cell 2).trans rfl, ((HK.out.mono h).cell 3).trans rfl, ((HK.out.mono h).cell 4).trans rfl, ((HK.out.mono h).cell 5).trans rfl, ((HK.out.mono h).cell 6).trans rfl, ((HK.out.mono h).cell 7).trans rfl, ((HK.out.mono h).cell 8).trans rfl, ((HK.out.mono h).cell 9).trans rfl, ((HK.out.mono h).cell 10).trans rfl, ((HK.out.mono h).cell 11).trans rfl⟩
  have HSO1 := Lib.hid (HSO.out w1 HB.out)
  clear hbk hb1 HSO
  go_enter Tryz.func9, Tryz.ntmps9
  go_upto_region 1 with fail
  try rw [hw1]
  clear hw1
  have hr1 := (HK.out).range
  cases sb with
  | false =>
    have HF : RowKit.Hid (qb = none) := Lib.hid (HLF.out.trans (if_neg (by decide)))
    go_wp2_with (first
      | (refine wpList_load_mid rfl 29 (.tmp 1) rfl w.heap.size 0 rfl _ _ hr1 Tryz.underlying29 rfl info_pnr ?_)
      | (go_at_call 24; (with_reducible refine HSO1.out.mono ?_); rintro e w2 ⟨rfl, hb2⟩))
    go_ret2
    exact ⟨.inr ⟨HF.out, rfl⟩, bel_trans HB.out hb2⟩
  | true =>
    have HSP := Lib.hid (HSI.out rfl)
    have HSH := Lib.hid (short_of HSP.out)
    have HT : RowKit.Hid (qb = some (pnrB p)) := Lib.hid (HLF.out.trans (if_pos rfl))
    have HFEW : RowKit.Hid (NN ≤ 9 ∧ NS ≤ 8 ∧ NP ≤ 4 ∧ NR ≤ 10 ∧ NX ≤ 72) := Lib.hid (by
      have h := HSH.out.few
      rw [HNN.out, HNS.out, HNP.out, HNR.out, HNX.out] at h
      exact h)
    go_upto_region 3 with (first
      | (refine wpList_load_mid rfl 29 (.tmp 1) rfl w.heap.size 0 rfl _ _ hr1 Tryz.underlying29 rfl info_pnr ?_)
      | (go_at_call 24; (with_reducible refine HSO1.out.mono ?_); rintro e w2 ⟨rfl, hb2⟩))
    have HB2 := Lib.hid hb2
    obtain ⟨c0, c1, _⟩ := HCS.out _ hb2
    have k0 := cell_regrown c0
    have k1 := cell_regrown c1
    obtain ⟨S0, hS0⟩ : ∃ S, S = strA [80] := ⟨_, rfl⟩
    obtain ⟨S1, hS1⟩ : ∃ S, S = strA (q1 p) := ⟨_, rfl⟩
    obtain ⟨S2, hS2⟩ : ∃ S, S = strA (q2 p) := ⟨_, rfl⟩
    have hlo : p.loc.size ≤ 2000 := by have := orL_size (n := 6) HSP.out.loc; omega
    have hof : p.off.size ≤ 2000 := by have := orL_size (n := 3) HSP.out.off; omega
    have cO : ∀ d os, Calls Tryz.prog 26 #[.int .u8 80] (Go.Sort.grow (redrawn w2 d) os) fun e w'' => e = .returned (.string S0) ∧ Below (Go.Sort.grow (redrawn w2 d) os).heap.size (Go.Sort.grow (redrawn w2 d) os) w'' := fun d os => by rw [hS0]; exact refOne_any 80 _
    have cA : ∀ d os, Calls Tryz.prog 25 #[.string S0, .string p.loc] (Go.Sort.grow (redrawn w2 d) os) fun e w'' => e = .returned (.string S1) ∧ Below (Go.Sort.grow (redrawn w2 d) os).heap.size (Go.Sort.grow (redrawn w2 d) os) w'' := fun d os => textC hS0 rfl hS1 (by simp) hlo _
    have cB : ∀ d os, Calls Tryz.prog 25 #[.string S1, .string p.off] (Go.Sort.grow (redrawn w2 d) os) fun e w'' => e = .returned (.string S2) ∧ Below (Go.Sort.grow (redrawn w2 d) os).heap.size (Go.Sort.grow (redrawn w2 d) os) w'' := fun d os => textC hS1 rfl hS2 (by have := HSH.out.a1; omega) hof _
    have HS2 := Lib.hid hS2
    clear hb2 c0 c1 HSO1 HSI HLF hS0 hS1 hS2 hlo hof
    refine wp_region_cone 7 [(0, false), (1, false), (2, false), (3, false), (4, false), (5, false), (6, false)] (by kernel_rfl) (by kernel_rfl) ?_
    simp only [ordO, List.map_cons, List.map_nil, List.getD_cons_zero, List.getD_cons_succ, List.drop_succ_cons, List.drop_zero]
    repeat (
      refine ord_quiet (fun K hK => ?_)
      go_simp
      first
        | (refine hK _ ?_; clear hK K)
        | (refine ⟨_, fun _ => up_val, hK _ ?_⟩; clear hK K)
        | (apply Exists.intro; refine ⟨fun _ => ?_, hK _ ?_⟩; (first | (with_reducible exact up_call (cO _ _)) | (with_reducible exact up_call (cA _ _)) | (with_reducible exact up_call (cB _ _))); clear hK K))
    unfold wpOrd
    intro wq hwq
    have HW3 : RowKit.Hid (Below w1.heap.size w1 wq) := Lib.hid (bel_trans HB2.out hwq.bel)
    clear hwq k0 k1 cO cA cB hr1
    obtain ⟨_, _, c2, _⟩ := HCS.out _ HW3.out
    obtain ⟨S3, hS3⟩ : ∃ S, S = strA (q3 p) := ⟨_, rfl⟩
    have HN3 := Lib.hid (numC (n := (NN : Int)) HS2.out (cs := q3 p) (by unfold q3; rw [HNN.out, Int.toNat_natCast]) hS3 (by have := HSH.out.a2; omega) (by omega) (by have := HFEW.out; omega))
    have HS3 := Lib.hid hS3
    clear hS3
    go_upto_block 0 with (first
      | (go_at_call 27; (with_reducible refine (HN3.out _).mono ?_); rintro e w4 ⟨rfl, hb4⟩))
    have HW4 : RowKit.Hid (Below w1.heap.size w1 w4) := Lib.hid (bel_trans HW3.out hb4)
    clear hb4 c2 HN3 HW3 HB2 HS2
    have HSB := HS3
    have HWB := HW4
    go_cut [4] from 25 to 46 (fun s4 wx => s4 = .string (strA (q4 p)) ∧ Below w1.heap.size w1 wx)
    case first =>
      go_wp2
      go_loopg [4, 5] NN (fun g0 s4 s5 wr => ∃ i : Nat, i ≤ NN ∧ g0 = NN - i ∧ s5 = .int .i64 (i : Int) ∧ s4 = .string (strA (q3 p ++ (p.names.take i).flatMap nameB)) ∧ Below w1.heap.size w1 wr)
      case atStart => exact ⟨0, Nat.zero_le _, rfl, rfl, by first | (simp [HSB.out]; done) | (rw [HSB.out]; simp), HWB.out⟩
      case round =>
        obtain ⟨i, hiN, rfl, rfl, rfl, hbw⟩ := hrel
        rename World => wr
        have HBW := Lib.hid hbw
        clear hbw
        obtain ⟨c0, c1, c2, c3, c4, c5, c6, c7, c8, c9, c10, c11⟩ := HCS.out _ HBW.out
        by_cases hlt : i < NN
        · have hii : (i : Int) < (NN : Int) := by omega
          have hi0 : (0 : Int) ≤ (i : Int) := by omega
          have hil : i < p.names.length := by rw [HNN.out]; exact hlt
          have hi9 : i ≤ 100 := by have := HFEW.out; omega
          have hwi : IntKind.i64.wrap ((i : Int) + 1) = (i : Int) + 1 := IntWalk.i64_in _ (by omega)
          have HX : RowKit.Hid (q3 p ++ (p.names.take (i + 1)).flatMap nameB = q3 p ++ (p.names.take i).flatMap nameB ++ nameB (p.names.getD i nmZ)) := Lib.hid (by rw [flat_take (getD_atZ nmZ hil), List.append_assoc])
          have HLE : RowKit.Hid ((q3 p ++ (p.names.take i).flatMap nameB).length ≤ 5000) := Lib.hid (by
            have h1 := take_flat_le (f := nameB) p.names i
            have h2 : (q3 p ++ p.names.flatMap nameB).length ≤ 400 := by have := HSH.out.a4; unfold q4 at this; omega
            rw [List.length_append] at h2 ⊢
            omega)
          have hok := HSP.out.names.2 _ (List.mem_of_getElem? (getD_atZ nmZ hil))
          have hsz := name_size hok
          obtain ⟨bb, of2, rfl, hr⟩ := row_at nameC_len nmZ (HP.out.n.mono (bel_trans HB.out HBW.out)) hil
          generalize p.names.getD i nmZ = x at *
          obtain ⟨la, fi⟩ := x
          have t0 : wr.cell? ⟨bb, of2 + i * 2 + 0, none⟩ = some (.string la) := hr 0 _ rfl
          have t1 : wr.cell? ⟨bb, of2 + i * 2 + 1, none⟩ = some (.string fi) := hr 1 _ rfl
          rw [Nat.add_zero] at t0
          have hz1 : la.size ≤ 2000 := by have := hsz.1; simp only at this; omega
          have hz2 : fi.size ≤ 2000 := by have := hsz.2; simp only at this; omega
          generalize hbs : q3 p ++ (p.names.take i).flatMap nameB = bs at *
          obtain ⟨Sa, hSa⟩ : ∃ S, S = strA bs := ⟨_, rfl⟩
          obtain ⟨Sb, hSb⟩ : ∃ S, S = strA (bs ++ textB la) := ⟨_, rfl⟩
          obtain ⟨Sc, hSc⟩ : ∃ S, S = strA (bs ++ textB la ++ textB fi) := ⟨_, rfl⟩
          have hl2 : (bs ++ textB la).length ≤ 900000 := by
            have h1 := HLE.out
            have h2 := num_lenZ la.size (by omega)
            unfold textB
            rw [List.length_append, List.length_append, size_toL]
            omega
          have cA : ∀ d os, Calls Tryz.prog 25 #[.string Sa, .string la] (Go.Sort.grow (redrawn wr d) os) fun e w'' => e = .returned (.string Sb) ∧ Below (Go.Sort.grow (redrawn wr d) os).heap.size (Go.Sort.grow (redrawn wr d) os) w'' := fun d os => textC hSa rfl hSb (by have := HLE.out; omega) hz1 _
          have cB : ∀ d os, Calls Tryz.prog 25 #[.string Sb, .string fi] (Go.Sort.grow (redrawn wr d) os) fun e w'' => e = .returned (.string Sc) ∧ Below (Go.Sort.grow (redrawn wr d) os).heap.size (Go.Sort.grow (redrawn wr d) os) w'' := fun d os => textC hSb rfl hSc hl2 hz2 _
          have HSC : RowKit.Hid (Sc = strA (bs ++ nameB ⟨la, fi⟩)) := Lib.hid (by rw [hSc]; unfold nameB; rw [List.append_assoc])
          rw [← hSa]
          have k0 := cell_regrown c2
          have k1 := cell_regrown t0
          have k2 := cell_regrown t1
          clear hok hsz hr t0 t1 hz1 hz2 hl2 hSa hSb hSc c0 c1 c3 c4 c5 c6 c7 c8 c9 c10 c11
          go_upto_region 8 with fail
          clear c2
          refine wp_region_cone 15 [(0, false), (1, false), (2, false), (3, false), (4, false), (5, false), (6, false), (7, false), (8, false), (9, false), (10, false), (11, false), (12, false), (13, false), (14, false)] (by kernel_rfl) (by kernel_rfl) ?_
          simp only [ordO, List.map_cons, List.map_nil, List.getD_cons_zero, List.getD_cons_succ, List.drop_succ_cons, List.drop_zero]
          repeat (
            refine ord_quiet (fun K hK => ?_)
            go_simp
            first
              | (refine hK _ ?_; clear hK K)
              | (refine ⟨_, fun _ => up_val, hK _ ?_⟩; clear hK K)
              | (apply Exists.intro; refine ⟨fun _ => ?_, hK _ ?_⟩; (first | (with_reducible exact up_call (cA _ _)) | (with_reducible exact up_call (cB _ _))); clear hK K))
          unfold wpOrd
          intro wq hwq
          have HBQ := Lib.hid (bel_trans HBW.out hwq.bel)
          clear hwq k0 k1 k2 cA cB
          go_wp2
          go_roundg (NN - (i + 1))
          case measure => omega
          case rel => exact ⟨i + 1, by omega, rfl, by go_num, by rw [HSC.out, HX.out], HBQ.out⟩
        · have hie : i = NN := by omega
          have hii : ¬ (i : Int) < (NN : Int) := by omega
          have HTA : RowKit.Hid (p.names.take i = p.names) := Lib.hid (List.take_of_length_le (by rw [HNN.out]; omega))
          clear hie
          go_wp2
          go_meet
          exact ⟨by rw [HTA.out]; rfl, HBW.out⟩
    case rest =>
    obtain ⟨h4, hbw⟩ := hcut
    subst h4
    rename World => w5
    have HW5 : RowKit.Hid (Below w1.heap.size w1 w5) := Lib.hid hbw
    clear hbw
    clear HSB HWB HS3 HW4
    obtain ⟨S4, hS4⟩ : ∃ S, S = strA (q4 p) := ⟨_, rfl⟩
    obtain ⟨S5, hS5⟩ : ∃ S, S = strA (q5 p) := ⟨_, rfl⟩
    have HN5 := Lib.hid (numC (n := (NS : Int)) hS4 (cs := q5 p) (by unfold q5; rw [HNS.out, Int.toNat_natCast]) hS5 (by have := HSH.out.a4; omega) (by omega) (by have := HFEW.out; omega))
    rw [← hS4]
    have HSB := Lib.hid hS5
    clear hS4 hS5
    obtain ⟨_, _, _, c3, _⟩ := HCS.out _ HW5.out
    go_upto_block 2 with (first
      | (go_at_call 27; (with_reducible refine (HN5.out _).mono ?_); rintro e w6 ⟨rfl, hb6⟩))
    have HWB : RowKit.Hid (Below w1.heap.size w1 w6) := Lib.hid (bel_trans HW5.out hb6)
    clear hb6 c3 HN5 HW5
    go_cut [4] from 52 to 88 (fun s4 wx => s4 = .string (strA (q6 p)) ∧ Below w1.heap.size w1 wx)
    case first =>
      go_wp2
      go_loopg [4, 6] NS (fun g0 s4 s6 wr => ∃ i : Nat, i ≤ NS ∧ g0 = NS - i ∧ s6 = .int .i64 (i : Int) ∧ s4 = .string (strA (q5 p ++ (p.segs.take i).flatMap segB)) ∧ Below w1.heap.size w1 wr)
      case atStart => exact ⟨0, Nat.zero_le _, rfl, rfl, by first | (simp [HSB.out]; done) | (rw [HSB.out]; simp), HWB.out⟩
      case round =>
        obtain ⟨i, hiN, rfl, rfl, rfl, hbw⟩ := hrel
        rename World => wr
        have HBW := Lib.hid hbw
        clear hbw
        obtain ⟨c0, c1, c2, c3, c4, c5, c6, c7, c8, c9, c10, c11⟩ := HCS.out _ HBW.out
        by_cases hlt : i < NS
        · have hii : (i : Int) < (NS : Int) := by omega
          have hi0 : (0 : Int) ≤ (i : Int) := by omega
          have hil : i < p.segs.length := by rw [HNS.out]; exact hlt
          have hi9 : i ≤ 100 := by have := HFEW.out; omega
          have hwi : IntKind.i64.wrap ((i : Int) + 1) = (i : Int) + 1 := IntWalk.i64_in _ (by omega)
          have HX : RowKit.Hid (q5 p ++ (p.segs.take (i + 1)).flatMap segB = q5 p ++ (p.segs.take i).flatMap segB ++ segB (p.segs.getD i sgZ)) := Lib.hid (by rw [flat_take (getD_atZ sgZ hil), List.append_assoc])
          have HLE : RowKit.Hid ((q5 p ++ (p.segs.take i).flatMap segB).length ≤ 5000) := Lib.hid (by
            have h1 := take_flat_le (f := segB) p.segs i
            have h2 : (q5 p ++ p.segs.flatMap segB).length ≤ 500 := by have := HSH.out.a6; unfold q6 at this; omega
            rw [List.length_append] at h2 ⊢
            omega)
          have hok := HSP.out.segs.2.1 _ (List.mem_of_getElem? (getD_atZ sgZ hil))
          have hcz := car_size hok
          obtain ⟨bb, of2, rfl, hr⟩ := row_at segC_len sgZ (HP.out.s.mono (bel_trans HB.out HBW.out)) hil
          generalize p.segs.getD i sgZ = x at *
          obtain ⟨car, num, day, cls, live⟩ := x
          obtain ⟨_, o1, o2, _⟩ := hok
          unfold segC at hr
          simp only at hr o1 o2 hcz HX
          generalize hbs : q5 p ++ (p.segs.take i).flatMap segB = bs at *
          clear c0 c1 c2 c4 c5 c6 c7 c8 c9 c10 c11
          go_upto_region 14 with (first
            | (refine wpList_load_mid rfl 65 _ rfl bb (of2 + i * 5) rfl [.string car, .int .i64 num, .int .i64 day, .int .u8 cls.toNat, .bool live] _ hr Tryz.underlying65 rfl info_segZ ?_)
            | (refine wpList_store_blk rfl 65 (.tmp 7) (.tmp 63) rfl wr.heap.size 65 [.string ⟨#[]⟩, .int .i64 0, .int .i64 0, .int .u8 0, .bool false] [.string car, .int .i64 num, .int .i64 day, .int .u8 cls.toNat, .bool live] rfl rfl (Blk.new wr 65 [.string ⟨#[]⟩, .int .i64 0, .int .i64 0, .int .u8 0, .bool false]) rfl info_segZ (by intro v hv; simp at hv; rcases hv with rfl | rfl | rfl | rfl | rfl <;> rfl) ?_; intro w8 ha8 hb8 hgr8))
          (try dsimp only [Act.put])
          have h18 : Below wr.heap.size wr w8 := ((Below.refl _ _).alloc (Nat.le_refl _) _).trans hb8
          have HB8 := Lib.hid (bel_trans HBW.out h18)
          have HA8 := Lib.hid ha8
          clear hr hb8 hgr8 h18 c3
          generalize wr.heap.size = g8 at HA8 ha8 ⊢
          have z0 : w8.cell? ⟨g8, 0, none⟩ = some (.string car) := (ha8.cell 0).trans rfl
          have z1 : w8.cell? ⟨g8, 1, none⟩ = some (.int .i64 num) := (ha8.cell 1).trans rfl
          clear ha8
          obtain ⟨Sa, hSa⟩ : ∃ S, S = strA bs := ⟨_, rfl⟩
          obtain ⟨Sb, hSb⟩ : ∃ S, S = strA (bs ++ toL car) := ⟨_, rfl⟩
          obtain ⟨Sc, hSc⟩ : ∃ S, S = strA (bs ++ toL car ++ varL num.toNat) := ⟨_, rfl⟩
          have hab : Sa ++ car = Sb := by rw [hSa, hSb, ← strA_append, strA_of]
          have hq : ¬ (9223372036854775807 < Sa.size + car.size) := by
            have : Sa.size = bs.length := by rw [hSa, strA_size]
            have := HLE.out
            omega
          have hlb : (bs ++ toL car).length ≤ 6000 := by
            have := HLE.out
            rw [List.length_append, size_toL]
            omega
          have HNC := Lib.hid (numC (n := num) hSb rfl hSc (by omega) (by omega) (by omega))
          have HLC : RowKit.Hid ((bs ++ toL car ++ varL num.toNat).length ≤ 6010) := Lib.hid (by
            have h2 := num_lenZ num.toNat (by omega)
            rw [List.length_append]
            omega)
          have HSC := Lib.hid hSc
          rw [← hSa]
          have HAB := Lib.hid hab
          clear hSa hSb hSc hlb hab hcz
          go_upto_region 15 with (first
            | (rw [HAB.out]; go_at_call 27; (with_reducible refine (HNC.out _).mono ?_); rintro e w9 ⟨rfl, hb9⟩)
            | (go_at_call 27; (with_reducible refine (HNC.out _).mono ?_); rintro e w9 ⟨rfl, hb9⟩))
          have HB9 := Lib.hid (bel_trans HB8.out hb9)
          have ha9 := HA8.out.mono hb9
          have y2 : w9.cell? ⟨g8, 2, none⟩ = some (.int .i64 day) := (ha9.cell 2).trans rfl
          have y3 : w9.cell? ⟨g8, 3, none⟩ = some (.int .u8 cls.toNat) := (ha9.cell 3).trans rfl
          have y4 : w9.cell? ⟨g8, 4, none⟩ = some (.bool live) := (ha9.cell 4).trans rfl
          have k2 := cell_regrown y2
          have k3 := cell_regrown y3
          have k4 := cell_regrown y4
          obtain ⟨fl, hfl⟩ : ∃ z : Int, z = (if live then 1 else 0) := ⟨_, rfl⟩
          have hfb : 0 ≤ fl ∧ fl ≤ 1 := by rw [hfl]; cases live <;> simp
          have hw1 : IntKind.i64.wrap (2 * day) = 2 * day := IntWalk.i64_in _ (by omega)
          have hw2 : IntKind.i64.wrap (2 * day + fl) = 2 * day + fl := IntWalk.i64_in _ (by omega)
          obtain ⟨Sd, hSd⟩ : ∃ S, S = strA (bs ++ toL car ++ varL num.toNat ++ varL (2 * day + fl).toNat) := ⟨_, rfl⟩
          obtain ⟨Se, hSe⟩ : ∃ S, S = strA [cls] := ⟨_, rfl⟩
          obtain ⟨Sf, hSf⟩ : ∃ S, S = strA (bs ++ segB ⟨car, num, day, cls, live⟩) := ⟨_, rfl⟩
          have hde : Sd ++ Se = Sf := by
            rw [hSd, hSe, hSf, strA_append]
            congr 1
            unfold segB
            have : (2 * day + fl).toNat = 2 * day.toNat + (if live then 1 else 0) := by
              rw [hfl]
              cases live <;> simp <;> omega
            rw [this]
            simp only [List.append_assoc]
          have hq2 : ¬ (9223372036854775807 < Sd.size + Se.size) := by
            have e1 : Sd.size = (bs ++ toL car ++ varL num.toNat ++ varL (2 * day + fl).toNat).length := by rw [hSd, strA_size]
            have e2 : Se.size = 1 := by rw [hSe, strA_size]; rfl
            have := HLC.out
            have h2 := num_lenZ (2 * day + fl).toNat (by omega)
            rw [List.length_append] at e1
            omega
          have cF : ∀ d os, Calls Tryz.prog 28 #[.bool live] (Go.Sort.grow (redrawn w9 d) os) fun e w'' => e = .returned (.int .i64 fl) ∧ Below (Go.Sort.grow (redrawn w9 d) os).heap.size (Go.Sort.grow (redrawn w9 d) os) w'' := fun d os => by rw [hfl]; exact rflag_any live _
          have cN : ∀ d os, Calls Tryz.prog 27 #[.string Sc, .int .i64 (2 * day + fl)] (Go.Sort.grow (redrawn w9 d) os) fun e w'' => e = .returned (.string Sd) ∧ Below (Go.Sort.grow (redrawn w9 d) os).heap.size (Go.Sort.grow (redrawn w9 d) os) w'' := fun d os => numC HSC.out rfl hSd (by have := HLC.out; omega) (by omega) (by omega) _
          have cO : ∀ d os, Calls Tryz.prog 26 #[.int .u8 cls.toNat] (Go.Sort.grow (redrawn w9 d) os) fun e w'' => e = .returned (.string Se) ∧ Below (Go.Sort.grow (redrawn w9 d) os).heap.size (Go.Sort.grow (redrawn w9 d) os) w'' := fun d os => by rw [hSe]; exact refOne_any cls _
          have HDE := Lib.hid hde
          have HSF := Lib.hid hSf
          clear hfl hSd hSe hSf hde hb9 ha9 y2 y3 y4 z0 z1 o1 o2 hfb hq
          refine wp_region_cone 14 [(0, false), (1, false), (2, false), (3, false), (4, false), (5, false), (6, false), (7, false), (8, false), (9, false), (10, false), (11, false), (12, false), (13, false)] (by kernel_rfl) (by kernel_rfl) ?_
          simp only [ordO, List.map_cons, List.map_nil, List.getD_cons_zero, List.getD_cons_succ, List.drop_succ_cons, List.drop_zero]
          repeat (
            refine ord_quiet (fun K hK => ?_)
            go_simp
            first
              | (refine hK _ ?_; clear hK K)
              | (refine ⟨_, fun _ => up_val, hK _ ?_⟩; clear hK K)
              | (apply Exists.intro; refine ⟨fun _ => ?_, hK _ ?_⟩; (first | (with_reducible exact up_call (cF _ _)) | (with_reducible exact up_call (cN _ _)) | (with_reducible exact up_call (cO _ _))); clear hK K))
          unfold wpOrd
          intro wq hwq
          have HBQ := Lib.hid (bel_trans HB9.out hwq.bel)
          clear hwq k2 k3 k4 cF cN cO
          try rw [HDE.out]
          go_wp2
          go_roundg (NS - (i + 1))
          case measure => omega
          case rel => exact ⟨i + 1, by omega, rfl, by go_num, by first | rw [HSF.out, HX.out] | rw [HDE.out, HSF.out, HX.out], HBQ.out⟩
        · have hie : i = NS := by omega
          have hii : ¬ (i : Int) < (NS : Int) := by omega
          have HTA : RowKit.Hid (p.segs.take i = p.segs) := Lib.hid (List.take_of_length_le (by rw [HNS.out]; omega))
          clear hie
          go_wp2
          go_meet
          exact ⟨by rw [HTA.out]; rfl, HBW.out⟩
    case rest =>
    obtain ⟨h4, hbw⟩ := hcut
    subst h4
    rename World => w7
    have HW7 : RowKit.Hid (Below w1.heap.size w1 w7) := Lib.hid hbw
    clear hbw
    clear HSB HWB
    have htk := HSP.out.tick
    have htk2 : 0 ≤ p.tk ∧ p.tk ≤ 2 := by
      rcases htk with h | h
      · omega
      · obtain ⟨_, _, _, h⟩ := h
        omega
    obtain ⟨S6, hS6⟩ : ∃ S, S = strA (q6 p) := ⟨_, rfl⟩
    obtain ⟨S8, hS8⟩ : ∃ S, S = strA (q8 p) := ⟨_, rfl⟩
    obtain ⟨kb, hkb⟩ : ∃ k : UInt8, k = UInt8.ofNat (2 * p.tk.toNat + if p.queued then 1 else 0) := ⟨_, rfl⟩
    obtain ⟨Sk, hSk⟩ : ∃ S, S = strA [kb] := ⟨_, rfl⟩
    obtain ⟨S9, hS9⟩ : ∃ S, S = strA (q8 p ++ [kb]) := ⟨_, rfl⟩
    obtain ⟨fl, hfl⟩ : ∃ z : Int, z = (if p.queued then 1 else 0) := ⟨_, rfl⟩
    have hfb : 0 ≤ fl ∧ fl ≤ 1 := by rw [hfl]; cases p.queued <;> simp
    have hcb : (2 * p.tk + fl) % 256 = (kb.toNat : Int) := by
      rw [hkb, hfl]
      obtain ⟨n, hn⟩ := Int.eq_ofNat_of_zero_le htk2.1
      rw [hn]
      have hn2 : n ≤ 2 := by omega
      rw [UInt8.toNat_ofNat']
      cases p.queued <;> simp <;> omega
    have hcw : IntKind.u8.wrap (2 * p.tk + fl) = (kb.toNat : Int) := by rw [IntKind.wrap_u8]; exact hcb
    clear hcb
    have hw1 : IntKind.i64.wrap (2 * p.tk) = 2 * p.tk := IntWalk.i64_in _ (by omega)
    have hw2 : IntKind.i64.wrap (2 * p.tk + fl) = 2 * p.tk + fl := IntWalk.i64_in _ (by omega)
    have hkk : S8 ++ Sk = S9 := by rw [hS8, hSk, hS9, strA_append]
    have hq : ¬ (9223372036854775807 < S8.size + Sk.size) := by
      have e1 : S8.size = (q8 p).length := by rw [hS8, strA_size]
      have e2 : Sk.size = 1 := by rw [hSk, strA_size]; rfl
      have := HSH.out.a8
      omega
    obtain ⟨c0, c1, c2, c3, c4, c5, c6, c7, c8, c9, c10, c11⟩ := HCS.out _ HW7.out
    have HPH := Lib.hid (HP.out.ph.mono (bel_trans HB.out HW7.out))
    have hphz : ∀ s ∈ p.phones, s.size ≤ 1000 := fun s hs => by have := free_size (HSP.out.phones.2 s hs); omega
    rw [← hS6]
    have cT : ∀ d os, Calls Tryz.prog 29 #[.string S6, .slice pp NP cp] (Go.Sort.grow (redrawn w7 d) os) fun e w'' => e = .returned (.string S8) ∧ Below (Go.Sort.grow (redrawn w7 d) os).heap.size (Go.Sort.grow (redrawn w7 d) os) w'' := fun d os => textsC hS6 (by unfold q8 q7 textsB; rw [List.append_assoc]) hS8 (by have := HSH.out.a6; omega) (by have := HFEW.out; have := HNP.out; omega) hphz _ (HPH.out.mono (below_regrown w7 d os))
    have cF : ∀ d os, Calls Tryz.prog 28 #[.bool p.queued] (Go.Sort.grow (redrawn w7 d) os) fun e w'' => e = .returned (.int .i64 fl) ∧ Below (Go.Sort.grow (redrawn w7 d) os).heap.size (Go.Sort.grow (redrawn w7 d) os) w'' := fun d os => by rw [hfl]; exact rflag_any _ _
    have cO : ∀ d os, Calls Tryz.prog 26 #[.int .u8 kb.toNat] (Go.Sort.grow (redrawn w7 d) os) fun e w'' => e = .returned (.string Sk) ∧ Below (Go.Sort.grow (redrawn w7 d) os).heap.size (Go.Sort.grow (redrawn w7 d) os) w'' := fun d os => by rw [hSk]; exact refOne_any kb _
    have k4 := cell_regrown c4
    have k5 := cell_regrown c5
    have k11 := cell_regrown c11
    have HKK := Lib.hid hkk
    have HS9 := Lib.hid hS9
    have HKB := Lib.hid hkb
    clear hS6 hS8 hSk hS9 hkk hkb hfl hphz c0 c1 c2 c3 c4 c5 c6 c7 c8 c9 c10 c11 htk
    go_upto_region 16 with fail
    refine wp_region_cone 15 [(0, false), (1, false), (2, false), (3, false), (4, false), (5, false), (6, false), (7, false), (8, false), (9, false), (10, false), (11, false), (12, false), (13, false), (14, false)] (by kernel_rfl) (by kernel_rfl) ?_
    simp only [ordO, List.map_cons, List.map_nil, List.getD_cons_zero, List.getD_cons_succ, List.drop_succ_cons, List.drop_zero]
    repeat (
      refine ord_quiet (fun K hK => ?_)
      go_simp
      first
        | (refine hK _ ?_; clear hK K)
        | (refine ⟨_, fun _ => up_val, hK _ ?_⟩; clear hK K)
        | (apply Exists.intro; refine ⟨fun _ => ?_, hK _ ?_⟩; (first | (with_reducible exact up_call (cT _ _)) | (with_reducible exact up_call (cF _ _)) | (with_reducible exact up_call (cO _ _))); clear hK K))
    unfold wpOrd
    intro wq hwq
    have HWK : RowKit.Hid (Below w1.heap.size w1 wq) := Lib.hid (bel_trans HW7.out hwq.bel)
    try rw [HKK.out]
    clear hwq k4 k5 k11 cT cF cO hw1 hw2 hcw hq hfb HKK HPH
    obtain ⟨c0, c1, c2, c3, c4, c5, c6, c7, c8, c9, c10, c11⟩ := HCS.out _ HWK.out
    go_upto_if 107 with fail
    go_cut [4] from 104 to 117 (fun s4 wx => s4 = .string (strA (q9 p)) ∧ Below w1.heap.size w1 wx)
    case first =>
      by_cases h1 : p.tk = 1
      · have hb1 : (p.tk == 1) = true := by rw [beq_iff_eq]; exact h1
        have htk := HSP.out.tick
        have htd : (0 ≤ p.td ∧ p.td < 366) ∧ 0 ≤ p.tm ∧ p.tm < 1440 := by
          rcases htk with h | h
          · exact h.2
          · obtain ⟨_, _, _, h⟩ := h
            omega
        have hw1 : IntKind.i64.wrap (p.td * 1440) = p.td * 1440 := IntWalk.i64_in _ (by omega)
        have hw2 : IntKind.i64.wrap (p.td * 1440 + p.tm) = p.td * 1440 + p.tm := IntWalk.i64_in _ (by omega)
        have HE : RowKit.Hid (q9 p = q8 p ++ [kb] ++ varL (p.td * 1440 + p.tm).toNat) := Lib.hid (by unfold q9 tickB; rw [← HKB.out, if_pos h1]; simp)
        obtain ⟨S10, hS10⟩ : ∃ S, S = strA (q9 p) := ⟨_, rfl⟩
        have HNT := Lib.hid (numC (n := p.td * 1440 + p.tm) HS9.out HE.out hS10 (by have := HSH.out.a8; rw [List.length_append, List.length_singleton]; omega) (by omega) (by omega))
        have HS10 := Lib.hid hS10
        clear hS10 htk htd h1
        go_wp2_with (first
          | (go_at_call 27; (with_reducible refine (HNT.out _).mono ?_); rintro e wn ⟨rfl, hbn⟩))
        go_meet
        exact ⟨by rw [HS10.out], bel_trans HWK.out hbn⟩
      · have hb1 : (p.tk == 1) = false := by rw [beq_eq_false_iff_ne]; exact h1
        have HE : RowKit.Hid (S9 = strA (q9 p)) := Lib.hid (by rw [HS9.out]; unfold q9 tickB; rw [← HKB.out, if_neg h1])
        clear h1
        go_wp2
        go_meet
        exact ⟨by rw [HE.out], HWK.out⟩
    case rest =>
    obtain ⟨h4, hbw⟩ := hcut
    subst h4
    rename World => w10
    have HW10 : RowKit.Hid (Below w1.heap.size w1 w10) := Lib.hid hbw
    clear hbw HWK HS9 HKB HW7 c0 c1 c2 c3 c4 c5 c6 c7 c8 c9 c10 c11
    obtain ⟨c0, c1, c2, c3, c4, c5, c6, c7, c8, c9, c10, c11⟩ := HCS.out _ HW10.out
    obtain ⟨S9, hS9⟩ : ∃ S, S = strA (q9 p) := ⟨_, rfl⟩
    obtain ⟨S10, hS10⟩ : ∃ S, S = strA (q10 p) := ⟨_, rfl⟩
    obtain ⟨S12, hS12⟩ : ∃ S, S = strA (q12 p) := ⟨_, rfl⟩
    have hrz : p.recv.size ≤ 2000 := by
      rcases HSP.out.recv with k | k
      · have e : p.recv.size = (toL p.recv).length := (size_toL _).symm
        rw [e, k]; exact Nat.zero_le _
      · have := free_size k; omega
    have hrmz : ∀ s ∈ p.remarks, s.size ≤ 1000 := fun s hs => by have := free_size (HSP.out.remarks.2 s hs); omega
    have HRM := Lib.hid (HP.out.rm.mono (bel_trans HB.out HW10.out))
    rw [← hS9]
    have cT : ∀ d os, Calls Tryz.prog 25 #[.string S9, .string p.recv] (Go.Sort.grow (redrawn w10 d) os) fun e w'' => e = .returned (.string S10) ∧ Below (Go.Sort.grow (redrawn w10 d) os).heap.size (Go.Sort.grow (redrawn w10 d) os) w'' := fun d os => textC hS9 rfl hS10 (by have := HSH.out.a9; omega) hrz _
    have cU : ∀ d os, Calls Tryz.prog 29 #[.string S10, .slice pr NR cr] (Go.Sort.grow (redrawn w10 d) os) fun e w'' => e = .returned (.string S12) ∧ Below (Go.Sort.grow (redrawn w10 d) os).heap.size (Go.Sort.grow (redrawn w10 d) os) w'' := fun d os => textsC hS10 (by unfold q12 q11 textsB; rw [List.append_assoc]) hS12 (by have := HSH.out.a10; omega) (by have := HFEW.out; have := HNR.out; omega) hrmz _ (HRM.out.mono (below_regrown w10 d os))
    have k6 := cell_regrown c8
    have k9 := cell_regrown c9
    have HS12 := Lib.hid hS12
    clear hS9 hS10 hS12 hrz hrmz c0 c1 c2 c3 c4 c5 c6 c7 c8 c9 c10 c11
    go_upto_region 19 with fail
    refine wp_region_cone 7 [(0, false), (1, false), (2, false), (3, false), (4, false), (5, false), (6, false)] (by kernel_rfl) (by kernel_rfl) ?_
    simp only [ordO, List.map_cons, List.map_nil, List.getD_cons_zero, List.getD_cons_succ, List.drop_succ_cons, List.drop_zero]
    repeat (
      refine ord_quiet (fun K hK => ?_)
      go_simp
      first
        | (refine hK _ ?_; clear hK K)
        | (refine ⟨_, fun _ => up_val, hK _ ?_⟩; clear hK K)
        | (apply Exists.intro; refine ⟨fun _ => ?_, hK _ ?_⟩; (first | (with_reducible exact up_call (cT _ _)) | (with_reducible exact up_call (cU _ _))); clear hK K))
    unfold wpOrd
    intro wq hwq
    have HWM : RowKit.Hid (Below w1.heap.size w1 wq) := Lib.hid (bel_trans HW10.out hwq.bel)
    clear hwq k6 k9 cT cU HRM
    obtain ⟨_, _, _, _, _, _, _, _, _, _, c10, _⟩ := HCS.out _ HWM.out
    obtain ⟨S13, hS13⟩ : ∃ S, S = strA (q13 p) := ⟨_, rfl⟩
    have HN13 := Lib.hid (numC (n := (NX : Int)) HS12.out (cs := q13 p) (by unfold q13; rw [HNX.out, Int.toNat_natCast]) hS13 (by have := HSH.out.a12; omega) (by omega) (by have := HFEW.out; omega))
    have HSB := Lib.hid hS13
    clear hS13
    go_upto_block 4 with (first
      | (go_at_call 27; (with_reducible refine (HN13.out _).mono ?_); rintro e w13 ⟨rfl, hb13⟩))
    have HWB : RowKit.Hid (Below w1.heap.size w1 w13) := Lib.hid (bel_trans HWM.out hb13)
    clear hb13 c10 HN13 HWM HS12 HW10
    go_cut [4] from 130 to 153 (fun s4 wx => s4 = .string (strA (pnrB p)) ∧ Below w1.heap.size w1 wx)
    case first =>
      go_wp2
      go_loopg [4, 8] NX (fun g0 s4 s8 wr => ∃ i : Nat, i ≤ NX ∧ g0 = NX - i ∧ s8 = .int .i64 (i : Int) ∧ s4 = .string (strA (q13 p ++ (p.seats.take i).flatMap placeB)) ∧ Below w1.heap.size w1 wr)
      case atStart => exact ⟨0, Nat.zero_le _, rfl, rfl, by first | (simp [HSB.out]; done) | (rw [HSB.out]; simp), HWB.out⟩
      case round =>
        obtain ⟨i, hiN, rfl, rfl, rfl, hbw⟩ := hrel
        rename World => wr
        have HBW := Lib.hid hbw
        clear hbw
        obtain ⟨c0, c1, c2, c3, c4, c5, c6, c7, c8, c9, c10, c11⟩ := HCS.out _ HBW.out
        by_cases hlt : i < NX
        · have hii : (i : Int) < (NX : Int) := by omega
          have hi0 : (0 : Int) ≤ (i : Int) := by omega
          have hil : i < p.seats.length := by rw [HNX.out]; exact hlt
          have hi9 : i ≤ 100 := by have := HFEW.out; omega
          have hwi : IntKind.i64.wrap ((i : Int) + 1) = (i : Int) + 1 := IntWalk.i64_in _ (by omega)
          have HX : RowKit.Hid (q13 p ++ (p.seats.take (i + 1)).flatMap placeB = q13 p ++ (p.seats.take i).flatMap placeB ++ placeB (p.seats.getD i plZ)) := Lib.hid (by rw [flat_take (getD_atZ plZ hil), List.append_assoc])
          have HLE : RowKit.Hid ((q13 p ++ (p.seats.take i).flatMap placeB).length ≤ 5000) := Lib.hid (by
            have h1 := take_flat_le (f := placeB) p.seats i
            have h2 : (q13 p ++ p.seats.flatMap placeB).length ≤ 1700 := by have h1 := HSH.out.a13; have h2 := flat_le (l := p.seats) (f := placeB) (k := 3) (fun x _ => by rw [placeB_len]; exact Nat.le_refl _); have h3 := HFEW.out; have h4 := HNX.out; rw [List.length_append]; omega
            rw [List.length_append] at h2 ⊢
            omega)
          have hok := (HSP.out.seats.1 i _ (getD_atZ plZ hil)).1
          have hsl := HSP.out.segs.1
          have hnl := HSP.out.names.1
          obtain ⟨bb, of2, rfl, hr⟩ := row_at placeC_len plZ (HP.out.x.mono (bel_trans HB.out HBW.out)) hil
          generalize p.seats.getD i plZ = x at *
          obtain ⟨sg, pa, rw', ch⟩ := x
          obtain ⟨⟨o1, sq, o2, _⟩, ⟨o3, o4⟩, o5, o6, o7⟩ := hok
          unfold placeC at hr
          simp only at hr o1 o2 o3 o4 o5 o6 o7 HX
          have hsl2 : (sg - 1).toNat < p.segs.length := (List.getElem?_eq_some_iff.1 o2).1
          have hsg : sg ≤ 8 := by omega
          have hpa : pa ≤ 9 := by omega
          have hbl := bL_lo o7
          have hnb : bitsN pa rw' ch < 65536 := by
            unfold bitsN
            omega
          have HPK : RowKit.Hid (∀ W, Calls Tryz.prog 31 #[.int .i64 pa, .agg #[.int .i64 rw', .int .u8 ch.toNat]] W fun e w' => e = .returned (.int .i64 (bitsN pa rw' ch : Nat)) ∧ Below W.heap.size W w') := Lib.hid fun W => seatBits_any pa rw' ch W o3 hpa o5 o6 o7
          generalize hbs : q13 p ++ (p.seats.take i).flatMap placeB = bs at *
          have HPB : RowKit.Hid (placeB ⟨sg, pa, rw', ch⟩ = beL ((sg - 1).toNat * 65536 + bitsN pa rw' ch) 3) := Lib.hid rfl
          generalize bitsN pa rw' ch = nb at *
          clear c0 c1 c2 c3 c4 c5 c6 c7 c8 c9 c11 hsl hnl hsl2 o2 o3 o4 o5 o6 o7 hbl hpa
          go_upto_region 25 with (first
            | (refine wpList_load_mid rfl 73 _ rfl bb (of2 + i * 4) rfl [.int .i64 sg, .int .i64 pa, .int .i64 rw', .int .u8 ch.toNat] _ hr Tryz.underlying73 rfl info_placeZ ?_)
            | (refine wpList_store_blk rfl 73 (.tmp 9) (.tmp 141) rfl wr.heap.size 73 [.int .i64 0, .int .i64 0, .int .i64 0, .int .u8 0] [.int .i64 sg, .int .i64 pa, .int .i64 rw', .int .u8 ch.toNat] rfl rfl (Blk.new wr 73 [.int .i64 0, .int .i64 0, .int .i64 0, .int .u8 0]) rfl info_placeZ (by intro v hv; simp at hv; rcases hv with rfl | rfl | rfl | rfl <;> rfl) ?_; intro w8 ha8 hb8 hgr8))
          (try dsimp only [Act.put])
          have h18 : Below wr.heap.size wr w8 := ((Below.refl _ _).alloc (Nat.le_refl _) _).trans hb8
          have HB8 := Lib.hid (bel_trans HBW.out h18)
          clear hr hb8 hgr8 h18 c10
          generalize wr.heap.size = g8 at ha8 ⊢
          have z0 : w8.cell? ⟨g8, 0, none⟩ = some (.int .i64 sg) := (ha8.cell 0).trans rfl
          have z1 : w8.cell? ⟨g8, 1, none⟩ = some (.int .i64 pa) := (ha8.cell 1).trans rfl
          have z2 : w8.cell? ⟨g8, 2, none⟩ = some (.int .i64 rw') := (ha8.cell 2).trans rfl
          have z3 : w8.cell? ⟨g8, 3, none⟩ = some (.int .u8 ch.toNat) := (ha8.cell 3).trans rfl
          have k0 := cell_regrown z0
          have k1 := cell_regrown z1
          have k2 := cell_regrown z2
          have k3 := cell_regrown z3
          obtain ⟨n0, hn0⟩ : ∃ n : Nat, n = (sg - 1).toNat * 65536 + nb := ⟨_, rfl⟩
          have hw1 : IntKind.i64.wrap (sg - 1) = sg - 1 := IntWalk.i64_in _ (by omega)
          have hw2 : IntKind.i64.wrap ((sg - 1) * 65536) = (sg - 1) * 65536 := IntWalk.i64_in _ (by omega)
          have hw3 : IntKind.i64.wrap ((sg - 1) * 65536 + (nb : Int)) = (n0 : Int) := by rw [IntWalk.i64_in _ (by omega)]; omega
          obtain ⟨Sa, hSa⟩ : ∃ S, S = strA bs := ⟨_, rfl⟩
          obtain ⟨Sb, hSb⟩ : ∃ S, S = strA (bs ++ beL n0 3) := ⟨_, rfl⟩
          have HSC : RowKit.Hid (Sb = strA (bs ++ placeB ⟨sg, pa, rw', ch⟩)) := Lib.hid (by rw [hSb, hn0, HPB.out])
          have hn1 : n0 < 9223372036854775808 := by omega
          have cP : ∀ d os, Calls Tryz.prog 31 #[.int .i64 pa, .agg #[.int .i64 rw', .int .u8 ch.toNat]] (Go.Sort.grow (redrawn w8 d) os) fun e w'' => e = .returned (.int .i64 (nb : Int)) ∧ Below (Go.Sort.grow (redrawn w8 d) os).heap.size (Go.Sort.grow (redrawn w8 d) os) w'' := fun d os => HPK.out _
          have cX : ∀ d os, Calls Tryz.prog 30 #[.string Sa, .int .i64 (n0 : Int), .int .i64 3] (Go.Sort.grow (redrawn w8 d) os) fun e w'' => e = .returned (.string Sb) ∧ Below (Go.Sort.grow (redrawn w8 d) os).heap.size (Go.Sort.grow (redrawn w8 d) os) w'' := fun d os => (by have := fixC (k := 3) hSa rfl hSb (by have := HLE.out; omega) hn1 (by omega) (Go.Sort.grow (redrawn w8 d) os); exact this)
          rw [← hSa]
          clear hSa hSb hn0 ha8 z0 z1 z2 z3 HPB hnb o1 hsg hn1
          refine wp_region_cone 12 [(0, false), (1, false), (2, false), (3, false), (4, false), (5, false), (6, false), (7, false), (8, false), (9, false), (10, false), (11, false)] (by kernel_rfl) (by kernel_rfl) ?_
          simp only [ordO, List.map_cons, List.map_nil, List.getD_cons_zero, List.getD_cons_succ, List.drop_succ_cons, List.drop_zero]
          repeat (
            refine ord_quiet (fun K hK => ?_)
            go_simp
            first
              | (refine hK _ ?_; clear hK K)
              | (refine ⟨_, fun _ => up_val, hK _ ?_⟩; clear hK K)
              | (apply Exists.intro; refine ⟨fun _ => ?_, hK _ ?_⟩; (first | (with_reducible exact up_call (cP _ _)) | (with_reducible exact up_call (cX _ _))); clear hK K))
          unfold wpOrd
          intro wq hwq
          have HBQ := Lib.hid (bel_trans HB8.out hwq.bel)
          clear hwq k0 k1 k2 k3 cP cX
          go_wp2
          go_roundg (NX - (i + 1))
          case measure => omega
          case rel => exact ⟨i + 1, by omega, rfl, by go_num, by rw [HSC.out, HX.out], HBQ.out⟩
        · have hie : i = NX := by omega
          have hii : ¬ (i : Int) < (NX : Int) := by omega
          have HTA : RowKit.Hid (p.seats.take i = p.seats) := Lib.hid (List.take_of_length_le (by rw [HNX.out]; omega))
          clear hie
          go_wp2
          go_meet
          exact ⟨by rw [HTA.out]; rw [← q_all], HBW.out⟩
    case rest =>
    obtain ⟨h4, hbw⟩ := hcut
    subst h4
    rename World => w14
    have HW14 : RowKit.Hid (Below w1.heap.size w1 w14) := Lib.hid hbw
    clear hbw
    clear HSB HWB
    obtain ⟨SF, hSF⟩ : ∃ S, S = strA (pnrB p) := ⟨_, rfl⟩
    rw [← hSF]
    have HSF := Lib.hid hSF
    clear hSF
    go_wp2
    go_ret2
    exact ⟨.inl ⟨pnrB p, HT.out, by rw [← HSF.out]; rfl⟩, bel_trans HB.out HW14.out⟩
end Go.Proofs.YtofomopmmopflaaGreatDoor
