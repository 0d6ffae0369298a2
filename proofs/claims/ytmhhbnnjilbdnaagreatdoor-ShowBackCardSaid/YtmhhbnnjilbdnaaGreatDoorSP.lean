/- The lines of a PNR (the program's). Printed by tools/gen_sp.py out of sp.head, sp.secs. -/
import Derived.Test.YtmhhbnnjilbdnaaGreatDoorKA
import Derived.Test.YtmhhbnnjilbdnaaGreatDoorKB
import Derived.Test.YtmhhbnnjilbdnaaGreatDoorKF
import Derived.Test.YtmhhbnnjilbdnaaGreatDoorPlnP
import Derived.Test.YtmhhbnnjilbdnaaGreatDoorKG
import Derived.Test.YtmhhbnnjilbdnaaGreatDoorSA
import Derived.Test.YtmhhbnnjilbdnaaGreatDoorSB
import Derived.Test.YtmhhbnnjilbdnaaGreatDoorSD
import Derived.Test.YtmhhbnnjilbdnaaGreatDoorSC
import Derived.Test.YtmhhbnnjilbdnaaGreatDoorKH
import Derived.Test.YtmhhbnnjilbdnaaGreatDoorKI
import Derived.Test.YtmhhbnnjilbdnaaGreatDoorKO
import Derived.Test.YtmhhbnnjilbdnaaGreatDoorKJ
import Derived.Test.YtmhhbnnjilbdnaaGreatDoorKL
import Derived.Test.YtmhhbnnjilbdnaaGreatDoorRows
import Derived.WalkKit
import Derived.WalkSpells
import Derived.WalkLawsBesides
import Derived.Lib.ConvBytes
import Derived.Lib.Hide
import Derived.Lib.SliceRun
import Derived.IntWalk
import Derived.BigQuiet
import Derived.Deep.QuietTactic
import Derived.Deep.RegionWith
import Derived.Deep.RegionHeld3
import Derived.Deep.LoopGhost
import Derived.Deep.CutRange
import Derived.Deep.CutBlock
import Derived.Deep.MidRow
import Derived.Laws.OwnMore
import Derived.OwnWalk
import Derived.Laws.AppendOwnNone
import Derived.Laws.Rows
import Derived.Laws.MakeOwn
import Derived.Laws.CopyOwn
import Derived.Laws.BitsAllLaws
import Derived.DeepKeys5
import Derived.Maps.OwnOps
import Derived.Handy
import Derived.Lib.AppendStr
import Derived.StillTailTactics
import Derived.Deep.AppendLies
import Derived.ProofKit
import Derived.OpenShut
import Derived.SliceStrings
import Derived.Lib.SmallJoins
import Derived.Deep.SlicePairs
import Derived.ChangeSlices
import Derived.WideKeyEntry
import Derived.Tactics2
import Derived.Defers
import Derived.Recover
import Derived.Shelf.Strconv.Itoa0
import Derived.Shelf.Strconv.Itoa1
import Derived.Shelf.LaysM
import Derived.Shelf.Strconv.Itoa2
import Derived.Shelf.Strconv.Itoa3
import Derived.Maps.AppendAt
import Derived.Lib.Bytealg
import Derived.Deep.RegionLaw
import Derived.Shelf.Strings.Builder1
import Derived.Shelf.Strings.Builder2
import Derived.Shelf.Strings.Count
import Derived.Shelf.Strings.Split
import Derived.Shelf.Strings.Replace
import Derived.StillTail
import Derived.Lib.QuietBelow
namespace Go.Proofs.YtmhhbnnjilbdnaaGreatDoor.Sh
open Go.RowKit En Go.ChangeMaps
set_option linter.unusedSimpArgs false
set_option linter.unusedVariables false
set_option maxRecDepth 20000

set_option maxHeartbeats 16000000 in
theorem pnrS_any (p : PnrT) (vn vs vp vr vx : Value) (w : World) (hP : PIn w p vn vs vp vr vx) (hf : FitB p) (ht : Da.LenTab w) (hp : PowTab w) :
    Calls Tryz.prog 8 #[.agg (pnrC p vn vs vp vr vx).toArray] w fun e w' => LinesE w.heap.size (showP p) e w' ∧ Below w.heap.size w w' := by
  have hbk := Blk.new w 29 (pnrC p vn vs vp vr vx)
  have hb1 : Below w.heap.size w (w.alloc (.cells (pnrC p vn vs vp vr vx).toArray 29)) := (Below.refl _ _).alloc (Nat.le_refl _) _
  obtain ⟨pn, cn, rfl⟩ := hP.n.len
  obtain ⟨ps, cs, rfl⟩ := hP.s.len
  obtain ⟨pp, cp, rfl⟩ := hasL_len2 hP.ph
  obtain ⟨pr, cr, rfl⟩ := hasL_len2 hP.rm
  obtain ⟨px, cx, rfl⟩ := hP.x.len
  have HTK : RowKit.Hid (∀ W, Below w.heap.size w W → Calls Tryz.prog 31 #[.agg (pnrC p (.slice pn p.names.length cn) (.slice ps p.segs.length cs) (.slice pp p.phones.length cp) (.slice pr p.remarks.length cr) (.slice px p.seats.length cx)).toArray] W fun e w' => (∃ s : ByteArray, e = .returned (.string s) ∧ toL s = tickLn p) ∧ Below W.heap.size W w') := Lib.hid fun W hW => ticket_any p _ _ _ _ _ W (ht.keep hW)
  unfold pnrC at hbk hb1 HTK ⊢
  simp only [List.toArray] at hbk hb1 HTK ⊢
  generalize hw1 : w.alloc (.cells #[.string p.loc, .string p.off, .slice pn p.names.length cn, .slice ps p.segs.length cs, .slice pp p.phones.length cp, .int .i64 p.tk, .int .i64 p.td, .int .i64 p.tm, .string p.recv, .slice pr p.remarks.length cr, .slice px p.seats.length cx, .bool p.queued] 29) = w1 at hbk hb1
  have hlp : w.heap.size < w1.heap.size := hbk.lt
  have HP := Lib.hid hP
  have HF := Lib.hid hf
  have HLT := Lib.hid ht
  have HPT := Lib.hid hp
  have HB := Lib.hid hb1
  have HK := Lib.hid hbk
  have HFEW : RowKit.Hid (p.names.length ≤ 1000 ∧ p.segs.length ≤ 1000 ∧ p.phones.length ≤ 1000 ∧ p.remarks.length ≤ 1000 ∧ p.seats.length ≤ 1000) := Lib.hid hP.few
  have HCS : RowKit.Hid (∀ W, Below w1.heap.size w1 W → W.cell? ⟨w.heap.size, 2, none⟩ = some (.slice pn p.names.length cn) ∧ W.cell? ⟨w.heap.size, 3, none⟩ = some (.slice ps p.segs.length cs) ∧ W.cell? ⟨w.heap.size, 4, none⟩ = some (.slice pp p.phones.length cp) ∧ W.cell? ⟨w.heap.size, 8, none⟩ = some (.string p.recv) ∧ W.cell? ⟨w.heap.size, 9, none⟩ = some (.slice pr p.remarks.length cr) ∧ W.cell? ⟨w.heap.size, 10, none⟩ = some (.slice px p.seats.length cx)) := Lib.hid fun W h => ⟨((hbk.mono h).cell 2).trans rfl, ((hbk.mono h).cell 3).trans rfl, ((hbk.mono h).cell 4).trans rfl, ((hbk.mono h).cell 8).trans rfl, ((hbk.mono h).cell 9).trans rfl, ((hbk.mono h).cell 10).trans rfl⟩
  have HLD : RowKit.Hid (∀ W, Below w1.heap.size w1 W → (loadVar 29 ⟨w.heap.size, 0, none⟩).run Tryz.prog W = .ok (.agg #[.string p.loc, .string p.off, .slice pn p.names.length cn, .slice ps p.segs.length cs, .slice pp p.phones.length cp, .int .i64 p.tk, .int .i64 p.td, .int .i64 p.tm, .string p.recv, .slice pr p.remarks.length cr, .slice px p.seats.length cx, .bool p.queued]) W) := Lib.hid fun W h => pnr_load (hbk.mono h) rfl
  have HADD : RowKit.Hid (∀ (a b : ByteArray) (i g : Nat) (T : List (List UInt8)) (W : World), a.size ≤ 1000 → b.size ≤ 1152921504606840000 → i ≤ 100000 → Stg w1 W g T → T.length ≤ 90000 → Calls Tryz.prog 27 #[.string a, .int .i64 (i : Int), .string b, .pointer (some ⟨g, 0, none⟩)] W fun e w' => e = .returned (.tuple #[]) ∧ Stg w1 w' g (T ++ [toL a ++ (itoaL ((i : Int) + 1) ++ toL b)]) ∧ ∀ k tt cs, Blk W k tt cs → tt ≠ 9 → tt ≠ 24 → Blk w' k tt cs) := Lib.hid fun a b i g T W ha hb hi h hT => add_stg w1 a b i g T W ha hb hi h hT (powTab_keep hp (bel_trans hb1 h.bel))
  have c0 : w1.cell? ⟨w.heap.size, 0, none⟩ = some (.string p.loc) := (hbk.cell 0).trans rfl
  have c1 : w1.cell? ⟨w.heap.size, 1, none⟩ = some (.string p.off) := (hbk.cell 1).trans rfl
  have HE : RowKit.Hid (∀ s o W, s.size ≤ 1125899906842624 → o.size ≤ 3 → Calls Tryz.prog 26 #[.string s, .string o] W fun e w' => (∃ t : ByteArray, e = .returned (.string t) ∧ toL t = orL s (toL o) ∧ t.size ≤ 1125899906842624) ∧ W = w') := Lib.hid fun s o W hs ho => (either_any s o W).mono fun e w' ⟨⟨t, h1, h2⟩, h3⟩ => ⟨⟨t, h1, h2, by
    rw [txt_size h2]
    unfold orL
    split
    · show o.size ≤ _; omega
    · exact hs⟩, h3⟩
  have HEL : RowKit.Hid (∀ W, Calls Tryz.prog 26 #[.string p.loc, .string ⟨#[78, 69, 87]⟩] W fun e w' => (∃ t : ByteArray, e = .returned (.string t) ∧ toL t = orL p.loc [78, 69, 87] ∧ t.size ≤ 1125899906842624) ∧ W = w') := Lib.hid fun W => HE.out p.loc ⟨#[78, 69, 87]⟩ W hf.loc (by decide)
  have HEO : RowKit.Hid (∀ W, Calls Tryz.prog 26 #[.string p.off, .string ⟨#[45]⟩] W fun e w' => (∃ t : ByteArray, e = .returned (.string t) ∧ toL t = orL p.off [45] ∧ t.size ≤ 1125899906842624) ∧ W = w') := Lib.hid fun W => HE.out p.off ⟨#[45]⟩ W hf.off (by decide)
  clear hbk hb1 HE hP hf ht hp
  generalize hNN : p.names.length = NN at *
  generalize hNS : p.segs.length = NS at *
  generalize hNP : p.phones.length = NP at *
  generalize hNR : p.remarks.length = NR at *
  generalize hNX : p.seats.length = NX at *
  have HNN := Lib.hid hNN
  have HNS := Lib.hid hNS
  have HNP := Lib.hid hNP
  have HNR := Lib.hid hNR
  have HNX := Lib.hid hNX
  clear hNN hNS hNP hNR hNX
  go_enter Tryz.func8, Tryz.ntmps8
  go_upto_region 1 with fail
  try rw [hw1]
  clear hw1
  go_cut [3] from 16 to 26 (fun s3 wx => FirstP w1 ([80, 78, 82, 32] ++ (orL p.loc [78, 69, 87] ++ (32 :: orL p.off [45]))) s3 wx)
  case first =>
    have c0a : (w1.alloc (.cells #[.slice none 0 0] 24)).cell? ⟨w.heap.size, 0, none⟩ = some (.string p.loc) := cell_bel ((Below.refl _ _).alloc (Nat.le_refl _) _) c0
    have c1a : (w1.alloc (.cells #[.slice none 0 0] 24)).cell? ⟨w.heap.size, 1, none⟩ = some (.string p.off) := cell_bel ((Below.refl _ _).alloc (Nat.le_refl _) _) c1
    go_region_law (first
      | (go_simp; go_at_call 26; refine (HEL.out _).mono ?_; rintro e w5 ⟨⟨tl, rfl, hl1, hl2⟩, rfl⟩; have q1 := sum_ok (a := 4) (b := tl.size) (by omega); have q2 := sum_ok (a := 4 + tl.size) (b := 1) (by omega))
      | (go_simp; go_at_call 26; refine (HEO.out _).mono ?_; rintro e w6 ⟨⟨tq, rfl, ho1, ho2⟩, rfl⟩; have q3 := sum_ok (a := 4 + tl.size + 1) (b := tq.size) (by omega)))
    all_goals (
      have hS : toL ((⟨#[80, 78, 82, 32]⟩ : ByteArray) ++ tl ++ ⟨#[32]⟩ ++ tq) = [80, 78, 82, 32] ++ (orL p.loc [78, 69, 87] ++ (32 :: orL p.off [45])) := by simp [toL_app, toL_lit, hl1, ho1]
      have HS := Lib.hid hS
      clear hS
      go_wp2
      go_meet
      first | exact firstA HS.out | exact firstB HS.out)
  case rest =>
    obtain ⟨g, S, rfl, hS, hO⟩ := hcut
    rename World => wb
    have HS0 : RowKit.Hid (Stg w1 wb g [headLn p]) := Lib.hid ⟨_, hO, by rw [List.map_singleton, hS]; rfl⟩
    clear hS hO c0 c1 HEL HEO
    obtain ⟨c2, _, _, _, _, _⟩ := HCS.out _ HS0.out.bel
    go_upto_block 0 with fail
    go_cut [] from 30 to 46 (fun wx => Stg w1 wx g ([headLn p] ++ p.names.mapIdx nameLn))
    case first =>
      go_wp2
      go_loopg [30] NN (fun g0 s30 wr => ∃ i : Nat, i ≤ NN ∧ g0 = NN - i ∧ s30 = .int .i64 (i : Int) ∧ Stg w1 wr g ([headLn p] ++ (p.names.take i).mapIdx nameLn))
      case atStart => exact ⟨0, Nat.zero_le _, rfl, rfl, by simpa using HS0.out⟩
      case round =>
        obtain ⟨i, hiN, rfl, rfl, hst⟩ := hrel
        have HST := Lib.hid hst
        clear hst c2
        by_cases hlt : i < NN
        · have hii : (i : Int) < (NN : Int) := by omega
          have hi0 : (0 : Int) ≤ (i : Int) := by omega
          have hiN2 : i < p.names.length := by rw [HNN.out]; exact hlt
          have hi3 : i ≤ 100000 := by have := HFEW.out.1; omega
          have HNL : RowKit.Hid (∀ W, Below w1.heap.size w1 W → HasE nameC W (.slice pn NN cn) p.names) := Lib.hid fun W hW => HP.out.n.mono (bel_trans HB.out hW)
          obtain ⟨bb, of2, rfl, hr, _, _⟩ := name_at (HNL.out _ HST.out.bel) hiN2
          have hone := HF.out.names _ (List.mem_of_getElem? (getD_at nm0 hiN2))
          have HX : RowKit.Hid ([headLn p] ++ (p.names.take (i + 1)).mapIdx nameLn = [headLn p] ++ (p.names.take i).mapIdx nameLn ++ [nameLn i (p.names.getD i nm0)]) := Lib.hid (by rw [take_mapIdx_snoc nameLn nm0 hiN2, List.append_assoc])
          have HLEN : RowKit.Hid (([headLn p] ++ (p.names.take i).mapIdx nameLn).length ≤ 90000) := Lib.hid (by
            have := HFEW.out
            simp only [List.length_append, List.length_mapIdx, List.length_take, List.length_singleton]
            omega)
          generalize p.names.getD i nm0 = x at *
          generalize [headLn p] ++ (p.names.take i).mapIdx nameLn = TT at *
          obtain ⟨la, fi⟩ := x
          unfold nameC at hr
          simp only at hr hone HX
          go_upto_region 6 with (first
            | (refine wpList_load_mid rfl 38 _ rfl bb (of2 + i * 2) rfl [.string la, .string fi] _ hr Tryz.underlying38 rfl info_name2 ?_)
            | (refine wpList_store_blk rfl 38 (.tmp 6) (.tmp 34) rfl wr.heap.size 38 (nameC nm0) [.string la, .string fi] rfl rfl (Blk.new wr 38 (nameC nm0)) rfl info_name2 (nameC_one2 ⟨la, fi⟩) ?_; intro w8 ha8 hb8 hgr8))
          dsimp only [Act.put]
          have h18 : Below wr.heap.size wr w8 := ((Below.refl _ _).alloc (Nat.le_refl _) _).trans hb8
          have HW8 := Lib.hid (HST.out.mono h18)
          have t0 : w8.cell? ⟨wr.heap.size, 0, none⟩ = some (.string la) := (ha8.cell 0).trans rfl
          have t1 : w8.cell? ⟨wr.heap.size, 1, none⟩ = some (.string fi) := (ha8.cell 1).trans rfl
          have q1 := sum_ok (a := 1) (b := la.size) (by omega)
          have q2 := sum_ok (a := 1 + la.size) (b := 1) (by omega)
          have q3 := sum_ok (a := 1 + la.size + 1) (b := fi.size) (by omega)
          have HLN : RowKit.Hid (nameLn i ⟨la, fi⟩ = toL (⟨#[]⟩ : ByteArray) ++ (itoaL ((i : Int) + 1) ++ toL ((⟨#[46]⟩ : ByteArray) ++ la ++ ⟨#[47]⟩ ++ fi))) := Lib.hid (by
            unfold nameLn
            simp [toL_app, toL_lit])
          have hsz : ((⟨#[46]⟩ : ByteArray) ++ la ++ ⟨#[47]⟩ ++ fi).size ≤ 1152921504606840000 := by
            simp only [ByteArray.size_append]
            show 1 + la.size + 1 + fi.size ≤ _
            omega
          have HSZ := Lib.hid hsz
          clear hsz hr ha8 hb8 hgr8 h18 hone
          have HA := Lib.hid (HADD.out ⟨#[]⟩ _ i g TT w8 (by decide) HSZ.out hi3 HW8.out HLEN.out)
          clear HADD HNL HSZ
          go_wp2_with (first
            | (go_at_call 27; (with_reducible refine HA.out.mono ?_); rintro e w9 ⟨rfl, hw9, _⟩))
          go_roundg (NN - (i + 1))
          case measure => omega
          case rel => exact ⟨i + 1, by omega, rfl, by go_num, by rw [HX.out, HLN.out]; exact hw9⟩
        · have hie : i = NN := by omega
          subst hie
          have hii : ¬ (i : Int) < (i : Int) := by omega
          have htk : p.names.take i = p.names := List.take_of_length_le (by rw [HNN.out]; exact Nat.le_refl _)
          rw [htk] at HST
          clear htk
          go_wp2
          go_meet
          exact HST.out
    case rest =>
      rename World => wc
      have HS1 := Lib.hid hcut
      clear hcut c2 HS0
      obtain ⟨_, c3, _, _, _, _⟩ := HCS.out _ HS1.out.bel
      go_upto_block 2 with fail
      go_cut [] from 49 to 79 (fun wx => Stg w1 wx g ([headLn p] ++ p.names.mapIdx nameLn ++ p.segs.mapIdx segLn))
      case first =>
        go_wp2
        have HTA : RowKit.Hid (([headLn p] ++ p.names.mapIdx nameLn).length ≤ 2000) := Lib.hid (by
          have := HFEW.out.1
          have := HNN.out
          simp only [List.length_append, List.length_mapIdx, List.length_singleton]
          omega)
        generalize [headLn p] ++ p.names.mapIdx nameLn = TA at *
        go_loopg [49] NS (fun g0 s49 wr => ∃ i : Nat, i ≤ NS ∧ g0 = NS - i ∧ s49 = .int .i64 (i : Int) ∧ Stg w1 wr g (TA ++ (p.segs.take i).mapIdx segLn))
        case atStart => exact ⟨0, Nat.zero_le _, rfl, rfl, by simpa using HS1.out⟩
        case round =>
          obtain ⟨i, hiN, rfl, rfl, hst⟩ := hrel
          have HST := Lib.hid hst
          clear hst c3
          by_cases hlt : i < NS
          · have hii : (i : Int) < (NS : Int) := by omega
            have hi0 : (0 : Int) ≤ (i : Int) := by omega
            have hiN2 : i < p.segs.length := by rw [HNS.out]; exact hlt
            have hi3 : i ≤ 100000 := by have := HFEW.out.2.1; omega
            have HNL : RowKit.Hid (∀ W, Below w1.heap.size w1 W → HasE segC W (.slice ps NS cs) p.segs) := Lib.hid fun W hW => HP.out.s.mono (bel_trans HB.out hW)
            obtain ⟨bb, of2, rfl, hr, _⟩ := seg_at (HNL.out _ HST.out.bel) hiN2
            have HONE := Lib.hid (HF.out.segs _ (List.mem_of_getElem? (getD_at sg0 hiN2)))
            have HX : RowKit.Hid (TA ++ (p.segs.take (i + 1)).mapIdx segLn = TA ++ (p.segs.take i).mapIdx segLn ++ [segLn i (p.segs.getD i sg0)]) := Lib.hid (by rw [take_mapIdx_snoc segLn sg0 hiN2, List.append_assoc])
            have HLEN : RowKit.Hid ((TA ++ (p.segs.take i).mapIdx segLn).length ≤ 90000) := Lib.hid (by
              have := HFEW.out
              have := HTA.out
              simp only [List.length_append, List.length_mapIdx, List.length_take, List.length_singleton]
              omega)
            generalize p.segs.getD i sg0 = x at *
            generalize TA ++ (p.segs.take i).mapIdx segLn = TT at *
            obtain ⟨car, num, day, cls, live⟩ := x
            unfold segC at hr
            simp only at hr HONE HX
            go_upto_region 11 with (first
              | (refine wpList_load_mid rfl 44 _ rfl bb (of2 + i * 5) rfl [.string car, .int .i64 num, .int .i64 day, .int .u8 cls.toNat, .bool live] _ hr Tryz.underlying44 rfl info_seg2 ?_)
              | (refine wpList_store_blk rfl 44 (.tmp 8) (.tmp 53) rfl wr.heap.size 44 (segC sg0) [.string car, .int .i64 num, .int .i64 day, .int .u8 cls.toNat, .bool live] rfl rfl (Blk.new wr 44 (segC sg0)) rfl info_seg2 (segC_one2 ⟨car, num, day, cls, live⟩) ?_; intro w8 ha8 hb8 hgr8))
            dsimp only [Act.put]
            have h18 : Below wr.heap.size wr w8 := ((Below.refl _ _).alloc (Nat.le_refl _) _).trans hb8
            have HW8 := Lib.hid (HST.out.mono h18)
            have HA8 := Lib.hid ha8
            have c8 : w8.cell? ⟨wr.heap.size, 4, none⟩ = some (.bool live) := (ha8.cell 4).trans rfl
            have hgl := ha8.lt
            generalize wr.heap.size = g8 at *
            have HCX : RowKit.Hid (∀ W, Below w8.heap.size w8 W → W.cell? ⟨g8, 0, none⟩ = some (.string car) ∧ W.cell? ⟨g8, 1, none⟩ = some (.int .i64 num) ∧ W.cell? ⟨g8, 2, none⟩ = some (.int .i64 day) ∧ W.cell? ⟨g8, 3, none⟩ = some (.int .u8 cls.toNat)) := Lib.hid fun W h => ⟨((HA8.out.mono h).cell 0).trans rfl, ((HA8.out.mono h).cell 1).trans rfl, ((HA8.out.mono h).cell 2).trans rfl, ((HA8.out.mono h).cell 3).trans rfl⟩
            have HBW : RowKit.Hid (∀ W, Below w8.heap.size w8 W → Below w.heap.size w W) := Lib.hid fun W h => bel_trans HB.out (bel_trans HW8.out.bel h)
            have HFX : RowKit.Hid (∀ W, Below w8.heap.size w8 W → Calls Tryz.prog 29 #[.agg #[.string car, .int .i64 num]] W fun e w' => (∃ s : ByteArray, e = .returned (.string s) ∧ toL s = flTx car num ∧ s.size ≤ 1125899906842700) ∧ Below W.heap.size W w') := Lib.hid fun W hW => (flText_any car num W HONE.out.1 HONE.out.2 (powTab_keep HPT.out (HBW.out W hW))).mono fun e w' ⟨⟨s, a, b⟩, hb⟩ => ⟨⟨s, a, b, by
              refine txt_le b ?_
              have hcz := HONE.out.1
              have hil := itoaL_len num HONE.out.2
              have hcl : (toL car).length = car.size := rfl
              unfold flTx
              split
              · omega
              · rw [List.length_append]; omega⟩, hb⟩
            have HDX : RowKit.Hid (∀ W, Below w8.heap.size w8 W → Calls Tryz.prog 30 #[.int .i64 day] W fun e w' => (∃ s : ByteArray, e = .returned (.string s) ∧ toL s = dTx day ∧ s.size ≤ 5) ∧ Below W.heap.size W w') := Lib.hid fun W hW => (day_any day W (HLT.out.keep (HBW.out W hW))).mono fun e w' ⟨⟨s, a, b⟩, hb⟩ => ⟨⟨s, a, b, txt_le b (dTx_len day)⟩, hb⟩
            obtain ⟨sl, hsl, hz1, hl1⟩ : ∃ sl : ByteArray, sl = ⟨#[cls]⟩ ∧ sl.size = 1 ∧ toL sl = [cls] := ⟨_, rfl, rfl, rfl⟩
            have HSL := Lib.hid hsl
            have HZ1 := Lib.hid hz1
            have HL1 := Lib.hid hl1
            obtain ⟨st, hst, hz3⟩ : ∃ st : ByteArray, st = (if live = true then ⟨#[32, 72, 75]⟩ else ⟨#[32, 88, 88]⟩) ∧ st.size = 3 := ⟨_, rfl, by cases live <;> rfl⟩
            have HSTT : RowKit.Hid (toL st = if live = true then [32, 72, 75] else [32, 88, 88]) := Lib.hid (by rw [hst]; cases live <;> rfl)
            have HZ3 := Lib.hid hz3
            clear hr ha8 hb8 hgr8 h18 hsl hz1 hl1 hz3
            go_upto_if 55 with fail
            go_cut [9] from 54 to 56 (fun s9 wx => s9 = .string st ∧ w8 = wx)
            case first =>
              cases live
              · have HE : RowKit.Hid ((⟨#[32, 88, 88]⟩ : ByteArray) = st) := Lib.hid (by rw [hst]; rfl)
                clear hst
                go_wp2
                go_meet
                exact ⟨by rw [HE.out], rfl⟩
              · have HE : RowKit.Hid ((⟨#[32, 72, 75]⟩ : ByteArray) = st) := Lib.hid (by rw [hst]; rfl)
                clear hst
                go_wp2
                go_meet
                exact ⟨by rw [HE.out], rfl⟩
            case rest =>
              obtain ⟨hc9, hcw⟩ := hcut
              subst hc9
              subst hcw
              clear hst c8
              go_upto_region 14 with fail
              have HLC : RowKit.Hid (∀ (W : World) (gg : Nat), W.cell? ⟨gg, 0, none⟩ = some (.int .u8 cls.toNat) → (convert 69 9 (.slice (some ⟨gg, 0, none⟩) 1 1)).run Tryz.prog W = .ok (.string sl) W) := Lib.hid fun W gg h0 => by rw [HSL.out]; exact one_at2 W gg cls h0
              have HNC : RowKit.Hid (∀ W : World, (W.alloc (.cells #[.int .u8 cls.toNat] 5)).cell? ⟨W.heap.size, 0, none⟩ = some (.int .u8 cls.toNat)) := Lib.hid fun W => new1 W _ _
              have HSB : RowKit.Hid (∀ tf td : ByteArray, tf.size ≤ 1125899906842700 → td.size ≤ 5 → ((⟨#[32]⟩ : ByteArray) ++ tf ++ ⟨#[32]⟩ ++ sl ++ ⟨#[32]⟩ ++ td ++ st).size ≤ 1152921504606840000) := Lib.hid fun tf td h1 h2 => by
                simp only [ByteArray.size_append]
                have := HZ1.out
                have := HZ3.out
                show 1 + tf.size + 1 + sl.size + 1 + td.size + st.size ≤ 1152921504606840000
                omega
              have HADD2 : RowKit.Hid (∀ (b : ByteArray) (W : World), b.size ≤ 1152921504606840000 → Below w8.heap.size w8 W → Calls Tryz.prog 27 #[.string ⟨#[83]⟩, .int .i64 (i : Int), .string b, .pointer (some ⟨g, 0, none⟩)] W fun e w' => e = .returned (.tuple #[]) ∧ Stg w1 w' g (TT ++ [toL (⟨#[83]⟩ : ByteArray) ++ (itoaL ((i : Int) + 1) ++ toL b)])) := Lib.hid fun b W hb hW => (HADD.out ⟨#[83]⟩ b i g TT W (by decide) hb hi3 (HW8.out.mono hW) HLEN.out).mono fun e w' ⟨h1, h2, h3⟩ => ⟨h1, h2⟩
              obtain ⟨z0, z1, z2, z3⟩ := HCX.out _ (Below.refl _ _)
              obtain ⟨tf, htf⟩ : ∃ s : ByteArray, toL s = flTx car num := ⟨⟨(flTx car num).toArray⟩, toL_mk _⟩
              obtain ⟨td, htd⟩ : ∃ s : ByteArray, toL s = dTx day := ⟨⟨(dTx day).toArray⟩, toL_mk _⟩
              have hzf : tf.size ≤ 1125899906842700 := by
                refine txt_le htf ?_
                have hcz := HONE.out.1
                have hil := itoaL_len num HONE.out.2
                have hcl : (toL car).length = car.size := rfl
                unfold flTx
                split
                · omega
                · rw [List.length_append]; omega
              have hzd : td.size ≤ 5 := txt_le htd (dTx_len day)
              have k0 := cell_regrown z0
              have k1 := cell_regrown z1
              have k2 := cell_regrown z2
              have k3 := cell_regrown z3
              have cF : ∀ d os, Calls Tryz.prog 29 #[.agg #[.string car, .int .i64 num]] (Go.Sort.grow (redrawn w8 d) os) fun e w'' => e = .returned (.string tf) ∧ Below (Go.Sort.grow (redrawn w8 d) os).heap.size (Go.Sort.grow (redrawn w8 d) os) w'' := fun d os => ((HFX.out _ (below_regrown w8 d os)).mono fun e w' ⟨⟨s, h1, h2, _⟩, h3⟩ => ⟨by rw [h1, show s = tf from toL_inj (h2.trans htf.symm)], h3⟩)
              have cD : ∀ d os, Calls Tryz.prog 30 #[.int .i64 day] (Go.Sort.grow (redrawn w8 d) os) fun e w'' => e = .returned (.string td) ∧ Below (Go.Sort.grow (redrawn w8 d) os).heap.size (Go.Sort.grow (redrawn w8 d) os) w'' := fun d os => ((HDX.out _ (below_regrown w8 d os)).mono fun e w' ⟨⟨s, h1, h2, _⟩, h3⟩ => ⟨by rw [h1, show s = td from toL_inj (h2.trans htd.symm)], h3⟩)
              have hz1' := HZ1.out
              have hz3' := HZ3.out
              have q1 := sum_ok (a := 1) (b := tf.size) (by omega)
              have q2 := sum_ok (a := 1 + tf.size) (b := 1) (by omega)
              have q3 := sum_ok (a := 1 + tf.size + 1) (b := sl.size) (by omega)
              have q4 := sum_ok (a := 1 + tf.size + 1 + sl.size) (b := 1) (by omega)
              have q5 := sum_ok (a := 1 + tf.size + 1 + sl.size + 1) (b := td.size) (by omega)
              have q6 := sum_ok (a := 1 + tf.size + 1 + sl.size + 1 + td.size) (b := st.size) (by omega)
              have HLN : RowKit.Hid (TT ++ [toL (⟨#[83]⟩ : ByteArray) ++ (itoaL ((i : Int) + 1) ++ toL ((⟨#[32]⟩ : ByteArray) ++ tf ++ ⟨#[32]⟩ ++ sl ++ ⟨#[32]⟩ ++ td ++ st))] = TA ++ (p.segs.take (i + 1)).mapIdx segLn) := Lib.hid (by
                rw [HX.out]
                congr 2
                unfold segLn
                simp [toL_app, toL_lit, htf, htd, HL1.out, HSTT.out])
              have hzall := HSB.out tf td hzf hzd
              clear hz1' hz3' htf htd
              refine wp_region_cone 21 [(0, false), (1, false), (2, false), (3, false), (4, false), (5, false), (6, false), (7, false), (8, false), (9, false), (14, false), (15, false), (16, false), (17, false), (19, false), (10, true), (11, false), (12, false), (13, false), (18, false), (20, false)] (by kernel_rfl) (by kernel_rfl) ?_
              simp only [ordO, List.map_cons, List.map_nil, List.getD_cons_zero, List.getD_cons_succ, List.drop_succ_cons, List.drop_zero]
              repeat (
                refine ord_quiet (fun K hK => ?_)
                go_simp
                first
                  | (refine hK _ ?_; clear hK K)
                  | (refine ⟨_, fun _ => up_val, hK _ ?_⟩; clear hK K)
                  | (apply Exists.intro; refine ⟨fun _ => ?_, hK _ ?_⟩; (first | exact up_call (cF _ _) | exact up_call (cD _ _)); clear hK K))
              refine ord_slice (e := 5) (u := .int .u8 cls.toNat) (by rfl) (by rfl) (by rfl) ?_ ?_
              · intro w
                go_simp
              intro wb hwb
              have hcv : ∀ d os, (convert 69 9 (.slice (some ⟨wb.heap.size, 0, none⟩) 1 1)).run Tryz.prog (Go.Sort.grow (redrawn (wb.alloc (.cells #[.int .u8 cls.toNat] 5)) d) os) = .ok (.string sl) (Go.Sort.grow (redrawn (wb.alloc (.cells #[.int .u8 cls.toNat] 5)) d) os) := fun d os => HLC.out _ _ (cell_regrown (HNC.out wb) d os)
              have hbb : Below w8.heap.size w8 (wb.alloc (.cells #[.int .u8 cls.toNat] 5)) := hwb.bel.alloc hwb.bel.size _
              generalize hwn : (wb.alloc (.cells #[.int .u8 cls.toNat] 5)) = wn at *
              clear hwn hwb k0 k1 k2 k3
              generalize wb.heap.size = gb at *
              repeat (
                refine ord_quiet (fun K hK => ?_)
                go_simp
                first
                  | (refine hK _ ?_; clear hK K)
                  | (refine ⟨_, fun _ => up_val, hK _ ?_⟩; clear hK K))
              unfold wpOrd
              intro wq hwq
              have hbq : Below w8.heap.size w8 wq := bel_trans hbb hwq.bel
              clear hcv hwq hbb cF cD q1 q2 q3 q4 q5 q6
              go_wp2_with (first
                | (go_at_call 27; (with_reducible refine (HADD2.out _ _ hzall hbq).mono ?_); rintro e w9 ⟨rfl, hw9⟩))
              rw [HLN.out] at hw9
              go_roundg (NS - (i + 1))
              case measure => omega
              case rel => exact ⟨i + 1, by omega, rfl, by go_num, hw9⟩
          · have hie : i = NS := by omega
            subst hie
            have hii : ¬ (i : Int) < (i : Int) := by omega
            have htk : p.segs.take i = p.segs := List.take_of_length_le (by rw [HNS.out]; exact Nat.le_refl _)
            rw [htk] at HST
            clear htk
            go_wp2
            go_meet
            exact HST.out
      case rest =>
        rename World => wd
        have HS2 := Lib.hid hcut
        clear hcut c3 HS1
        obtain ⟨_, _, c4, _, _, _⟩ := HCS.out _ HS2.out.bel
        go_upto_block 4 with fail
        go_cut [] from 82 to 93 (fun wx => Stg w1 wx g ([headLn p] ++ p.names.mapIdx nameLn ++ p.segs.mapIdx segLn ++ p.phones.mapIdx (textLn 80)))
        case first =>
          go_wp2
          have HTA : RowKit.Hid (([headLn p] ++ p.names.mapIdx nameLn ++ p.segs.mapIdx segLn).length ≤ 9000) := Lib.hid (by
            have := HFEW.out
            have := HNN.out
            have := HNS.out
            have := HNP.out
            have := recv_len p.recv
            simp only [List.length_append, List.length_mapIdx, List.length_singleton]
            omega)
          generalize [headLn p] ++ p.names.mapIdx nameLn ++ p.segs.mapIdx segLn = TA at *
          go_loopg [82] NP (fun g0 s82 wr => ∃ i : Nat, i ≤ NP ∧ g0 = NP - i ∧ s82 = .int .i64 (i : Int) ∧ Stg w1 wr g (TA ++ (p.phones.take i).mapIdx (textLn 80)))
          case atStart => exact ⟨0, Nat.zero_le _, rfl, rfl, by simpa using HS2.out⟩
          case round =>
            obtain ⟨i, hiN, rfl, rfl, hst⟩ := hrel
            have HST := Lib.hid hst
            clear hst c4
            by_cases hlt : i < NP
            · have hii : (i : Int) < (NP : Int) := by omega
              have hi0 : (0 : Int) ≤ (i : Int) := by omega
              have hiN2 : i < p.phones.length := by rw [HNP.out]; exact hlt
              have hi3 : i ≤ 100000 := by have := HFEW.out; omega
              have HNL : RowKit.Hid (∀ W, Below w1.heap.size w1 W → HasL W (.slice pp NP cp) p.phones) := Lib.hid fun W hW => HP.out.ph.mono (bel_trans HB.out hW)
              obtain ⟨bb, of2, nn2, cc2, he2, t0⟩ := text_at2 (HNL.out _ HST.out.bel) hiN2
              injection he2 with e1 e2 e3
              subst e1
              subst e2
              subst e3
              have hone := HF.out.phones _ (List.mem_of_getElem? (getD_at ByteArray.empty hiN2))
              have HX : RowKit.Hid (TA ++ (p.phones.take (i + 1)).mapIdx (textLn 80) = TA ++ (p.phones.take i).mapIdx (textLn 80) ++ [textLn 80 i (p.phones.getD i ByteArray.empty)]) := Lib.hid (by rw [take_mapIdx_snoc (textLn 80) ByteArray.empty hiN2, List.append_assoc])
              have HLEN : RowKit.Hid ((TA ++ (p.phones.take i).mapIdx (textLn 80)).length ≤ 90000) := Lib.hid (by
                have := HFEW.out
                have := HTA.out
                simp only [List.length_append, List.length_mapIdx, List.length_take, List.length_singleton]
                omega)
              generalize p.phones.getD i ByteArray.empty = x at *
              generalize TA ++ (p.phones.take i).mapIdx (textLn 80) = TT at *
              have q1 := sum_ok (a := 1) (b := x.size) (by omega)
              have HLN : RowKit.Hid (textLn 80 i x = toL (⟨#[80]⟩ : ByteArray) ++ (itoaL ((i : Int) + 1) ++ toL ((⟨#[32]⟩ : ByteArray) ++ x))) := Lib.hid (by
                unfold textLn
                simp [toL_app, toL_lit])
              have HSZ : RowKit.Hid (((⟨#[32]⟩ : ByteArray) ++ x).size ≤ 1152921504606840000) := Lib.hid (by
                simp only [ByteArray.size_append]
                show 1 + x.size ≤ _
                omega)
              clear hone
              have HA := Lib.hid (HADD.out ⟨#[80]⟩ _ i g TT wr (by decide) HSZ.out hi3 HST.out HLEN.out)
              clear HADD HNL HSZ
              go_wp2_with (first
                | (go_at_call 27; (with_reducible refine HA.out.mono ?_); rintro e w9 ⟨rfl, hw9, _⟩))
              go_roundg (NP - (i + 1))
              case measure => omega
              case rel => exact ⟨i + 1, by omega, rfl, by go_num, by rw [HX.out, HLN.out]; exact hw9⟩
            · have hie : i = NP := by omega
              subst hie
              have hii : ¬ (i : Int) < (i : Int) := by omega
              have htk : p.phones.take i = p.phones := List.take_of_length_le (by rw [HNP.out]; exact Nat.le_refl _)
              rw [htk] at HST
              clear htk
              go_wp2
              go_meet
              exact HST.out
        case rest =>
          rename World => we
          have HS3 := Lib.hid hcut
          clear hcut c4 HS2
          go_upto_region 21 with fail
          go_cut [] from 93 to 98 (fun wx => Stg w1 wx g ([headLn p] ++ p.names.mapIdx nameLn ++ p.segs.mapIdx segLn ++ p.phones.mapIdx (textLn 80) ++ [tickLn p]))
          case first =>
            obtain ⟨L, p0, n0, c0, k1, k2, k3, k4, k5, hLm, hLl⟩ := HS3.out.out
            have HW : RowKit.Hid (∀ W, Below we.heap.size we W → W.cell? ⟨g, 0, none⟩ = some (.slice p0 n0 c0) ∧ OwnL W w1.heap.size (.slice p0 n0 c0) L ∧ w1.heap.size ≤ W.heap.size ∧ g < W.heap.size ∧ Blk W g 24 [.slice p0 n0 c0] ∧ Below w1.heap.size w1 W) := Lib.hid fun W hW => ⟨((k1.mono hW).cell 0).trans rfl, OwnL.mono k2 hW, (bel_trans k5 hW).size, (k1.mono hW).lt, k1.mono hW, bel_trans k5 hW⟩
            have HNG := Lib.hid k3
            have HLO := Lib.hid k4
            have HLM := Lib.hid hLm
            have hL9 : L.length ≤ 90000 := by
              rw [hLl]
              have := HFEW.out
              have := HNN.out
              have := HNS.out
              have := HNP.out
              have := HNR.out
              have := recv_len p.recv
              simp only [List.length_append, List.length_mapIdx, List.length_singleton]
              omega
            clear k1 k2 k3 k4 k5 hLm hLl
            have hd1 : Below we.heap.size we we.drew := (Below.refl _ _).drew
            obtain ⟨z0, _, _, _, _, _⟩ := HW.out _ hd1
            have hbq := HK.out.mono (HW.out _ hd1).2.2.2.2.2
            have d0 : we.drew.cell? ⟨w.heap.size, 0, none⟩ = some (.string p.loc) := (hbq.cell 0).trans rfl
            have d1 : we.drew.cell? ⟨w.heap.size, 1, none⟩ = some (.string p.off) := (hbq.cell 1).trans rfl
            have d2 : we.drew.cell? ⟨w.heap.size, 2, none⟩ = some (.slice pn NN cn) := (hbq.cell 2).trans rfl
            have d3 : we.drew.cell? ⟨w.heap.size, 3, none⟩ = some (.slice ps NS cs) := (hbq.cell 3).trans rfl
            have d4 : we.drew.cell? ⟨w.heap.size, 4, none⟩ = some (.slice pp NP cp) := (hbq.cell 4).trans rfl
            have d5 : we.drew.cell? ⟨w.heap.size, 5, none⟩ = some (.int .i64 p.tk) := (hbq.cell 5).trans rfl
            have d6 : we.drew.cell? ⟨w.heap.size, 6, none⟩ = some (.int .i64 p.td) := (hbq.cell 6).trans rfl
            have d7 : we.drew.cell? ⟨w.heap.size, 7, none⟩ = some (.int .i64 p.tm) := (hbq.cell 7).trans rfl
            have d8 : we.drew.cell? ⟨w.heap.size, 8, none⟩ = some (.string p.recv) := (hbq.cell 8).trans rfl
            have d9 : we.drew.cell? ⟨w.heap.size, 9, none⟩ = some (.slice pr NR cr) := (hbq.cell 9).trans rfl
            have d10 : we.drew.cell? ⟨w.heap.size, 10, none⟩ = some (.slice px NX cx) := (hbq.cell 10).trans rfl
            have d11 : we.drew.cell? ⟨w.heap.size, 11, none⟩ = some (.bool p.queued) := (hbq.cell 11).trans rfl
            clear hbq
            have HTC := Lib.hid (HTK.out we.drew (bel_trans HB.out (HW.out _ hd1).2.2.2.2.2))
            go_region_law (first
              | (go_simp; go_at_call 31; refine HTC.out.mono ?_; rintro e w5 ⟨⟨t, rfl, ht⟩, hb5⟩; have h5 := bel_trans hd1 hb5; obtain ⟨y0, yo, yl, yg, yk, yb⟩ := HW.out _ h5; have y0a : (w5.alloc (.cells #[.string t] 9)).cell? ⟨g, 0, none⟩ = some (.slice p0 n0 c0) := cell_bel ((Below.refl _ _).alloc (Nat.le_refl _) _) y0)
              | (refine step_push_at (by rfl) _ _ (by rfl) w1.heap.size _ L (by rfl) (World.ownsRow.alloc yo _) _ (by rfl) _ (heap_alloc_new _ _) (by omega) (by simp <;> omega) ?_; intro q4 n4 c4 w4 ho4 hg4 hne4; have hn4 := hne4 g (by simp; omega) HNG.out; have k4 := (yk.alloc (.cells #[.string t] 9)).far hg4 (fun e => HNG.out e.symm); have k4c := (k4.cell 0).trans rfl; have k4f := k4.frozen 0))
            all_goals (
              have hfin := OutS.push (yk.alloc (.cells #[.string t] 9)) (World.ownsRow.alloc yo _) HNG.out HLO.out (yb.alloc yb.size _) ho4 hg4 hn4
              have hstg : Stg w1 (w4.setCell ⟨g, 0, none⟩ (.slice q4 n4 c4)) g ([headLn p] ++ p.names.mapIdx nameLn ++ p.segs.mapIdx segLn ++ p.phones.mapIdx (textLn 80) ++ [tickLn p]) := ⟨_, hfin, by rw [List.map_append, HLM.out, List.map_singleton, ht]⟩
              have HSG := Lib.hid hstg
              clear hstg hfin
              go_wp2
              go_meet
              exact HSG.out)
          case rest =>
            rename World => wf
            have HS4 := Lib.hid hcut
            clear hcut HS3 HTK
            obtain ⟨_, _, _, c8, _, _⟩ := HCS.out _ HS4.out.bel
            go_upto_if 100 with fail
            go_cut [] from 98 to 107 (fun wx => Stg w1 wx g ([headLn p] ++ p.names.mapIdx nameLn ++ p.segs.mapIdx segLn ++ p.phones.mapIdx (textLn 80) ++ [tickLn p] ++ recvLn p.recv))
            case first =>
              have hrz := HF.out.recv
              cases hs : p.recv.toList.isEmpty with
              | true =>
                have h0 : toL p.recv = [] := by rw [List.isEmpty_iff, ByteArray.toList_eq] at hs; exact hs
                have HE : RowKit.Hid ([headLn p] ++ p.names.mapIdx nameLn ++ p.segs.mapIdx segLn ++ p.phones.mapIdx (textLn 80) ++ [tickLn p] ++ recvLn p.recv = [headLn p] ++ p.names.mapIdx nameLn ++ p.segs.mapIdx segLn ++ p.phones.mapIdx (textLn 80) ++ [tickLn p]) := Lib.hid (by unfold recvLn; rw [if_pos h0]; simp)
                clear h0
                go_wp2
                go_meet
                rw [HE.out]
                exact HS4.out
              | false =>
                have h0 : toL p.recv ≠ [] := fun h => by rw [show p.recv.toList = [] by rw [ByteArray.toList_eq]; exact h] at hs; cases hs
                have HE : RowKit.Hid ([headLn p] ++ p.names.mapIdx nameLn ++ p.segs.mapIdx segLn ++ p.phones.mapIdx (textLn 80) ++ [tickLn p] ++ recvLn p.recv = [headLn p] ++ p.names.mapIdx nameLn ++ p.segs.mapIdx segLn ++ p.phones.mapIdx (textLn 80) ++ [tickLn p] ++ [82 :: 32 :: toL p.recv]) := Lib.hid (by unfold recvLn; rw [if_neg h0])
                clear h0
                obtain ⟨L, p0, n0, c0, k1, k2, k3, k4, k5, hLm, hLl⟩ := HS4.out.out
                have HW : RowKit.Hid (∀ W, Below wf.heap.size wf W → W.cell? ⟨g, 0, none⟩ = some (.slice p0 n0 c0) ∧ OwnL W w1.heap.size (.slice p0 n0 c0) L ∧ w1.heap.size ≤ W.heap.size ∧ g < W.heap.size ∧ Blk W g 24 [.slice p0 n0 c0] ∧ Below w1.heap.size w1 W) := Lib.hid fun W hW => ⟨((k1.mono hW).cell 0).trans rfl, OwnL.mono k2 hW, (bel_trans k5 hW).size, (k1.mono hW).lt, k1.mono hW, bel_trans k5 hW⟩
                have HNG := Lib.hid k3
                have HLO := Lib.hid k4
                have HLM := Lib.hid hLm
                have hL9 : L.length ≤ 90000 := by
                  rw [hLl]
                  have := HFEW.out
                  have := HNN.out
                  have := HNS.out
                  have := HNP.out
                  have := HNR.out
                  have := recv_len p.recv
                  simp only [List.length_append, List.length_mapIdx, List.length_singleton]
                  omega
                clear k1 k2 k3 k4 k5 hLm hLl
                obtain ⟨z0, zo, zl, zg, zk, zb⟩ := HW.out _ (Below.refl _ _)
                have q1 := sum_ok (a := 2) (b := p.recv.size) (by omega)
                have HS2 : RowKit.Hid (toL ((⟨#[82, 32]⟩ : ByteArray) ++ p.recv) = 82 :: 32 :: toL p.recv) := Lib.hid (by simp [toL_app, toL_lit])
                generalize hS : (⟨#[82, 32]⟩ : ByteArray) ++ p.recv = S at HS2
                go_wp2_with (at_builtin; (try rw [hS]); refine push_at2 rfl _ _ rfl w1.heap.size _ L rfl zo _ rfl (by omega) (by omega) g _ zk ?_; intro q4 n4 c4 w4 ho4 hg4 hn4 k4; have k4c := (k4.cell 0).trans rfl; have k4f := k4.frozen 0; have HFI := Lib.hid (OutS.push (zk.alloc (.cells #[.string S] 9)) (World.ownsRow.alloc zo _) HNG.out HLO.out (zb.alloc zb.size _) ho4 hg4 hn4))
                go_meet
                rw [HE.out]
                exact ⟨_, HFI.out, by rw [List.map_append, HLM.out, List.map_singleton, HS2.out]⟩
            case rest =>
              rename World => wg
              have HS5 := Lib.hid hcut
              clear hcut HS4 c8
              obtain ⟨_, _, _, _, c9, _⟩ := HCS.out _ HS5.out.bel
              go_upto_block 6 with fail
              go_cut [] from 110 to 121 (fun wx => Stg w1 wx g ([headLn p] ++ p.names.mapIdx nameLn ++ p.segs.mapIdx segLn ++ p.phones.mapIdx (textLn 80) ++ [tickLn p] ++ recvLn p.recv ++ p.remarks.mapIdx (textLn 77)))
              case first =>
                go_wp2
                have HTA : RowKit.Hid (([headLn p] ++ p.names.mapIdx nameLn ++ p.segs.mapIdx segLn ++ p.phones.mapIdx (textLn 80) ++ [tickLn p] ++ recvLn p.recv).length ≤ 9000) := Lib.hid (by
                  have := HFEW.out
                  have := HNN.out
                  have := HNS.out
                  have := HNP.out
                  have := recv_len p.recv
                  simp only [List.length_append, List.length_mapIdx, List.length_singleton]
                  omega)
                generalize [headLn p] ++ p.names.mapIdx nameLn ++ p.segs.mapIdx segLn ++ p.phones.mapIdx (textLn 80) ++ [tickLn p] ++ recvLn p.recv = TA at *
                go_loopg [110] NR (fun g0 s110 wr => ∃ i : Nat, i ≤ NR ∧ g0 = NR - i ∧ s110 = .int .i64 (i : Int) ∧ Stg w1 wr g (TA ++ (p.remarks.take i).mapIdx (textLn 77)))
                case atStart => exact ⟨0, Nat.zero_le _, rfl, rfl, by simpa using HS5.out⟩
                case round =>
                  obtain ⟨i, hiN, rfl, rfl, hst⟩ := hrel
                  have HST := Lib.hid hst
                  clear hst c9
                  by_cases hlt : i < NR
                  · have hii : (i : Int) < (NR : Int) := by omega
                    have hi0 : (0 : Int) ≤ (i : Int) := by omega
                    have hiN2 : i < p.remarks.length := by rw [HNR.out]; exact hlt
                    have hi3 : i ≤ 100000 := by have := HFEW.out; omega
                    have HNL : RowKit.Hid (∀ W, Below w1.heap.size w1 W → HasL W (.slice pr NR cr) p.remarks) := Lib.hid fun W hW => HP.out.rm.mono (bel_trans HB.out hW)
                    obtain ⟨bb, of2, nn2, cc2, he2, t0⟩ := text_at2 (HNL.out _ HST.out.bel) hiN2
                    injection he2 with e1 e2 e3
                    subst e1
                    subst e2
                    subst e3
                    have hone := HF.out.remarks _ (List.mem_of_getElem? (getD_at ByteArray.empty hiN2))
                    have HX : RowKit.Hid (TA ++ (p.remarks.take (i + 1)).mapIdx (textLn 77) = TA ++ (p.remarks.take i).mapIdx (textLn 77) ++ [textLn 77 i (p.remarks.getD i ByteArray.empty)]) := Lib.hid (by rw [take_mapIdx_snoc (textLn 77) ByteArray.empty hiN2, List.append_assoc])
                    have HLEN : RowKit.Hid ((TA ++ (p.remarks.take i).mapIdx (textLn 77)).length ≤ 90000) := Lib.hid (by
                      have := HFEW.out
                      have := HTA.out
                      simp only [List.length_append, List.length_mapIdx, List.length_take, List.length_singleton]
                      omega)
                    generalize p.remarks.getD i ByteArray.empty = x at *
                    generalize TA ++ (p.remarks.take i).mapIdx (textLn 77) = TT at *
                    have q1 := sum_ok (a := 1) (b := x.size) (by omega)
                    have HLN : RowKit.Hid (textLn 77 i x = toL (⟨#[77]⟩ : ByteArray) ++ (itoaL ((i : Int) + 1) ++ toL ((⟨#[32]⟩ : ByteArray) ++ x))) := Lib.hid (by
                      unfold textLn
                      simp [toL_app, toL_lit])
                    have HSZ : RowKit.Hid (((⟨#[32]⟩ : ByteArray) ++ x).size ≤ 1152921504606840000) := Lib.hid (by
                      simp only [ByteArray.size_append]
                      show 1 + x.size ≤ _
                      omega)
                    clear hone
                    have HA := Lib.hid (HADD.out ⟨#[77]⟩ _ i g TT wr (by decide) HSZ.out hi3 HST.out HLEN.out)
                    clear HADD HNL HSZ
                    go_wp2_with (first
                      | (go_at_call 27; (with_reducible refine HA.out.mono ?_); rintro e w9 ⟨rfl, hw9, _⟩))
                    go_roundg (NR - (i + 1))
                    case measure => omega
                    case rel => exact ⟨i + 1, by omega, rfl, by go_num, by rw [HX.out, HLN.out]; exact hw9⟩
                  · have hie : i = NR := by omega
                    subst hie
                    have hii : ¬ (i : Int) < (i : Int) := by omega
                    have htk : p.remarks.take i = p.remarks := List.take_of_length_le (by rw [HNR.out]; exact Nat.le_refl _)
                    rw [htk] at HST
                    clear htk
                    go_wp2
                    go_meet
                    exact HST.out
              case rest =>
                rename World => wh
                have HS6 := Lib.hid hcut
                clear hcut c9 HS5
                obtain ⟨_, _, _, _, _, c10⟩ := HCS.out _ HS6.out.bel
                go_upto_block 8 with fail
                go_cut [] from 124 to 146 (fun wx => Stg w1 wx g ([headLn p] ++ p.names.mapIdx nameLn ++ p.segs.mapIdx segLn ++ p.phones.mapIdx (textLn 80) ++ [tickLn p] ++ recvLn p.recv ++ p.remarks.mapIdx (textLn 77) ++ p.seats.map seatLn))
                case first =>
                  go_wp2
                  have HTA : RowKit.Hid (([headLn p] ++ p.names.mapIdx nameLn ++ p.segs.mapIdx segLn ++ p.phones.mapIdx (textLn 80) ++ [tickLn p] ++ recvLn p.recv ++ p.remarks.mapIdx (textLn 77)).length ≤ 9000) := Lib.hid (by
                    have := HFEW.out
                    have := HNN.out
                    have := HNS.out
                    have := HNP.out
                    have := HNR.out
                    have := recv_len p.recv
                    simp only [List.length_append, List.length_mapIdx, List.length_singleton]
                    omega)
                  generalize [headLn p] ++ p.names.mapIdx nameLn ++ p.segs.mapIdx segLn ++ p.phones.mapIdx (textLn 80) ++ [tickLn p] ++ recvLn p.recv ++ p.remarks.mapIdx (textLn 77) = TA at *
                  go_loopg [124] NX (fun g0 s124 wr => ∃ i : Nat, i ≤ NX ∧ g0 = NX - i ∧ s124 = .int .i64 (i : Int) ∧ Stg w1 wr g (TA ++ (p.seats.take i).map seatLn))
                  case atStart => exact ⟨0, Nat.zero_le _, rfl, rfl, by simpa using HS6.out⟩
                  case round =>
                    obtain ⟨i, hiN, rfl, rfl, hst⟩ := hrel
                    have HST := Lib.hid hst
                    clear hst c10
                    by_cases hlt : i < NX
                    · have hii : (i : Int) < (NX : Int) := by omega
                      have hi0 : (0 : Int) ≤ (i : Int) := by omega
                      have hi3 : i ≤ 100000 := by have := HFEW.out; omega
                      have hiN2 : i < p.seats.length := by rw [HNX.out]; exact hlt
                      have HNL : RowKit.Hid (∀ W, Below w1.heap.size w1 W → HasE placeC W (.slice px NX cx) p.seats) := Lib.hid fun W hW => HP.out.x.mono (bel_trans HB.out hW)
                      obtain ⟨bb, of2, rfl, hr, _⟩ := place_at (HNL.out _ HST.out.bel) hiN2
                      have HONE := Lib.hid (HF.out.seats _ (List.mem_of_getElem? (getD_at pl0 hiN2)))
                      have HX : RowKit.Hid (TA ++ (p.seats.take (i + 1)).map seatLn = TA ++ (p.seats.take i).map seatLn ++ [seatLn (p.seats.getD i pl0)]) := Lib.hid (by rw [take_map_snoc seatLn pl0 hiN2, List.append_assoc])
                      have HLEN : RowKit.Hid ((TA ++ (p.seats.take i).map seatLn).length ≤ 90000) := Lib.hid (by
                        have := HFEW.out
                        have := HTA.out
                        simp only [List.length_append, List.length_map, List.length_take, List.length_singleton]
                        omega)
                      generalize p.seats.getD i pl0 = x at *
                      generalize TA ++ (p.seats.take i).map seatLn = TT at *
                      obtain ⟨sg, pa, rw', ch⟩ := x
                      unfold placeC at hr
                      simp only at hr HONE HX
                      go_upto_region 32 with (first
                        | (refine wpList_load_mid rfl 72 _ rfl bb (of2 + i * 4) rfl [.int .i64 sg, .int .i64 pa, .int .i64 rw', .int .u8 ch.toNat] _ hr Tryz.underlying72 rfl info_place2 ?_)
                        | (refine wpList_store_blk rfl 72 (.tmp 15) (.tmp 127) rfl wr.heap.size 72 (placeC pl0) [.int .i64 sg, .int .i64 pa, .int .i64 rw', .int .u8 ch.toNat] rfl rfl (Blk.new wr 72 (placeC pl0)) rfl info_place2 (placeC_one2 ⟨sg, pa, rw', ch⟩) ?_; intro w8 ha8 hb8 hgr8))
                      (try dsimp only [Act.put])
                      have h18 : Below wr.heap.size wr w8 := ((Below.refl _ _).alloc (Nat.le_refl _) _).trans hb8
                      obtain ⟨L, p0, n0, c0, k1, k2, k3, k4, k5, hLm, hLl⟩ := (HST.out.mono h18).out
                      generalize wr.heap.size = g8 at *
                      have HW : RowKit.Hid (∀ W, Below w8.heap.size w8 W → W.cell? ⟨g, 0, none⟩ = some (.slice p0 n0 c0) ∧ W.cell? ⟨g8, 0, none⟩ = some (.int .i64 sg) ∧ W.cell? ⟨g8, 1, none⟩ = some (.int .i64 pa) ∧ W.cell? ⟨g8, 2, none⟩ = some (.int .i64 rw') ∧ W.cell? ⟨g8, 3, none⟩ = some (.int .u8 ch.toNat)) := Lib.hid fun W hW => ⟨((k1.mono hW).cell 0).trans rfl, ((ha8.mono hW).cell 0).trans rfl, ((ha8.mono hW).cell 1).trans rfl, ((ha8.mono hW).cell 2).trans rfl, ((ha8.mono hW).cell 3).trans rfl⟩
                      have HU : RowKit.Hid (∀ W, Below w8.heap.size w8 W → OwnL W w1.heap.size (.slice p0 n0 c0) L ∧ w1.heap.size ≤ W.heap.size ∧ g < W.heap.size ∧ Blk W g 24 [.slice p0 n0 c0] ∧ Below w1.heap.size w1 W) := Lib.hid fun W hW => ⟨OwnL.mono k2 hW, (bel_trans k5 hW).size, (k1.mono hW).lt, k1.mono hW, bel_trans k5 hW⟩
                      have HNG := Lib.hid k3
                      have HLO := Lib.hid k4
                      have HLM := Lib.hid hLm
                      have hL9 : L.length ≤ 90000 := by rw [hLl]; exact HLEN.out
                      have HPW : RowKit.Hid (∀ W, Below w8.heap.size w8 W → PowTab W) := Lib.hid fun W h => powTab_keep HPT.out (bel_trans HB.out (bel_trans k5 h))
                      have HA8 := Lib.hid ha8
                      clear k1 k2 k3 k4 k5 hLm hLl hr ha8 hb8 hgr8 h18
                      have HI1 : RowKit.Hid (∀ W, Below w8.heap.size w8 W → Calls Tryz.prog 28 #[.int .i64 sg] W fun e w' => (∃ s : ByteArray, e = .returned (.string s) ∧ toL s = itoaL sg ∧ s.size ≤ 20) ∧ Below W.heap.size W w') := Lib.hid fun W hW => (itoaH (HPW.out W hW) sg HONE.out.1).out W (Below.refl _ _)
                      have HI2 : RowKit.Hid (∀ W, Below w8.heap.size w8 W → Calls Tryz.prog 28 #[.int .i64 pa] W fun e w' => (∃ s : ByteArray, e = .returned (.string s) ∧ toL s = itoaL pa ∧ s.size ≤ 20) ∧ Below W.heap.size W w') := Lib.hid fun W hW => (itoaH (HPW.out W hW) pa HONE.out.2).out W (Below.refl _ _)
                      have HI3 : RowKit.Hid (∀ W, Calls Tryz.prog 32 #[.agg #[.int .i64 rw', .int .u8 ch.toNat]] W fun e w' => (∃ s : ByteArray, e = .returned (.string s) ∧ toL s = toL (seatT rw' ch) ∧ s.size ≤ 1000) ∧ Below W.heap.size W w') := Lib.hid fun W => (text_any rw' ch W).mono fun e w' ⟨h1, hb⟩ => ⟨⟨_, h1, rfl, seatT_le rw' ch⟩, hb⟩
                      have HSA : RowKit.Hid (∀ W, Below w8.heap.size w8 W → Stg w1 W g TT) := Lib.hid fun W h => ⟨L, ⟨⟨p0, n0, c0, HU.out W h |>.2.2.2.1, (HU.out W h).1, HNG.out⟩, HLO.out, (HU.out W h).2.2.2.2⟩, HLM.out⟩
                      obtain ⟨z0, z1, z2, z3, z4⟩ := HW.out _ (Below.refl _ _)
                      obtain ⟨ta, hta⟩ : ∃ s : ByteArray, toL s = itoaL sg := ⟨⟨(itoaL sg).toArray⟩, toL_mk _⟩
                      obtain ⟨tb, htb⟩ : ∃ s : ByteArray, toL s = itoaL pa := ⟨⟨(itoaL pa).toArray⟩, toL_mk _⟩
                      obtain ⟨tc, htc⟩ : ∃ s : ByteArray, toL s = toL (seatT rw' ch) := ⟨_, rfl⟩
                      have hza : ta.size ≤ 20 := txt_le hta (itoaL_len sg HONE.out.1)
                      have hzb : tb.size ≤ 20 := txt_le htb (itoaL_len pa HONE.out.2)
                      have hzc : tc.size ≤ 1000 := txt_le htc (seatT_le rw' ch)
                      have k0 := cell_regrown z0
                      have k1 := cell_regrown z1
                      have k2 := cell_regrown z2
                      have k3 := cell_regrown z3
                      have k4 := cell_regrown z4
                      have cA : ∀ d os, Calls Tryz.prog 28 #[.int .i64 sg] (Go.Sort.grow (redrawn w8 d) os) fun e w'' => e = .returned (.string ta) ∧ Below (Go.Sort.grow (redrawn w8 d) os).heap.size (Go.Sort.grow (redrawn w8 d) os) w'' := fun d os => ((HI1.out _ (below_regrown w8 d os)).mono fun e w' ⟨⟨s, h1, h2, _⟩, h3⟩ => ⟨by rw [h1, show s = ta from toL_inj (h2.trans hta.symm)], h3⟩)
                      have cB : ∀ d os, Calls Tryz.prog 28 #[.int .i64 pa] (Go.Sort.grow (redrawn w8 d) os) fun e w'' => e = .returned (.string tb) ∧ Below (Go.Sort.grow (redrawn w8 d) os).heap.size (Go.Sort.grow (redrawn w8 d) os) w'' := fun d os => ((HI2.out _ (below_regrown w8 d os)).mono fun e w' ⟨⟨s, h1, h2, _⟩, h3⟩ => ⟨by rw [h1, show s = tb from toL_inj (h2.trans htb.symm)], h3⟩)
                      have cC : ∀ d os, Calls Tryz.prog 32 #[.agg #[.int .i64 rw', .int .u8 ch.toNat]] (Go.Sort.grow (redrawn w8 d) os) fun e w'' => e = .returned (.string tc) ∧ Below (Go.Sort.grow (redrawn w8 d) os).heap.size (Go.Sort.grow (redrawn w8 d) os) w'' := fun d os => ((HI3.out _).mono fun e w' ⟨⟨s, h1, h2, _⟩, h3⟩ => ⟨by rw [h1, show s = tc from toL_inj (h2.trans htc.symm)], h3⟩)
                      have q1 := sum_ok (a := 3) (b := ta.size) (by omega)
                      have q2 := sum_ok (a := 3 + ta.size) (b := 2) (by omega)
                      have q3 := sum_ok (a := 3 + ta.size + 2) (b := tb.size) (by omega)
                      have q4 := sum_ok (a := 3 + ta.size + 2 + tb.size) (b := 1) (by omega)
                      have q5 := sum_ok (a := 3 + ta.size + 2 + tb.size + 1) (b := tc.size) (by omega)
                      have HLS : RowKit.Hid (seatLn ⟨sg, pa, rw', ch⟩ = toL ((⟨#[65, 32, 83]⟩ : ByteArray) ++ ta ++ ⟨#[32, 80]⟩ ++ tb ++ ⟨#[32]⟩ ++ tc)) := Lib.hid (by
                        unfold seatLn
                        simp [toL_app, toL_lit, hta, htb, htc])
                      clear hta htb htc
                      refine wp_region_cone 16 [(0, false), (1, false), (2, false), (3, false), (4, false), (5, false), (6, false), (7, false), (8, false), (9, false), (10, false), (11, false), (12, false), (13, false), (14, false), (15, true)] (by kernel_rfl) (by kernel_rfl) ?_
                      simp only [ordO, List.map_cons, List.map_nil, List.getD_cons_zero, List.getD_cons_succ, List.drop_succ_cons, List.drop_zero]
                      repeat (
                        refine ord_quiet (fun K hK => ?_)
                        go_simp
                        first
                          | (refine hK _ ?_; clear hK K)
                          | (refine ⟨_, fun _ => up_val, hK _ ?_⟩; clear hK K)
                          | (apply Exists.intro; refine ⟨fun _ => ?_, hK _ ?_⟩; (first | exact up_call (cA _ _) | exact up_call (cB _ _) | exact up_call (cC _ _)); clear hK K))
                      obtain ⟨SS, hSS⟩ : ∃ SS : ByteArray, ((⟨#[65, 32, 83]⟩ : ByteArray) ++ ta ++ ⟨#[32, 80]⟩ ++ tb ++ ⟨#[32]⟩ ++ tc) = SS := ⟨_, rfl⟩
                      rw [hSS] at HLS
                      try rw [hSS]
                      refine ord_slice (e := 9) (u := .string SS) (by rfl) (by rfl) (by rfl) ?_ ?_
                      · intro w
                        go_simp
                      intro wb hwb
                      unfold wpOrd
                      intro wq hwq
                      have hbb : Below w8.heap.size w8 wb := hwb.bel
                      have hbq : Below w8.heap.size w8 wq := bel_trans (hbb.alloc hbb.size (.cells #[.string SS] 9)) hwq.bel
                      have hcq : wq.cell? ⟨wb.heap.size, 0, none⟩ = some (.string SS) := cell_bel hwq.bel (new1 wb _ _)
                      obtain ⟨vo, vl, vg, vk, vb⟩ := HU.out _ hbq
                      clear hSS HSA hwb hwq hbb k0 k1 k2 k3 k4 cA cB cC q1 q2 q3 q4 q5
                      generalize wb.heap.size = gb at *
                      go_wp2_with (at_builtin; refine push_at3 rfl _ _ rfl w1.heap.size _ L rfl vo gb SS rfl hcq (by omega) vl ?_; intro q4 n4 c4 w4 ho4 hg4; have k4 := vk.far hg4 (fun e => own_ty vo vk e.symm); have k4c := (k4.cell 0).trans rfl; have k4f := k4.frozen 0; have HFI := Lib.hid (OutS.push vk vo HNG.out HLO.out vb ho4 hg4 (own_ty ho4 k4)); clear ho4 hg4 k4)
                      go_roundg (NX - (i + 1))
                      case measure => omega
                      case rel => exact ⟨i + 1, by omega, rfl, by go_num, ⟨_, HFI.out, by rw [List.map_append, HLM.out, List.map_singleton, HX.out, HLS.out]⟩⟩
                    · have hie : i = NX := by omega
                      subst hie
                      have hii : ¬ (i : Int) < (i : Int) := by omega
                      have htk : p.seats.take i = p.seats := List.take_of_length_le (by rw [HNX.out]; exact Nat.le_refl _)
                      rw [htk] at HST
                      clear htk
                      go_wp2
                      go_meet
                      exact HST.out
                case rest =>
                  rename World => wi
                  obtain ⟨L, p0, n0, c0, k1, k2, k3, k4, k5, hLm, hLl⟩ := Stg.out hcut
                  have cg : wi.cell? ⟨g, 0, none⟩ = some (.slice p0 n0 c0) := (k1.cell 0).trans rfl
                  have HOW := Lib.hid (own_low k2 (Nat.le_of_lt hlp))
                  have HB9 := Lib.hid (bel_trans HB.out k5)
                  have HLM := Lib.hid hLm
                  clear hcut c10 HS6 k1 k2 k3 k4 k5 hLm hLl
                  go_wp2
                  go_ret
                  exact ⟨⟨_, L, rfl, HOW.out, by rw [HLM.out]; unfold showP tailP; simp⟩, HB9.out⟩
end Go.Proofs.YtmhhbnnjilbdnaaGreatDoor.Sh
