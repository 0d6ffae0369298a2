/- codec.Pnr. -/
import Derived.Test.YtofomopmmopflaaGreatDoorMA
import Derived.Test.YtofomopmmopflaaGreatDoorMB
import Derived.Test.YtofomopmmopflaaGreatDoorMC
import Derived.Test.YtofomopmmopflaaGreatDoorMD
import Derived.Test.YtofomopmmopflaaGreatDoorME
import Derived.Test.YtofomopmmopflaaGreatDoorFI
import Derived.Test.YtofomopmmopflaaGreatDoorFN
import Derived.Test.YtofomopmmopflaaGreatDoorFQ
import Derived.Test.YtofomopmmopflaaGreatDoorGB
import Derived.Test.YtofomopmmopflaaGreatDoorGE
import Derived.Test.YtofomopmmopflaaGreatDoorGH
import Derived.Test.YtofomopmmopflaaGreatDoorGK
import Derived.Test.YtofomopmmopflaaGreatDoorGJA
import Derived.Test.YtofomopmmopflaaGreatDoorGN
import Derived.Test.YtofomopmmopflaaGreatDoorGO
import Derived.Test.YtofomopmmopflaaGreatDoorRows
import Derived.WalkKit
import Derived.WalkSpells
import Derived.WalkLawsBesides
import Derived.Lib.ConvBytes
import Derived.Lib.Hide
import Derived.Lib.SliceRun
import Derived.IntWalk
import Derived.BigQuiet
import Derived.Deep.QuietTactic
import Derived.Deep.RegionWith
import Derived.Deep.RegionHeld3
import Derived.Deep.LoopGhost
import Derived.Deep.CutRange
import Derived.Deep.CutBlock
import Derived.Deep.MidRow
import Derived.Laws.OwnMore
import Derived.OwnWalk
import Derived.Laws.AppendOwnNone
import Derived.Laws.Rows
import Derived.Laws.MakeOwn
import Derived.Laws.CopyOwn
import Derived.Laws.BitsAllLaws
import Derived.DeepKeys5
import Derived.Maps.OwnOps
import Derived.Handy
import Derived.Lib.AppendStr
import Derived.StillTailTactics
import Derived.Deep.AppendLies
import Derived.WideKeyEntry
namespace Go.Proofs.YtofomopmmopflaaGreatDoor
open Go.RowKit Go.ChangeMaps
set_option linter.unusedSimpArgs false
set_option linter.unusedVariables false
set_option maxRecDepth 20000

theorem ww_first {w1 w2 : World} (hb : Below w1.heap.size w1 w2) (s : ByteArray) (hs : s.size ≤ 1000) :
    Calls Tryz.prog 18 #[.pointer (some ⟨w2.heap.size + 1, 0, none⟩), .string s] ((w2.alloc (.cells #[.int .u8 80] 5)).alloc (.cells #[.slice (some ⟨w2.heap.size, 0, none⟩) 1 1] 55)) fun e w' =>
      e = .returned (.tuple #[]) ∧ WW w1 w' (w2.heap.size + 1) ([80] ++ textB s) := by
  have hz : (w2.alloc (.cells #[.int .u8 80] 5)).heap.size = w2.heap.size + 1 := by simp
  have hg := Blk.new (w2.alloc (.cells #[.int .u8 80] 5)) 55 [.slice (some ⟨w2.heap.size, 0, none⟩) 1 1]
  rw [hz] at hg
  have hz2 : ((w2.alloc (.cells #[.int .u8 80] 5)).alloc (.cells #[.slice (some ⟨w2.heap.size, 0, none⟩) 1 1] 55)).heap.size = w2.heap.size + 2 := by simp
  have hb2 : Below w2.heap.size w2 ((w2.alloc (.cells #[.int .u8 80] 5)).alloc (.cells #[.slice (some ⟨w2.heap.size, 0, none⟩) 1 1] 55)) := ((Below.refl _ _).alloc (Nat.le_refl _) _).alloc (by simp) _
  have hh := (lit_has w2 80).mono ((Below.refl _ _).alloc (Nat.le_refl _) (.cells #[.slice (some ⟨w2.heap.size, 0, none⟩) 1 1] 55))
  refine (wtext_any (w2.heap.size + 1) _ [80] s _ hg hh (by simp; omega)).mono ?_
  rintro e w' ⟨rfl, ⟨v', h1, h2⟩, h3⟩
  rw [hz2] at h2
  have hsz := h3.size
  refine ⟨rfl, ⟨⟨v', h1, ?_⟩, (hb.trans (hb2.mono hb.size)).grown h3 (by rw [hz2]; have := hb.size; omega) fun k hk => by injection hk with hk; have := hb.size; omega, by have := hb.size; omega, by omega⟩⟩
  unfold textB
  rw [← List.append_assoc]
  exact h2

theorem ww_textB {w W : World} {g : Nat} {bs : List UInt8} (h : WW w W g bs) (s : ByteArray) (hl : bs.length + s.size ≤ 900000) :
    Calls Tryz.prog 18 #[.pointer (some ⟨g, 0, none⟩), .string s] W fun e w' => e = .returned (.tuple #[]) ∧ WW w w' g (bs ++ textB s) ∧ W.grownBy w' (some g) := by
  refine (ww_text h s hl).mono ?_
  rintro e w' ⟨rfl, h1, h2⟩
  refine ⟨rfl, ?_, h2⟩
  unfold textB
  rw [← List.append_assoc]
  exact h1

theorem ww_numN {w W : World} {g : Nat} {bs : List UInt8} (h : WW w W g bs) (n : Nat) (hn : n < 9223372036854775808) (hl : bs.length ≤ 1000000) :
    Calls Tryz.prog 19 #[.pointer (some ⟨g, 0, none⟩), .int .i64 (n : Int)] W fun e w' => e = .returned (.tuple #[]) ∧ WW w w' g (bs ++ varL n) ∧ W.grownBy w' (some g) := by
  have := ww_num h (n : Int) (by omega) (by omega) hl
  rwa [Int.toNat_natCast] at this

theorem own_form {w : World} {B : Nat} {v : Value} {l : List UInt8} (h : OwnB w B v l) : ∃ p n c, v = .slice p n c := by
  obtain ⟨p, c, rfl⟩ := h.has.len
  exact ⟨p, _, c, rfl⟩

set_option maxHeartbeats 64000000 in
theorem pnr_any (p : PnrT) (vn vs vp vr vx : Value) (w : World) (h : PIn w p vn vs vp vr vx) :
    Calls Tryz.prog 8 #[.agg (pnrC p vn vs vp vr vx).toArray] w fun e w' => byP w.heap.size (pnrF p) e w' ∧ Below w.heap.size w w' := by
  have HLF := Lib.hid (pnrF_bool (p := p))
  have HSI : RowKit.Hid (soundPS p = true → SoundP p) := Lib.hid soundPS_iff
  have HSO : RowKit.Hid (∀ W, Below w.heap.size w W → Calls Tryz.prog 17 #[.agg (pnrC p vn vs vp vr vx).toArray] W fun e w' => e = .returned (.bool (soundPS p)) ∧ Below W.heap.size W w') := Lib.hid fun W hb => soundP_any p vn vs vp vr vx W (h.mono hb)
  generalize pnrF p = qb at *
  generalize soundPS p = sb at *
  have hbk := Blk.new w 29 (pnrC p vn vs vp vr vx)
  have hb1 : Below w.heap.size w (w.alloc (.cells (pnrC p vn vs vp vr vx).toArray 29)) := (Below.refl _ _).alloc (Nat.le_refl _) _
  have HP := Lib.hid (h.mono hb1)
  obtain ⟨pn, cn, rfl⟩ := h.n.len
  obtain ⟨ps, cs, rfl⟩ := h.s.len
  obtain ⟨pp, cp, rfl⟩ := own_len h.ph
  obtain ⟨pr, cr, rfl⟩ := own_len h.rm
  obtain ⟨px, cx, rfl⟩ := h.x.len
  unfold pnrC at hbk hb1 HP HSO ⊢
  have HBK := Lib.hid hbk
  have HB := Lib.hid hb1
  clear hbk hb1 h
  generalize hNN : p.names.length = NN at *
  generalize hNS : p.segs.length = NS at *
  generalize hNP : p.phones.length = NP at *
  generalize hNR : p.remarks.length = NR at *
  generalize hNX : p.seats.length = NX at *
  have HNN := Lib.hid hNN
  have HNS := Lib.hid hNS
  have HNP := Lib.hid hNP
  have HNR := Lib.hid hNR
  have HNX := Lib.hid hNX
  clear hNN hNS hNP hNR hNX
  have HLD : RowKit.Hid (∀ W, Below (w.heap.size + 1) (w.alloc (.cells #[.string p.loc, .string p.off, .slice pn NN cn, .slice ps NS cs, .slice pp NP cp, .int .i64 p.tk, .int .i64 p.td, .int .i64 p.tm, .string p.recv, .slice pr NR cr, .slice px NX cx, .bool p.queued] 29)) W → (loadVar 29 ⟨w.heap.size, 0, none⟩).run Tryz.prog W = .ok (.agg #[.string p.loc, .string p.off, .slice pn NN cn, .slice ps NS cs, .slice pp NP cp, .int .i64 p.tk, .int .i64 p.td, .int .i64 p.tm, .string p.recv, .slice pr NR cr, .slice px NX cx, .bool p.queued]) W) := Lib.hid fun W hb => pnr_load (HBK.out.keep hb (Nat.lt_succ_self _)) rfl
  have hz1 : (w.alloc (.cells #[.string p.loc, .string p.off, .slice pn NN cn, .slice ps NS cs, .slice pp NP cp, .int .i64 p.tk, .int .i64 p.td, .int .i64 p.tm, .string p.recv, .slice pr NR cr, .slice px NX cx, .bool p.queued] 29)).heap.size = w.heap.size + 1 := by simp
  rw [← hz1] at HLD
  go_enter Tryz.func8, Tryz.ntmps8
  go_upto_region 1 with fail
  have HZ1 := Lib.hid hz1
  clear hz1
  generalize w.alloc (.cells #[.string p.loc, .string p.off, .slice pn NN cn, .slice ps NS cs, .slice pp NP cp, .int .i64 p.tk, .int .i64 p.td, .int .i64 p.tm, .string p.recv, .slice pr NR cr, .slice px NX cx, .bool p.queued] 29) = w1 at *
  have hld := HLD.out w1 (Below.refl _ _)
  have HSO1 := Lib.hid (HSO.out w1 HB.out)
  have HCS : RowKit.Hid (∀ W, Below w1.heap.size w1 W → W.cell? ⟨w.heap.size, 0, none⟩ = some (.string p.loc) ∧ W.cell? ⟨w.heap.size, 1, none⟩ = some (.string p.off) ∧ W.cell? ⟨w.heap.size, 2, none⟩ = some (.slice pn NN cn) ∧ W.cell? ⟨w.heap.size, 3, none⟩ = some (.slice ps NS cs) ∧ W.cell? ⟨w.heap.size, 4, none⟩ = some (.slice pp NP cp) ∧ W.cell? ⟨w.heap.size, 5, none⟩ = some (.int .i64 p.tk) ∧ W.cell? ⟨w.heap.size, 6, none⟩ = some (.int .i64 p.td) ∧ W.cell? ⟨w.heap.size, 7, none⟩ = some (.int .i64 p.tm) ∧ W.cell? ⟨w.heap.size, 8, none⟩ = some (.string p.recv) ∧ W.cell? ⟨w.heap.size, 9, none⟩ = some (.slice pr NR cr) ∧ W.cell? ⟨w.heap.size, 10, none⟩ = some (.slice px NX cx) ∧ W.cell? ⟨w.heap.size, 11, none⟩ = some (.bool p.queued)) := Lib.hid fun W hb => ⟨((HBK.out.mono hb).cell 0).trans rfl, ((HBK.out.mono hb).cell 1).trans rfl, ((HBK.out.mono hb).cell 2).trans rfl, ((HBK.out.mono hb).cell 3).trans rfl, ((HBK.out.mono hb).cell 4).trans rfl, ((HBK.out.mono hb).cell 5).trans rfl, ((HBK.out.mono hb).cell 6).trans rfl, ((HBK.out.mono hb).cell 7).trans rfl, ((HBK.out.mono hb).cell 8).trans rfl, ((HBK.out.mono hb).cell 9).trans rfl, ((HBK.out.mono hb).cell 10).trans rfl, ((HBK.out.mono hb).cell 11).trans rfl⟩
  clear HSO HLD
  cases sb with
  | false =>
    have HF : RowKit.Hid (qb = none) := Lib.hid (HLF.out.trans (if_neg (by decide)))
    go_wp2_with (first
      | (refine wpList_load_yes 29 (.tmp 1) rfl (by rfl) ⟨w.heap.size, 0, none⟩ rfl _ hld ?_)
      | (go_at_call 17; (with_reducible refine HSO1.out.mono ?_); rintro e w2 ⟨rfl, hb2⟩))
    go_ret2
    exact ⟨.inr ⟨HF.out, rfl⟩, below_low HB.out HB.out.size hb2⟩
  | true =>
    have HSP := Lib.hid (HSI.out rfl)
    have HSH := Lib.hid (short_of HSP.out)
    have HT : RowKit.Hid (qb = some (pnrB p)) := Lib.hid (HLF.out.trans (if_pos rfl))
    have hNN9 : NN ≤ 9 := by have := HSH.out.few.1; rw [HNN.out] at this; exact this
    have hNS8 : NS ≤ 8 := by have := HSH.out.few.2.1; rw [HNS.out] at this; exact this
    have hNP4 : NP ≤ 4 := by have := HSH.out.few.2.2.1; rw [HNP.out] at this; exact this
    have hNR10 : NR ≤ 10 := by have := HSH.out.few.2.2.2.1; rw [HNR.out] at this; exact this
    have hNX72 : NX ≤ 72 := by have := HSH.out.few.2.2.2.2; rw [HNX.out] at this; exact this
    go_upto_region 4 with (first
      | (refine wpList_load_yes 29 (.tmp 1) rfl (by rfl) ⟨w.heap.size, 0, none⟩ rfl _ hld ?_)
      | (go_at_call 17; (with_reducible refine HSO1.out.mono ?_); rintro e w2 ⟨rfl, hb2⟩))
    have hbq : Below w2.heap.size w2 ((w2.alloc (.cells #[.int .u8 80] 5)).alloc (.cells #[.slice (some ⟨w2.heap.size, 0, none⟩) 1 1] 55)) := ((Below.refl _ _).alloc (Nat.le_refl _) _).alloc (by simp) _
    obtain ⟨c0, _⟩ := HCS.out _ (hb2.trans (hbq.mono hb2.size))
    have HT1 : RowKit.Hid (Calls Tryz.prog 18 #[.pointer (some ⟨w2.heap.size + 1, 0, none⟩), .string p.loc] ((w2.alloc (.cells #[.int .u8 80] 5)).alloc (.cells #[.slice (some ⟨w2.heap.size, 0, none⟩) 1 1] 55)) fun e w' => e = .returned (.tuple #[]) ∧ WW w1 w' (w2.heap.size + 1) (q1 p)) := Lib.hid (ww_first hb2 p.loc (by have := orL_size (n := 6) HSP.out.loc; omega))
    clear hld HSO1 hb2 hbq HSI HLF
    generalize (w2.alloc (.cells #[.int .u8 80] 5)).alloc (.cells #[.slice (some ⟨w2.heap.size, 0, none⟩) 1 1] 55) = wq at *
    generalize w2.heap.size + 1 = g at *
    go_upto_region 5 with (first
      | (go_at_call 18; (with_reducible refine HT1.out.mono ?_); rintro e w3 ⟨rfl, hw3⟩))
    obtain ⟨_, c1, _⟩ := HCS.out _ hw3.bel
    have HT2 : RowKit.Hid (Calls Tryz.prog 18 #[.pointer (some ⟨g, 0, none⟩), .string p.off] w3 fun e w' => e = .returned (.tuple #[]) ∧ WW w1 w' g (q2 p) ∧ w3.grownBy w' (some g)) := Lib.hid (ww_textB hw3 p.off (by have := orL_size (n := 3) HSP.out.off; have := HSH.out.a1; omega))
    clear HT1 c0 hw3
    go_upto_region 6 with (first
      | (go_at_call 18; (with_reducible refine HT2.out.mono ?_); rintro e w4 ⟨rfl, hw4, _⟩))
    obtain ⟨_, _, c2, _⟩ := HCS.out _ hw4.bel
    have HT3 : RowKit.Hid (Calls Tryz.prog 19 #[.pointer (some ⟨g, 0, none⟩), .int .i64 (NN : Int)] w4 fun e w' => e = .returned (.tuple #[]) ∧ WW w1 w' g (q3 p) ∧ w4.grownBy w' (some g)) := Lib.hid (by
      have := ww_numN hw4 NN (by omega) (by have := HSH.out.a2; omega)
      unfold q3
      rw [HNN.out]
      exact this)
    clear HT2 c1 hw4
    go_upto_region 7 with (first
      | (go_at_call 19; (with_reducible refine HT3.out.mono ?_); rintro e w5 ⟨rfl, hw5, _⟩))
    obtain ⟨_, _, c2, _⟩ := HCS.out _ hw5.bel
    clear HT3
    have HW5 := Lib.hid hw5
    clear hw5
    go_upto_block 0 with fail
    go_cut [] from 39 to 51 (fun wx => WW w1 wx g (q4 p))
    case first =>
      go_wp2
      go_loopg [39] NN (fun g0 s39 wr => ∃ i : Nat, i ≤ NN ∧ g0 = NN - i ∧ s39 = .int .i64 (i : Int) ∧ WW w1 wr g (q3 p ++ (p.names.take i).flatMap nameB))
      case atStart => exact ⟨0, Nat.zero_le _, rfl, rfl, by simpa using HW5.out⟩
      case round =>
        obtain ⟨i, hiN, rfl, rfl, hww⟩ := hrel
        have HWW := Lib.hid hww
        clear hww c2
        by_cases hlt : i < NN
        · have hii : (i : Int) < (NN : Int) := by omega
          have hi0 : (0 : Int) ≤ (i : Int) := by omega
          have hiN2 : i < p.names.length := by rw [HNN.out]; exact hlt
          obtain ⟨bb, of2, rfl, hr, _, _⟩ := name_at (HP.out.n.mono HWW.out.bel) hiN2
          have hone := name_size (HSP.out.names.2 _ (List.mem_of_getElem? (getD_at nm0 hiN2)))
          have HX : RowKit.Hid (q3 p ++ (p.names.take (i + 1)).flatMap nameB = q3 p ++ (p.names.take i).flatMap nameB ++ textB (p.names.getD i nm0).last ++ textB (p.names.getD i nm0).first) := Lib.hid (by
            rw [flat_take (f := nameB) (getD_at nm0 hiN2)]
            simp [nameB])
          have HLEN : RowKit.Hid ((q3 p ++ (p.names.take i).flatMap nameB).length ≤ 500 ∧ (q3 p ++ (p.names.take i).flatMap nameB ++ textB (p.names.getD i nm0).last).length ≤ 600) := Lib.hid (by
            have k1 := take_flat_le (f := nameB) p.names i
            have k2 := HSH.out.a4
            have k3 := textB_len (s := (p.names.getD i nm0).last) (by omega)
            unfold q4 at k2
            simp only [List.length_append] at k2 ⊢
            omega)
          generalize p.names.getD i nm0 = x at *
          obtain ⟨la, fi⟩ := x
          unfold nameC at hr
          simp only at hr hone HX HLEN
          generalize q3 p ++ (p.names.take i).flatMap nameB = bs at *
          go_upto_region 10 with (first
            | (refine wpList_load_mid rfl 59 _ rfl bb (of2 + i * 2) rfl [.string la, .string fi] _ hr Tryz.underlying59 rfl info_name ?_)
            | (refine wpList_store_blk rfl 59 (.tmp 6) (.tmp 42) rfl wr.heap.size 59 (nameC nm0) [.string la, .string fi] rfl rfl (Blk.new wr 59 (nameC nm0)) rfl info_name (nameC_one ⟨la, fi⟩) ?_; intro w8 ha8 hb8 hgr8))
          dsimp only [Act.put]
          have h18 : Below wr.heap.size wr w8 := ((Below.refl _ _).alloc (Nat.le_refl _) _).trans hb8
          have HW8 := Lib.hid (HWW.out.mono h18)
          have t0 : w8.cell? ⟨wr.heap.size, 0, none⟩ = some (.string la) := (ha8.cell 0).trans rfl
          have t1 : w8.cell? ⟨wr.heap.size, 1, none⟩ = some (.string fi) := (ha8.cell 1).trans rfl
          have hgx : wr.heap.size ≠ g := by have := HWW.out.lt; omega
          have HGX := Lib.hid hgx
          clear hr ha8 hb8 hgr8 h18 hgx
          have HA1 : RowKit.Hid (Calls Tryz.prog 18 #[.pointer (some ⟨g, 0, none⟩), .string la] w8 fun e w' => e = .returned (.tuple #[]) ∧ WW w1 w' g (bs ++ textB la) ∧ w8.grownBy w' (some g)) := Lib.hid (ww_textB HW8.out la (by have := HLEN.out.1; omega))
          have HA2 : RowKit.Hid (∀ W, WW w1 W g (bs ++ textB la) → Calls Tryz.prog 18 #[.pointer (some ⟨g, 0, none⟩), .string fi] W fun e w' => e = .returned (.tuple #[]) ∧ WW w1 w' g (bs ++ textB la ++ textB fi) ∧ W.grownBy w' (some g)) := Lib.hid fun W hw => ww_textB hw fi (by have := HLEN.out.2; omega)
          go_wp2_with (first
            | (go_at_call 18; (with_reducible refine HA1.out.mono ?_); rintro e w9 ⟨rfl, hw9, hg9⟩; have u1 := gr_cell hg9 t1 HGX.out)
            | (go_at_call 18; (with_reducible refine (HA2.out _ hw9).mono ?_); rintro e w10 ⟨rfl, hw10, hg10⟩))
          go_roundg (NN - (i + 1))
          case measure => omega
          case rel => exact ⟨i + 1, by omega, rfl, by go_num, by rw [HX.out]; exact hw10⟩
        · have hie : i = NN := by omega
          subst hie
          have hii : ¬ (i : Int) < (i : Int) := by omega
          have htk : p.names.take i = p.names := List.take_of_length_le (by rw [HNN.out]; exact Nat.le_refl _)
          rw [htk] at HWW
          clear htk
          go_wp2
          go_meet
          exact HWW.out
    case rest =>
      rename World => w6
      have HW6 := Lib.hid hcut
      clear hcut c2 HW5
      obtain ⟨_, _, _, c3, _⟩ := HCS.out _ HW6.out.bel
      have HT5 : RowKit.Hid (Calls Tryz.prog 19 #[.pointer (some ⟨g, 0, none⟩), .int .i64 (NS : Int)] w6 fun e w' => e = .returned (.tuple #[]) ∧ WW w1 w' g (q5 p) ∧ w6.grownBy w' (some g)) := Lib.hid (by
        have := ww_numN HW6.out NS (by omega) (by have := HSH.out.a4; omega)
        unfold q5
        rw [HNS.out]
        exact this)
      go_upto_region 14 with (first
        | (go_at_call 19; (with_reducible refine HT5.out.mono ?_); rintro e w7 ⟨rfl, hw7, _⟩))
      have HW7 := Lib.hid hw7
      clear HT5 hw7 c3
      obtain ⟨_, _, _, c3, _⟩ := HCS.out _ HW7.out.bel
      go_upto_block 2 with fail
      go_cut [] from 60 to 103 (fun wx => WW w1 wx g (q6 p))
      case first =>
        go_wp2
        go_loopg [60] NS (fun g0 s60 wr => ∃ i : Nat, i ≤ NS ∧ g0 = NS - i ∧ s60 = .int .i64 (i : Int) ∧ WW w1 wr g (q5 p ++ (p.segs.take i).flatMap segB))
        case atStart => exact ⟨0, Nat.zero_le _, rfl, rfl, by simpa using HW7.out⟩
        case round =>
          obtain ⟨i, hiN, rfl, rfl, hww⟩ := hrel
          have HWW := Lib.hid hww
          clear hww c3
          by_cases hlt : i < NS
          · have hii : (i : Int) < (NS : Int) := by omega
            have hi0 : (0 : Int) ≤ (i : Int) := by omega
            have hiN2 : i < p.segs.length := by rw [HNS.out]; exact hlt
            obtain ⟨bb, of2, rfl, hr, _, _, _, _, _⟩ := seg_at (HP.out.s.mono HWW.out.bel) hiN2
            have hone := HSP.out.segs.2.1 _ (List.mem_of_getElem? (getD_at sg0 hiN2))
            have hcar := car_size hone
            have HX : RowKit.Hid (q5 p ++ (p.segs.take (i + 1)).flatMap segB = q5 p ++ (p.segs.take i).flatMap segB ++ toL (p.segs.getD i sg0).car ++ varL (p.segs.getD i sg0).num.toNat ++ varL (2 * (p.segs.getD i sg0).day.toNat + if (p.segs.getD i sg0).live then 1 else 0) ++ [(p.segs.getD i sg0).cls]) := Lib.hid (by
              rw [flat_take (f := segB) (getD_at sg0 hiN2)]
              simp [segB])
            have HLEN : RowKit.Hid ((q5 p ++ (p.segs.take i).flatMap segB).length ≤ 500) := Lib.hid (by
              have k1 := take_flat_le (f := segB) p.segs i
              have k2 := HSH.out.a6
              unfold q6 at k2
              simp only [List.length_append] at k2 ⊢
              omega)
            generalize p.segs.getD i sg0 = x at *
            obtain ⟨car, num, day, cls, live⟩ := x
            unfold segC at hr
            obtain ⟨_, ⟨hn1, hn2⟩, ⟨hd1, hd2⟩, _⟩ := hone
            simp only at hr HX hcar hn1 hn2 hd1 hd2
            obtain ⟨d, rfl⟩ := Int.eq_ofNat_of_zero_le hd1
            rw [Int.toNat_natCast] at HX
            have hdl : d < 366 := by omega
            have HOR : RowKit.Hid (bits .or .i64 ((d : Int) * 2) (if live then 1 else 0) = ((2 * d + (if live then 1 else 0) : Nat) : Int)) := Lib.hid (or_bit d live (by omega))
            have HMB : RowKit.Hid ((2 * d + (if live then 1 else 0) : Nat) < 1000) := Lib.hid (by split <;> omega)
            generalize (2 * d + (if live then 1 else 0) : Nat) = mb at *
            generalize q5 p ++ (p.segs.take i).flatMap segB = bs at *
            go_upto_region 17 with (first
              | (refine wpList_load_mid rfl 65 _ rfl bb (of2 + i * 5) rfl [.string car, .int .i64 num, .int .i64 (d : Int), .int .u8 cls.toNat, .bool live] _ hr Tryz.underlying65 rfl info_seg ?_)
              | (refine wpList_store_blk rfl 65 (.tmp 8) (.tmp 63) rfl wr.heap.size 65 (segC sg0) [.string car, .int .i64 num, .int .i64 (d : Int), .int .u8 cls.toNat, .bool live] rfl rfl (Blk.new wr 65 (segC sg0)) rfl info_seg (segC_one ⟨car, num, d, cls, live⟩) ?_; intro w8 ha8 hb8 hgr8))
            dsimp only [Act.put]
            have h18 : Below wr.heap.size wr w8 := ((Below.refl _ _).alloc (Nat.le_refl _) _).trans hb8
            obtain ⟨⟨v, hv1, hv2⟩, hbe8, hlo8, hlt8⟩ := HWW.out.mono h18
            have d0 := (hv1.cell 0).trans rfl
            have t0 : w8.cell? ⟨wr.heap.size, 0, none⟩ = some (.string car) := (ha8.cell 0).trans rfl
            have HNX : RowKit.Hid (v.ownBlock ≠ some wr.heap.size ∧ wr.heap.size ≠ g) := Lib.hid (by
              obtain ⟨⟨v', hv1', hv2'⟩, _, _, hlt'⟩ := HWW.out
              refine ⟨fun e => ?_, by omega⟩
              have e8 : v' = v := by
                have k1 := (hv1'.mono h18).cell 0
                rw [hv1.cell 0] at k1
                simpa using k1.symm
              subst e8
              have := (World.ownsRow.lt hv2' _ e).2
              omega)
            obtain ⟨hST, hAP⟩ := ww_cat (s := car) hv1 hv2 hbe8 hlo8 hlt8
            have HST := Lib.hid hST
            have HAP := Lib.hid hAP
            have HO : RowKit.Hid (OwnB w8.drew (g + 1) v bs) := Lib.hid (hv2.mono (Below.refl _ _).drew)
            have HA8 := Lib.hid ha8
            have hbase : g + 1 ≤ w8.drew.heap.size := by simpa using hlt8
            have hm1 : bs.length + car.size ≤ 100000000 := by have := HLEN.out; omega
            obtain ⟨pv, cv, rfl⟩ := hv2.has.len
            clear hr ha8 hb8 hgr8 h18 hST hAP hv1 hv2 hbe8 hlo8 hlt8
            generalize hgx : wr.heap.size = gx at *
            go_cut [] from 64 to 75 (fun wx => WW w1 wx g (bs ++ toL car) ∧ Blk wx gx 65 [.string car, .int .i64 num, .int .i64 (d : Int), .int .u8 cls.toNat, .bool live])
            case first =>
              go_region_law (first
                | (refine step_append_txt (by rfl) _ _ (by rfl) (g + 1) (.slice pv bs.length cv) bs car (by rfl) HO.out (by rfl) hm1 hbase ?_
                   intro v4 w4 hown1 hgrow
                   obtain ⟨hf, hk⟩ := HAP.out w4 hgrow
                   obtain ⟨p4, n4, c4, rfl⟩ := own_form hown1))
              all_goals (
                go_wp2
                go_meet
                exact ⟨(HST.out w4 _ hown1 hgrow).1, (HST.out w4 _ hown1 hgrow).2 _ _ _ HNX.out.2 HNX.out.1 HA8.out⟩)
            case rest =>
              obtain ⟨hwx, hbx⟩ := hcut
              clear HST HAP hbase hm1 t0 d0 HA8 HO HNX
              rename World => wx
              have HB0 := Lib.hid hbx
              have t1 : wx.cell? ⟨gx, 1, none⟩ = some (.int .i64 num) := (hbx.cell 1).trans rfl
              have hcl : (bs ++ toL car).length ≤ 502 := by
                rw [List.length_append, size_toL]
                have := HLEN.out
                omega
              have HNU : RowKit.Hid (Calls Tryz.prog 19 #[.pointer (some ⟨g, 0, none⟩), .int .i64 num] wx fun e w' => e = .returned (.tuple #[]) ∧ WW w1 w' g (bs ++ toL car ++ varL num.toNat) ∧ wx.grownBy w' (some g)) := Lib.hid (ww_num hwx num (by omega) (by omega) (by omega))
              have hgg : gx ≠ g := by
                intro e
                subst e
                obtain ⟨⟨v', k1, _⟩, _⟩ := hwx
                have := (k1.cell 1).symm.trans t1
                simp at this
              have HGG := Lib.hid hgg
              have hnl := varL_len 1 num.toNat (by omega)
              have HCL : RowKit.Hid ((bs ++ toL car ++ varL num.toNat).length ≤ 510) := Lib.hid (by rw [List.length_append]; omega)
              clear hwx hbx hcl hnl hgg
              generalize bs ++ toL car ++ varL num.toNat = bs2 at *
              go_upto_region 19 with (first
                | (go_at_call 19; (with_reducible refine HNU.out.mono ?_); rintro e w9 ⟨rfl, hw9, hg9⟩))
              have hb9 := HB0.out.far hg9 (fun e => HGG.out (by injection e))
              have HW9 := Lib.hid hw9
              have HB9 := Lib.hid hb9
              have t2 : w9.cell? ⟨gx, 2, none⟩ = some (.int .i64 (d : Int)) := (hb9.cell 2).trans rfl
              have t4 : w9.cell? ⟨gx, 4, none⟩ = some (.bool live) := (hb9.cell 4).trans rfl
              clear HNU hw9 hg9 hb9 t1 HB0
              have HBIT : RowKit.Hid (∀ W, Calls Tryz.prog 20 #[.bool live] W fun e w' => e = .returned (.int .i64 (if live then 1 else 0)) ∧ W = w') := Lib.hid fun W => bit_any live W
              have HNM : RowKit.Hid (∀ W, Below w9.heap.size w9 W → Calls Tryz.prog 19 #[.pointer (some ⟨g, 0, none⟩), .int .i64 ((mb : Nat) : Int)] W fun e w' => e = .returned (.tuple #[]) ∧ WW w1 w' g (bs2 ++ varL mb) ∧ W.grownBy w' (some g)) := Lib.hid fun W hb => ww_numN (HW9.out.mono hb) mb (by have := HMB.out; omega) (by have := HCL.out; omega)
              have hsh : IntKind.i64.wrap ((d : Int) * 2) = (d : Int) * 2 := IntWalk.i64_in _ (by omega)
              have hor := HOR.out
              generalize (if live then (1 : Int) else 0) = bi at *
              generalize hmi : ((mb : Nat) : Int) = mi at *
              go_cut [] from 82 to 91 (fun wy => WW w1 wy g (bs2 ++ varL mb) ∧ Blk wy gx 65 [.string car, .int .i64 num, .int .i64 (d : Int), .int .u8 cls.toNat, .bool live])
              case first =>
                go_region_law (first
                  | (go_simp; go_at_call 20; refine (HBIT.out _).mono ?_; rintro e w10 ⟨rfl, rfl⟩)
                  | (go_simp; go_at_call 19; refine (HNM.out _ (Below.refl _ _).drew).mono ?_; rintro e w11 ⟨rfl, hw11, hg11⟩))
                all_goals (
                  go_wp2
                  go_meet
                  exact ⟨hw11, (HB9.out.mono (Below.refl _ _).drew).far hg11 (fun e => HGG.out (by injection e))⟩)
              case rest =>
                obtain ⟨hwy, hby⟩ := hcut
                rename World => wy
                clear t2 t4 HBIT HNM hsh hor HW9 HB9 hmi
                have hml := varL_len 1 mb (by have := HMB.out; omega)
                have HC3 : RowKit.Hid ((bs2 ++ varL mb).length ≤ 512) := Lib.hid (by rw [List.length_append]; have := HCL.out; omega)
                have HX2 : RowKit.Hid (q5 p ++ (p.segs.take (i + 1)).flatMap segB = bs2 ++ varL mb ++ [cls]) := HX
                clear hml HX
                generalize bs2 ++ varL mb = bs3 at *
                obtain ⟨⟨v, hv1, hv2⟩, hbe8, hlo8, hlt8⟩ := hwy
                have d0 := (hv1.cell 0).trans rfl
                have t3 : wy.cell? ⟨gx, 3, none⟩ = some (.int .u8 cls.toNat) := (hby.cell 3).trans rfl
                obtain ⟨i0, hi0', hz0, hsz0, hby0⟩ := byte_info
                obtain ⟨hST, hAP⟩ := ww_push (c := cls) hv1 hv2 hbe8 hlo8 hlt8
                have HST := Lib.hid hST
                have HAP := Lib.hid hAP
                have HO := Lib.hid hv2
                have hbsz : (wy.alloc (.cells #[.int .u8 cls.toNat] 5)).heap.size = wy.heap.size + 1 := by simp
                have hbase : g + 1 ≤ (wy.alloc (.cells #[.int .u8 cls.toNat] 5)).heap.size := by rw [hbsz]; omega
                have hm1 : bs3.length + 1 ≤ maxLen := by have := HC3.out; unfold maxLen; omega
                have hm2 : (bs3.length + 1) * 1 ≤ 140737488355328 := by have := HC3.out; omega
                have hgl8 : g < wy.heap.size := hlt8
                have hxl8 : gx < wy.heap.size := hby.lt
                clear hST hAP hv1 hv2 hby hbe8 hlo8 hlt8
                go_upto_region 20 with fail
                go_region_law (first
                  | (refine step_append_lies _ (by rfl) _ _ _ (by rfl) (g + 1) 5 i0 _ 1 1 Tryz.underlying30 hi0' hz0 hsz0 hby0 rfl (by decide) v bs3.length (bs3.flatMap byteC) (by rfl) (World.ownsRow.alloc HO.out _) ⟨wy.heap.size, 0, none⟩ 1 1 [.int .u8 cls.toNat] (by rfl) (by rfl) (World.news_of_block (cs := #[.int .u8 cls.toNat]) (t := 5) (fr := (0, 0)) (heap_alloc_new wy _)) (byteC_one cls) (by decide) hm1 hm2 hbase (wy.heap.size + 1) hbsz ?_
                     intro gg cap w4 hown1 hgrow hat hlt
                     obtain ⟨hf, hk⟩ := HAP.out w4 hgrow))
                all_goals
                  go_wp2
                  go_roundg (NS - (i + 1))
                  case measure => omega
                  case rel => exact ⟨i + 1, by omega, rfl, by go_num, by rw [HX2.out]; exact (HST.out w4 _ (own_push hown1) hgrow).1⟩
          · have hie : i = NS := by omega
            subst hie
            have hii : ¬ (i : Int) < (i : Int) := by omega
            have htk : p.segs.take i = p.segs := List.take_of_length_le (by rw [HNS.out]; exact Nat.le_refl _)
            rw [htk] at HWW
            clear htk
            go_wp2
            go_meet
            exact HWW.out
      case rest =>
        rename World => w8
        have HW8 := Lib.hid hcut
        clear hcut c3 HW7 HW6
        obtain ⟨_, _, _, _, c4, _⟩ := HCS.out _ HW8.out.bel
        have HT7 : RowKit.Hid (Calls Tryz.prog 19 #[.pointer (some ⟨g, 0, none⟩), .int .i64 (NP : Int)] w8 fun e w' => e = .returned (.tuple #[]) ∧ WW w1 w' g (q7 p) ∧ w8.grownBy w' (some g)) := Lib.hid (by
          have := ww_numN HW8.out NP (by omega) (by have := HSH.out.a6; omega)
          unfold q7
          rw [HNP.out]
          exact this)
        go_upto_region 23 with (first
          | (go_at_call 19; (with_reducible refine HT7.out.mono ?_); rintro e w9 ⟨rfl, hw9, _⟩))
        have HW9 := Lib.hid hw9
        clear HT7 hw9 c4 HW8
        obtain ⟨_, _, _, _, c4, _⟩ := HCS.out _ HW9.out.bel
        go_upto_block 4 with fail
        go_cut [] from 112 to 119 (fun wx => WW w1 wx g (q8 p))
        case first =>
          go_wp2
          go_loopg [112] NP (fun g0 s112 wr => ∃ i : Nat, i ≤ NP ∧ g0 = NP - i ∧ s112 = .int .i64 (i : Int) ∧ WW w1 wr g (q7 p ++ (p.phones.take i).flatMap textB))
          case atStart => exact ⟨0, Nat.zero_le _, rfl, rfl, by simpa using HW9.out⟩
          case round =>
            obtain ⟨i, hiN, rfl, rfl, hww⟩ := hrel
            have HWW := Lib.hid hww
            clear hww c4
            by_cases hlt : i < NP
            · have hii : (i : Int) < (NP : Int) := by omega
              have hi0 : (0 : Int) ≤ (i : Int) := by omega
              have hiN2 : i < p.phones.length := by rw [HNP.out]; exact hlt
              obtain ⟨bb, of2, rfl, t0⟩ := str_at (HP.out.ph.mono HWW.out.bel) hiN2
              have hone := free_size (HSP.out.phones.2 _ (List.mem_of_getElem? (getD_at ByteArray.empty hiN2)))
              have HX : RowKit.Hid (q7 p ++ (p.phones.take (i + 1)).flatMap textB = q7 p ++ (p.phones.take i).flatMap textB ++ textB (p.phones.getD i ByteArray.empty)) := Lib.hid (by
                rw [flat_take (f := textB) (getD_at ByteArray.empty hiN2)]
                simp)
              have HLEN : RowKit.Hid ((q7 p ++ (p.phones.take i).flatMap textB).length ≤ 1000) := Lib.hid (by
                have k1 := take_flat_le (f := textB) p.phones i
                have k2 := HSH.out.a8
                unfold q8 at k2
                simp only [List.length_append] at k2 ⊢
                omega)
              generalize p.phones.getD i ByteArray.empty = x at *
              generalize q7 p ++ (p.phones.take i).flatMap textB = bs at *
              have HA1 : RowKit.Hid (Calls Tryz.prog 18 #[.pointer (some ⟨g, 0, none⟩), .string x] wr fun e w' => e = .returned (.tuple #[]) ∧ WW w1 w' g (bs ++ textB x) ∧ wr.grownBy w' (some g)) := Lib.hid (ww_textB HWW.out x (by have := HLEN.out; omega))
              go_wp2_with (first
                | (go_at_call 18; (with_reducible refine HA1.out.mono ?_); rintro e w10 ⟨rfl, hw10, hg10⟩))
              go_roundg (NP - (i + 1))
              case measure => omega
              case rel => exact ⟨i + 1, by omega, rfl, by go_num, by rw [HX.out]; exact hw10⟩
            · have hie : i = NP := by omega
              subst hie
              have hii : ¬ (i : Int) < (i : Int) := by omega
              have htk : p.phones.take i = p.phones := List.take_of_length_le (by rw [HNP.out]; exact Nat.le_refl _)
              rw [htk] at HWW
              clear htk
              go_wp2
              go_meet
              exact HWW.out
        case rest =>
          rename World => wb
          have HW8 := Lib.hid hcut
          clear hcut c4 HW9
          obtain ⟨_, _, _, _, _, c5, c6, c7, _, _, _, c11⟩ := HCS.out _ HW8.out.bel
          have htk3 : 0 ≤ p.tk ∧ p.tk ≤ 2 := by rcases HSP.out.tick with ⟨h, _⟩ | ⟨_, _, _, h | h⟩ <;> omega
          obtain ⟨k, hk⟩ := Int.eq_ofNat_of_zero_le htk3.1
          have hk2 : k ≤ 2 := by omega
          have HQ9 : RowKit.Hid (q9 p = q8 p ++ [UInt8.ofNat (2 * k + if p.queued then 1 else 0)] ++ (if p.tk = 1 then varL (p.td * 1440 + p.tm).toNat else [])) := Lib.hid (by
            unfold q9 tickB
            rw [hk, Int.toNat_natCast]
            simp)
          have HOR : RowKit.Hid (bits .or .i64 ((k : Int) * 2) (if p.queued then 1 else 0) = ((2 * k + (if p.queued then 1 else 0) : Nat) : Int)) := Lib.hid (or_bit k p.queued (by omega))
          have HMB : RowKit.Hid ((2 * k + (if p.queued then 1 else 0) : Nat) < 256) := Lib.hid (by split <;> omega)
          have HBIT : RowKit.Hid (∀ W, Calls Tryz.prog 20 #[.bool p.queued] W fun e w' => e = .returned (.int .i64 (if p.queued then 1 else 0)) ∧ W = w') := Lib.hid fun W => bit_any p.queued W
          generalize (2 * k + (if p.queued then 1 else 0) : Nat) = mb at *
          have h8 : IntKind.u8.wrap ((mb : Nat) : Int) = ((UInt8.ofNat mb).toNat : Int) := by
            have := HMB.out
            rw [IntKind.wrap_u8, UInt8.toNat_ofNat']
            omega
          generalize UInt8.ofNat mb = cb at *
          generalize ((mb : Nat) : Int) = mi at *
          have hor := HOR.out
          generalize (if p.queued then (1 : Int) else 0) = bi at *
          have hsh : IntKind.i64.wrap ((k : Int) * 2) = (k : Int) * 2 := IntWalk.i64_in _ (by omega)
          have HK := Lib.hid hk
          rw [hk] at c5
          obtain ⟨⟨v, hv1, hv2⟩, hbe8, hlo8, hlt8⟩ := HW8.out
          have d0 := (hv1.cell 0).trans rfl
          obtain ⟨i0, hi0', hz0, hsz0, hby0⟩ := byte_info
          obtain ⟨hST, hAP⟩ := ww_push (c := cb) hv1 hv2 hbe8 hlo8 hlt8
          have HST := Lib.hid hST
          have HAP := Lib.hid hAP
          have HO := Lib.hid hv2
          have hbsz : (wb.alloc (.cells #[.int .u8 cb.toNat] 5)).heap.size = wb.heap.size + 1 := by simp
          have hbase : g + 1 ≤ (wb.alloc (.cells #[.int .u8 cb.toNat] 5)).heap.size := by rw [hbsz]; omega
          have hm1 : (q8 p).length + 1 ≤ maxLen := by have := HSH.out.a8; unfold maxLen; omega
          have hm2 : ((q8 p).length + 1) * 1 ≤ 140737488355328 := by have := HSH.out.a8; omega
          have hgl8 : g < wb.heap.size := hlt8
          clear hST hAP hv1 hv2 hbe8 hlo8 hlt8 HMB HOR htk3 hk hk2
          go_upto_region 28 with fail
          go_cut [] from 120 to 137 (fun wx => WW w1 wx g (q8 p ++ [cb]))
          case first =>
            go_region_law (first
              | (go_simp; go_at_call 20; refine (HBIT.out _).mono ?_; rintro e w9 ⟨rfl, rfl⟩)
              | (refine step_append_lies _ (by rfl) _ _ _ (by rfl) (g + 1) 5 i0 _ 1 1 Tryz.underlying30 hi0' hz0 hsz0 hby0 rfl (by decide) v (q8 p).length ((q8 p).flatMap byteC) (by rfl) (World.ownsRow.alloc HO.out _) ⟨wb.heap.size, 0, none⟩ 1 1 [.int .u8 cb.toNat] (by rfl) (by rfl) (World.news_of_block (cs := #[.int .u8 cb.toNat]) (t := 5) (fr := (0, 0)) (heap_alloc_new wb _)) (byteC_one cb) (by decide) hm1 hm2 hbase (wb.heap.size + 1) hbsz ?_
                 intro gg cap w4 hown1 hgrow hat hlt
                 obtain ⟨hf, hk⟩ := HAP.out w4 hgrow))
            all_goals (
              go_wp2
              go_meet
              exact (HST.out w4 _ (own_push hown1) hgrow).1)
          case rest =>
            clear HST HAP hbsz hbase hm1 hm2 d0 HO hsh hor h8 HBIT c5 c6 c7 c11 HW8
            rename World => wc
            have HWC := Lib.hid hcut
            clear hcut
            obtain ⟨_, _, _, _, _, c5, c6, c7, _⟩ := HCS.out _ HWC.out.bel
            go_upto_if 141 with fail
            go_cut [] from 138 to 154 (fun wx => WW w1 wx g (q9 p))
            case first =>
              by_cases htk : p.tk = 1
              · have htb : (p.tk == 1) = true := by rw [beq_iff_eq]; exact htk
                have hq : q9 p = q8 p ++ [cb] ++ varL (p.td * 1440 + p.tm).toNat := by rw [HQ9.out, if_pos htk]
                have HQ := Lib.hid hq
                have hv : (0 ≤ p.td ∧ p.td < 366) ∧ 0 ≤ p.tm ∧ p.tm < 1440 := by
                  rcases HSP.out.tick with ⟨_, h1, h2, h3⟩ | ⟨_, _, _, h | h⟩
                  · exact ⟨h1, h2, h3⟩
                  · omega
                  · omega
                have HJ := Lib.hid fun W => join_any p.td p.tm W
                rw [joinZ_yes hv] at HJ
                have HNU : RowKit.Hid (Calls Tryz.prog 19 #[.pointer (some ⟨g, 0, none⟩), .int .i64 (p.td * 1440 + p.tm)] wc fun e w' => e = .returned (.tuple #[]) ∧ WW w1 w' g (q8 p ++ [cb] ++ varL (p.td * 1440 + p.tm).toNat) ∧ wc.grownBy w' (some g)) := Lib.hid (ww_num HWC.out _ (by omega) (by omega) (by rw [List.length_append, List.length_singleton]; have := HSH.out.a8; omega))
                clear hq htk hv
                go_wp2_with (first
                  | (go_at_call 21; (with_reducible refine (HJ.out _).mono ?_); rintro e w9 ⟨rfl, rfl⟩)
                  | (go_at_call 19; (with_reducible refine HNU.out.mono ?_); rintro e w10 ⟨rfl, hw10, _⟩))
                go_meet
                rw [HQ.out]
                exact hw10
              · have htb : (p.tk == 1) = false := by rw [beq_eq_false_iff_ne]; exact htk
                have hq : q9 p = q8 p ++ [cb] := by rw [HQ9.out, if_neg htk, List.append_nil]
                have HQ := Lib.hid hq
                clear hq htk
                go_wp2
                go_meet
                rw [HQ.out]
                exact HWC.out
            case rest =>
              clear HWC c5 c6 c7 HQ9 HK
              rename World => wd
              have HW9 := Lib.hid hcut
              clear hcut
              obtain ⟨_, _, _, _, _, _, _, _, c8, _⟩ := HCS.out _ HW9.out.bel
              have HT10 : RowKit.Hid (Calls Tryz.prog 18 #[.pointer (some ⟨g, 0, none⟩), .string p.recv] wd fun e w' => e = .returned (.tuple #[]) ∧ WW w1 w' g (q10 p) ∧ wd.grownBy w' (some g)) := Lib.hid (ww_textB HW9.out p.recv (by
                have h3 : p.recv.size ≤ 40 := by
                  rcases HSP.out.recv with k | k
                  · have e : p.recv.size = (toL p.recv).length := (size_toL _).symm
                    rw [e, k]; exact Nat.zero_le _
                  · exact free_size k
                have := HSH.out.a9; omega))
              go_upto_region 33 with (first
                | (go_at_call 18; (with_reducible refine HT10.out.mono ?_); rintro e wf ⟨rfl, hwf, _⟩))
              obtain ⟨_, _, _, _, _, _, _, _, _, c9, _⟩ := HCS.out _ hwf.bel
              have HT11 : RowKit.Hid (Calls Tryz.prog 19 #[.pointer (some ⟨g, 0, none⟩), .int .i64 (NR : Int)] wf fun e w' => e = .returned (.tuple #[]) ∧ WW w1 w' g (q11 p) ∧ wf.grownBy w' (some g)) := Lib.hid (by
                have := ww_numN hwf NR (by omega) (by have := HSH.out.a10; omega)
                unfold q11
                rw [HNR.out]
                exact this)
              clear HT10 hwf c8 HW9
              go_upto_region 34 with (first
                | (go_at_call 19; (with_reducible refine HT11.out.mono ?_); rintro e wh ⟨rfl, hwh, _⟩))
              have HWH := Lib.hid hwh
              clear HT11 hwh c9
              obtain ⟨_, _, _, _, _, _, _, _, _, c9, _⟩ := HCS.out _ HWH.out.bel
              go_upto_block 6 with fail
              go_cut [] from 167 to 174 (fun wx => WW w1 wx g (q12 p))
              case first =>
                go_wp2
                go_loopg [167] NR (fun g0 s167 wr => ∃ i : Nat, i ≤ NR ∧ g0 = NR - i ∧ s167 = .int .i64 (i : Int) ∧ WW w1 wr g (q11 p ++ (p.remarks.take i).flatMap textB))
                case atStart => exact ⟨0, Nat.zero_le _, rfl, rfl, by simpa using HWH.out⟩
                case round =>
                  obtain ⟨i, hiN, rfl, rfl, hww⟩ := hrel
                  have HWW := Lib.hid hww
                  clear hww c9
                  by_cases hlt : i < NR
                  · have hii : (i : Int) < (NR : Int) := by omega
                    have hi0 : (0 : Int) ≤ (i : Int) := by omega
                    have hiN2 : i < p.remarks.length := by rw [HNR.out]; exact hlt
                    obtain ⟨bb, of2, rfl, t0⟩ := str_at (HP.out.rm.mono HWW.out.bel) hiN2
                    have hone := free_size (HSP.out.remarks.2 _ (List.mem_of_getElem? (getD_at ByteArray.empty hiN2)))
                    have HX : RowKit.Hid (q11 p ++ (p.remarks.take (i + 1)).flatMap textB = q11 p ++ (p.remarks.take i).flatMap textB ++ textB (p.remarks.getD i ByteArray.empty)) := Lib.hid (by
                      rw [flat_take (f := textB) (getD_at ByteArray.empty hiN2)]
                      simp)
                    have HLEN : RowKit.Hid ((q11 p ++ (p.remarks.take i).flatMap textB).length ≤ 2000) := Lib.hid (by
                      have k1 := take_flat_le (f := textB) p.remarks i
                      have k2 := HSH.out.a12
                      unfold q12 at k2
                      simp only [List.length_append] at k2 ⊢
                      omega)
                    generalize p.remarks.getD i ByteArray.empty = x at *
                    generalize q11 p ++ (p.remarks.take i).flatMap textB = bs at *
                    have HA1 : RowKit.Hid (Calls Tryz.prog 18 #[.pointer (some ⟨g, 0, none⟩), .string x] wr fun e w' => e = .returned (.tuple #[]) ∧ WW w1 w' g (bs ++ textB x) ∧ wr.grownBy w' (some g)) := Lib.hid (ww_textB HWW.out x (by have := HLEN.out; omega))
                    go_wp2_with (first
                      | (go_at_call 18; (with_reducible refine HA1.out.mono ?_); rintro e w10 ⟨rfl, hw10, hg10⟩))
                    go_roundg (NR - (i + 1))
                    case measure => omega
                    case rel => exact ⟨i + 1, by omega, rfl, by go_num, by rw [HX.out]; exact hw10⟩
                  · have hie : i = NR := by omega
                    subst hie
                    have hii : ¬ (i : Int) < (i : Int) := by omega
                    have htk : p.remarks.take i = p.remarks := List.take_of_length_le (by rw [HNR.out]; exact Nat.le_refl _)
                    rw [htk] at HWW
                    clear htk
                    go_wp2
                    go_meet
                    exact HWW.out
              case rest =>
                rename World => wi
                have HWI := Lib.hid hcut
                clear hcut c9 HWH
                obtain ⟨_, _, _, _, _, _, _, _, _, _, c10, _⟩ := HCS.out _ HWI.out.bel
                have HT13 : RowKit.Hid (Calls Tryz.prog 19 #[.pointer (some ⟨g, 0, none⟩), .int .i64 (NX : Int)] wi fun e w' => e = .returned (.tuple #[]) ∧ WW w1 w' g (q13 p) ∧ wi.grownBy w' (some g)) := Lib.hid (by
                  have := ww_numN HWI.out NX (by omega) (by have := HSH.out.a12; omega)
                  unfold q13
                  rw [HNX.out]
                  exact this)
                go_upto_region 40 with (first
                  | (go_at_call 19; (with_reducible refine HT13.out.mono ?_); rintro e wj ⟨rfl, hwj, _⟩))
                have HWJ := Lib.hid hwj
                clear HT13 hwj c10 HWI
                obtain ⟨_, _, _, _, _, _, _, _, _, _, c10, _⟩ := HCS.out _ HWJ.out.bel
                have HQA : RowKit.Hid (pnrB p = q13 p ++ p.seats.flatMap placeB) := Lib.hid (q_all p)
                go_upto_block 8 with fail
                go_cut [] from 183 to 199 (fun wx => WW w1 wx g (pnrB p))
                case first =>
                  go_wp2
                  go_loopg [183] NX (fun g0 s183 wr => ∃ i : Nat, i ≤ NX ∧ g0 = NX - i ∧ s183 = .int .i64 (i : Int) ∧ WW w1 wr g (q13 p ++ (p.seats.take i).flatMap placeB))
                  case atStart => exact ⟨0, Nat.zero_le _, rfl, rfl, by simpa using HWJ.out⟩
                  case round =>
                    obtain ⟨i, hiN, rfl, rfl, hww⟩ := hrel
                    have HWW := Lib.hid hww
                    clear hww c10
                    by_cases hlt : i < NX
                    · have hii : (i : Int) < (NX : Int) := by omega
                      have hi0 : (0 : Int) ≤ (i : Int) := by omega
                      have hiN2 : i < p.seats.length := by rw [HNX.out]; exact hlt
                      obtain ⟨bb, of2, rfl, hr, _, _, _, _⟩ := place_at (HP.out.x.mono HWW.out.bel) hiN2
                      have hone := HSP.out.seats.1.one (List.mem_of_getElem? (getD_at pl0 hiN2))
                      have HX : RowKit.Hid (q13 p ++ (p.seats.take (i + 1)).flatMap placeB = q13 p ++ (p.seats.take i).flatMap placeB ++ beL (((p.seats.getD i pl0).seg - 1).toNat * 65536 + bitsN (p.seats.getD i pl0).pax (p.seats.getD i pl0).row (p.seats.getD i pl0).c) 3) := Lib.hid (by
                        rw [flat_take (f := placeB) (getD_at pl0 hiN2)]
                        simp [placeB])
                      have HLEN : RowKit.Hid ((q13 p ++ (p.seats.take i).flatMap placeB).length ≤ 5000) := Lib.hid (by
                        have k1 := flat_le (l := p.seats.take i) (f := placeB) (k := 3) fun x hx => by rw [placeB_len x]; exact Nat.le_refl _
                        have k2 := HSH.out.a13
                        rw [List.length_take] at k1
                        rw [List.length_append]
                        omega)
                      generalize p.seats.getD i pl0 = x at *
                      obtain ⟨sg, pa, row, c⟩ := x
                      obtain ⟨⟨o1, sx, o2, _⟩, ⟨o3, o4⟩, o5, o6, o7⟩ := hone
                      have o8 := (List.getElem?_eq_some_iff.1 o2).1
                      unfold placeC at hr
                      simp only at hr HX o1 o2 o3 o4 o5 o6 o7 o8
                      obtain ⟨n, rfl⟩ : ∃ n : Nat, sg = (n : Int) + 1 := ⟨(sg - 1).toNat, by omega⟩
                      have hn8 : n < 8 := by
                        have := HSH.out.few.2.1
                        omega
                      have hn9 : pa ≤ 9 := by
                        have := HSH.out.few.1
                        omega
                      have en : ((n : Int) + 1 - 1).toNat = n := by omega
                      rw [en] at HX
                      have hbl : bitsN pa row c < 65536 := by
                        have := bL_lo o7
                        unfold bitsN
                        omega
                      have HOR : RowKit.Hid (bits .or .i64 ((n : Int) * 65536) ((bitsN pa row c : Nat) : Int) = ((n * 65536 + bitsN pa row c : Nat) : Int)) := Lib.hid (or_seat n _ (by omega) hbl)
                      have HMB : RowKit.Hid (n * 65536 + bitsN pa row c < 1000000) := Lib.hid (by omega)
                      have HPK : RowKit.Hid (∀ W, Calls Tryz.prog 23 #[.int .i64 pa, .agg #[.int .i64 row, .int .u8 c.toNat]] W fun e w' => e = .returned (.int .i64 (bitsN pa row c : Nat)) ∧ Below W.heap.size W w') := Lib.hid fun W => packed_any pa row c W o3 hn9 o5 o6 o7
                      generalize n * 65536 + bitsN pa row c = mb at *
                      generalize ((bitsN pa row c : Nat) : Int) = bi at *
                      generalize q13 p ++ (p.seats.take i).flatMap placeB = bs at *
                      clear en o1 o2 o3 o4 o5 o6 o7 o8 hbl
                      go_upto_region 43 with (first
                        | (refine wpList_load_mid rfl 73 _ rfl bb (of2 + i * 4) rfl [.int .i64 ((n : Int) + 1), .int .i64 pa, .int .i64 row, .int .u8 c.toNat] _ hr Tryz.underlying73 rfl info_place ?_)
                        | (refine wpList_store_blk rfl 73 (.tmp 16) (.tmp 186) rfl wr.heap.size 73 (placeC pl0) [.int .i64 ((n : Int) + 1), .int .i64 pa, .int .i64 row, .int .u8 c.toNat] rfl rfl (Blk.new wr 73 (placeC pl0)) rfl info_place (placeC_one ⟨(n : Int) + 1, pa, row, c⟩) ?_; intro w8 ha8 hb8 hgr8))
                      dsimp only [Act.put]
                      have h18 : Below wr.heap.size wr w8 := ((Below.refl _ _).alloc (Nat.le_refl _) _).trans hb8
                      have HW8 := Lib.hid (HWW.out.mono h18)
                      have HA8 := Lib.hid ha8
                      have hgx : wr.heap.size ≠ g := by have := HWW.out.lt; omega
                      clear hr ha8 hb8 hgr8 h18
                      generalize wr.heap.size = gx at *
                      have HSTr : RowKit.Hid (∀ W, Blk W gx 73 [.int .i64 ((n : Int) + 1), .int .i64 pa, .int .i64 row, .int .u8 c.toNat] → W.cell? ⟨gx, 0, none⟩ = some (.int .i64 ((n : Int) + 1)) ∧ W.cell? ⟨gx, 1, none⟩ = some (.int .i64 pa) ∧ W.cell? ⟨gx, 2, none⟩ = some (.int .i64 row) ∧ W.cell? ⟨gx, 3, none⟩ = some (.int .u8 c.toNat)) := Lib.hid fun W hb => ⟨(hb.cell 0).trans rfl, (hb.cell 1).trans rfl, (hb.cell 2).trans rfl, (hb.cell 3).trans rfl⟩
                      have HBY : RowKit.Hid (∀ W, Below w8.drew.heap.size w8.drew W → Calls Tryz.prog 22 #[.pointer (some ⟨g, 0, none⟩), .int .i64 ((mb : Nat) : Int), .int .i64 3] W fun e w' => e = .returned (.tuple #[]) ∧ WW w1 w' g (bs ++ beL mb 3) ∧ W.grownBy w' (some g)) := Lib.hid fun W hb => by
                        have := ww_bytes ((HW8.out.mono (Below.refl _ _).drew).mono hb) ((mb : Nat) : Int) 3 (by omega) (by have := HMB.out; omega) (by have := HLEN.out; omega) (by omega)
                        rw [Int.toNat_natCast] at this
                        exact this
                      have HD8 : RowKit.Hid (Blk w8.drew gx 73 [.int .i64 ((n : Int) + 1), .int .i64 pa, .int .i64 row, .int .u8 c.toNat]) := Lib.hid (HA8.out.mono (Below.refl _ _).drew)
                      have hS0 := HSTr.out w8.drew HD8.out
                      have HGX := Lib.hid hgx
                      have hwn : IntKind.i64.wrap (n : Int) = (n : Int) := IntWalk.i64_in _ (by omega)
                      have hsh : IntKind.i64.wrap ((n : Int) * 65536) = (n : Int) * 65536 := IntWalk.i64_in _ (by omega)
                      have hor := HOR.out
                      generalize ((mb : Nat) : Int) = mi at *
                      clear hgx HOR HMB
                      go_region_held3 (fun W => W.cell? ⟨gx, 0, none⟩ = some (.int .i64 ((n : Int) + 1)) ∧ W.cell? ⟨gx, 1, none⟩ = some (.int .i64 pa) ∧ W.cell? ⟨gx, 2, none⟩ = some (.int .i64 row) ∧ W.cell? ⟨gx, 3, none⟩ = some (.int .u8 c.toNat))
                        (first
                          | exact hS0
                          | assumption
                          | exact HSTr.out _ ((HD8.out.mono hb9).far hg10 (fun e => HGX.out (by injection e)))
                          | exact HSTr.out _ (HD8.out.mono hb9))
                        (first
                          | (go_at_call 23; (with_reducible refine (HPK.out _).mono ?_); rintro e w9 ⟨rfl, hb9⟩)
                          | (go_at_call 22; (with_reducible refine (HBY.out _ hb9).mono ?_); rintro e w10 ⟨rfl, hw10, hg10⟩))
                      go_wp2
                      go_roundg (NX - (i + 1))
                      case measure => omega
                      case rel => exact ⟨i + 1, by omega, rfl, by go_num, by rw [HX.out]; exact hw10⟩
                    · have hie : i = NX := by omega
                      subst hie
                      have hii : ¬ (i : Int) < (i : Int) := by omega
                      have htk : p.seats.take i = p.seats := List.take_of_length_le (by rw [HNX.out]; exact Nat.le_refl _)
                      rw [htk, ← HQA.out] at HWW
                      clear htk
                      go_wp2
                      go_meet
                      exact HWW.out
                case rest =>
                  clear HWJ c10
                  rename World => wl
                  obtain ⟨⟨v, k1, k2⟩, kb, klo, _⟩ := hcut
                  have HBW := Lib.hid kb
                  have KL : RowKit.Hid (w.heap.size ≤ g) := Lib.hid (Nat.le_trans HB.out.size klo)
                  obtain ⟨pv, nv, cv, rfl⟩ := own_form k2
                  have KO := Lib.hid k2
                  have d0 := (k1.cell 0).trans rfl
                  clear k1 k2 kb klo
                  go_wp2
                  go_ret2
                  exact ⟨.inl ⟨_, _, HT.out, rfl, KO.out.low (Nat.le_succ_of_le KL.out)⟩, below_w HB.out HBW.out⟩
end Go.Proofs.YtofomopmmopflaaGreatDoor
