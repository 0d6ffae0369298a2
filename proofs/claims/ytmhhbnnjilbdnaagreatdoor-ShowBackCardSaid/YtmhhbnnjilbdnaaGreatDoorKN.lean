/- The lines of a map of seats (the program's). Printed by tools/gen_sec.py out of md.head, md.secs. The lines of any map of seats (the program's). -/
import Derived.Test.YtmhhbnnjilbdnaaGreatDoorKA
import Derived.Test.YtmhhbnnjilbdnaaGreatDoorKB
import Derived.Test.YtmhhbnnjilbdnaaGreatDoorKD
import Derived.Test.YtmhhbnnjilbdnaaGreatDoorKF
import Derived.Test.YtmhhbnnjilbdnaaGreatDoorPlnI
import Derived.Test.YtmhhbnnjilbdnaaGreatDoorPlnP
import Derived.Test.YtmhhbnnjilbdnaaGreatDoorKG
import Derived.Test.YtmhhbnnjilbdnaaGreatDoorSB
import Derived.Test.YtmhhbnnjilbdnaaGreatDoorSL
import Derived.Test.YtmhhbnnjilbdnaaGreatDoorSD
import Derived.Test.YtmhhbnnjilbdnaaGreatDoorSC
import Derived.Test.YtmhhbnnjilbdnaaGreatDoorKH
import Derived.Test.YtmhhbnnjilbdnaaGreatDoorPlnO
import Derived.Test.YtmhhbnnjilbdnaaGreatDoorPlnQ
import Derived.Test.YtmhhbnnjilbdnaaGreatDoorKJ
import Derived.Test.YtmhhbnnjilbdnaaGreatDoorKL
import Derived.Test.YtmhhbnnjilbdnaaGreatDoorKM
import Derived.Test.YtmhhbnnjilbdnaaGreatDoorRows
import Derived.WalkKit
import Derived.WalkSpells
import Derived.WalkLawsBesides
import Derived.Lib.ConvBytes
import Derived.Lib.Hide
import Derived.Lib.SliceRun
import Derived.IntWalk
import Derived.BigQuiet
import Derived.Deep.QuietTactic
import Derived.Deep.RegionWith
import Derived.Deep.RegionHeld3
import Derived.Deep.LoopGhost
import Derived.Deep.CutRange
import Derived.Deep.CutBlock
import Derived.Deep.MidRow
import Derived.Laws.OwnMore
import Derived.OwnWalk
import Derived.Laws.AppendOwnNone
import Derived.Laws.Rows
import Derived.Laws.MakeOwn
import Derived.Laws.CopyOwn
import Derived.Laws.BitsAllLaws
import Derived.DeepKeys5
import Derived.Maps.OwnOps
import Derived.Handy
import Derived.Lib.AppendStr
import Derived.StillTailTactics
import Derived.Deep.AppendLies
import Derived.ProofKit
import Derived.OpenShut
import Derived.SliceStrings
import Derived.Lib.SmallJoins
import Derived.Deep.SlicePairs
import Derived.ChangeSlices
import Derived.WideKeyEntry
import Derived.Tactics2
import Derived.Defers
import Derived.Recover
import Derived.Shelf.Strconv.Itoa0
import Derived.Shelf.Strconv.Itoa1
import Derived.Shelf.LaysM
import Derived.Shelf.Strconv.Itoa2
import Derived.Shelf.Strconv.Itoa3
import Derived.Maps.AppendAt
import Derived.Lib.Bytealg
import Derived.Deep.RegionLaw
import Derived.Shelf.Strings.Builder1
import Derived.Shelf.Strings.Builder2
import Derived.Shelf.Strings.Count
import Derived.Shelf.Strings.Split
import Derived.Shelf.Strings.Replace
import Derived.Lib.ReplaceLaws
import Derived.ArgAppend
import Derived.Laws.RangeString
import Derived.StillTail
import Derived.Lib.QuietBelow
namespace Go.Proofs.YtmhhbnnjilbdnaaGreatDoor.Sh
open Go.RowKit Go.ChangeMaps En
set_option linter.unusedSimpArgs false
set_option linter.unusedVariables false
set_option maxRecDepth 20000

theorem OwnF.low {w : World} {B B' : Nat} {v : Value} {l : List UInt8} (h : OwnF w B v l) (hb : B' ≤ B) : OwnF w B' v l := by
  obtain ⟨g, cap, cur, fr, h1, h2, h3⟩ := h
  exact ⟨g, cap, cur, fr, h1, Nat.le_trans hb h2, h3⟩
theorem last_two {t : ByteArray} {a b c : UInt8} (h : toL t = [a, b, c]) (hs : t.size = 3) : (t.extract 1 3 ++ (⟨#[32]⟩ : ByteArray)).data.toList = [b, c, 32] := by
  have h1 : (t.extract 1 3).data.toList = [b, c] := by
    have := Lib.extract_to_end t 1
    rw [hs] at this
    rw [this]
    unfold toL at h
    rw [h]
    rfl
  have h2 : toL (t.extract 1 3 ++ (⟨#[32]⟩ : ByteArray)) = toL (t.extract 1 3) ++ toL (⟨#[32]⟩ : ByteArray) := toL_app _ _
  unfold toL at h2
  rw [h2, h1]
  rfl
theorem take_one (l : List UInt8) (f : UInt8 → UInt8) {j : Nat} (h : j < l.length) : (l.take (j + 1)).map f = (l.take j).map f ++ [f (l.getD j 0)] := by
  rw [List.take_succ_eq_append_getElem h, List.map_append, List.map_singleton]
  congr 3
  simp [List.getD, h]
theorem take_exT (x : List Int) (r : Int) {k : Nat} (h : k < x.length) : exT (x.take (k + 1)) r = exT (x.take k) r ++ (if x.getD k 0 = r then [32, 69] else []) := by
  unfold exT
  rw [List.take_succ_eq_append_getElem h, List.flatMap_append]
  congr 1
  simp [List.getD, h]
theorem exT_len (x : List Int) (r : Int) : (exT x r).length ≤ 2 * x.length := by
  induction x with
  | nil => simp [exT]
  | cons a t ih =>
    have e : exT (a :: t) r = (if a = r then [32, 69] else []) ++ exT t r := rfl
    rw [e, List.length_append, List.length_cons]
    by_cases h : a = r
    · rw [if_pos h, show ([32, 69] : List UInt8).length = 2 from rfl]; omega
    · rw [if_neg h, List.length_nil]; omega
theorem conv_i32 (c : UInt8) (w : World) : (convert 21 5 (.int .i32 (c.toNat : Int))).run Tryz.prog w = .ok (.int .u8 (c.toNat : Int)) w := by
  have hc := byte_hi c
  have h : IntKind.u8.wrap (c.toNat : Int) = (c.toNat : Int) := by
    unfold IntKind.wrap
    simp [IntKind.signed, IntKind.bits]
    omega
  simp [convert, go_sem, run_underlying Tryz.underlying21, run_underlying Tryz.underlying5, h]
theorem row_len {r : Int} (h1 : 1 ≤ r) (h2 : r ≤ 60) : (rowTx r).length = 3 := by
  rw [row_pre h1 h2]
  split <;> rfl
/-- A sign was added. -/
theorem mark_done {wr W w4 : World} {v v4 : Value} {bI j : Nat} {s : ByteArray} {l l' : List UInt8} {k : Int} (hF : OwnF W wr.heap.size v l) (hit : W.heap[bI]? = some (.stringIter s j)) (hb : Below wr.heap.size wr W) (ho : OwnF w4 wr.heap.size v4 l') (hg : (W.alloc (.cells #[.int .u8 k] 5)).grownBy w4 v.ownBlock) : OwnF w4 wr.heap.size v4 l' ∧ w4.heap[bI]? = some (.stringIter s j) ∧ Below wr.heap.size wr w4 := by
  have hlt : bI < W.heap.size := (Array.getElem?_eq_some_iff.1 hit).1
  refine ⟨ho, ?_, (hb.alloc hb.size _).grown hg (hb.alloc hb.size _).size (fun k hk => (hF.lt k hk).1)⟩
  refine (hg.block bI (by simp; omega) (hF.ne (fun cur fr e => by rw [hit] at e; cases e))).trans ?_
  exact (Below.heap_alloc W _ bI hlt).trans hit
theorem it_mono {W W' : World} {b : Nat} {o : Obj} (h : W.heap[b]? = some o) (hb : Below W.heap.size W W') : W'.heap[b]? = some o := (hb.block b (Array.getElem?_eq_some_iff.1 h).1).trans h
theorem mark_dot {p : Pl} {l : List UInt8} {held : List HeT} {loc : ByteArray} {s : St} (h : s.2.toNat = 46) : markC p l held loc s = 32 := if_pos h
theorem mark_none {p : Pl} {l : List UInt8} {held : List HeT} {loc : ByteArray} {s : St} (h : ¬ s.2.toNat = 46) (h2 : hasB p l s = false) : markC p l held loc s = 35 := by
  unfold markC; rw [if_neg h, if_neg (by rw [h2]; decide)]
theorem mark_free {p : Pl} {l : List UInt8} {held : List HeT} {loc : ByteArray} {s : St} (h : ¬ s.2.toNat = 46) (h2 : hasB p l s = true) (h3 : (whoH held s).isSome = false) : markC p l held loc s = 111 := by
  unfold markC; rw [if_neg h, if_pos h2, if_neg (by rw [h3]; decide)]
theorem mark_mine {p : Pl} {l : List UInt8} {held : List HeT} {loc : ByteArray} {s : St} (h : ¬ s.2.toNat = 46) (h2 : hasB p l s = true) (h3 : (whoH held s).isSome = true) (h4 : (hoOf held s).1 = loc) : markC p l held loc s = 43 := by
  unfold markC; rw [if_neg h, if_pos h2, if_pos h3, if_pos h4]
theorem mark_other {p : Pl} {l : List UInt8} {held : List HeT} {loc : ByteArray} {s : St} (h : ¬ s.2.toNat = 46) (h2 : hasB p l s = true) (h3 : (whoH held s).isSome = true) (h4 : ¬ (hoOf held s).1 = loc) : markC p l held loc s = 88 := by
  unfold markC; rw [if_neg h, if_pos h2, if_pos h3, if_neg h4]
theorem he_at {w : World} {p : Option Addr} {n c : Nat} {l : List HeT} (h : HasE heC w (.slice p n c) l) {i : Nat} (hi : i < l.length) : ∃ b off, p = some ⟨b, off, none⟩ ∧ w.cell? ⟨b, off + i * 4, none⟩ = some (.int .i64 (l.getD i hl0).1.1) ∧ w.cell? ⟨b, off + i * 4 + 1, none⟩ = some (.int .u8 (l.getD i hl0).1.2.toNat) ∧ w.cell? ⟨b, off + i * 4 + 2, none⟩ = some (.string (l.getD i hl0).2.1) ∧ w.cell? ⟨b, off + i * 4 + 3, none⟩ = some (.int .i64 (l.getD i hl0).2.2) := by
  obtain ⟨b, off, h1, h2⟩ := row_at heC_len hl0 h hi
  exact ⟨b, off, h1, h2 0 _ rfl, h2 1 _ rfl, h2 2 _ rfl, h2 3 _ rfl⟩
theorem info_plan2 : (Tryz.prog.info? 58).map (·.size) = some 5 := by kernel_rfl
theorem info_holder : (Tryz.prog.info? 91).map (·.size) = some 2 := by kernel_rfl
theorem info_seat2 : (Tryz.prog.info? 46).map (·.size) = some 2 := by kernel_rfl
theorem wpList_mapput {w w' : World} {ops : Array Oper} {rest : List Oper} {o : Oper} {a : Act} {Q : Exit → Act → World → Prop} (hgd : o.guard = none) (t : TypeId) (m k x : Operand) (ho : o.op = .mapUpdate t m k x) (mv kv xv : Value) (hm : a.eval m = mv) (hk : a.eval k = kv) (hx : a.eval x = xv)
    (hr : (Instr.mapUpdate t mv kv xv).run Tryz.prog w = .ok () w') (h : wpList Tryz.prog ops Q rest (a.put o.dst undef) w') : wpList Tryz.prog ops Q (o :: rest) a w := by
  refine wpList_plain hgd fun K hK => ?_
  unfold Oper.wp
  simp [execOp, ho, hm, hk, hx, hr, Result.andThen]
  exact hK _ _ h
theorem byte_ascii {p : Pl} {l : List UInt8} (hl : letF p.lets.data.toList = some l) (j : Nat) (hj : j < p.lets.size) : (p.lets.data.toList.getD j 0).toNat < 128 := by
  by_cases h46 : (p.lets.data.toList.getD j 0).toNat = 46
  · omega
  · have h1 := (letF_at hl).1 j hj h46
    have h2 := (letF_some hl).2.2.2 _ h1
    unfold isL_c at h2
    have h3 := of_decide_eq_true h2
    omega

theorem ob_kept {w w' : World} {gm bq bm : Nat} {P : List St} {mf : St → Mk} (h : Ob w gm bq P mf) (hg : w.grownBy w' (some bm)) (h1 : gm < bm) (h2 : bq < bm) : Ob w' gm bq P mf := by
  refine ⟨?_, h.map.kept hg (fun e => by injection e with e; omega)⟩
  rw [hg.cell_far ⟨gm, 0, none⟩ (World.block_lt_of_cell? w _ h.cell) (fun e => by injection e with e; simp only at e; omega)]
  exact h.cell
theorem row_one {p : Pl} {i : Nat} (h : i < (p.last + 1 - p.first).toNat) (f : Int → List UInt8) : ((rowsL p.first p.last).take (i + 1)).map f = ((rowsL p.first p.last).take i).map f ++ [f (p.first + (i : Int))] := by
  have hl : i < (rowsL p.first p.last).length := by rw [rowsL_len]; exact h
  have hg := rowsL_get h
  rw [List.take_succ_eq_append_getElem hl, List.map_append, List.map_singleton]
  congr 3
  rw [List.getElem?_eq_getElem hl] at hg
  injection hg
theorem drop_one {held : List HeT} {i : Nat} (h : i < held.length) : held.drop i = held.getD i hl0 :: held.drop (i + 1) := by
  rw [List.drop_eq_getElem_cons h]
  simp [List.getD, h]

set_option maxHeartbeats 16000000 in
theorem map_no (p : Pl) (ve vb vh : Value) (held : List HeT) (loc : ByteArray) (w : World) (he : HasE intC w ve p.exits) (hb : HasE stC w vb p.bks) (hz : p.lets.size ≤ 1000000) (hx : p.exits.length ≤ 100000) (hbk : p.bks.length ≤ 100000) (hr : rightB p = false) :
    Calls Tryz.prog 15 #[planV p ve vb, vh, .string loc] w fun e w' => LinesE w.heap.size (mapL p held loc) e w' ∧ Below w.heap.size w w' := by
  have HBL := Lib.hid (planC_blk w p ve vb)
  have hb1 : Below w.heap.size w (w.alloc (.cells (planC p ve vb).toArray 58)) := (Below.refl _ _).alloc (Nat.le_refl _) _
  have HC : RowKit.Hid (∀ W, Below w.heap.size w W → Calls Tryz.prog 42 #[planV p ve vb] W fun e w' => e = .returned (.tuple #[.pointer none, .int .i64 4]) ∧ Below W.heap.size W w') := Lib.hid fun W hW => (new_any p ve vb W (he.mono hW) (hb.mono hW) hz hx hbk).mono fun e w' ⟨h1, h2⟩ => ⟨by
    rcases h1 with ⟨_, h⟩ | ⟨v, l, h, _⟩
    · exact h
    · exact absurd (hr.symm.trans h) (by decide), h2⟩
  have HM := Lib.hid (mapL_no (held := held) (loc := loc) hr)
  have HC1 := Lib.hid (HC.out _ hb1)
  have HB := Lib.hid hb1
  unfold planC at HBL HC1 HB
  unfold planV at HC1 ⊢
  simp only [List.toArray] at HBL HC1 HB
  generalize hw1 : w.alloc (.cells #[.int .i64 p.first, .int .i64 p.last, .string p.lets, ve, vb] 58) = w1 at HBL HC1 HB
  clear hb1 HC he hb hr hz
  go_enter Tryz.func15, Tryz.ntmps15
  go_upto_region 1 with fail
  try rw [hw1]
  clear hw1
  go_wp2_with (first
    | (refine wpList_load_mid rfl 58 (.tmp 3) rfl w.heap.size 0 rfl _ _ HBL.out.range Tryz.underlying58 rfl info_plan2 ?_)
    | (go_at_call 42; (with_reducible refine HC1.out.mono ?_); rintro e w2 ⟨rfl, hb2⟩))
  go_ret
  exact ⟨⟨_, [], rfl, World.ownsRow_nil _ _ _ _, HM.out.symm⟩, bel_trans HB.out hb2⟩

set_option maxHeartbeats 16000000 in
theorem map_yes (p : Pl) (l : List UInt8) (ve vb vh : Value) (held : List HeT) (loc : ByteArray) (w : World) (he : HasE intC w ve p.exits) (hb : HasE stC w vb p.bks) (hh : HasE heC w vh held) (hz : p.lets.size ≤ 200) (hx : p.exits.length ≤ 200) (hbk : p.bks.length ≤ 200) (hhl : held.length ≤ 1000) (hok : ∀ x ∈ held, okRow x.1.1) (hm : MaxCell w) (hp : PowTab w) (hr : rightB p = true) (hl : letF p.lets.data.toList = some l) :
    Calls Tryz.prog 15 #[planV p ve vb, vh, .string loc] w fun e w' => LinesE w.heap.size (mapL p held loc) e w' ∧ Below w.heap.size w w' := by
  have HBL := Lib.hid (planC_blk w p ve vb)
  have hb1 : Below w.heap.size w (w.alloc (.cells (planC p ve vb).toArray 58)) := (Below.refl _ _).alloc (Nat.le_refl _) _
  obtain ⟨l', hl', hrp⟩ := rightB_some hr
  have : l' = l := by rw [hl] at hl'; injection hl' with e; exact e.symm
  subst this
  obtain ⟨r1, r2, r3, _⟩ := hrp
  have HC : RowKit.Hid (∀ W, Below w.heap.size w W → Calls Tryz.prog 42 #[planV p ve vb] W fun e w' => (∃ gm bq, e = .returned (.tuple #[.pointer (some ⟨gm, 0, none⟩), .int .i64 0]) ∧ Ob w' gm bq (placesL p.first p.last l') (markF p l')) ∧ Below W.heap.size W w') := Lib.hid fun W hW => (new_any p ve vb W (he.mono hW) (hb.mono hW) (by omega) (by omega) (by omega)).mono fun e w' ⟨h1, h2⟩ => ⟨by
    rcases h1 with ⟨h, _⟩ | ⟨v, l2, _, hl2, rfl, gm, bq, vl, rfl, hst⟩
    · exact absurd (hr.symm.trans h) (by decide)
    · have : l2 = l' := by rw [hl'] at hl2; injection hl2 with e; exact e.symm
      subst this
      exact ⟨gm, bq, rfl, hst.ob⟩, h2⟩
  have HM := Lib.hid (mapL_yes (held := held) (loc := loc) hr hl')
  have HAS := Lib.hid (byte_ascii hl')
  have HLK : RowKit.Hid (∀ s, (decide (s ∈ placesL p.first p.last l') && !(lkF (placesL p.first p.last l') (markF p l') s).blk) = hasB p l' s) := Lib.hid (lk_has p l')
  obtain ⟨pe, ce, rfl⟩ := he.len
  obtain ⟨ph, ch, rfl⟩ := hh.len
  have HE := Lib.hid he
  have HH := Lib.hid hh
  have HOK := Lib.hid hok
  have HMX := Lib.hid hm
  have HPW := Lib.hid hp
  have HC1 := Lib.hid (HC.out _ hb1)
  have HB := Lib.hid hb1
  have HLZ : RowKit.Hid (p.lets.size ≤ 200 ∧ p.exits.length ≤ 200) := Lib.hid ⟨hz, hx⟩
  have HRR : RowKit.Hid (1 ≤ p.first ∧ p.first ≤ p.last ∧ p.last ≤ 60) := Lib.hid ⟨r1, r2, r3⟩
  unfold planC at HBL HC1 HB
  unfold planV at HC1 ⊢
  simp only [List.toArray] at HBL HC1 HB
  generalize hNX : p.exits.length = NX at *
  generalize hNH : held.length = NH at *
  have HNX := Lib.hid hNX
  have HNH := Lib.hid hNH
  generalize hw1 : w.alloc (.cells #[.int .i64 p.first, .int .i64 p.last, .string p.lets, .slice pe NX ce, vb] 58) = w1 at HBL HC1 HB
  clear hb1 HC he hb hh hr hz hok hm hp hx hbk hNX hNH hl hl' r1 r2 r3
  generalize hPl : placesL p.first p.last l' = P at HC1 HLK
  generalize hMf : markF p l' = mf at HC1 HLK
  clear hPl hMf
  go_enter Tryz.func15, Tryz.ntmps15
  go_upto_region 1 with fail
  try rw [hw1]
  clear hw1
  go_upto_region 4 with (first
    | (refine wpList_load_mid rfl 58 (.tmp 3) rfl w.heap.size 0 rfl _ _ HBL.out.range Tryz.underlying58 rfl info_plan2 ?_)
    | (go_at_call 42; (with_reducible refine HC1.out.mono ?_); rintro e w2 ⟨⟨gm, bq, rfl, hob⟩, hb2⟩))
  have HOB := Lib.hid hob
  have HGB : RowKit.Hid (gm < w2.heap.size ∧ bq < w2.heap.size) := Lib.hid ⟨World.block_lt_of_cell? w2 _ hob.cell, hob.map.lt⟩
  have hnh1 : IntKind.i64.wrap ((NH : Int) - 1) = (NH : Int) - 1 := IntWalk.i64_in _ (by omega)
  have HB2 := Lib.hid hb2
  clear hob hb2 HC1
  have hmk : ∀ W, (Instr.makeMap 89 none).run Tryz.prog W = .ok (.map (some W.heap.size)) (W.alloc (.map #[] 0)) := fun W => run_makeMap _ W
  go_upto_region 5 with fail
  clear hmk
  have hmm : MapH (w2.alloc (.map #[] 0)) w2.heap.size [] (fun _ => (⟨#[]⟩, 0)) := MapG.made w2 _
  have HM0 : RowKit.Hid (∃ pl f, MapH (w2.alloc (.map #[] 0)) w2.heap.size pl f ∧ WhoP [] pl f) := Lib.hid ⟨_, _, hmm, WhoP.nil _⟩
  have hb3 : Below w2.heap.size w2 (w2.alloc (.map #[] 0)) := (Below.refl _ _).alloc (Nat.le_refl _) _
  clear hmm
  have HLT2 : RowKit.Hid (w2.heap.size < (w2.alloc (.map #[] 0)).heap.size) := Lib.hid (by simp)
  have HBM : RowKit.Hid (w1.heap.size ≤ w2.heap.size) := Lib.hid HB2.out.size
  generalize hw3 : w2.alloc (.map #[] 0) = w3 at HM0 hb3 HLT2
  generalize hbm : w2.heap.size = bm at *
  have HOB3 := Lib.hid (HOB.out.mono (hbm ▸ hb3 : Below w2.heap.size w2 w3))
  have HB3 : RowKit.Hid (Below w1.heap.size w1 w3) := Lib.hid (bel_trans HB2.out (hbm ▸ hb3 : Below w2.heap.size w2 w3))
  try rw [hw3]
  clear hw3 hb3 HOB HB2 hbm
  go_upto_block 0 with fail
  go_cut [] from 32 to 47 (fun wx => (∃ pl f, MapH wx bm pl f ∧ WhoP held pl f) ∧ Ob wx gm bq P mf ∧ Below w1.heap.size w1 wx)
  case first =>
    go_wp2
    clear hnh1
    go_loopg [10] NH (fun g0 s10 wr => ∃ k : Nat, k ≤ NH ∧ g0 = k ∧ s10 = .int .i64 ((k : Int) - 1) ∧ (∃ pl f, MapH wr bm pl f ∧ WhoP (held.drop k) pl f) ∧ Ob wr gm bq P mf ∧ Below w1.heap.size w1 wr)
    case atStart => exact ⟨NH, Nat.le_refl _, rfl, rfl, by rw [List.drop_of_length_le (by rw [HNH.out]; exact Nat.le_refl _)]; exact HM0.out, HOB3.out, HB3.out⟩
    case round =>
      obtain ⟨k, hkN, hgk, h10, hmap, hob, hbw⟩ := hrel
      have HMP := Lib.hid hmap
      have HOW := Lib.hid hob
      have HBW := Lib.hid hbw
      clear hmap hob hbw
      cases k with
      | zero =>
        rw [show ((0 : Nat) : Int) - 1 = -1 by omega] at h10
        subst h10
        go_wp2
        go_meet
        exact ⟨HMP.out, HOW.out, HBW.out⟩
      | succ i =>
        rw [show ((i + 1 : Nat) : Int) - 1 = (i : Int) by omega] at h10
        subst h10
        have hi0 : (0 : Int) ≤ (i : Int) := by omega
        have hii : (i : Int) < (NH : Int) := by omega
        have hiN2 : i < held.length := by rw [HNH.out]; omega
        have HW1 : RowKit.Hid (Below w.heap.size w wr) := Lib.hid (bel_trans HB.out HBW.out)
        obtain ⟨bb, of2, rfl, y0, y1, y2, y3⟩ := he_at (HH.out.mono HW1.out) hiN2
        have HOKX := Lib.hid (HOK.out _ (List.mem_of_getElem? (getD_at hl0 hiN2)))
        have HDR := Lib.hid (drop_one hiN2)
        generalize held.getD i hl0 = x at *
        obtain ⟨⟨xr, xc⟩, xl, xp⟩ := x
        simp only at y0 y1 y2 y3 HOKX
        have k0 := cell_regrown y0
        have k1 := cell_regrown y1
        have k2 := cell_regrown y2
        have k3 := cell_regrown y3
        clear y0 y1 y2 y3
        go_upto_region 8 with fail
        refine wp_region_cone 11 [(0, false), (1, false), (2, false), (3, false), (4, false), (5, false), (6, false), (7, false), (8, false), (9, false), (10, false)] (by kernel_rfl) (by kernel_rfl) ?_
        simp only [ordO, List.map_cons, List.map_nil, List.getD_cons_zero, List.getD_cons_succ, List.drop_succ_cons, List.drop_zero]
        repeat (
          refine ord_quiet (fun K hK => ?_)
          go_simp
          first
            | (refine hK _ ?_; clear hK K)
            | (refine ⟨_, fun _ => up_val, hK _ ?_⟩; clear hK K))
        unfold wpOrd
        intro wq hwq
        have hbq := hwq.bel
        have hput : ∃ w', (Instr.mapUpdate 89 (.map (some bm)) (.agg #[.int .i64 xr, .int .u8 xc.toNat]) (.agg #[.string xl, .int .i64 xp])).run Tryz.prog wq = .ok () w' ∧ (∃ pl f, MapH w' bm pl f ∧ WhoP (held.drop i) pl f) ∧ wq.grownBy w' (some bm) := by
          obtain ⟨pl, f, hm, hw⟩ := HMP.out
          obtain ⟨w', r1, ⟨pl', f', r2, r3⟩, r4, _⟩ := who_put (hm.mono hbq) hw ((xr, xc), (xl, xp)) HOKX.out
          exact ⟨w', r1, ⟨pl', f', r2, by rw [HDR.out]; exact r3⟩, r4⟩
        obtain ⟨w', hr1, hr2, hr3⟩ := hput
        have HR2 := Lib.hid hr2
        have HO2 := Lib.hid (ob_kept (HOW.out.mono hbq) hr3 HGB.out.1 HGB.out.2)
        have hbw2 := bel_trans HBW.out hbq
        have HB2 : RowKit.Hid (Below w1.heap.size w1 w') := Lib.hid (hbw2.grown hr3 hbw2.size (fun j hj => by injection hj with hj; subst hj; exact HBM.out))
        clear k0 k1 k2 k3 hr2 hr3 hbq hwq hbw2
        go_wp2_with (first
          | (refine wpList_mapput rfl _ _ _ _ rfl _ _ _ rfl rfl rfl hr1 ?_))
        go_roundg i
        case measure => omega
        case rel => exact ⟨i, by omega, rfl, by go_num, HR2.out, HO2.out, HB2.out⟩
  case rest =>
    obtain ⟨hwho, hob4, hb4⟩ := hcut
    rename World => w4
    have HWHO := Lib.hid hwho
    have HOB4 := Lib.hid hob4
    have HB4 := Lib.hid hb4
    have HBL4 := Lib.hid (HBL.out.mono hb4)
    have HW4 : RowKit.Hid (Below w.heap.size w w4) := Lib.hid (bel_trans HB.out hb4)
    have c2 : w4.cell? ⟨w.heap.size, 2, none⟩ = some (.string p.lets) := (HBL4.out.cell 2).trans rfl
    clear hwho hob4 hb4 HM0 HOB3 HB3 hnh1
    have HRA : RowKit.Hid (Calls Tryz.prog 43 #[.string p.lets, .string ⟨#[46]⟩, .string ⟨#[32]⟩] w4 fun e w' => (∃ rs : ByteArray, e = .returned (.string rs) ∧ toL rs = p.lets.data.toList.map (swp 46 32) ∧ rs.size ≤ 200) ∧ Below w4.heap.size w4 w') := Lib.hid (by
      obtain ⟨m, hm⟩ := HMX.out.keep HW4.out
      have hcount := Lib.countB_mul_le (⟨#[46]⟩ : ByteArray) (by decide) p.lets.size p.lets (Nat.le_refl _)
      have hz := HLZ.out.1
      have e1 : (⟨#[46]⟩ : ByteArray).size = 1 := rfl
      have e2 : (⟨#[32]⟩ : ByteArray).size = 1 := rfl
      refine (sh_strings_ReplaceAll p.lets ⟨#[46]⟩ ⟨#[32]⟩ m w4 (by omega) hm (by decide) (by rw [e2]; rw [e1] at hcount; omega)).mono ?_
      rintro e w' ⟨rfl, hb⟩
      refine ⟨⟨_, rfl, ?_, ?_⟩, hb⟩
      · rw [toL_mk]
        exact replace1 (by decide) _
      · have e3 : Lib.replaceAll p.lets.data.toList [46] [32] = p.lets.data.toList.map (swp 46 32) := replace1 (by decide) _
        have e4 : p.lets.data.toList.length = p.lets.size := rfl
        show (Lib.replaceAll p.lets.data.toList [46] [32]).toArray.size ≤ 200
        rw [e3]
        simp
        have e5 : p.lets.data.size = p.lets.size := rfl
        omega)
    go_upto_region 10 with (first
      | (go_at_call 43; (with_reducible refine HRA.out.mono ?_); rintro e wa ⟨⟨rs, rfl, hrs, hrz⟩, hba⟩; have q1 := sum_ok (a := 3) (b := rs.size) (by omega)))
    have HHD : RowKit.Hid (toL ((⟨#[32, 32, 32]⟩ : ByteArray) ++ rs) = headM p) := Lib.hid (by unfold headM; rw [toL_app, hrs]; rfl)
    have hown0 : OwnL (wa.alloc (.cells #[.string ((⟨#[32, 32, 32]⟩ : ByteArray) ++ rs)] 9)) wa.heap.size (.slice (some ⟨wa.heap.size, 0, none⟩) 1 1) [(⟨#[32, 32, 32]⟩ : ByteArray) ++ rs] := World.ownsRow_lit (size := 1) wa #[.string _] 1 (Nat.le_refl _) (by decide) rfl
    have hba1 : Below wa.heap.size wa (wa.alloc (.cells #[.string ((⟨#[32, 32, 32]⟩ : ByteArray) ++ rs)] 9)) := (Below.refl _ _).alloc (Nat.le_refl _) _
    generalize (⟨#[32, 32, 32]⟩ : ByteArray) ++ rs = S0 at HHD hown0 hba1 ⊢
    generalize hwb : wa.alloc (.cells #[.string S0] 9) = wb at hown0 hba1
    try rw [hwb]
    clear hwb q1 hrs hrz HRA c2
    have HWA : RowKit.Hid (Below w.heap.size w wa) := Lib.hid (bel_trans HW4.out hba)
    have HBLA := Lib.hid (HBL4.out.mono hba)
    have HOBA := Lib.hid (HOB4.out.mono hba)
    have HWHA : RowKit.Hid (∃ pl f, MapH wa bm pl f ∧ WhoP held pl f) := Lib.hid (by
      obtain ⟨pl, f, h1, h2⟩ := HWHO.out
      exact ⟨pl, f, h1.mono hba, h2⟩)
    have HOWN := Lib.hid hown0
    have HBA1 := Lib.hid hba1
    have cr0 : wb.cell? ⟨w.heap.size, 0, none⟩ = some (.int .i64 p.first) := ((HBLA.out.mono hba1).cell 0).trans rfl
    clear hba hown0 hba1 HOB4 HWHO HBL4
    have HCELL : RowKit.Hid (∀ W, Below wa.heap.size wa W → W.cell? ⟨w.heap.size, 1, none⟩ = some (.int .i64 p.last) ∧ W.cell? ⟨w.heap.size, 2, none⟩ = some (.string p.lets) ∧ W.cell? ⟨w.heap.size, 3, none⟩ = some (.slice pe NX ce)) := Lib.hid fun W h => ⟨((HBLA.out.mono h).cell 1).trans rfl, ((HBLA.out.mono h).cell 2).trans rfl, ((HBLA.out.mono h).cell 3).trans rfl⟩
    generalize hNR : (p.last + 1 - p.first).toNat = NR at *
    have HNR := Lib.hid hNR
    clear hNR
    go_upto_block 2 with fail
    go_wp2
    go_loopg [11, 12] NR (fun g0 s11 s12 wr => ∃ (i : Nat) (q : Option Addr) (nq cq : Nat) (L : List ByteArray), i ≤ NR ∧ g0 = NR - i ∧ s11 = .slice q nq cq ∧ s12 = .int .i64 (p.first + (i : Int)) ∧ OwnL wr wa.heap.size (.slice q nq cq) L ∧ L.length ≤ i + 1 ∧ L.map toL = headM p :: ((rowsL p.first p.last).take i).map (mapLn p l' held loc) ∧ Below wa.heap.size wa wr)
    case atStart => exact ⟨0, _, _, _, [S0], Nat.zero_le _, rfl, rfl, by simp, HOWN.out, Nat.le_refl _, by simp [HHD.out], HBA1.out⟩
    case round =>
      obtain ⟨i, q, nq, cq, L, hiN, rfl, rfl, rfl, hown, hLl, hLm, hbw⟩ := hrel
      have HOW := Lib.hid hown
      have HLM := Lib.hid hLm
      have HBW := Lib.hid hbw
      have hrr := HRR.out
      have hnr := HNR.out
      clear hown hLm hbw cr0
      by_cases hlt : i < NR
      · have HTK := Lib.hid (row_one (p := p) (i := i) (by rw [HNR.out]; exact hlt) (mapLn p l' held loc))
        generalize hr : p.first + (i : Int) = r at *
        have hr1 : 1 ≤ r := by omega
        have hr2 : r ≤ 60 := by omega
        have hrl : r ≤ p.last := by omega
        have hrw : IntKind.i64.wrap (100 + r) = 100 + r := IntWalk.i64_in _ (by omega)
        have hrw1 : IntKind.i64.wrap (r + 1) = r + 1 := IntWalk.i64_in _ (by omega)
        obtain ⟨c1, c2, c3⟩ := HCELL.out wr HBW.out
        have HWR : RowKit.Hid (Below w.heap.size w wr) := Lib.hid (bel_trans HWA.out HBW.out)
        have HIT : RowKit.Hid (Calls Tryz.prog 28 #[.int .i64 (100 + r)] wr fun e w' => (∃ s : ByteArray, e = .returned (.string s) ∧ toL s = [dch 1, dch (r.toNat / 10), dch r.toNat] ∧ s.size = 3) ∧ Below wr.heap.size wr w') := Lib.hid (((itoaH (powTab_keep HPW.out HWR.out) (100 + r) (WalkArith.wf_i64 (by omega))).out wr (Below.refl _ _)).mono fun e w' ⟨⟨s, h1, h2, h3⟩, hb⟩ => ⟨⟨s, h1, by
          have e3 : toL s = [dch 1, dch (r.toNat / 10), dch r.toNat] := by
            rw [h2]
            unfold itoaL
            rw [if_neg (by omega), show (100 + r).toNat = 100 + r.toNat by omega]
            exact digL_row (by omega)
          exact ⟨e3, by rw [txt_size e3]; rfl⟩⟩, hb⟩)
        have HPRE := Lib.hid (row_pre hr1 hr2)
        have HRI := Lib.hid hr
        clear hr hrr hnr
        go_upto_region 14 with (first
          | (go_at_call 28; (with_reducible refine HIT.out.mono ?_); rintro e w5 ⟨⟨t, rfl, ht, ht3⟩, hb5⟩; obtain ⟨wc, vc, hcv, hbc, hoc, capc, hvc⟩ := conv_own (t.extract 1 3 ++ ⟨#[32]⟩) w5))
        have hF0 : OwnF wc wr.heap.size (.slice (some ⟨w5.heap.size, 0, none⟩) 3 capc) [dch (r.toNat / 10), dch r.toNat, 32] := by
          have hl := last_two ht ht3
          have hsz : (t.extract 1 3 ++ (⟨#[32]⟩ : ByteArray)).size = 3 := by
            show (t.extract 1 3 ++ (⟨#[32]⟩ : ByteArray)).data.toList.length = 3
            rw [hl]
            rfl
          have h := (hoc (by omega)).low hb5.size
          rw [hl, hvc, hsz] at h
          exact h
        have HF0 := Lib.hid hF0
        have hbwc := bel_trans hb5 hbc
        have HBC := Lib.hid hbwc
        have h5s := hb5.size
        clear hF0 hcv hbc hoc hvc hb5 ht ht3 hbwc
        go_upto_if 67 with fail
        go_cut [13] from 66 to 70 (fun s13 wx => OwnF wx wr.heap.size s13 (rowTx r) ∧ Below wr.heap.size wr wx)
        case first =>
          by_cases h10 : r < 10
          · obtain ⟨⟨f1, f2⟩, f3⟩ := ownF_first HF0.out
            have HF3 := Lib.hid (f3 32)
            clear f3
            go_wp2
            go_meet
            refine ⟨?_, HBC.out.grown HF3.out.2 HBC.out.size (fun k hk => by injection hk with hk; omega)⟩
            rw [HPRE.out, if_pos h10]
            exact HF3.out.1
          · have H10 := Lib.hid h10
            go_wp2
            go_meet
            exact ⟨by rw [HPRE.out, if_neg (by have := H10.out; omega)]; exact HF0.out, HBC.out⟩
        case rest =>
          obtain ⟨hF, hbx⟩ := hcut
          rename World => wx
          have HF := Lib.hid hF
          have HBX := Lib.hid hbx
          obtain ⟨_, d2, _⟩ := HCELL.out wx (bel_trans HBW.out hbx)
          clear hF hbx HF0 HBC h5s c1 c2 c3 HIT hrw HPRE
          go_upto_block 4 with fail
          go_wp2
          have HIT0 : RowKit.Hid ((wx.iter p.lets 0).heap[wx.heap.size]? = some (.stringIter p.lets 0)) := Lib.hid (World.iter_heap wx p.lets 0)
          have hbi0 : Below wx.heap.size wx (wx.iter p.lets 0) := (Below.refl _ _).alloc (Nat.le_refl _) _
          have HBI : RowKit.Hid (Below wr.heap.size wr (wx.iter p.lets 0)) := Lib.hid (bel_trans HBX.out hbi0)
          have HFI := Lib.hid (HF.out.mono hbi0)
          have HIX : RowKit.Hid (wr.heap.size ≤ wx.heap.size) := Lib.hid HBX.out.size
          clear hbi0 HF HBX d2
          generalize wx.heap.size = bI at *
          generalize wx.iter p.lets 0 = wy0 at *
          have hlz := HLZ.out.1
          go_loopg [13] (p.lets.size) (fun g1 s13 wy => ∃ j : Nat, j ≤ p.lets.size ∧ g1 = p.lets.size - j ∧ OwnF wy wr.heap.size s13 (rowTx r ++ (p.lets.data.toList.take j).map fun c => markC p l' held loc (r, c)) ∧ wy.heap[bI]? = some (.stringIter p.lets j) ∧ Below wr.heap.size wr wy)
          case atStart => exact ⟨0, Nat.zero_le _, rfl, by simpa using HFI.out, HIT0.out, HBI.out⟩
          case round =>
            obtain ⟨j, hjN, rfl, hF, hit, hby⟩ := hrel
            rename World => wy
            have HF := Lib.hid hF
            have HIT := Lib.hid hit
            have HBY := Lib.hid hby
            clear hF hit hby HFI HIT0 HBI
            by_cases hj : j < p.lets.size
            · have hjl : j < p.lets.data.toList.length := hj
              have HTJ := Lib.hid (take_one p.lets.data.toList (fun c => markC p l' held loc (r, c)) hjl)
              have has := HAS.out j hj
              have hgl : (p.lets[j]'hj) = p.lets.data.toList.getD j 0 := get_list p.lets j hj
              have hnx0 : ∀ ty, (Instr.next (.pointer (some ⟨bI, 0, none⟩)) true ty).run Tryz.prog wy = .ok (.tuple #[.bool true, .int .i64 j, .int .i32 (p.lets.data.toList.getD j 0).toNat]) (setBlock wy bI (.stringIter p.lets (j + 1))) := fun ty => by
                have := next_at HIT.out ty hj (by rw [hgl]; exact has)
                rw [hgl] at this
                exact this
              obtain ⟨wz, hwz⟩ : ∃ wz, wz = setBlock wy bI (.stringIter p.lets (j + 1)) := ⟨_, rfl⟩
              have hlt2 : bI < wy.heap.size := (Array.getElem?_eq_some_iff.1 HIT.out).1
              have hgz : wy.grownBy wz (some bI) := by rw [hwz]; exact grown_setBlock _ hlt2
              have hiz : wz.heap[bI]? = some (.stringIter p.lets (j + 1)) := by rw [hwz]; exact setBlock_same hlt2 _
              rw [← hwz] at hnx0
              have hFz := HF.out.kept hgz (.inl (HF.out.ne (fun cur fr e => by rw [HIT.out] at e; cases e)))
              have hbz : Below wr.heap.size wr wz := HBY.out.grown hgz HBY.out.size (fun k hk => by injection hk with hk; subst hk; exact HIX.out)
              have HFZ := Lib.hid hFz
              have HIZ := Lib.hid hiz
              have HBZ := Lib.hid hbz
              generalize p.lets.data.toList.getD j 0 = c at *
              have hci := conv_i32 c
              clear hgz hiz hFz hbz hwz hlt2 hgl HF HIT HBY has hjl
              go_upto_region 20 with (first
                | (refine wpList_store_blk rfl 46 (.tmp 16) (.tmp 79) rfl wz.heap.size 46 (seatC 0 0) (seatC r c) rfl rfl (Blk.new wz 46 (seatC 0 0)) rfl info_seat2 seatC_one ?_; intro ws ha8 hb8 hgr8))
              (try dsimp only [Act.put])
              have h18 : Below wz.heap.size wz ws := ((Below.refl _ _).alloc (Nat.le_refl _) _).trans hb8
              have s0 : ws.cell? ⟨wz.heap.size, 0, none⟩ = some (.int .i64 r) := (ha8.cell 0).trans rfl
              have s1 : ws.cell? ⟨wz.heap.size, 1, none⟩ = some (.int .u8 c.toNat) := (ha8.cell 1).trans rfl
              have HBS := Lib.hid (bel_trans HBZ.out h18)
              have HFS := Lib.hid (HFZ.out.mono h18)
              have HIS := Lib.hid (it_mono HIZ.out h18)
              have HAS8 := Lib.hid ha8
              have hlk : (Instr.lookup 89 (.map (some bm)) (.agg #[.int .i64 r, .int .u8 c.toNat]) true).run Tryz.prog ws = .ok (.tuple #[.agg #[.string (hoOf held (r, c)).1, .int .i64 (hoOf held (r, c)).2], .bool (whoH held (r, c)).isSome]) ws := by
                obtain ⟨pl, f, h1, h2⟩ := HWHA.out
                exact who_look (h1.mono (bel_trans HBW.out HBS.out)) h2 (r, c) (WalkArith.wf_i64 (by omega))
              have HMD : RowKit.Hid ((c.toNat = 46 → markC p l' held loc (r, c) = 32) ∧ (¬ c.toNat = 46 → hasB p l' (r, c) = false → markC p l' held loc (r, c) = 35) ∧ (¬ c.toNat = 46 → hasB p l' (r, c) = true → (whoH held (r, c)).isSome = false → markC p l' held loc (r, c) = 111) ∧ (¬ c.toNat = 46 → hasB p l' (r, c) = true → (whoH held (r, c)).isSome = true → (hoOf held (r, c)).1 = loc → markC p l' held loc (r, c) = 43) ∧ (¬ c.toNat = 46 → hasB p l' (r, c) = true → (whoH held (r, c)).isSome = true → ¬ (hoOf held (r, c)).1 = loc → markC p l' held loc (r, c) = 88)) := Lib.hid ⟨fun h => mark_dot (s := (r, c)) h, fun h h2 => mark_none (s := (r, c)) h h2, fun h h2 h3 => mark_free (s := (r, c)) h h2 h3, fun h h2 h3 h4 => mark_mine (s := (r, c)) h h2 h3 h4, fun h h2 h3 h4 => mark_other (s := (r, c)) h h2 h3 h4⟩
              have HHS : RowKit.Hid (∀ W, Below wa.heap.size wa W → Calls Tryz.prog 44 #[.pointer (some ⟨gm, 0, none⟩), .agg #[.int .i64 r, .int .u8 c.toNat]] W fun e w' => e = .returned (.bool (hasB p l' (r, c))) ∧ Below W.heap.size W w') := Lib.hid fun W hW => by
                have := has_ob gm bq P mf (r, c) W (HOBA.out.mono hW) (WalkArith.wf_i64 (by omega))
                rw [HLK.out (r, c)] at this
                exact this
              generalize hoOf held (r, c) = ho at *
              generalize (whoH held (r, c)).isSome = hs at *
              generalize hasB p l' (r, c) = hb at *
              generalize markC p l' held loc (r, c) = mc at *
              obtain ⟨hol, hop⟩ := ho
              simp only at hlk HMD
              clear hb8 hgr8 ha8 h18 hnx0 hci HFZ HIZ HBZ
              go_upto_region 22 with (first
                | (refine wpList_store_blk rfl 91 (.tmp 17) (.tmp 84) rfl ws.heap.size 91 [.string ⟨#[]⟩, .int .i64 0] [.string hol, .int .i64 hop] rfl rfl (Blk.new ws 91 [.string ⟨#[]⟩, .int .i64 0]) rfl info_holder (by intro v hv; simp at hv; rcases hv with rfl | rfl <;> rfl) ?_; intro wt ha9 hb9 hgr9))
              (try dsimp only [Act.put])
              have h19 : Below ws.heap.size ws wt := ((Below.refl _ _).alloc (Nat.le_refl _) _).trans hb9
              have HBT := Lib.hid (bel_trans HBS.out h19)
              have HFT := Lib.hid (HFS.out.mono h19)
              have HIZT := Lib.hid (it_mono HIS.out h19)
              have u0 : wt.cell? ⟨wz.heap.size, 0, none⟩ = some (.int .i64 r) := ((HAS8.out.mono h19).cell 0).trans rfl
              have u1 : wt.cell? ⟨wz.heap.size, 1, none⟩ = some (.int .u8 c.toNat) := ((HAS8.out.mono h19).cell 1).trans rfl
              have HH0 : RowKit.Hid (∀ W, Below wt.heap.size wt W → W.cell? ⟨ws.heap.size, 0, none⟩ = some (.string hol)) := Lib.hid fun W h => ((ha9.mono h).cell 0).trans rfl
              have HTL : RowKit.Hid ((rowTx r ++ (p.lets.data.toList.take j).map fun c => markC p l' held loc (r, c)).length = 3 + j) := Lib.hid (by
                rw [List.length_append, List.length_map, List.length_take, row_len hr1 hr2, Nat.min_eq_left (show j ≤ p.lets.data.toList.length from Nat.le_of_lt hj)])
              clear ha9 hb9 hgr9 h19 hlk s0 s1 HBS HFS HIS HAS8
              have hbtt : Below wt.heap.size wt wt := Below.refl _ _
              by_cases h46 : c.toNat = 46
              · have hc : ((c.toNat : Int) == 46) = true := by rw [h46]; rfl
                have hmk := HMD.out.1 h46
                have HMK := Lib.hid hmk
                clear hmk h46
                go_wp2_with (first
                  | (at_builtin; refine push1 rfl _ _ rfl wr.heap.size _ _ rfl (HFT.out.mono hbtt) 32 32 (by decide) rfl (by rw [HTL.out]; omega) (bel_trans HBT.out hbtt).size ?_; intro v4 w4 ho4 hg4; have HD := Lib.hid (mark_done (HFT.out.mono hbtt) (it_mono HIZT.out hbtt) (bel_trans HBT.out hbtt) ho4 hg4); clear ho4 hg4))
                go_roundg (p.lets.size - (j + 1))
                case measure => omega
                case rel => exact ⟨j + 1, by omega, rfl, by rw [HTJ.out, ← List.append_assoc, HMK.out]; exact HD.out.1, HD.out.2.1, HD.out.2.2⟩
              · have hc : ((c.toNat : Int) == 46) = false := by rw [beq_eq_false_iff_ne]; omega
                have HN := Lib.hid h46
                have HHW := Lib.hid (HHS.out wt (bel_trans HBW.out HBT.out))
                clear h46
                cases hb with
                | false =>
                  have HMK := Lib.hid (HMD.out.2.1 HN.out rfl)
                  go_upto_region 25 with (first
                    | (go_at_call 44; (with_reducible refine HHW.out.mono ?_); rintro e w6 ⟨rfl, hb6⟩))
                  go_wp2_with (first
                    | (at_builtin; refine push1 rfl _ _ rfl wr.heap.size _ _ rfl (HFT.out.mono hb6) 35 35 (by decide) rfl (by rw [HTL.out]; omega) (bel_trans HBT.out hb6).size ?_; intro v4 w4 ho4 hg4; have HD := Lib.hid (mark_done (HFT.out.mono hb6) (it_mono HIZT.out hb6) (bel_trans HBT.out hb6) ho4 hg4); clear ho4 hg4))
                  go_roundg (p.lets.size - (j + 1))
                  case measure => omega
                  case rel => exact ⟨j + 1, by omega, rfl, by rw [HTJ.out, ← List.append_assoc, HMK.out]; exact HD.out.1, HD.out.2.1, HD.out.2.2⟩
                | true =>
                  cases hs with
                  | false =>
                    have HMK := Lib.hid (HMD.out.2.2.1 HN.out rfl rfl)
                    go_upto_region 21 with (first
                      | (go_at_call 44; (with_reducible refine HHW.out.mono ?_); rintro e w6 ⟨rfl, hb6⟩; have g0 := HH0.out w6 hb6))
                    go_wp2_with (first
                      | (at_builtin; refine push1 rfl _ _ rfl wr.heap.size _ _ rfl (HFT.out.mono hb6) 111 111 (by decide) rfl (by rw [HTL.out]; omega) (bel_trans HBT.out hb6).size ?_; intro v4 w4 ho4 hg4; have HD := Lib.hid (mark_done (HFT.out.mono hb6) (it_mono HIZT.out hb6) (bel_trans HBT.out hb6) ho4 hg4); clear ho4 hg4))
                    go_roundg (p.lets.size - (j + 1))
                    case measure => omega
                    case rel => exact ⟨j + 1, by omega, rfl, by rw [HTJ.out, ← List.append_assoc, HMK.out]; exact HD.out.1, HD.out.2.1, HD.out.2.2⟩
                  | true =>
                    by_cases hlo : hol = loc
                    · have HMK := Lib.hid (HMD.out.2.2.2.1 HN.out rfl rfl hlo)
                      have hle : (hol.toList == loc.toList) = true := by rw [hlo]; exact beq_self_eq_true _
                      have HLO := Lib.hid hlo
                      clear hlo
                      go_upto_region 27 with (first
                        | (go_at_call 44; (with_reducible refine HHW.out.mono ?_); rintro e w6 ⟨rfl, hb6⟩; have g0 := HH0.out w6 hb6))
                      go_wp2_with (first
                        | (at_builtin; refine push1 rfl _ _ rfl wr.heap.size _ _ rfl (HFT.out.mono hb6) 43 43 (by decide) rfl (by rw [HTL.out]; omega) (bel_trans HBT.out hb6).size ?_; intro v4 w4 ho4 hg4; have HD := Lib.hid (mark_done (HFT.out.mono hb6) (it_mono HIZT.out hb6) (bel_trans HBT.out hb6) ho4 hg4); clear ho4 hg4))
                      go_roundg (p.lets.size - (j + 1))
                      case measure => omega
                      case rel => exact ⟨j + 1, by omega, rfl, by rw [HTJ.out, ← List.append_assoc, HMK.out]; exact HD.out.1, HD.out.2.1, HD.out.2.2⟩
                    · have HMK := Lib.hid (HMD.out.2.2.2.2 HN.out rfl rfl hlo)
                      have hle : (hol.toList == loc.toList) = false := by rw [beq_eq_false_iff_ne]; exact fun e => hlo (toList_inj e)
                      have HLO := Lib.hid hlo
                      clear hlo
                      go_upto_region 29 with (first
                        | (go_at_call 44; (with_reducible refine HHW.out.mono ?_); rintro e w6 ⟨rfl, hb6⟩; have g0 := HH0.out w6 hb6))
                      go_wp2_with (first
                        | (at_builtin; refine push1 rfl _ _ rfl wr.heap.size _ _ rfl (HFT.out.mono hb6) 88 88 (by decide) rfl (by rw [HTL.out]; omega) (bel_trans HBT.out hb6).size ?_; intro v4 w4 ho4 hg4; have HD := Lib.hid (mark_done (HFT.out.mono hb6) (it_mono HIZT.out hb6) (bel_trans HBT.out hb6) ho4 hg4); clear ho4 hg4))
                      go_roundg (p.lets.size - (j + 1))
                      case measure => omega
                      case rel => exact ⟨j + 1, by omega, rfl, by rw [HTJ.out, ← List.append_assoc, HMK.out]; exact HD.out.1, HD.out.2.1, HD.out.2.2⟩
            · have hje : j = p.lets.size := by omega
              have hne : ∀ ty, (Instr.next (.pointer (some ⟨bI, 0, none⟩)) true ty).run Tryz.prog wy = .ok (.tuple #[.bool false]) wy := fun ty => next_end HIT.out ty hj
              obtain ⟨_, _, e3⟩ := HCELL.out wy (bel_trans HBW.out HBY.out)
              obtain ⟨bs, hbs⟩ : ∃ bs, rowTx r ++ (p.lets.data.toList.take j).map (fun c => markC p l' held loc (r, c)) = bs := ⟨_, rfl⟩
              have HBSE : RowKit.Hid (mapLn p l' held loc r = bs ++ exT p.exits r) := Lib.hid (by
                have htk : p.lets.data.toList.take j = p.lets.data.toList := List.take_of_length_le (by rw [hje]; exact Nat.le_refl _)
                rw [← hbs, htk]
                unfold mapLn
                rw [List.append_assoc])
              have HBSL : RowKit.Hid (bs.length ≤ 203) := Lib.hid (by
                rw [← hbs, List.length_append, List.length_map, List.length_take, row_len hr1 hr2]
                have e9 : p.lets.data.toList.length = p.lets.size := rfl
                omega)
              rw [hbs] at HF
              have HNL : RowKit.Hid (∀ W, Below wr.heap.size wr W → HasE intC W (.slice pe NX ce) p.exits) := Lib.hid fun W h => HE.out.mono (bel_trans HWR.out h)
              clear hbs HIT
              go_wp2
              clear hne
              go_loopg [13, 122] NX (fun g2 s13 s122 wv => ∃ k : Nat, k ≤ NX ∧ g2 = NX - k ∧ s122 = .int .i64 (k : Int) ∧ OwnF wv wr.heap.size s13 (bs ++ exT (p.exits.take k) r) ∧ Below wr.heap.size wr wv)
              case atStart => exact ⟨0, Nat.zero_le _, rfl, rfl, by simpa [exT] using HF.out, HBY.out⟩
              case round =>
                obtain ⟨k, hkN, rfl, rfl, hF, hbv⟩ := hrel
                rename World => wv
                have HFV := Lib.hid hF
                have HBV := Lib.hid hbv
                have hxl := HLZ.out.2
                clear hF hbv e3 HF HBY
                have HXL : RowKit.Hid ((bs ++ exT (p.exits.take k) r).length ≤ 800) := Lib.hid (by
                  have h1 := exT_len (p.exits.take k) r
                  have h2 := HBSL.out
                  have h3 := HNX.out
                  rw [List.length_take] at h1
                  rw [List.length_append]
                  omega)
                by_cases hk : k < NX
                · have hkk : (k : Int) < (NX : Int) := by omega
                  have hk0 : (0 : Int) ≤ (k : Int) := by omega
                  have hkl : k < p.exits.length := by rw [HNX.out]; exact hk
                  obtain ⟨be, oe, rfl, ce0⟩ := int_at (HNL.out wv HBV.out) hkl
                  have HTE := Lib.hid (take_exT p.exits r hkl)
                  generalize p.exits.getD k 0 = x at *
                  by_cases hx : x = r
                  · subst hx
                    have HTE2 : RowKit.Hid (exT (p.exits.take (k + 1)) x = exT (p.exits.take k) x ++ [32, 69]) := Lib.hid (by rw [HTE.out, if_pos rfl])
                    go_wp2_with (first
                      | (at_builtin; refine pushS rfl _ _ rfl wr.heap.size _ _ rfl HFV.out ⟨#[32, 69]⟩ rfl (by decide) (by decide) (by have := HXL.out; omega) HBV.out.size ?_; intro v4 w4 ho4 hg4; have HO4 := Lib.hid ho4; have HB4' : RowKit.Hid (Below wr.heap.size wr w4) := Lib.hid (HBV.out.grown hg4 HBV.out.size (fun j hj => (HFV.out.lt j hj).1)); clear ho4 hg4))
                    go_roundg (NX - (k + 1))
                    case measure => omega
                    case rel => exact ⟨k + 1, by omega, rfl, by go_num, by rw [HTE2.out, ← List.append_assoc]; exact HO4.out, HB4'.out⟩
                  · have HTE2 : RowKit.Hid (exT (p.exits.take (k + 1)) r = exT (p.exits.take k) r) := Lib.hid (by rw [HTE.out, if_neg hx, List.append_nil])
                    have hxb : (x == r) = false := by rw [beq_eq_false_iff_ne]; exact hx
                    clear hx
                    go_wp2
                    go_roundg (NX - (k + 1))
                    case measure => omega
                    case rel => exact ⟨k + 1, by omega, rfl, by go_num, by rw [HTE2.out]; exact HFV.out, HBV.out⟩
                · have hke : k = NX := by omega
                  subst hke
                  have hkk : ¬ (k : Int) < (k : Int) := by omega
                  have htk : p.exits.take k = p.exits := List.take_of_length_le (by rw [HNX.out]; exact Nat.le_refl _)
                  have hcs := conv_has HFV.out.has
                  obtain ⟨SR, hSR⟩ : ∃ SR : ByteArray, (⟨(bs ++ exT (p.exits.take k) r).toArray⟩ : ByteArray) = SR := ⟨_, rfl⟩
                  rw [hSR] at hcs
                  have HSR : RowKit.Hid (toL SR = mapLn p l' held loc r) := Lib.hid (by rw [← hSR, toL_mk, htk, HBSE.out])
                  have hOx := HOW.out.mono HBV.out
                  have hbwv := bel_trans HBW.out HBV.out
                  have HBWV := Lib.hid hbwv
                  have hsz := hbwv.size
                  have hLN : L.length ≤ 1000 := by have := HRR.out; have := HNR.out; omega
                  clear htk hSR hbwv
                  go_wp2_with (at_builtin; refine push_txt rfl _ _ rfl wa.heap.size _ L rfl hOx _ rfl (by omega) hsz ?_; intro q4 n4 c4 w4 ho4 hb4)
                  have HO4 := Lib.hid ho4
                  have HB4' := Lib.hid (HBWV.out.trans hb4)
                  go_roundg (NR - (i + 1))
                  case measure => omega
                  case rel => exact ⟨i + 1, q4, n4, c4, _, by omega, rfl, rfl, by rw [← HRI.out]; push_cast; congr 1; omega, HO4.out, by rw [List.length_append, List.length_singleton]; omega, by rw [List.map_append, HLM.out, HTK.out, List.map_singleton, HSR.out]; rfl, HB4'.out⟩
      · have hie : i = NR := by omega
        obtain ⟨c1, _, _⟩ := HCELL.out wr HBW.out
        have hle : ¬ (p.first + (i : Int) ≤ p.last) := by omega
        have htk : (rowsL p.first p.last).take i = rowsL p.first p.last := List.take_of_length_le (by rw [rowsL_len, HNR.out]; omega)
        rw [htk] at HLM
        clear htk
        go_wp2
        go_ret
        exact ⟨⟨_, L, rfl, own_low HOW.out HWA.out.size, by rw [HLM.out, HM.out]⟩, bel_trans HWA.out HBW.out⟩
end Go.Proofs.YtmhhbnnjilbdnaaGreatDoor.Sh
namespace Go.Proofs.YtmhhbnnjilbdnaaGreatDoor.Sh
open Go.RowKit Go.ChangeMaps En
set_option linter.unusedSimpArgs false
set_option linter.unusedVariables false
theorem map_any (p : Pl) (ve vb vh : Value) (held : List HeT) (loc : ByteArray) (w : World) (he : HasE intC w ve p.exits) (hb : HasE stC w vb p.bks) (hh : HasE heC w vh held) (hz : p.lets.size ≤ 200) (hx : p.exits.length ≤ 200) (hbk : p.bks.length ≤ 200) (hhl : held.length ≤ 1000) (hok : ∀ x ∈ held, okRow x.1.1) (hm : MaxCell w) (hp : PowTab w) :
    Calls Tryz.prog 15 #[planV p ve vb, vh, .string loc] w fun e w' => LinesE w.heap.size (mapL p held loc) e w' ∧ Below w.heap.size w w' := by
  cases hr : rightB p with
  | false => exact map_no p ve vb vh held loc w he hb (by omega) (by omega) (by omega) hr
  | true =>
    obtain ⟨l, hl, _⟩ := rightB_some hr
    exact map_yes p l ve vb vh held loc w he hb hh hz hx hbk hhl hok hm hp hr hl
end Go.Proofs.YtmhhbnnjilbdnaaGreatDoor.Sh
