/- The empty PNR is sound. Texts are written; codec.Pnr of the empty PNR. codec.Pnr of the empty PNR. told, long, awake. The law CodecRows. -/
import Derived.Test.YtofomopmmopflaaGreatDoorMA
import Derived.Test.YtofomopmmopflaaGreatDoorMB
import Derived.Test.YtofomopmmopflaaGreatDoorMC
import Derived.Test.YtofomopmmopflaaGreatDoorRows
import Derived.WalkKit
import Derived.WalkSpells
import Derived.WalkLawsBesides
import Derived.Lib.ConvBytes
import Derived.Lib.Hide
import Derived.Lib.SliceRun
import Derived.IntWalk
import Derived.BigQuiet
import Derived.Deep.QuietTactic
import Derived.Deep.RegionWith
import Derived.Deep.RegionHeld3
import Derived.Deep.LoopGhost
import Derived.Deep.CutRange
import Derived.Deep.CutBlock
import Derived.Deep.MidRow
import Derived.Laws.OwnMore
import Derived.OwnWalk
import Derived.Laws.AppendOwnNone
import Derived.Laws.Rows
import Derived.Laws.MakeOwn
import Derived.Laws.CopyOwn
import Derived.Laws.BitsAllLaws
import Derived.DeepKeys5
import Derived.Maps.OwnOps
import Derived.Handy
import Derived.Lib.AppendStr
import Derived.StillTailTactics
import Derived.Deep.AppendLies
namespace Go.Proofs.YtofomopmmopflaaGreatDoor
open Go.RowKit Go.ChangeMaps
set_option linter.unusedSimpArgs false
set_option linter.unusedVariables false
set_option maxRecDepth 20000

/-- The cells of the empty PNR. -/
def zeroC : List Value := [.string ⟨#[]⟩, .string ⟨#[]⟩, .slice none 0 0, .slice none 0 0, .slice none 0 0, .int .i64 0, .int .i64 0, .int .i64 0, .string ⟨#[]⟩, .slice none 0 0, .slice none 0 0, .bool false]

set_option maxHeartbeats 8000000 in
theorem segments_nil (w : World) : Calls Tryz.prog 50 #[.slice none 0 0] w fun e w' => e = .returned (.bool true) ∧ Below w.heap.size w w' := by
  go_enter Tryz.func50, Tryz.ntmps50
  have hmk : ∀ W, (Instr.makeMap 124 none).run Tryz.prog W = .ok (.map (some W.heap.size)) (W.alloc (.map #[] 0)) := fun W => run_makeMap _ W
  go_wp2
  refine wp_loop_rounds 1 ?_
  rw [rounds_succ]
  go_wp2
  go_ret
  exact ⟨rfl, (Below.refl _ _).alloc (Nat.le_refl _) _⟩

set_option maxHeartbeats 8000000 in
theorem texts_nil (n : Int) (w : World) (hn : ¬ n < 0) : Calls Tryz.prog 51 #[.slice none 0 0, .int .i64 n] w fun e w' => e = .returned (.bool true) ∧ w = w' := by
  go_enter Tryz.func51, Tryz.ntmps51
  go_wp2
  refine wp_loop_rounds 1 ?_
  rw [rounds_succ]
  go_wp2
  go_ret
  exact ⟨rfl, rfl⟩

set_option maxHeartbeats 8000000 in
theorem ticket_zero (w : World) : Calls Tryz.prog 53 #[.agg zeroC.toArray] w fun e w' => e = .returned (.bool true) ∧ Below w.heap.size w w' := by
  unfold zeroC
  go_enter Tryz.func53, Tryz.ntmps53
  go_wp2
  go_ret
  exact ⟨rfl, ((Below.refl _ _).alloc (Nat.le_refl _) _).alloc (by simp) _⟩

set_option maxHeartbeats 8000000 in
theorem seats_zero (w : World) : Calls Tryz.prog 54 #[.agg zeroC.toArray] w fun e w' => e = .returned (.bool true) ∧ Below w.heap.size w w' := by
  unfold zeroC
  go_enter Tryz.func54, Tryz.ntmps54
  have hmk : ∀ W, (Instr.makeMap 126 none).run Tryz.prog W = .ok (.map (some W.heap.size)) (W.alloc (.map #[] 0)) := fun W => run_makeMap _ W
  go_wp2
  refine wp_loop_rounds 1 ?_
  rw [rounds_succ]
  go_wp2
  go_ret
  exact ⟨rfl, (((Below.refl _ _).alloc (Nat.le_refl _) _).alloc (by simp) _).alloc (by simp; omega) _⟩
/-- A load whose guard holds. -/
theorem wpList_load_yes {P : Program} {w : World} {ops : Array Oper} {rest : List Oper} {op : Oper} {a : Act} {Q : Exit → Act → World → Prop} (ty : TypeId) (x : Operand) (ho : op.op = .load ty x) (hw : Region.wanted op (yielded ops a.tmps) = true)
    (p : Addr) (hx : a.eval x = .pointer (some p)) (v : Value) (hr : (loadVar ty p).run P w = .ok v w) (h : wpList P ops Q rest (a.put op.dst v) w) : wpList P ops Q (op :: rest) a w := by
  refine wpList_step fun K hK => ?_
  simp only [hw, if_true]
  unfold Oper.wp execOp
  simp only [ho, hx, Instr.loadAt, Instr.sureAddr, Sem.run_bind, Sem.run_pure, Result.andThen_ok, hr]
  exact hK _ _ h

theorem info_pnr : (Tryz.prog.info? 29).map (·.size) = some 12 := by kernel_rfl

theorem pnr_load {w : World} {g : Nat} {cs : List Value} (h : Blk w g 29 cs) (hl : cs.length = 12) : (loadVar 29 ⟨g, 0, none⟩).run Tryz.prog w = .ok (.agg cs.toArray) w :=
  run_loadVar_mid w g 0 29 cs _ h.range Tryz.underlying29 rfl (by rw [hl]; exact info_pnr)

set_option maxHeartbeats 8000000 in
theorem sound_zero (w : World) : Calls Tryz.prog 17 #[.agg zeroC.toArray] w fun e w' => e = .returned (.bool true) ∧ Below w.heap.size w w' := by
  have HSEG := Lib.hid segments_nil
  have HT4 := Lib.hid fun W => texts_nil 4 W (by decide)
  have HT10 := Lib.hid fun W => texts_nil 10 W (by decide)
  have HTI := Lib.hid ticket_zero
  have HSE := Lib.hid seats_zero
  have HB := Lib.hid (Blk.new w 29 zeroC)
  have HB0 : RowKit.Hid (Below w.heap.size w (w.alloc (.cells zeroC.toArray 29))) := Lib.hid ((Below.refl _ _).alloc (Nat.le_refl _) _)
  have HL : RowKit.Hid (∀ W, Blk W w.heap.size 29 zeroC → (loadVar 29 ⟨w.heap.size, 0, none⟩).run Tryz.prog W = .ok (.agg zeroC.toArray) W) := Lib.hid fun W h => pnr_load h rfl
  have HK : RowKit.Hid (∀ W, Blk W w.heap.size 29 zeroC → W.cell? ⟨w.heap.size, 4, none⟩ = some (.slice none 0 0) ∧ W.cell? ⟨w.heap.size, 9, none⟩ = some (.slice none 0 0) ∧ W.cell? ⟨w.heap.size, 8, none⟩ = some (.string ⟨#[]⟩)) := Lib.hid fun W h => ⟨(h.cell 4).trans rfl, (h.cell 9).trans rfl, (h.cell 8).trans rfl⟩
  unfold zeroC at *
  go_enter Tryz.func17, Tryz.ntmps17
  go_wp2
  refine wp_loop_rounds 1 ?_
  rw [rounds_succ]
  go_wp2_with (first
    | (go_at_call 50; (with_reducible refine (HSEG.out _).mono ?_); rintro e w2 ⟨rfl, hb2⟩; have hg2 := Lib.hid (HB.out.mono hb2); obtain ⟨k4, k7, k6⟩ := HK.out w2 hg2.out; have hl2 := HL.out w2 hg2.out)
    | (go_at_call 51; (with_reducible refine (HT4.out _).mono ?_); rintro e w3 ⟨rfl, rfl⟩)
    | (go_at_call 51; (with_reducible refine (HT10.out _).mono ?_); rintro e w4 ⟨rfl, rfl⟩)
    | (go_at_call 53; (with_reducible refine (HTI.out _).mono ?_); rintro e w5 ⟨rfl, hb5⟩; have hl5 := HL.out w5 (hg2.out.mono hb5))
    | (refine wpList_load_yes 29 (.tmp 1) rfl (by rfl) ⟨w.heap.size, 0, none⟩ rfl _ hl5 ?_)
    | (refine wpList_load_yes 29 (.tmp 1) rfl (by rfl) ⟨w.heap.size, 0, none⟩ rfl _ hl2 ?_)
    | (go_at_call 54; (with_reducible refine (HSE.out _).mono ?_); rintro e w6 ⟨rfl, hb6⟩))
  go_ret
  exact ⟨rfl, bel_trans (bel_trans (bel_trans HB0.out hb2) hb5) hb6⟩
end Go.Proofs.YtofomopmmopflaaGreatDoor
namespace Go.Proofs.YtofomopmmopflaaGreatDoor
open Go.RowKit Go.ChangeMaps
set_option linter.unusedSimpArgs false
set_option linter.unusedVariables false
set_option maxRecDepth 20000

theorem strCells_flat (s : ByteArray) : Lib.strCells s = (toL s).flatMap byteC := by
  rw [flat_byte]; rfl

/-- 'append(v, s...)' of a text. -/
theorem wpList_append_txt {w : World} {ops : Array Oper} {rest : List Oper} {o : Oper} {a : Act} {Q : Exit → Act → World → Prop} (hgd : o.guard = none) (x y : Operand)
    (ho : o.op = .call { callee := .builtin .append, args := #[x, y], argTypes := #[30, 9] })
    (base : Nat) (v : Value) (l : List UInt8) (s : ByteArray) (hs : a.eval x = v) (hown : OwnB w base v l) (hx : a.eval y = .string s)
    (hm : l.length + s.size ≤ 100000000) (hbase : base ≤ w.heap.size)
    (h : ∀ v' w', OwnB w' base v' (l ++ toL s) → Below base w w' → w.grownBy w' v.ownBlock → wpList Tryz.prog ops Q rest (a.put o.dst v') w') :
    wpList Tryz.prog ops Q (o :: rest) a w := by
  obtain ⟨i0, hi, hz, hsz, hby⟩ := byte_info
  refine Lib.wpList_append_own_string w hgd x y 30 9 ho base 5 i0 Tryz.underlying30 Tryz.underlying9 hi hz hsz hby v l.length (l.flatMap byteC) hs hown s hx (by unfold maxLen; omega) (by omega) hbase ?_
  intro v' w' hown' hg _
  have hb : Below base w w' := (Below.refl base w).grown hg hbase fun k hk => (World.ownsRow.lt hown k hk).1
  refine h v' w' ?_ hb hg
  unfold OwnB
  rw [List.flatMap_append, ← strCells_flat, List.length_append]
  exact hown'

theorem gr_then {a b c : World} {row row' : Option Nat} (h : a.grownBy b row) (k : b.grownBy c row') (hr : ∀ j, row' = some j → a.heap.size ≤ j) : a.grownBy c row :=
  ⟨k.os.trans h.os, k.tape.trans h.tape, k.output.trans h.output, Nat.le_trans h.size k.size, fun i hi hne =>
    (k.block i (Nat.lt_of_lt_of_le hi h.size) (fun e => by have := hr i e.symm; omega)).trans (h.block i hi hne)⟩

/-- What writing a text does. -/
theorem wtext_any (g : Nat) (v : Value) (bs : List UInt8) (s : ByteArray) (w : World) (hg : Blk w g 55 [v]) (hv : HasE byteC w v bs) (hl : bs.length + s.size ≤ 900000) :
    Calls Tryz.prog 18 #[.pointer (some ⟨g, 0, none⟩), .string s] w fun e w' => e = .returned (.tuple #[]) ∧ (∃ v', Blk w' g 55 [v'] ∧ OwnB w' w.heap.size v' (bs ++ varL s.size ++ toL s)) ∧ w.grownBy w' (some g) := by
  have HN : RowKit.Hid (Calls Tryz.prog 19 #[.pointer (some ⟨g, 0, none⟩), .int .i64 s.size] w fun e w' => e = .returned (.tuple #[]) ∧ (∃ v', Blk w' g 55 [v'] ∧ OwnB w' w.heap.size v' (bs ++ varL s.size)) ∧ w.grownBy w' (some g)) := Lib.hid (by
    have := wnum_any g v bs s.size w hg hv (by omega) (by omega) (by omega)
    rw [Int.toNat_natCast] at this
    exact this)
  have hvl : (varL s.size).length ≤ 10 := varL_len 9 _ (by omega)
  have hcl : (bs ++ varL s.size).length + s.size ≤ 100000000 := by rw [List.length_append]; omega
  have hgl := hg.lt
  clear hg hv hl hvl
  generalize bs ++ varL s.size = X at *
  have HAP : RowKit.Hid (∀ w1 w2 v1 v2 Y, Blk w1 g 55 [v1] → OwnB w1 w.heap.size v1 X → w1.grownBy w2 v1.ownBlock → OwnB w2 w.heap.size v2 Y → Blk w2 g 55 [v1] ∧ w2.frozen? ⟨g, 0, none⟩ = false ∧ w2.cell? ⟨g, 0, none⟩ = some v1 ∧ ∃ p2 n2 c2, v2 = .slice p2 n2 c2) := Lib.hid fun w1 w2 v1 v2 Y h1 h2 h3 h4 => by
    have h5 := h1.far h3 (by rcases own_ne h2 hgl with h | h; · rw [h]; exact fun e => by cases e
                             exact fun e => h e.symm)
    obtain ⟨p2, c2, e2⟩ := h4.has.len
    exact ⟨h5, h5.frozen 0, (h5.cell 0).trans rfl, p2, _, c2, e2⟩
  go_enter Tryz.func18, Tryz.ntmps18
  go_wp2_with (first
    | (go_at_call 19; (with_reducible refine HN.out.mono ?_); rintro e w1 ⟨rfl, ⟨v1, hg1, ho1⟩, hgr1⟩; have k1 := (hg1.cell 0).trans rfl; obtain ⟨p1, c1, rfl⟩ := ho1.has.len; generalize hX : X.length = nX at ho1 hg1 k1 hcl ⊢; have HO1 := Lib.hid ho1; clear ho1; have hs1 := hgr1.size)
    | (at_builtin; refine wpList_append_txt rfl _ _ rfl w.heap.size (.slice p1 nX c1) X s rfl HO1.out rfl (by rw [hX]; exact hcl) hs1 ?_; intro v2 w2 ho2 hb2 hgr2; obtain ⟨hg2, hfz, k2, p2, n2, c2, rfl⟩ := HAP.out w1 w2 _ _ _ hg1 HO1.out hgr2 ho2))
  go_returns
  refine ⟨rfl, ⟨_, hg2.set 0 _, World.ownsRow.kept ho2 (gr_setCell1 (World.grownBy.refl _ _) 0 _) (own_ne ho2 hgl)⟩, ?_⟩
  exact gr_setCell1 (gr_then hgr1 hgr2 fun j hj => (World.ownsRow.lt HO1.out j hj).1) 0 _
end Go.Proofs.YtofomopmmopflaaGreatDoor
namespace Go.Proofs.YtofomopmmopflaaGreatDoor
open Go.RowKit Go.ChangeMaps
set_option linter.unusedSimpArgs false
set_option linter.unusedVariables false
set_option maxRecDepth 20000

def zB (k : Nat) : List UInt8 := 80 :: List.replicate k 0
theorem zB_len (k : Nat) : (zB k).length = k + 1 := by simp [zB]
theorem zB_one (k : Nat) : zB k ++ [0] = zB (k + 1) := by
  unfold zB; rw [List.cons_append, ← List.replicate_succ']

/-- While the empty PNR is written: the writer at g, k zeros behind the first byte. -/
def ZW (w : World) (g k : Nat) (W : World) : Prop :=
  (∃ v, Blk W g 55 [v] ∧ OwnB W (w.heap.size + 1) v (zB k) ∧ v.ownBlock ≠ some g) ∧ Blk W w.heap.size 29 zeroC ∧ Below w.heap.size w W ∧ w.heap.size < g ∧ g < W.heap.size

theorem ZW.next {w W w' : World} {g k : Nat} {v' : Value} (h : ZW w g k W) (hg : Blk w' g 55 [v']) (ho : OwnB w' W.heap.size v' (zB (k + 1))) (hr : W.grownBy w' (some g)) : ZW w g (k + 1) w' := by
  obtain ⟨_, h2, h3, h4, h5⟩ := h
  have hne : v'.ownBlock ≠ some g := by
    rcases own_ne ho h5 with h | h
    · rw [h]; exact fun e => (by cases e)
    · exact h
  exact ⟨⟨v', hg, ho.low (by omega), hne⟩, h2.far hr (fun e => by injection e with e; omega), h3.grown hr h3.size (fun j hj => by injection hj with hj; omega), h4, Nat.lt_of_lt_of_le h5 hr.size⟩

theorem zw_num {w W : World} {g k : Nat} (h : ZW w g k W) (hk : k ≤ 20) : Calls Tryz.prog 19 #[.pointer (some ⟨g, 0, none⟩), .int .i64 0] W fun e w' => e = .returned (.tuple #[]) ∧ ZW w g (k + 1) w' := by
  obtain ⟨v, h1, h2, _⟩ := h.1
  refine (wnum_any g v (zB k) 0 W h1 h2.has (by rw [zB_len]; omega) (by omega) (by omega)).mono ?_
  rintro e w' ⟨rfl, ⟨v', h3, h4⟩, h5⟩
  refine ⟨rfl, h.next h3 ?_ h5⟩
  rw [← zB_one]
  rw [show Int.toNat 0 = 0 from rfl, varL_small (by decide : 0 < 128)] at h4
  exact h4

theorem zw_txt {w W : World} {g k : Nat} (h : ZW w g k W) (hk : k ≤ 20) : Calls Tryz.prog 18 #[.pointer (some ⟨g, 0, none⟩), .string ⟨#[]⟩] W fun e w' => e = .returned (.tuple #[]) ∧ ZW w g (k + 1) w' := by
  obtain ⟨v, h1, h2, _⟩ := h.1
  refine (wtext_any g v (zB k) ⟨#[]⟩ W h1 h2.has (by rw [zB_len]; show k + 1 + 0 ≤ _; omega)).mono ?_
  rintro e w' ⟨rfl, ⟨v', h3, h4⟩, h5⟩
  refine ⟨rfl, h.next h3 ?_ h5⟩
  rw [← zB_one]
  have e1 : zB k ++ varL (ByteArray.size ⟨#[]⟩) ++ toL ⟨#[]⟩ = zB k ++ [0] := by
    rw [show toL ⟨#[]⟩ = [] from rfl, List.append_nil, show ByteArray.size ⟨#[]⟩ = 0 from rfl, varL_small (by decide : 0 < 128)]
    rfl
  rw [e1] at h4
  exact h4

theorem ZW.cells {w W : World} {g k : Nat} (h : ZW w g k W) : W.cell? ⟨w.heap.size, 0, none⟩ = some (.string ⟨#[]⟩) ∧ W.cell? ⟨w.heap.size, 1, none⟩ = some (.string ⟨#[]⟩) ∧ W.cell? ⟨w.heap.size, 2, none⟩ = some (.slice none 0 0) ∧ W.cell? ⟨w.heap.size, 3, none⟩ = some (.slice none 0 0) ∧ W.cell? ⟨w.heap.size, 4, none⟩ = some (.slice none 0 0)
    ∧ W.cell? ⟨w.heap.size, 5, none⟩ = some (.int .i64 0) ∧ W.cell? ⟨w.heap.size, 8, none⟩ = some (.string ⟨#[]⟩) ∧ W.cell? ⟨w.heap.size, 9, none⟩ = some (.slice none 0 0) ∧ W.cell? ⟨w.heap.size, 10, none⟩ = some (.slice none 0 0) ∧ W.cell? ⟨w.heap.size, 11, none⟩ = some (.bool false) :=
  ⟨(h.2.1.cell 0).trans rfl, (h.2.1.cell 1).trans rfl, (h.2.1.cell 2).trans rfl, (h.2.1.cell 3).trans rfl, (h.2.1.cell 4).trans rfl, (h.2.1.cell 5).trans rfl, (h.2.1.cell 8).trans rfl, (h.2.1.cell 9).trans rfl, (h.2.1.cell 10).trans rfl, (h.2.1.cell 11).trans rfl⟩

theorem bit_any (b : Bool) (w : World) : Calls Tryz.prog 20 #[.bool b] w fun e w' => e = .returned (.int .i64 (if b then 1 else 0)) ∧ w = w' := by
  cases b <;> (
    go_enter Tryz.func20, Tryz.ntmps20
    go_wp2
    go_ret
    exact ⟨rfl, rfl⟩)

theorem zw_start (w w2 : World) (hb : Below w.heap.size w w2) (hp : Blk w2 w.heap.size 29 zeroC) :
    ZW w (w2.heap.size + 1) 0 ((w2.alloc (.cells #[.int .u8 80] 5)).alloc (.cells #[.slice (some ⟨w2.heap.size, 0, none⟩) 1 1] 55)) := by
  have hz : (w2.alloc (.cells #[.int .u8 80] 5)).heap.size = w2.heap.size + 1 := by simp
  have hlt := hp.lt
  have h1 : OwnB (w2.alloc (.cells #[.int .u8 80] 5)) w2.heap.size (.slice (some ⟨w2.heap.size, 0, none⟩) 1 1) [80] := World.ownsRow_lit (size := 1) w2 #[.int .u8 80] 1 (Nat.le_refl _) (by decide) rfl
  have h2 := Blk.new (w2.alloc (.cells #[.int .u8 80] 5)) 55 [.slice (some ⟨w2.heap.size, 0, none⟩) 1 1]
  rw [hz] at h2
  refine ⟨⟨_, h2, (OwnB.mono h1 ((Below.refl _ _).alloc (Nat.le_refl _) _)).low (by omega), ?_⟩, (hp.alloc _).alloc _, (hb.alloc hb.size _).alloc (by rw [hz]; have := hb.size; omega) _, by omega, by simp⟩
  intro e
  have e2 : some w2.heap.size = some (w2.heap.size + 1) := e
  injection e2 with e2
  omega

set_option maxHeartbeats 16000000 in
theorem pnr_zero (w : World) : Calls Tryz.prog 8 #[.agg zeroC.toArray] w fun e w' => byP w.heap.size (some (zB 9)) e w' ∧ Below w.heap.size w w' := by
  have HSO := Lib.hid sound_zero
  have HB := Lib.hid (Blk.new w 29 zeroC)
  have HB0 : RowKit.Hid (Below w.heap.size w (w.alloc (.cells zeroC.toArray 29))) := Lib.hid ((Below.refl _ _).alloc (Nat.le_refl _) _)
  have HL := Lib.hid (pnr_load HB.out rfl)
  have HNUM : RowKit.Hid (∀ g W k, ZW w g k W → k ≤ 20 → Calls Tryz.prog 19 #[.pointer (some ⟨g, 0, none⟩), .int .i64 0] W fun e w' => e = .returned (.tuple #[]) ∧ ZW w g (k + 1) w') := Lib.hid fun g W k h hk => zw_num h hk
  have HTXT : RowKit.Hid (∀ g W k, ZW w g k W → k ≤ 20 → Calls Tryz.prog 18 #[.pointer (some ⟨g, 0, none⟩), .string ⟨#[]⟩] W fun e w' => e = .returned (.tuple #[]) ∧ ZW w g (k + 1) w') := Lib.hid fun g W k h hk => zw_txt h hk
  unfold zeroC at HSO HB HB0 HL ⊢
  go_enter Tryz.func8, Tryz.ntmps8
  go_upto_region 4 with (first
    | (refine wpList_load_yes 29 (.tmp 1) rfl (by rfl) ⟨w.heap.size, 0, none⟩ rfl _ HL.out ?_)
    | (go_at_call 17; (with_reducible refine (HSO.out _).mono ?_); rintro e w2 ⟨rfl, hb2⟩))
  have hz0 := zw_start w w2 (bel_trans HB0.out hb2) (HB.out.mono hb2)
  obtain ⟨c0, c1, c2, c3, c4, c5, c8, c9, c10, c11⟩ := hz0.cells
  have HZ0 := Lib.hid hz0
  clear HB HB0 HL hb2 hz0
  generalize hg : w2.heap.size + 1 = g at *
  generalize (w2.alloc (.cells #[.int .u8 80] 5)).alloc (.cells #[.slice (some ⟨w2.heap.size, 0, none⟩) 1 1] 55) = W0 at *
  clear hg
  go_wp2_with (first
    | (go_at_call 18; (with_reducible refine (HTXT.out g W0 0 HZ0.out (by decide)).mono ?_); rintro e W1 ⟨rfl, hz1⟩; clear c0 c1 c2 c3 c4 c5 c8 c9 c10 c11; obtain ⟨c0, c1, c2, c3, c4, c5, c8, c9, c10, c11⟩ := hz1.cells; have HZ1 := Lib.hid hz1; clear hz1)
    | (go_at_call 18; (with_reducible refine (HTXT.out g W1 1 HZ1.out (by decide)).mono ?_); rintro e W2 ⟨rfl, hz2⟩; clear c0 c1 c2 c3 c4 c5 c8 c9 c10 c11; obtain ⟨c0, c1, c2, c3, c4, c5, c8, c9, c10, c11⟩ := hz2.cells; have HZ2 := Lib.hid hz2; clear hz2)
    | (go_at_call 19; (with_reducible refine (HNUM.out g W2 2 HZ2.out (by decide)).mono ?_); rintro e W3 ⟨rfl, hz3⟩; clear c0 c1 c2 c3 c4 c5 c8 c9 c10 c11; obtain ⟨c0, c1, c2, c3, c4, c5, c8, c9, c10, c11⟩ := hz3.cells; have HZ3 := Lib.hid hz3; clear hz3))
  refine wp_loop_rounds 1 ?_
  rw [rounds_succ]
  go_wp2_with (first
    | (go_at_call 19; (with_reducible refine (HNUM.out g W3 3 HZ3.out (by decide)).mono ?_); rintro e W4 ⟨rfl, hz4⟩; clear c0 c1 c2 c3 c4 c5 c8 c9 c10 c11; obtain ⟨c0, c1, c2, c3, c4, c5, c8, c9, c10, c11⟩ := hz4.cells; have HZ4 := Lib.hid hz4; clear hz4))
  refine wp_loop_rounds 1 ?_
  rw [rounds_succ]
  go_wp2_with (first
    | (go_at_call 19; (with_reducible refine (HNUM.out g W4 4 HZ4.out (by decide)).mono ?_); rintro e W5 ⟨rfl, hz5⟩; clear c0 c1 c2 c3 c4 c5 c8 c9 c10 c11; obtain ⟨c0, c1, c2, c3, c4, c5, c8, c9, c10, c11⟩ := hz5.cells; have HZ5 := Lib.hid hz5; clear hz5))
  refine wp_loop_rounds 1 ?_
  rw [rounds_succ]
  go_wp2
  obtain ⟨⟨v5, hw5, ho5, hne5⟩, hp5, hb5, hgl5, hlt5⟩ := HZ5.out
  have d0 := (hw5.cell 0).trans rfl
  have HBIT := Lib.hid (bit_any false)
  obtain ⟨i0, hi0, hz0, hsz0, hby0⟩ := byte_info
  have HW5 := Lib.hid hw5
  have HO5 := Lib.hid ho5
  have hz5l : (zB 5).length = 6 := rfl
  have HST : RowKit.Hid (∀ w4 v4, OwnB w4 (w.heap.size + 1) v4 (zB 5 ++ [0]) → v4.ownBlock ≠ some g → (W5.alloc (.cells #[.int .u8 0] 5)).drew.grownBy w4 v5.ownBlock → ZW w g 6 (w4.setCell ⟨g, 0, none⟩ v4)) := Lib.hid fun w4 v4 h1 h2 h3 => by
    have e1 : (W5.alloc (.cells #[.int .u8 0] 5)).drew.heap.size = W5.heap.size + 1 := by simp
    have hpp : Blk w4 w.heap.size 29 zeroC := Blk.far (w := (W5.alloc (.cells #[.int .u8 0] 5)).drew) (hp5.alloc _) h3 fun e => by have := (World.ownsRow.lt ho5 _ e.symm).1; omega
    have hgg : Blk w4 g 55 [v5] := Blk.far (w := (W5.alloc (.cells #[.int .u8 0] 5)).drew) (hw5.alloc _) h3 fun e => hne5 e.symm
    have hbb : Below w.heap.size w w4 := (Below.drew (hb5.alloc hb5.size _)).grown h3 (by rw [e1]; have := hb5.size; omega) fun k hk => by have := (World.ownsRow.lt ho5 k hk).1; omega
    have hsz := h3.size
    refine ⟨⟨v4, hgg.set 0 v4, World.ownsRow.kept h1 (gr_setCell1 (World.grownBy.refl _ _) 0 v4) (.inr h2), h2⟩, hpp.far (gr_setCell1 (World.grownBy.refl _ _) 0 v4) (fun e => by injection e with e; omega), hbb.setCell (p := ⟨g, 0, none⟩) (by show w.heap.size ≤ g; omega) v4, hgl5, ?_⟩
    have e2 : (w4.setCell ⟨g, 0, none⟩ v4).heap.size = w4.heap.size := by simp [World.setCell]
    omega
  have HAP : RowKit.Hid (∀ w4, (W5.alloc (.cells #[.int .u8 0] 5)).drew.grownBy w4 v5.ownBlock → w4.frozen? ⟨g, 0, none⟩ = false ∧ w4.cell? ⟨g, 0, none⟩ = some v5) := Lib.hid fun w4 h3 => by
    have hgg : Blk w4 g 55 [v5] := Blk.far (w := (W5.alloc (.cells #[.int .u8 0] 5)).drew) (hw5.alloc _) h3 fun e => hne5 e.symm
    exact ⟨hgg.frozen 0, (hgg.cell 0).trans rfl⟩
  have HNE : RowKit.Hid (∀ gg n c, v5.ownBlock = some gg ∨ gg = W5.heap.size + 1 → (Value.slice (some ⟨gg, 0, none⟩) n c).ownBlock ≠ some g) := Lib.hid fun gg n c h e => by
    have e2 : some gg = some g := e
    injection e2 with e2
    subst e2
    rcases h with h | h
    · exact hne5 h
    · omega
  clear ho5 hw5 hne5 hp5 hb5 hgl5
  have hbsz : (W5.alloc (.cells #[.int .u8 0] 5)).heap.size = W5.heap.size + 1 := by simp
  have hbase : w.heap.size + 1 ≤ (W5.alloc (.cells #[.int .u8 0] 5)).heap.size := by rw [hbsz]; have := HZ5.out.2.2.2.1; omega
  have hw64 : IntKind.i64.wrap 0 = 0 := by decide
  have hbo : bits .or .i64 0 0 = 0 := by decide
  have hw8 : IntKind.u8.wrap 0 = 0 := by decide
  go_cut [] from 120 to 137 (fun wx => ZW w g 6 wx)
  case first =>
    go_region_law (first
      | (go_simp; go_at_call 20; refine (HBIT.out _).mono ?_; rintro e w9 ⟨rfl, rfl⟩)
      | (refine step_append_lies _ (by rfl) _ _ _ (by rfl) (w.heap.size + 1) 5 i0 _ 1 1 Tryz.underlying30 hi0 hz0 hsz0 hby0 rfl (by decide) v5 6 ((zB 5).flatMap byteC) (by rfl) (World.ownsRow.alloc HO5.out _) ⟨W5.heap.size, 0, none⟩ 1 1 [.int .u8 0] (by rfl) (by rfl) (World.news_of_block (cs := #[.int .u8 0]) (t := 5) (fr := (0, 0)) (heap_alloc_new W5 _)) (byteC_one 0) (by decide) (by decide) (by decide) hbase (W5.heap.size + 1) hbsz ?_
         intro gg cap w4 hown1 hgrow hat hlt
         obtain ⟨hf, hk⟩ := HAP.out w4 hgrow))
    all_goals (
      go_wp2
      go_meet
      exact HST.out w4 _ hown1 (HNE.out _ _ _ hat) hgrow)
  case rest =>
    clear HST HAP HNE hbsz hbase hw64 hbo hw8 d0 hz5l HBIT hlt5 HW5 HO5 c0 c1 c2 c3 c4 c5 c8 c9 c10 c11
    obtain ⟨c0, c1, c2, c3, c4, c5, c8, c9, c10, c11⟩ := hcut.cells
    have HZ6 := Lib.hid hcut
    clear hcut
    rename World => W6
    go_wp2_with (first
      | (go_at_call 18; (with_reducible refine (HTXT.out g W6 6 HZ6.out (by decide)).mono ?_); rintro e W7 ⟨rfl, hz7⟩; clear c0 c1 c2 c3 c4 c5 c8 c9 c10 c11; obtain ⟨c0, c1, c2, c3, c4, c5, c8, c9, c10, c11⟩ := hz7.cells; have HZ7 := Lib.hid hz7; clear hz7)
      | (go_at_call 19; (with_reducible refine (HNUM.out g W7 7 HZ7.out (by decide)).mono ?_); rintro e W8 ⟨rfl, hz8⟩; clear c0 c1 c2 c3 c4 c5 c8 c9 c10 c11; obtain ⟨c0, c1, c2, c3, c4, c5, c8, c9, c10, c11⟩ := hz8.cells; have HZ8 := Lib.hid hz8; clear hz8))
    refine wp_loop_rounds 1 ?_
    rw [rounds_succ]
    go_wp2_with (first
      | (go_at_call 19; (with_reducible refine (HNUM.out g W8 8 HZ8.out (by decide)).mono ?_); rintro e W9 ⟨rfl, hz9⟩; clear c0 c1 c2 c3 c4 c5 c8 c9 c10 c11; obtain ⟨c0, c1, c2, c3, c4, c5, c8, c9, c10, c11⟩ := hz9.cells; have HZ9 := Lib.hid hz9; clear hz9))
    obtain ⟨⟨v9, hw9, ho9, _⟩, _, hb9, hlt9, _⟩ := HZ9.out
    have d9 := (hw9.cell 0).trans rfl
    obtain ⟨p9, q9, rfl⟩ := ho9.has.len
    refine wp_loop_rounds 1 ?_
    rw [rounds_succ]
    go_wp2
    go_ret2
    exact ⟨.inl ⟨_, _, rfl, rfl, ho9.low (by omega)⟩, hb9⟩
end Go.Proofs.YtofomopmmopflaaGreatDoor
namespace Go.Proofs.YtofomopmmopflaaGreatDoor
open Go.RowKit Go.ChangeMaps
set_option linter.unusedSimpArgs false
set_option linter.unusedVariables false
set_option maxRecDepth 20000

theorem told_yes (v : Value) (bs : List UInt8) (w : World) (hv : HasE byteC w v bs) :
    Calls Tryz.prog 10 #[v, .int .i64 0, .string (strA bs), .bool true] w fun e w' => e = .returned (.bool true) ∧ w = w' := by
  have hc := conv_has hv
  unfold strA
  clear hv
  go_enter Tryz.func10, Tryz.ntmps10
  go_wp2
  go_ret
  exact ⟨rfl, rfl⟩

theorem told_no (t : ByteArray) (w : World) :
    Calls Tryz.prog 10 #[.slice none 0 0, .int .i64 4, .string t, .bool false] w fun e w' => e = .returned (.bool true) ∧ w = w' := by
  go_enter Tryz.func10, Tryz.ntmps10
  go_wp2
  go_ret
  exact ⟨rfl, rfl⟩

theorem long_any (p : Option Addr) (n c : Nat) (w : World) :
    Calls Tryz.prog 6 #[.slice p n c] w fun e w' => e = .returned (.bool (decide (20000 < n))) ∧ w = w' := by
  by_cases h : 20000 < n
  · have hi : (20000 : Int) < (n : Int) := by omega
    have hd := Lib.hid (decide_eq_true h)
    clear h
    go_enter Tryz.func6, Tryz.ntmps6
    go_wp2
    go_ret
    exact ⟨ret_bool hd.out.symm, rfl⟩
  · have hi : ¬ (20000 : Int) < (n : Int) := by omega
    have hd := Lib.hid (decide_eq_false h)
    clear h
    go_enter Tryz.func6, Tryz.ntmps6
    go_wp2
    go_ret
    exact ⟨ret_bool hd.out.symm, rfl⟩

def lq : List ByteArray := [⟨#[73, 73, 68, 73, 83, 77]⟩, ⟨#[83, 83, 72, 78, 67, 78]⟩]
theorem lq_has (w : World) : HasL (w.alloc (.cells #[.string ⟨#[73, 73, 68, 73, 83, 77]⟩, .string ⟨#[83, 83, 72, 78, 67, 78]⟩] 9)) (.slice (some ⟨w.heap.size, 0, none⟩) 2 2) lq := by
  refine .inr ⟨w.heap.size, 0, 2, rfl, Nat.le_refl _, by decide, fun j hj => ?_⟩
  match j, hj with
  | 0, _ => simp [lq]
  | 1, _ => simp [lq]

theorem lq_queue : queueB lq = some [81, 2, 0, 0, 0, 0, 0, 0, 0, 1] := awake_queue
theorem lq_read {l : List ByteArray} (h : readQ [81, 2, 0, 0, 0, 0, 0, 0, 0, 1] = some (l.map toL)) : l = lq := by
  rw [awake_read] at h
  injection h with h
  have h2 : lq.map toL = l.map toL := h
  exact (List.map_inj_right (fun a b e => toL_inj e)).1 h2.symm

set_option maxHeartbeats 16000000 in
theorem awake_any (w : World) : Calls Tryz.prog 4 #[] w fun e w' => e = .returned (.bool true) ∧ Below w.heap.size w w' := by
  have HQ : RowKit.Hid (Calls Tryz.prog 14 #[.slice (some ⟨w.heap.size, 0, none⟩) 2 2] (w.alloc (.cells #[.string ⟨#[73, 73, 68, 73, 83, 77]⟩, .string ⟨#[83, 83, 72, 78, 67, 78]⟩] 9)) fun e w' => ∃ v, e = .returned (.tuple #[v, .int .i64 0]) ∧ OwnB w' w.heap.size v [81, 2, 0, 0, 0, 0, 0, 0, 0, 1] ∧ Below w.heap.size w w') := Lib.hid (by
    refine (queue_any _ lq _ (lq_has w) (by intro s hs; simp [lq] at hs; rcases hs with rfl | rfl <;> decide)).mono ?_
    rintro e w' ⟨h1, h2⟩
    have hb : Below w.heap.size w w' := bel_trans ((Below.refl _ _).alloc (Nat.le_refl _) _) h2
    rw [lq_queue] at h1
    rcases h1 with ⟨bs, v, e1, rfl, h3⟩ | ⟨e1, _⟩
    · injection e1 with e1
      subst e1
      exact ⟨v, rfl, h3.low (by simp), hb⟩
    · cases e1)
  have HC : RowKit.Hid (∀ W, Calls Tryz.prog 15 #[.agg #[.int .i64 300, .int .i64 5]] W fun e w' => ∃ v, e = .returned (.tuple #[v, .int .i64 0]) ∧ HasE byteC w' v [67, 172, 2, 5] ∧ Below W.heap.size W w') := Lib.hid fun W => by
    refine (ofCount_any 300 5 W).mono ?_
    rintro e w' ⟨h1, h2⟩
    rw [awake_count] at h1
    rcases h1 with ⟨bs, v, e1, rfl, h3⟩ | ⟨e1, _⟩
    · injection e1 with e1
      subst e1
      exact ⟨v, rfl, h3.has, h2⟩
    · cases e1
  have HP : RowKit.Hid (∀ W, Calls Tryz.prog 8 #[.agg #[.string ⟨#[]⟩, .string ⟨#[]⟩, .slice none 0 0, .slice none 0 0, .slice none 0 0, .int .i64 0, .int .i64 0, .int .i64 0, .string ⟨#[]⟩, .slice none 0 0, .slice none 0 0, .bool false]] W fun e w' => ∃ v, e = .returned (.tuple #[v, .int .i64 0]) ∧ HasE byteC w' v (zB 9) ∧ Below W.heap.size W w') := Lib.hid fun W => by
    refine (pnr_zero W).mono ?_
    rintro e w' ⟨h1, h2⟩
    rcases h1 with ⟨bs, v, e1, rfl, h3⟩ | ⟨e1, _⟩
    · injection e1 with e1
      subst e1
      exact ⟨v, rfl, h3.has, h2⟩
    · cases e1
  have HR : RowKit.Hid (∀ W v, HasE byteC W v [81, 2, 0, 0, 0, 0, 0, 0, 0, 1] → Calls Tryz.prog 16 #[v] W fun e w' => ∃ v, e = .returned (.tuple #[v, .int .i64 0]) ∧ HasL w' v lq ∧ Below W.heap.size W w') := Lib.hid fun W v h => by
    refine (readQueue_any v _ W h (by decide)).mono ?_
    rintro e w' ⟨h1, h2⟩
    rcases h1 with ⟨l, v, e1, rfl, h3⟩ | ⟨e1, _⟩
    · have := lq_read e1
      subst this
      exact ⟨v, rfl, h3.has, h2⟩
    · rw [awake_read] at e1
      cases e1
  go_enter Tryz.func4, Tryz.ntmps4
  go_upto_region 5 with (first
    | (go_at_call 14; (with_reducible refine HQ.out.mono ?_); rintro e w1 ⟨v1, rfl, ho1, hb1⟩)
    | (go_at_call 15; (with_reducible refine (HC.out _).mono ?_); rintro e w2 ⟨v2, rfl, ho2, hb2⟩)
    | (go_at_call 8; (with_reducible refine (HP.out _).mono ?_); rintro e w3 ⟨v3, rfl, ho3, hb3⟩)
    | (go_at_call 16; (with_reducible refine (HR.out _ _ ((ho1.has.mono hb2).mono hb3)).mono ?_); rintro e w4 ⟨v4, rfl, ho4, hb4⟩))
  have hb : Below w.heap.size w w4 := bel_trans (bel_trans (bel_trans hb1 hb2) hb3) hb4
  have c1 := conv_has (((ho1.has.mono hb2).mono hb3).mono hb4)
  have c2 := conv_has ((ho2.mono hb3).mono hb4)
  have h3 := ho3.mono hb4
  obtain ⟨p3, q3, rfl⟩ := h3.len
  obtain ⟨g3, o3, rfl, k3⟩ := byte_at h3 (i := 0) (by decide)
  obtain ⟨p4, q4, rfl⟩ := own_len ho4
  obtain ⟨g4, o4, rfl, k4⟩ := str_at ho4 (i := 1) (by decide)
  clear HQ HC HP HR ho1 ho2 ho3 ho4 hb1 hb2 hb3 hb4 h3
  have k3b : w4.cell? ⟨g3, o3, none⟩ = some (.int .u8 80) := k3
  have k4b : w4.cell? ⟨g4, o4 + 1, none⟩ = some (.string ⟨#[83, 83, 72, 78, 67, 78]⟩) := k4
  clear k3 k4
  have e3 : (zB 9).length = 10 := by rw [zB_len]
  have e4 : lq.length = 2 := rfl
  rw [e3, e4]
  go_wp2
  go_ret
  exact ⟨rfl, hb⟩
end Go.Proofs.YtofomopmmopflaaGreatDoor
namespace Go.Proofs.YtofomopmmopflaaGreatDoor
open Go.RowKit Go.ChangeMaps
set_option linter.unusedSimpArgs false
set_option linter.unusedVariables false
set_option maxRecDepth 20000

def strE (s : ByteArray) : List Value := [.string s]
theorem strE_one (s : ByteArray) : ∀ v ∈ strE s, v.oneCell' = true := by
  intro v hv
  simp [strE] at hv
  subst hv
  rfl
theorem flat_strE : ∀ (l : List ByteArray), l.flatMap strE = strV l
  | [] => rfl
  | s :: l => by rw [List.flatMap_cons, flat_strE l]; rfl

/-- Texts that came in. -/
def Texts (w : World) (v : Value) (l : List ByteArray) : Prop := HasL w v l ∧ l.length ≤ maxLen ∧ ∀ s ∈ l, s.size ≤ maxLen
/-- Bytes that came in. -/
def Bytes (w : World) (v : Value) (b : List UInt8) : Prop := HasE byteC w v b

theorem toldB {o : Option (List UInt8)} {B : Nat} {e1 e2 : Ending} {w1 : World} (h1 : byP B o e1 w1) (h2 : stP o e2)  :
    ∃ (v : Value) (z : Int) (t : ByteArray) (b : Bool), e1 = .returned (.tuple #[v, .int .i64 z]) ∧ e2 = .returned (.tuple #[.string t, .bool b]) ∧ ∀ W, Below w1.heap.size w1 W → Calls Tryz.prog 10 #[v, .int .i64 z, .string t, .bool b] W fun e w' => e = .returned (.bool true) ∧ W = w' := by
  rcases h1 with ⟨bs, v, ho, rfl, hv⟩ | ⟨ho, rfl⟩
  · rcases h2 with ⟨bs2, ho2, rfl⟩ | ⟨ho2, rfl⟩
    · rw [ho] at ho2
      injection ho2 with ho2
      subst ho2
      exact ⟨_, _, _, _, rfl, rfl, fun W hW => told_yes v bs W (hv.has.mono hW)⟩
    · rw [ho] at ho2; cases ho2
  · rcases h2 with ⟨bs2, ho2, rfl⟩ | ⟨ho2, rfl⟩
    · rw [ho] at ho2; cases ho2
    · exact ⟨_, _, _, _, rfl, rfl, fun W _ => told_no _ W⟩
end Go.Proofs.YtofomopmmopflaaGreatDoor
