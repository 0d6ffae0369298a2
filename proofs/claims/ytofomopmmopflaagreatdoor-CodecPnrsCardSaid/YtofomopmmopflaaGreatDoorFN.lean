/- codec.ReadLeg: its state. -/
import Derived.Test.YtofomopmmopflaaGreatDoorMA
import Derived.Test.YtofomopmmopflaaGreatDoorMB
import Derived.Test.YtofomopmmopflaaGreatDoorMC
import Derived.Test.YtofomopmmopflaaGreatDoorMD
import Derived.Test.YtofomopmmopflaaGreatDoorME
import Derived.Test.YtofomopmmopflaaGreatDoorRows
import Derived.WalkKit
import Derived.WalkSpells
import Derived.WalkLawsBesides
import Derived.Lib.ConvBytes
import Derived.Lib.Hide
import Derived.Lib.SliceRun
import Derived.IntWalk
import Derived.BigQuiet
import Derived.Deep.QuietTactic
import Derived.Deep.RegionWith
import Derived.Deep.RegionHeld3
import Derived.Deep.LoopGhost
import Derived.Deep.CutRange
import Derived.Deep.CutBlock
import Derived.Deep.MidRow
import Derived.Laws.OwnMore
import Derived.OwnWalk
import Derived.Laws.AppendOwnNone
import Derived.Laws.Rows
import Derived.Laws.MakeOwn
import Derived.Laws.CopyOwn
import Derived.Laws.BitsAllLaws
import Derived.DeepKeys5
import Derived.Maps.OwnOps
import Derived.Handy
import Derived.Lib.AppendStr
import Derived.StillTailTactics
import Derived.Deep.AppendLies
namespace Go.Proofs.YtofomopmmopflaaGreatDoor
open Go.RowKit Go.ChangeMaps
set_option linter.unusedSimpArgs false
set_option linter.unusedVariables false
set_option maxRecDepth 20000

/-- A part of a row is stored. -/
theorem wpList_store_part {P : Program} {w : World} {ops : Array Oper} {rest : List Oper} {op : Oper} {a : Act} {Q : Exit → Act → World → Prop} (hgd : op.guard = none) (ty : TypeId) (x y : Operand) (ho : op.op = .store ty x y)
    (b o : Nat) (T : TypeId) (l0 l : List Value) (hx : a.eval x = .pointer (some ⟨b, o, none⟩)) (hy : a.eval y = .agg l.toArray)
    (ha : Blk w b T l0) (hl : o + l.length ≤ l0.length) (hi : (P.info? ty).map (·.size) = some l.length) (h1 : ∀ v ∈ l, v.oneCell' = true)
    (h : ∀ w', Blk w' b T (overV l0 o l) → Below b w w' → w.grownBy w' (some b) → wpList P ops Q rest (a.put op.dst undef) w') : wpList P ops Q (op :: rest) a w := by
  have e1 : l.toArray.size = l.length := by simp
  refine wpList_store_mid hgd ty x y ho b o l.toArray hx hy (by rw [e1]; exact ha.there o _ hl) (by rw [e1]; exact hi) (all_oneCell_toArray h1) (h _ ?_ ?_ ?_)
  · exact Blk.over l l0 o w ha
  · exact bel_setCells (Nat.le_refl _) _ _ _ (Below.refl _ _)
  · exact gr_setCells1 _ _ _ (gr_of_below (Below.refl _ _) _)

/-- 'append(v, u)' of one element of several cells, which was laid in a new block right ahead. -/
theorem wpList_pushC {P : Program} {wr : World} {ops : Array Oper} {rest : List Oper} {o : Oper} {a : Act} {Q : Exit → Act → World → Prop} (hgd : o.guard = none) (s x : Operand) (t : TypeId)
    (ho : o.op = .call { callee := .builtin .append, args := #[s, x], argTypes := #[t, t] })
    (base : Nat) (e : TypeId) (i : TypeInfo) (z : Value) (st bytes : Nat) (ht : P.underlying t = some (.slice e)) (hi : P.info? e = some i) (hz : i.zero = some z)
    (hsize : i.size = st) (hby : i.bytes = bytes) (hzs : z.cells.size = st) (hst : 0 < st)
    (v : Value) (n : Nat) (xs : List Value) (hs : a.eval s = v) (hown : wr.ownsRow base e st v n xs) (us : List Value) (hus : us.length = st) (hx : a.eval x = .slice (some ⟨wr.heap.size, 0, none⟩) 1 1) (h1 : ∀ u ∈ us, u.oneCell' = true)
    (hm : n + 1 ≤ maxLen) (hbytes : (n + 1) * bytes ≤ 140737488355328) (hbase : base ≤ wr.heap.size)
    (h : ∀ v' w', w'.ownsRow base e st v' (n + 1) (xs ++ us) → Below base wr w' → (wr.alloc (.cells us.toArray e)).grownBy w' v.ownBlock → wpList P ops Q rest (a.put o.dst v') w') :
    wpList P ops Q (o :: rest) a (wr.alloc (.cells us.toArray e)) := by
  refine wpList_append_own _ hgd s x t ho base e i z st bytes ht hi hz hsize hby hzs hst v n xs hs (hown.alloc _) ⟨wr.heap.size, 0, none⟩ 1 1 us hx (by rw [hus, Nat.one_mul]) ?_ h1 hm hbytes (by simp; omega) ?_
  · intro j y hj
    have := (Blk.new wr e us).cell j
    simp only [Addr.add_lit]
    rw [show (0 : Nat) + j = j by omega, this, hj]
  · intro v' w' hown' hg _
    refine h v' w' hown' ?_ hg
    refine ((Below.refl base wr).alloc hbase (.cells us.toArray e)).grown hg (by simp; omega) fun k hk => ?_
    exact (hown.lt k hk).1

/-- What a row does that is far from what is written. -/
theorem Blk.farD {W w4 : World} {o : Obj} {row : Option Nat} {b : Nat} {T : TypeId} {cs : List Value} (h : Blk W b T cs) (hg : (W.alloc o).drew.grownBy w4 row) (hne : row ≠ some b) : Blk w4 b T cs :=
  Blk.far (w := (W.alloc o).drew) (h.alloc _) hg fun e => hne e.symm
theorem Blk.farA {W w4 : World} {o : Obj} {row : Option Nat} {b : Nat} {T : TypeId} {cs : List Value} (h : Blk W b T cs) (hg : (W.alloc o).grownBy w4 row) (hne : row ≠ some b) : Blk w4 b T cs :=
  Blk.far (w := (W.alloc o)) (h.alloc _) hg fun e => hne e.symm

theorem RS.farD {w0 W w4 : World} {o : Obj} {row : Option Nat} {g : Nat} {l : List UInt8} {bad : Bool} (h : RS w0 W g l bad) (hg : (W.alloc o).drew.grownBy w4 row) (hne : row ≠ some g) (hr : ∀ k, row = some k → w0.heap.size ≤ k) : RS w0 w4 g l bad :=
  (h.mono (((Below.refl _ _).alloc (Nat.le_refl _) o).drew)).kept hg (fun e => hne e.symm) hr
theorem RS.farA {w0 W w4 : World} {o : Obj} {row : Option Nat} {g : Nat} {l : List UInt8} {bad : Bool} (h : RS w0 W g l bad) (hg : (W.alloc o).grownBy w4 row) (hne : row ≠ some g) (hr : ∀ k, row = some k → w0.heap.size ≤ k) : RS w0 w4 g l bad :=
  (h.mono (((Below.refl _ _).alloc (Nat.le_refl _) o))).kept hg (fun e => hne e.symm) hr

section
variable {two : Bool} {w W W' : World} {g gl B : Nat} {r r' : List UInt8} {bad b2 : Bool}

theorem gr_cell {w w' : World} {g b off : Nat} {u : Value} (hg : w.grownBy w' (some g)) (h : w.cell? ⟨b, off, none⟩ = some u) (hb : b ≠ g) : w'.cell? ⟨b, off, none⟩ = some u := by
  have hlt := World.block_lt_of_cell? w _ h
  have := hg.block b hlt (fun e => hb (by injection e))
  rw [← h]
  simp only [World.cell?, this]

theorem RS.byte_ne {w0 W : World} {bb off : Nat} {z : Int} (h : RS w0 W g r bad) (hx : W.cell? ⟨bb, off, none⟩ = some (.int .u8 z)) : bb ≠ g := by
  rintro rfl
  obtain ⟨_, ⟨v, h1, h2⟩, _⟩ := h
  obtain ⟨p, c, rfl⟩ := h2.len
  rw [h1.cell off] at hx
  match off, hx with
  | 0, hx => simp at hx
  | 1, hx => simp at hx
  | n + 2, hx => simp at hx

theorem gr_new {a w w' : World} {g gx : Nat} (h : a.grownBy w (some g)) (h2 : w.grownBy w' (some gx)) (hx : a.heap.size ≤ gx) : a.grownBy w' (some g) := by
  refine ⟨h2.os.trans h.os, h2.tape.trans h.tape, h2.output.trans h.output, Nat.le_trans h.size h2.size, fun i hi hne => ?_⟩
  rw [h2.block i (Nat.lt_of_lt_of_le hi h.size) (fun e => by injection e with e; omega)]
  exact h.block i hi hne

theorem gr_same {a w w' : World} {g : Nat} (h : a.grownBy w (some g)) (h2 : w.grownBy w' (some g)) : a.grownBy w' (some g) := by
  refine ⟨h2.os.trans h.os, h2.tape.trans h.tape, h2.output.trans h.output, Nat.le_trans h.size h2.size, fun i hi hne => ?_⟩
  rw [h2.block i (Nat.lt_of_lt_of_le hi h.size) hne]
  exact h.block i hi hne

end

end Go.Proofs.YtofomopmmopflaaGreatDoor
