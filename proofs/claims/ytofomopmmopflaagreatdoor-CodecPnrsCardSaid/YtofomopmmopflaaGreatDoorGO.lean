/- What codec.Pnr's walk needs: a text's append in a drawn region, bits, the bytes by stages. -/
import Derived.Test.YtofomopmmopflaaGreatDoorMA
import Derived.Test.YtofomopmmopflaaGreatDoorMB
import Derived.Test.YtofomopmmopflaaGreatDoorMC
import Derived.Test.YtofomopmmopflaaGreatDoorMD
import Derived.Test.YtofomopmmopflaaGreatDoorME
import Derived.Test.YtofomopmmopflaaGreatDoorFN
import Derived.Test.YtofomopmmopflaaGreatDoorFQ
import Derived.Test.YtofomopmmopflaaGreatDoorGA
import Derived.Test.YtofomopmmopflaaGreatDoorGB
import Derived.Test.YtofomopmmopflaaGreatDoorGK
import Derived.Test.YtofomopmmopflaaGreatDoorGJA
import Derived.Test.YtofomopmmopflaaGreatDoorRows
import Derived.WalkKit
import Derived.WalkSpells
import Derived.WalkLawsBesides
import Derived.Lib.ConvBytes
import Derived.Lib.Hide
import Derived.Lib.SliceRun
import Derived.IntWalk
import Derived.BigQuiet
import Derived.Deep.QuietTactic
import Derived.Deep.RegionWith
import Derived.Deep.RegionHeld3
import Derived.Deep.LoopGhost
import Derived.Deep.CutRange
import Derived.Deep.CutBlock
import Derived.Deep.MidRow
import Derived.Laws.OwnMore
import Derived.OwnWalk
import Derived.Laws.AppendOwnNone
import Derived.Laws.Rows
import Derived.Laws.MakeOwn
import Derived.Laws.CopyOwn
import Derived.Laws.BitsAllLaws
import Derived.DeepKeys5
import Derived.Maps.OwnOps
import Derived.Handy
import Derived.Lib.AppendStr
import Derived.StillTailTactics
import Derived.Deep.AppendLies
import Derived.WideKeyEntry
namespace Go.Proofs.YtofomopmmopflaaGreatDoor
open Go.RowKit Go.ChangeMaps
set_option linter.unusedSimpArgs false
set_option linter.unusedVariables false
set_option maxRecDepth 20000

/-- AT A STEP OF A REGION THAT DRAWS: 'append(v, s...)' of a text. -/
theorem step_append_txt {w : World} {ops : Array Oper} {o : Oper} {a : Act} {K : Act → World → Prop} {Q : Exit → Act → World → Prop} {E : Prop} (hgd : o.guard = none) (x y : Operand)
    (ho : o.op = .call { callee := .builtin .append, args := #[x, y], argTypes := #[30, 9] })
    (base : Nat) (v : Value) (l : List UInt8) (s : ByteArray) (hs : a.eval x = v) (hown : OwnB w base v l) (hx : a.eval y = .string s)
    (hm : l.length + s.size ≤ 100000000) (hbase : base ≤ w.heap.size)
    (h : ∀ v' w', OwnB w' base v' (l ++ toL s) → w.grownBy w' v.ownBlock → K (a.put o.dst v') w') :
    if Region.wanted o (yielded ops a.tmps) = true then Oper.wp Tryz.prog o a w K Q else E := by
  have hw : Region.wanted o (yielded ops a.tmps) = true := by simp [Region.wanted, hgd]
  rw [if_pos hw]
  obtain ⟨i0, hi, hz, hsz, hby⟩ := byte_info
  obtain ⟨v', w', hr, h2, h3, h4⟩ := Lib.run_append_own_string (P := Tryz.prog) w base 30 9 o.type 5 i0 Tryz.underlying30 Tryz.underlying9 hi hz hsz hby v l.length (l.flatMap byteC) hown s (by unfold maxLen; omega) (by omega) hbase
  unfold Oper.wp execOp
  simp only [ho, resolve, invoke, builtin, Sem.run_bind, Sem.run_pure, Result.andThen_ok, List.map_toArray, List.map_cons, List.map_nil, hs, hx, hr]
  refine h v' w' ?_ h3
  unfold OwnB
  rw [List.flatMap_append, ← strCells_flat, List.length_append]
  exact h2

/-- What a text's append leaves. -/
theorem ww_cat {w W : World} {g : Nat} {v : Value} {bs : List UInt8} {s : ByteArray} (h1 : Blk W g 55 [v]) (h2 : OwnB W (g + 1) v bs) (h3 : Below w.heap.size w W) (h4 : w.heap.size ≤ g) (h5 : g + 1 ≤ W.heap.size) :
    (∀ w4 v4, OwnB w4 (g + 1) v4 (bs ++ toL s) → W.drew.grownBy w4 v.ownBlock → WW w (w4.setCell ⟨g, 0, none⟩ v4) g (bs ++ toL s) ∧ ∀ b T cs, b ≠ g → v.ownBlock ≠ some b → Blk W b T cs → Blk (w4.setCell ⟨g, 0, none⟩ v4) b T cs) ∧
    (∀ w4, W.drew.grownBy w4 v.ownBlock → w4.frozen? ⟨g, 0, none⟩ = false ∧ w4.cell? ⟨g, 0, none⟩ = some v) := by
  have hne : v.ownBlock ≠ some g := fun e => by have := (World.ownsRow.lt h2 _ e).1; omega
  have hfar : ∀ {w4 : World}, W.drew.grownBy w4 v.ownBlock → ∀ {b : Nat} {T : TypeId} {cs : List Value}, v.ownBlock ≠ some b → Blk W b T cs → Blk w4 b T cs := fun hg _ _ _ hb hk => Blk.far (w := W.drew) (hk.mono (Below.refl _ _).drew) hg fun e => hb e.symm
  refine ⟨fun w4 v4 k1 k2 => ?_, fun w4 k2 => ?_⟩
  · have hgg := hfar k2 hne h1
    have hbb : Below w.heap.size w w4 := (Below.drew h3).grown k2 (by have := h3.size; simpa using this) fun k hk => by have := (World.ownsRow.lt h2 k hk).1; omega
    have hsz := k2.size
    have e0 : W.drew.heap.size = W.heap.size := by simp
    have e2 : (w4.setCell ⟨g, 0, none⟩ v4).heap.size = w4.heap.size := by simp [World.setCell]
    refine ⟨⟨⟨v4, hgg.set 0 v4, World.ownsRow.kept k1 (gr_setCell1 (World.grownBy.refl _ _) 0 v4) (own_ne k1 (by omega))⟩, hbb.setCell (p := ⟨g, 0, none⟩) h4 v4, h4, by omega⟩, fun b T cs hb1 hb2 hk => ?_⟩
    exact (hfar k2 hb2 hk).far (gr_setCell1 (World.grownBy.refl _ _) 0 v4) fun e => hb1 (by injection e)
  · have hgg := hfar k2 hne h1
    exact ⟨hgg.frozen 0, (hgg.cell 0).trans rfl⟩

theorem ofInt_i64 (a : Nat) (h : a < 9223372036854775808) : (BitVec.ofInt 64 (a : Int)).toNat = a := by
  rw [BitVec.toNat_ofInt]
  omega
theorem i64_or_nat (a b : Nat) (ha : a < 9223372036854775808) (hb : b < 9223372036854775808) : bits .or .i64 (a : Int) (b : Int) = ((a ||| b : Nat) : Int) := by
  have hx : a ||| b < 2 ^ 63 := Nat.or_lt_two_pow (by omega) (by omega)
  show IntKind.i64.wrap ((BitVec.ofInt 64 (a : Int) ||| BitVec.ofInt 64 (b : Int)).toNat : Int) = _
  rw [BitVec.toNat_or, ofInt_i64 a ha, ofInt_i64 b hb, IntKind.wrap_i64]
  omega
theorem or_bit (d : Nat) (b : Bool) (hd : d < 1000000) : bits .or .i64 ((d : Int) * 2) (if b then 1 else 0) = ((2 * d + (if b then 1 else 0) : Nat) : Int) := by
  cases b
  · have := i64_or_nat (d * 2) 0 (by omega) (by omega)
    simp only [Bool.false_eq_true, if_false]
    rw [show (d : Int) * 2 = ((d * 2 : Nat) : Int) by omega, show (0 : Int) = ((0 : Nat) : Int) from rfl, this, Nat.or_zero]
    omega
  · have := i64_or_nat (d * 2) 1 (by omega) (by omega)
    have o1 : d * 2 ||| 1 = d * 2 + 1 := by
      have := or_add (acc := 1) (y := d) (m := 1) (by omega)
      rw [Nat.or_comm, show d * 2 = d * 2 ^ 1 from rfl, this]
      omega
    simp only [if_true]
    rw [show (d : Int) * 2 = ((d * 2 : Nat) : Int) by omega, show (1 : Int) = ((1 : Nat) : Int) from rfl, this, o1]
    omega
theorem or_seat (n b : Nat) (hn : n < 1000) (hb : b < 65536) : bits .or .i64 ((n : Int) * 65536) (b : Int) = ((n * 65536 + b : Nat) : Int) := by
  have := i64_or_nat (n * 65536) b (by omega) (by omega)
  have o1 : n * 65536 ||| b = n * 65536 + b := by
    have := or_add (acc := b) (y := n) (m := 16) (by omega)
    rw [Nat.or_comm, show n * 65536 = n * 2 ^ 16 from rfl, this]
    omega
  rw [show (n : Int) * 65536 = ((n * 65536 : Nat) : Int) by omega, this, o1]

/- The bytes by stages. -/
def q1 (p : PnrT) : List UInt8 := [80] ++ textB p.loc
def q2 (p : PnrT) : List UInt8 := q1 p ++ textB p.off
def q3 (p : PnrT) : List UInt8 := q2 p ++ varL p.names.length
def q4 (p : PnrT) : List UInt8 := q3 p ++ p.names.flatMap nameB
def q5 (p : PnrT) : List UInt8 := q4 p ++ varL p.segs.length
def q6 (p : PnrT) : List UInt8 := q5 p ++ p.segs.flatMap segB
def q7 (p : PnrT) : List UInt8 := q6 p ++ varL p.phones.length
def q8 (p : PnrT) : List UInt8 := q7 p ++ p.phones.flatMap textB
def q9 (p : PnrT) : List UInt8 := q8 p ++ tickB p
def q10 (p : PnrT) : List UInt8 := q9 p ++ textB p.recv
def q11 (p : PnrT) : List UInt8 := q10 p ++ varL p.remarks.length
def q12 (p : PnrT) : List UInt8 := q11 p ++ p.remarks.flatMap textB
def q13 (p : PnrT) : List UInt8 := q12 p ++ varL p.seats.length
theorem q_all (p : PnrT) : pnrB p = q13 p ++ p.seats.flatMap placeB := by
  simp [pnrB, textsB, q13, q12, q11, q10, q9, q8, q7, q6, q5, q4, q3, q2, q1, List.append_assoc]

theorem textB_len {s : ByteArray} (h : s.size ≤ 127) : (textB s).length = s.size + 1 := by
  unfold textB
  rw [List.length_append, varL_small (by omega), size_toL]
  simp; omega
theorem orL_size {s : ByteArray} {n : Nat} (h : toL s = [] ∨ lettersS (toL s) n n = true) : s.size ≤ n := by
  have e : s.size = (toL s).length := (size_toL s).symm
  rcases h with h | h
  · rw [e, h]; exact Nat.zero_le _
  · have := lettersS_len h
    omega
theorem free_size {s : ByteArray} (h : freeP s) : s.size ≤ 40 := by
  have e : s.size = (toL s).length := (size_toL s).symm
  have := free_len h
  omega
theorem name_size {x : NameT} (h : nameOk x) : x.last.size ≤ 16 ∧ x.first.size ≤ 16 := by
  have e1 : x.last.size = (toL x.last).length := (size_toL _).symm
  have e2 : x.first.size = (toL x.first).length := (size_toL _).symm
  have h1 := lettersS_len h.1
  have h2 := lettersS_len h.2
  omega
theorem car_size {x : SegT} (h : segOk x) : x.car.size = 2 := by
  have e : x.car.size = (toL x.car).length := (size_toL _).symm
  by_cases hl : (toL x.car).length = 2
  · omega
  · have := carrierS_len _ hl
    have h1 := h.1
    rw [this] at h1
    cases h1
theorem nameB_len {x : NameT} (h : nameOk x) : (nameB x).length ≤ 34 := by
  have := name_size h
  unfold nameB
  rw [List.length_append, textB_len (by omega), textB_len (by omega)]
  omega
theorem segB_len {x : SegT} (h : segOk x) : (segB x).length ≤ 7 := by
  have h0 := car_size h
  have e : x.car.size = (toL x.car).length := (size_toL _).symm
  have h1 := varL_len 1 x.num.toNat (by have := h.2.1; omega)
  have h2 := varL_len 1 (2 * x.day.toNat + if x.live then 1 else 0) (by have := h.2.2.1; split <;> omega)
  unfold segB
  simp only [List.length_append, List.length_singleton]
  omega
theorem textB_free {s : ByteArray} (h : freeP s) : (textB s).length ≤ 41 := by
  have := free_size h
  rw [textB_len (by omega)]
  omega
theorem placeB_len (x : PlaceT) : (placeB x).length = 3 := by unfold placeB; rw [beL_len]
theorem tickB_len {p : PnrT} (h : tickOk p.tk p.td p.tm p.queued) : (tickB p).length ≤ 4 := by
  unfold tickB
  by_cases h1 : p.tk = 1
  · rw [if_pos h1]
    have := varL_len 2 (p.td * 1440 + p.tm).toNat (by rcases h with ⟨_, h1, h2, h3⟩ | ⟨_, h1, h2, _⟩ <;> omega)
    rw [List.length_cons]
    omega
  · rw [if_neg h1]
    simp

theorem take_flat_le {α : Type} {f : α → List UInt8} (l : List α) (i : Nat) : ((l.take i).flatMap f).length ≤ (l.flatMap f).length := by
  have : l.flatMap f = (l.take i).flatMap f ++ (l.drop i).flatMap f := by rw [← List.flatMap_append, List.take_append_drop]
  rw [this, List.length_append]
  omega

/-- All are short. -/
structure ShortP (p : PnrT) : Prop where
  a1 : (q1 p).length ≤ 10
  a2 : (q2 p).length ≤ 20
  a3 : (q3 p).length ≤ 30
  a4 : (q4 p).length ≤ 400
  a5 : (q5 p).length ≤ 410
  a6 : (q6 p).length ≤ 500
  a7 : (q7 p).length ≤ 510
  a8 : (q8 p).length ≤ 800
  a9 : (q9 p).length ≤ 810
  a10 : (q10 p).length ≤ 900
  a11 : (q11 p).length ≤ 910
  a12 : (q12 p).length ≤ 1400
  a13 : (q13 p).length ≤ 1410
  few : p.names.length ≤ 9 ∧ p.segs.length ≤ 8 ∧ p.phones.length ≤ 4 ∧ p.remarks.length ≤ 10 ∧ p.seats.length ≤ 72

theorem short_of {p : PnrT} (h : SoundP p) : ShortP p := by
  have h1 := orL_size (n := 6) h.loc
  have h2 := orL_size (n := 3) h.off
  have h3 : p.recv.size ≤ 40 := by
    rcases h.recv with k | k
    · have e : p.recv.size = (toL p.recv).length := (size_toL _).symm
      rw [e, k]; exact Nat.zero_le _
    · exact free_size k
  have h4 := h.names.1
  have h5 := h.segs.1
  have h6 := h.phones.1
  have h7 := h.remarks.1
  have h8 := places_few h.seats.1 h.segs.1 h.names.1
  have f1 := flat_le (l := p.names) (f := nameB) (k := 34) fun x hx => nameB_len (h.names.2 x hx)
  have f2 := flat_le (l := p.segs) (f := segB) (k := 7) fun x hx => segB_len (h.segs.2.1 x hx)
  have f3 := flat_le (l := p.phones) (f := textB) (k := 41) fun x hx => textB_free (h.phones.2 x hx)
  have f4 := flat_le (l := p.remarks) (f := textB) (k := 41) fun x hx => textB_free (h.remarks.2 x hx)
  have f5 := tickB_len h.tick
  have v1 : (varL p.names.length).length = 1 := by rw [varL_small (by omega)]; rfl
  have v2 : (varL p.segs.length).length = 1 := by rw [varL_small (by omega)]; rfl
  have v3 : (varL p.phones.length).length = 1 := by rw [varL_small (by omega)]; rfl
  have v4 : (varL p.remarks.length).length = 1 := by rw [varL_small (by omega)]; rfl
  have v5 : (varL p.seats.length).length = 1 := by rw [varL_small (by omega)]; rfl
  have t1 := textB_len (s := p.loc) (by omega)
  have t2 := textB_len (s := p.off) (by omega)
  have t3 := textB_len (s := p.recv) (by omega)
  have a1 : (q1 p).length ≤ 10 := by unfold q1; rw [List.length_append, List.length_singleton]; omega
  have a2 : (q2 p).length ≤ 20 := by unfold q2; rw [List.length_append]; omega
  have a3 : (q3 p).length ≤ 30 := by unfold q3; rw [List.length_append]; omega
  have a4 : (q4 p).length ≤ 400 := by unfold q4; rw [List.length_append]; omega
  have a5 : (q5 p).length ≤ 410 := by unfold q5; rw [List.length_append]; omega
  have a6 : (q6 p).length ≤ 500 := by unfold q6; rw [List.length_append]; omega
  have a7 : (q7 p).length ≤ 510 := by unfold q7; rw [List.length_append]; omega
  have a8 : (q8 p).length ≤ 800 := by unfold q8; rw [List.length_append]; omega
  have a9 : (q9 p).length ≤ 810 := by unfold q9; rw [List.length_append]; omega
  have a10 : (q10 p).length ≤ 900 := by unfold q10; rw [List.length_append]; omega
  have a11 : (q11 p).length ≤ 910 := by unfold q11; rw [List.length_append]; omega
  have a12 : (q12 p).length ≤ 1400 := by unfold q12; rw [List.length_append]; omega
  have a13 : (q13 p).length ≤ 1410 := by unfold q13; rw [List.length_append]; omega
  exact ⟨a1, a2, a3, a4, a5, a6, a7, a8, a9, a10, a11, a12, a13, h4, h5, h6, h7, h8⟩

theorem soundPS_iff {p : PnrT} : soundPS p = true → SoundP p := fun e => by
  by_cases k : SoundP p
  · exact k
  · rw [soundPS_no k] at e; cases e
theorem pnrF_bool {p : PnrT} : pnrF p = if soundPS p = true then some (pnrB p) else none := by
  by_cases k : SoundP p
  · rw [pnrF_yes k, if_pos (soundPS_yes k)]
  · rw [pnrF_no k, if_neg (by rw [soundPS_no k]; decide)]

theorem WW.far {w W W' : World} {g : Nat} {bs bs' : List UInt8} (h : WW w W' g bs') : Below w.heap.size w W' := h.bel
end Go.Proofs.YtofomopmmopflaaGreatDoor
