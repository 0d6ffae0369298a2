/- Texts are written; codec.Pnr of the empty PNR. -/
import Derived.Test.YtjahkaidinahpaaDoorEX
import Derived.StillTailTactics
namespace Go.Proofs.YtjahkaidinahpaaDoor
open Go.RowKit Go.ChangeMaps
set_option linter.unusedSimpArgs false
set_option linter.unusedVariables false
set_option maxRecDepth 20000

theorem strCells_flat (s : ByteArray) : Lib.strCells s = (toL s).flatMap byteC := by
  rw [flat_byte]; rfl

/-- 'append(v, s...)' of a text. -/
theorem wpList_append_txt {w : World} {ops : Array Oper} {rest : List Oper} {o : Oper} {a : Act} {Q : Exit → Act → World → Prop} (hgd : o.guard = none) (x y : Operand)
    (ho : o.op = .call { callee := .builtin .append, args := #[x, y], argTypes := #[48, 9] })
    (base : Nat) (v : Value) (l : List UInt8) (s : ByteArray) (hs : a.eval x = v) (hown : OwnB w base v l) (hx : a.eval y = .string s)
    (hm : l.length + s.size ≤ 100000000) (hbase : base ≤ w.heap.size)
    (h : ∀ v' w', OwnB w' base v' (l ++ toL s) → Below base w w' → w.grownBy w' v.ownBlock → wpList Tryd.prog ops Q rest (a.put o.dst v') w') :
    wpList Tryd.prog ops Q (o :: rest) a w := by
  obtain ⟨i0, hi, hz, hsz, hby⟩ := byte_info
  refine Lib.wpList_append_own_string w hgd x y 48 9 ho base 5 i0 Tryd.underlying48 Tryd.underlying9 hi hz hsz hby v l.length (l.flatMap byteC) hs hown s hx (by unfold maxLen; omega) (by omega) hbase ?_
  intro v' w' hown' hg _
  have hb : Below base w w' := (Below.refl base w).grown hg hbase fun k hk => (World.ownsRow.lt hown k hk).1
  refine h v' w' ?_ hb hg
  unfold OwnB
  rw [List.flatMap_append, ← strCells_flat, List.length_append]
  exact hown'

theorem gr_then {a b c : World} {row row' : Option Nat} (h : a.grownBy b row) (k : b.grownBy c row') (hr : ∀ j, row' = some j → a.heap.size ≤ j) : a.grownBy c row :=
  ⟨k.os.trans h.os, k.tape.trans h.tape, k.output.trans h.output, Nat.le_trans h.size k.size, fun i hi hne =>
    (k.block i (Nat.lt_of_lt_of_le hi h.size) (fun e => by have := hr i e.symm; omega)).trans (h.block i hi hne)⟩

/-- What writing a text does. -/
theorem wtext_any (g : Nat) (v : Value) (bs : List UInt8) (s : ByteArray) (w : World) (hg : Blk w g 105 [v]) (hv : HasE byteC w v bs) (hl : bs.length + s.size ≤ 900000) :
    Calls Tryd.prog 87 #[.pointer (some ⟨g, 0, none⟩), .string s] w fun e w' => e = .returned (.tuple #[]) ∧ (∃ v', Blk w' g 105 [v'] ∧ OwnB w' w.heap.size v' (bs ++ varL s.size ++ toL s)) ∧ w.grownBy w' (some g) := by
  have HN : RowKit.Hid (Calls Tryd.prog 44 #[.pointer (some ⟨g, 0, none⟩), .int .i64 s.size] w fun e w' => e = .returned (.tuple #[]) ∧ (∃ v', Blk w' g 105 [v'] ∧ OwnB w' w.heap.size v' (bs ++ varL s.size)) ∧ w.grownBy w' (some g)) := Lib.hid (by
    have := wnum_any g v bs s.size w hg hv (by omega) (by omega) (by omega)
    rw [Int.toNat_natCast] at this
    exact this)
  have hvl : (varL s.size).length ≤ 10 := varL_len 9 _ (by omega)
  have hcl : (bs ++ varL s.size).length + s.size ≤ 100000000 := by rw [List.length_append]; omega
  have hgl := hg.lt
  clear hg hv hl hvl
  generalize bs ++ varL s.size = X at *
  have HAP : RowKit.Hid (∀ w1 w2 v1 v2 Y, Blk w1 g 105 [v1] → OwnB w1 w.heap.size v1 X → w1.grownBy w2 v1.ownBlock → OwnB w2 w.heap.size v2 Y → Blk w2 g 105 [v1] ∧ w2.frozen? ⟨g, 0, none⟩ = false ∧ w2.cell? ⟨g, 0, none⟩ = some v1 ∧ ∃ p2 n2 c2, v2 = .slice p2 n2 c2) := Lib.hid fun w1 w2 v1 v2 Y h1 h2 h3 h4 => by
    have h5 := h1.far h3 (by rcases own_ne h2 hgl with h | h; · rw [h]; exact fun e => by cases e
                             exact fun e => h e.symm)
    obtain ⟨p2, c2, e2⟩ := h4.has.len
    exact ⟨h5, h5.frozen 0, (h5.cell 0).trans rfl, p2, _, c2, e2⟩
  go_enter Tryd.func87, Tryd.ntmps87
  go_wp2_with (first
    | (go_at_call 44; (with_reducible refine HN.out.mono ?_); rintro e w1 ⟨rfl, ⟨v1, hg1, ho1⟩, hgr1⟩; have k1 := (hg1.cell 0).trans rfl; obtain ⟨p1, c1, rfl⟩ := ho1.has.len; generalize hX : X.length = nX at ho1 hg1 k1 hcl ⊢; have HO1 := Lib.hid ho1; clear ho1; have hs1 := hgr1.size)
    | (at_builtin; refine wpList_append_txt rfl _ _ rfl w.heap.size (.slice p1 nX c1) X s rfl HO1.out rfl (by rw [hX]; exact hcl) hs1 ?_; intro v2 w2 ho2 hb2 hgr2; obtain ⟨hg2, hfz, k2, p2, n2, c2, rfl⟩ := HAP.out w1 w2 _ _ _ hg1 HO1.out hgr2 ho2))
  go_returns
  refine ⟨rfl, ⟨_, hg2.set 0 _, World.ownsRow.kept ho2 (gr_setCell1 (World.grownBy.refl _ _) 0 _) (own_ne ho2 hgl)⟩, ?_⟩
  exact gr_setCell1 (gr_then hgr1 hgr2 fun j hj => (World.ownsRow.lt HO1.out j hj).1) 0 _
end Go.Proofs.YtjahkaidinahpaaDoor
