/- An edit that adds a name or a segment (the reference): the lists. -/
import Derived.Test.YtjahkaidinahpaaDoorHD
namespace Go.Proofs.YtjahkaidinahpaaDoor
open Go.RowKit Go.ChangeMaps
set_option linter.unusedSimpArgs false
set_option linter.unusedVariables false
set_option maxRecDepth 20000

/-- A list that was lengthened or made anew, laid into a PNR's cell. -/
def RAdd {α : Type} (enc : α → List Value) (E : TypeId) (st : Nat) (w : World) (cs : Value → List Value) (l : List α) (wx : World) : Prop := ∃ p n c, Blk wx w.heap.size 29 (cs (.slice p n c)) ∧ Blk wx (w.heap.size + 2) 29 zeroC ∧ Below w.heap.size w wx ∧ wx.ownsRow (w.heap.size + 3) E st (.slice p n c) l.length (l.flatMap enc)

theorem row_done {α : Type} {enc : α → List Value} {E : TypeId} {st : Nat} {w wA w4 : World} {B n : Nat} {v : Value} {p4 : Option Addr} {n4 c4 : Nat} {cs : List Value} {l : List α} {xs : List Value} (j : Nat) (h0 : Blk wA w.heap.size 29 cs) (h2 : Blk wA (w.heap.size + 2) 29 zeroC) (hb : Below w.heap.size w wA) (hv : wA.ownsRow B E st v n xs) (hB : w.heap.size + 3 ≤ B) (hg : wA.grownBy w4 v.ownBlock) (ho : w4.ownsRow B E st (.slice p4 n4 c4) l.length (l.flatMap enc)) :
    RAdd enc E st w (fun u => cs.set j u) l (w4.setCell ⟨w.heap.size, j, none⟩ (.slice p4 n4 c4)) := by
  have hne : ∀ k, k < w.heap.size + 3 → some k ≠ v.ownBlock := fun k hk e => by
    have := (World.ownsRow.lt hv k e.symm).1
    omega
  have h04 := h0.far hg (hne _ (by omega))
  have h24 := h2.far hg (hne _ (by omega))
  have hs : w4.grownBy (w4.setCell ⟨w.heap.size, j, none⟩ (.slice p4 n4 c4)) (some w.heap.size) := gr_setCell1 (World.grownBy.refl _ _) j _
  have hb4 : Below w.heap.size w w4 := hb.grown hg hb.size fun k hk => by
    have := (World.ownsRow.lt hv k hk).1
    omega
  refine ⟨p4, n4, c4, h04.set j _, h24.far hs (by intro e; injection e with e; omega), hb4.grown hs hb4.size (fun k hk => by injection hk with hk; omega), ?_⟩
  exact own_low (World.ownsRow.kept ho hs (own_ne ho (by omega))) hB
end Go.Proofs.YtjahkaidinahpaaDoor
