/- An edit that seats a passenger (the reference): the list of places while it is made. -/
import Derived.Test.YtjahkaidinahpaaDoorHD
namespace Go.Proofs.YtjahkaidinahpaaDoor
open Go.RowKit Go.ChangeMaps
set_option linter.unusedSimpArgs false
set_option linter.unusedVariables false
set_option maxRecDepth 20000

/-- The list of places while it is made: the PNR's cells with the list so far ('csf v'), the edit, the result, the place to be added, the places that stay, the list so far. -/
structure SL (w wr : World) (gm : Nat) (csf : Value → List Value) (dc : List Value) (mine : PlaceT) (vq : Value) (rest r : List PlaceT) (v : Value) : Prop where
  b0 : Blk wr w.heap.size 29 (csf v)
  b1 : Blk wr (w.heap.size + 1) 41 dc
  b2 : Blk wr (w.heap.size + 2) 29 zeroC
  bm : Blk wr gm 162 (placeC mine)
  hm : w.heap.size + 3 ≤ gm
  q : wr.ownsRow (w.heap.size + 3) 162 4 vq rest.length (rest.flatMap placeC)
  ql : ∀ k, vq.ownBlock = some k → k < gm
  own : wr.ownsRow (gm + 1) 162 4 v r.length (r.flatMap placeC)
  bel : Below w.heap.size w wr

theorem SL.mono {w wr W : World} {gm : Nat} {csf : Value → List Value} {dc : List Value} {mine : PlaceT} {vq : Value} {rest r : List PlaceT} {v : Value} (h : SL w wr gm csf dc mine vq rest r v) (hb : Below wr.heap.size wr W) : SL w W gm csf dc mine vq rest r v :=
  ⟨h.b0.mono hb, h.b1.mono hb, h.b2.mono hb, h.bm.mono hb, h.hm, own_mono h.q hb, h.ql, own_mono h.own hb, bel_trans h.bel hb⟩

theorem SL.push {w W w4 : World} {gm : Nat} {csf : Value → List Value} {dc : List Value} {mine : PlaceT} {vq : Value} {rest r : List PlaceT} {v v4 : Value} {x : PlaceT} (h : SL w W gm csf dc mine vq rest r v) (hcs : (csf v).set 10 v4 = csf v4) (hg : W.grownBy w4 v.ownBlock) (ho : w4.ownsRow (gm + 1) 162 4 v4 (r.length + 1) (r.flatMap placeC ++ placeC x)) :
    SL w (w4.setCell ⟨w.heap.size, 10, none⟩ v4) gm csf dc mine vq rest (r ++ [x]) v4 := by
  have hm := h.hm
  have hlt : ∀ k, v.ownBlock = some k → gm + 1 ≤ k := fun k hk => (World.ownsRow.lt h.own k hk).1
  have hne : ∀ k, k < gm + 1 → some k ≠ v.ownBlock := fun k hk e => by
    have := hlt k e.symm
    omega
  have hs : w4.grownBy (w4.setCell ⟨w.heap.size, 10, none⟩ v4) (some w.heap.size) := gr_setCell1 (World.grownBy.refl _ _) 10 _
  have hb4 : Below w.heap.size w w4 := h.bel.grown hg h.bel.size fun k hk => by
    have := hlt k hk
    omega
  have h0 := (h.b0.far hg (hne _ (by omega))).set 10 v4
  rw [hcs] at h0
  have hq4 : w4.ownsRow (w.heap.size + 3) 162 4 vq rest.length (rest.flatMap placeC) := World.ownsRow.kept h.q hg (by
    rcases hk : vq.ownBlock with _ | k
    · exact .inl rfl
    · refine .inr fun e => ?_
      have h1 := h.ql k hk
      have h2 := hlt k e.symm
      omega)
  refine ⟨h0, (h.b1.far hg (hne _ (by omega))).far hs (by intro e; injection e with e; omega), (h.b2.far hg (hne _ (by omega))).far hs (by intro e; injection e with e; omega), (h.bm.far hg (hne _ (by omega))).far hs (by intro e; injection e with e; omega), hm, World.ownsRow.kept hq4 hs (own_ne hq4 (by omega)), h.ql, ?_, hb4.grown hs hb4.size (fun k hk => by injection hk with hk; omega)⟩
  have e1 : (r ++ [x]).flatMap placeC = r.flatMap placeC ++ placeC x := by rw [List.flatMap_append]; simp
  rw [List.length_append, List.length_singleton, e1]
  exact World.ownsRow.kept ho hs (own_ne ho (by omega))

theorem SL.start {w w7 : World} {gm : Nat} {csf : Value → List Value} {cs0 dc : List Value} {mine : PlaceT} {vq : Value} {rest : List PlaceT} (h0 : Blk w7 w.heap.size 29 cs0) (hcs : cs0.set 10 (.slice none 0 0) = csf (.slice none 0 0)) (h1 : Blk w7 (w.heap.size + 1) 41 dc) (h2 : Blk w7 (w.heap.size + 2) 29 zeroC)
    (hbm : Blk w7 gm 162 (placeC mine)) (hm : w.heap.size + 3 ≤ gm) (hq : w7.ownsRow (w.heap.size + 3) 162 4 vq rest.length (rest.flatMap placeC)) (ql : ∀ k, vq.ownBlock = some k → k < gm) (hb : Below w.heap.size w w7) :
    SL w (w7.setCell ⟨w.heap.size, 10, none⟩ (.slice none 0 0)) gm csf dc mine vq rest [] (.slice none 0 0) := by
  have hs : w7.grownBy (w7.setCell ⟨w.heap.size, 10, none⟩ (.slice none 0 0)) (some w.heap.size) := gr_setCell1 (World.grownBy.refl _ _) 10 _
  have h00 := h0.set 10 (.slice none 0 0)
  rw [hcs] at h00
  exact ⟨h00, h1.far hs (by intro e; injection e with e; omega), h2.far hs (by intro e; injection e with e; omega), hbm.far hs (by intro e; injection e with e; omega), hm, World.ownsRow.kept hq hs (own_ne hq (by omega)), ql, World.ownsRow_nil _ _ _ _, hb.grown hs hb.size (fun k hk => by injection hk with hk; omega)⟩

/-- The PNR with the new list. -/
theorem seats_pin {w : World} {p : PnrT} {vn vs vp vr vx v : Value} {r : List PlaceT} {mine : PlaceT} (k : PIn w p vn vs vp vr vx) (hx : HasE placeC w v r) (hl : r.length ≤ 1000) (hm : ∀ x ∈ r, x ∈ p.seats ∨ x = mine) (hw : (Lit.int .i64 mine.seg).wf = true) :
    PIn w { p with seats := r } vn vs vp vr v := by
  obtain ⟨q1, q2, q3, q4, q5, q6, q7⟩ := k.fit
  obtain ⟨f1, f2, f3, f4, f5⟩ := k.few
  refine ⟨k.n, k.s, k.ph, k.rm, hx, ⟨q1, q2, q3, q4, q5, q6, q7⟩, fun x h => ?_, ⟨f1, f2, f3, f4, hl⟩⟩
  rcases hm x h with h1 | rfl
  · exact k.wf x h1
  · exact hw

theorem seats_kept {p : PnrT} {r : List PlaceT} {mine : PlaceT} (hm : ∀ x ∈ r, x ∈ p.seats ∨ x = mine) (hs : 1 ≤ mine.row ∧ mine.row ≤ 99 ∧ bL mine.c = true) : Kept p { p with seats := r } := by
  refine ⟨rfl, rfl, fun f => ⟨f.nm, f.sg, f.ph, f.rm, f.rc, f.tk, fun x h => ?_⟩⟩
  rcases hm x h with h1 | rfl
  · exact f.st x h1
  · exact hs

theorem seatT_some {r : Int} {c : UInt8} (h : ((seatT r c).toList == []) = false) : 1 ≤ r ∧ r ≤ 99 ∧ bL c = true := by
  have e : ((seatT r c).toList == []) = !decide (1 ≤ r ∧ r ≤ 99 ∧ bL c = true) := seatT_empty
  rw [e] at h
  by_cases k : 1 ≤ r ∧ r ≤ 99 ∧ bL c = true
  · exact k
  · rw [decide_eq_false k] at h; cases h
end Go.Proofs.YtjahkaidinahpaaDoor
