/- jetwayref14.ReadLeg: its state. -/
import Derived.Test.YtjahkaidinahpaaDoorFP
namespace Go.Proofs.YtjahkaidinahpaaDoor
open Go.RowKit Go.ChangeMaps
set_option linter.unusedSimpArgs false
set_option linter.unusedVariables false
set_option maxRecDepth 20000

/-- The state of the reference's ReadLeg: the cursor at g, the leg at gl, what comes back at w's end; two: in the second loop. -/
structure QL (two : Bool) (w W : World) (g gl B : Nat) (sb : ByteArray) (k : Nat) (bad : Bool) (s : List SoldT) (h : List HeldT) : Prop where
  cs : CS W g sb k bad
  bel : Below w.heap.size w W
  row : ∃ vs vh, Blk W gl 88 [vs, vh] ∧ W.ownsRow (gl + 1) 144 2 vs s.length (s.flatMap soldC) ∧ W.ownsRow B 148 4 vh h.length (h.flatMap heldC) ∧ (two = false → vh = .slice none 0 0 ∧ h = []) ∧ (two = true → ∀ k, vs.ownBlock = some k → k < B)
  res : Blk W w.heap.size 88 [.slice none 0 0, .slice none 0 0]
  gg : w.heap.size < g ∧ g < gl ∧ gl < B ∧ B ≤ W.heap.size

section
variable {two : Bool} {w W W' : World} {g gl B : Nat} {sb : ByteArray} {r r' : Nat} {bad b2 : Bool} {s : List SoldT} {h : List HeldT}

theorem QL.reader (k : QL two w W g gl B sb r bad s h) (hr : CS W' g sb r' b2) (hg : W.grownBy W' (some g)) : QL two w W' g gl B sb r' b2 s h := by
  obtain ⟨k1, kb, ⟨vs, vh, k2, k3, k4, k5, k7⟩, k6, h1, h2, h3, h4⟩ := k
  exact ⟨hr, bel_gr kb hg (by omega), ⟨vs, vh, k2.far hg (fun e => by injection e with e; omega), World.ownsRow.kept k3 hg (own_ne k3 (by omega)), World.ownsRow.kept k4 hg (own_ne k4 (by omega)), k5, k7⟩, k6.far hg (fun e => by injection e with e; omega), h1, h2, h3, Nat.le_trans h4 hg.size⟩

theorem QL.mono (k : QL two w W g gl B sb r bad s h) (hb : Below W.heap.size W W') : QL two w W' g gl B sb r bad s h := by
  obtain ⟨k1, kb, ⟨vs, vh, k2, k3, k4, k5, k7⟩, k6, h1, h2, h3, h4⟩ := k
  have hg : ∀ {v : Value} {base e size n xs}, W.ownsRow base e size v n xs → W'.ownsRow base e size v n xs := fun {v} {base} {e} {size} {n} {xs} h => World.ownsRow.kept h (gr_of_below hb none) (by cases hv : v.ownBlock <;> simp)
  exact ⟨k1.mono hb, kb.trans (hb.mono kb.size), ⟨vs, vh, k2.mono hb, hg k3, hg k4, k5, k7⟩, k6.mono hb, h1, h2, h3, Nat.le_trans h4 hb.size⟩

/-- The bounds of the second loop. -/
theorem QL.second (k : QL false w W g gl B sb r bad s h) : QL true w W g gl W.heap.size sb r bad s [] := by
  obtain ⟨k1, kb, ⟨vs, vh, k2, k3, k4, k5, k7⟩, k6, h1, h2, h3, h4⟩ := k
  obtain ⟨rfl, rfl⟩ := k5 rfl
  exact ⟨k1, kb, ⟨vs, _, k2, k3, World.ownsRow_nil _ _ _ _, (fun h => by cases h), fun _ k hk => (World.ownsRow.lt k3 k hk).2⟩, k6, h1, h2, by omega, Nat.le_refl _⟩

theorem CS.far {row : Option Nat} (h : CS W g sb r bad) (hg : W.grownBy W' row) (hne : row ≠ some g) : CS W' g sb r bad := ⟨h.1.far hg (fun e => hne e.symm), h.2⟩

theorem QL.sold (k : QL false w W g gl B sb r bad s h) {vs : Value} (hvs : W.cell? ⟨gl, 0, none⟩ = some vs) (x : SoldT) :
    W.ownsRow (gl + 1) 144 2 vs s.length (s.flatMap soldC) ∧
    (∀ w4, (W.alloc (.cells (soldC x).toArray 144)).grownBy w4 vs.ownBlock → w4.frozen? ⟨gl, 0, none⟩ = false ∧ w4.cell? ⟨gl, 0, none⟩ = some vs) ∧
    (∀ w4 v4, w4.ownsRow (gl + 1) 144 2 v4 (s.length + 1) (s.flatMap soldC ++ soldC x) → (W.alloc (.cells (soldC x).toArray 144)).grownBy w4 vs.ownBlock → QL false w (w4.setCell ⟨gl, 0, none⟩ v4) g gl B sb r bad (s ++ [x]) h) := by
  obtain ⟨k1, kb, ⟨vs', vh, k2, k3, k4, k5, k7⟩, k6, h1, h2, h3, h4⟩ := k
  have e : vs' = vs := by
    have := (k2.cell 0).symm.trans hvs
    simpa using this
  subst e
  obtain ⟨rfl, rfl⟩ := k5 rfl
  have hne : ∀ b, b < gl + 1 → vs'.ownBlock ≠ some b := fun b hb e => by have := (World.ownsRow.lt k3 _ e).1; omega
  refine ⟨k3, fun w4 hg => ?_, fun w4 v4 ho hg => ?_⟩
  · have := k2.farA hg (hne _ (by omega))
    exact ⟨this.frozen 0, (this.cell 0).trans rfl⟩
  · have hb4 := k2.farA hg (hne _ (by omega))
    have hs : (w4.setCell ⟨gl, 0, none⟩ v4).heap.size = w4.heap.size := by simp [World.setCell]
    have hsz := hg.size
    have e1 : (W.alloc (.cells (soldC x).toArray 144)).heap.size = W.heap.size + 1 := by simp
    have hc4 : CS w4 g sb r bad := CS.far (W := W.alloc _) ⟨k1.1.alloc _, k1.2⟩ hg (hne _ (by omega))
    have hbb : Below w.heap.size w w4 := (kb.alloc kb.size _).grown hg (by rw [e1]; have := kb.size; omega) fun k hk => by have := (World.ownsRow.lt k3 k hk).1; omega
    refine ⟨hc4.far (gr_setCell1 (World.grownBy.refl _ _) 0 v4) (fun e => by injection e with e; omega), hbb.setCell (p := ⟨gl, 0, none⟩) (by show w.heap.size ≤ gl; omega) v4, ⟨v4, _, hb4.set 0 v4, ?_, World.ownsRow_nil _ _ _ _, (fun _ => ⟨rfl, rfl⟩), (fun h => by cases h)⟩, ?_, h1, h2, h3, by omega⟩
    · rw [List.length_append, List.flatMap_append, show ([x] : List SoldT).flatMap soldC = soldC x by simp]
      exact World.ownsRow.kept ho (gr_setCell1 (World.grownBy.refl _ _) 0 v4) (own_ne ho (by omega))
    · exact (k6.farA hg (hne _ (by omega))).far (gr_setCell1 (World.grownBy.refl _ _) 0 v4) (fun e => by injection e with e; omega)

theorem QL.held (k : QL true w W g gl B sb r bad s h) {vh : Value} (hvh : W.cell? ⟨gl, 1, none⟩ = some vh) (x : HeldT) :
    W.ownsRow B 148 4 vh h.length (h.flatMap heldC) ∧
    (∀ w4, (W.alloc (.cells (heldC x).toArray 148)).grownBy w4 vh.ownBlock → w4.frozen? ⟨gl, 1, none⟩ = false ∧ w4.cell? ⟨gl, 1, none⟩ = some vh) ∧
    (∀ w4 v4, w4.ownsRow B 148 4 v4 (h.length + 1) (h.flatMap heldC ++ heldC x) → (W.alloc (.cells (heldC x).toArray 148)).grownBy w4 vh.ownBlock → QL true w (w4.setCell ⟨gl, 1, none⟩ v4) g gl B sb r bad s (h ++ [x])) := by
  obtain ⟨k1, kb, ⟨vs, vh', k2, k3, k4, k5, k7⟩, k6, h1, h2, h3, h4⟩ := k
  have e : vh' = vh := by
    have := (k2.cell 1).symm.trans hvh
    simpa using this
  subst e
  have hne : ∀ b, b < B → vh'.ownBlock ≠ some b := fun b hb e => by have := (World.ownsRow.lt k4 _ e).1; omega
  have hnv : vs.ownBlock = none ∨ vs.ownBlock ≠ vh'.ownBlock := by
    cases hv : vs.ownBlock with
    | none => exact .inl rfl
    | some kk =>
      refine .inr fun e => ?_
      exact hne kk (k7 rfl kk hv) e.symm
  refine ⟨k4, fun w4 hg => ?_, fun w4 v4 ho hg => ?_⟩
  · have := k2.farA hg (hne _ (by omega))
    exact ⟨this.frozen 1, (this.cell 1).trans rfl⟩
  · have hb4 := k2.farA hg (hne _ (by omega))
    have hs : (w4.setCell ⟨gl, 1, none⟩ v4).heap.size = w4.heap.size := by simp [World.setCell]
    have hsz := hg.size
    have e1 : (W.alloc (.cells (heldC x).toArray 148)).heap.size = W.heap.size + 1 := by simp
    have hc4 : CS w4 g sb r bad := CS.far (W := W.alloc _) ⟨k1.1.alloc _, k1.2⟩ hg (hne _ (by omega))
    have hbb : Below w.heap.size w w4 := (kb.alloc kb.size _).grown hg (by rw [e1]; have := kb.size; omega) fun k hk => by have := (World.ownsRow.lt k4 k hk).1; omega
    refine ⟨hc4.far (gr_setCell1 (World.grownBy.refl _ _) 1 v4) (fun e => by injection e with e; omega), hbb.setCell (p := ⟨gl, 1, none⟩) (by show w.heap.size ≤ gl; omega) v4, ⟨vs, v4, hb4.set 1 v4, ?_, ?_, (fun h => by cases h), k7⟩, ?_, h1, h2, h3, by omega⟩
    · exact World.ownsRow.kept (own_keepA k3 hg hnv) (gr_setCell1 (World.grownBy.refl _ _) 1 v4) (own_ne k3 (by omega))
    · rw [List.length_append, List.flatMap_append, show ([x] : List HeldT).flatMap heldC = heldC x by simp]
      exact World.ownsRow.kept ho (gr_setCell1 (World.grownBy.refl _ _) 1 v4) (own_ne ho (by omega))
    · exact (k6.farA hg (hne _ (by omega))).far (gr_setCell1 (World.grownBy.refl _ _) 1 v4) (fun e => by injection e with e; omega)

theorem QL.cells (k : QL two w W g gl B sb r bad s h) : ∃ p n c q m d, W.cell? ⟨gl, 0, none⟩ = some (.slice p n c) ∧ W.cell? ⟨gl, 1, none⟩ = some (.slice q m d) ∧ Blk W gl 88 [.slice p n c, .slice q m d] ∧ HasE soldC W (.slice p n c) s ∧ HasE heldC W (.slice q m d) h ∧ ∀ W', W.grownBy W' (some w.heap.size) → HasE soldC W' (.slice p n c) s ∧ HasE heldC W' (.slice q m d) h := by
  obtain ⟨k1, kb, ⟨vs, vh, k2, k3, k4, k5, k7⟩, k6, hgg⟩ := k
  have h3 : HasE soldC W vs s := HasE.own k3
  have h4 : HasE heldC W vh h := HasE.own k4
  obtain ⟨p, c, rfl⟩ := h3.len
  obtain ⟨q, d, rfl⟩ := h4.len
  exact ⟨p, _, c, q, _, d, (k2.cell 0).trans rfl, (k2.cell 1).trans rfl, k2, h3, h4, fun W' hg => ⟨HasE.own (World.ownsRow.kept k3 hg (own_ne k3 (by omega))), HasE.own (World.ownsRow.kept k4 hg (own_ne k4 (by omega)))⟩⟩
end
end Go.Proofs.YtjahkaidinahpaaDoor
