/- The reference's body of a PNR: its state. Printed by tools/gen_zd.py. -/
import Derived.Test.YtofomopmmopflaaGreatDoorZC
import Derived.Test.YtofomopmmopflaaGreatDoorZB
import Derived.Test.YtofomopmmopflaaGreatDoorGT
namespace Go.Proofs.YtofomopmmopflaaGreatDoor
open Go.RowKit Go.ChangeMaps
set_option linter.unusedSimpArgs false
set_option linter.unusedVariables false
set_option maxRecDepth 20000

theorem gr_newZ {w W W' : World} {g : Nat} {row : Option Nat} (h : w.grownBy W (some g)) (hg : W.grownBy W' row) (hr : ∀ b, row = some b → w.heap.size ≤ b) : w.grownBy W' (some g) :=
  ⟨hg.os.trans h.os, hg.tape.trans h.tape, hg.output.trans h.output, Nat.le_trans h.size hg.size, fun k hk hne => (hg.block k (Nat.lt_of_lt_of_le hk h.size) (fun e => by have := hr k e.symm; omega)).trans (h.block k hk hne)⟩
theorem own_neT {W : World} {B B' st st' n n' : Nat} {T T' : TypeId} {v v' : Value} {xs xs' : List Value} (hT : T ≠ T') (h : W.ownsRow B T st v n xs) (h' : W.ownsRow B' T' st' v' n' xs') : v.ownBlock = none ∨ v.ownBlock ≠ v'.ownBlock := by
  rcases h.2 with ⟨e, _⟩ | ⟨g, c, cur, e, _, hg, _⟩
  · exact .inl (by rw [e]; rfl)
  · right
    intro he
    rcases h'.2 with ⟨e', _⟩ | ⟨g', c', cur', e', _, hg', _⟩
    · rw [e, e'] at he; cases he
    · rw [e, e'] at he
      have he : some g = some g' := he
      injection he with he
      subst he
      rw [hg] at hg'
      injection hg' with hg'
      injection hg' with _ ht _
      exact hT ht
/-- A row comes back. -/
theorem results_row1Z {P : Program} {fn : Func} {p : Tmp} {ty : TypeId} (h : fn.results = #[.cell p ty]) (tmps : Array Value) (w : World) (g : Nat) (t : TypeId) (cs : List Value) (d : TypeDesc)
    (hp : tmps.getD p undef = .pointer (some ⟨g, 0, none⟩)) (hg : Blk w g t cs)
    (hu : P.underlying ty = some d) (hd : (match d with | .struct _ | .array _ _ => true | _ => false) = true) (hi : (P.info? ty).map (·.size) = some cs.length) :
    (results fn tmps).run P w = .ok (.agg cs.toArray) w := by
  have hp' : tmps[p]?.getD undef = .pointer (some ⟨g, 0, none⟩) := by simpa using hp
  simp [results, h, hp', asAddr, run_loadVar_row w g t ty cs.toArray (0, 0) d hg hu hd (by simpa using hi)]

/-- The body's state: the cursor at g, what comes back at w's end, the PNR at gp with the cells cs. -/
structure BD (w W : World) (g gp : Nat) (s : ByteArray) (k : Nat) (bad : Bool) (cs : List Value) : Prop where
  c : CS W g s k bad
  gr : w.grownBy W (some g)
  blk : Blk W gp 29 cs
  res : Blk W w.heap.size 29 zeroC
  gg : g < w.heap.size ∧ w.heap.size < gp ∧ gp < W.heap.size
section
variable {w W W' : World} {g gp k k' : Nat} {s : ByteArray} {bad b2 : Bool} {cs : List Value}
theorem BD.reader (h : BD w W g gp s k bad cs) (hc : CS W' g s k' b2) (hg : W.grownBy W' (some g)) : BD w W' g gp s k' b2 cs :=
  ⟨hc, gby_trans h.gr hg, h.blk.far hg (fun e => by injection e with e; have := h.gg; omega), h.res.far hg (fun e => by injection e with e; have := h.gg; omega), h.gg.1, h.gg.2.1, Nat.lt_of_lt_of_le h.gg.2.2 hg.size⟩
theorem BD.mono (h : BD w W g gp s k bad cs) (hb : Below W.heap.size W W') : BD w W' g gp s k bad cs :=
  ⟨h.c.mono hb, gby_trans h.gr (gr_of_below hb _), h.blk.mono hb, h.res.mono hb, h.gg.1, h.gg.2.1, Nat.lt_of_lt_of_le h.gg.2.2 hb.size⟩
theorem BD.set (h : BD w W g gp s k bad cs) (j : Nat) (v : Value) : BD w (W.setCell ⟨gp, j, none⟩ v) g gp s k bad (cs.set j v) := by
  have hg := gr_setCell1 (b := gp) (World.grownBy.refl W _) j v
  refine ⟨h.c.far hg (by intro e; injection e with e; have := h.gg; omega), gr_newZ h.gr hg (fun b e => by injection e with e; have := h.gg; omega), h.blk.set j v, h.res.far hg (fun e => by injection e with e; have := h.gg; omega), h.gg.1, h.gg.2.1, ?_⟩
  have e2 : (W.setCell ⟨gp, j, none⟩ v).heap.size = W.heap.size := by simp [World.setCell]
  rw [e2]
  exact h.gg.2.2
/-- A block that the body makes beside the PNR is written. -/
theorem BD.other (h : BD w W g gp s k bad cs) {row : Option Nat} (hg : W.grownBy W' row) (hr : ∀ b, row = some b → gp < b) : BD w W' g gp s k bad cs :=
  ⟨h.c.far hg (by intro e; have := hr _ e; have := h.gg; omega), gr_newZ h.gr hg (fun b e => by have := hr b e; have := h.gg; omega), h.blk.far hg (fun e => by have := hr _ e.symm; omega), h.res.far hg (fun e => by have := hr _ e.symm; have := h.gg; omega), h.gg.1, h.gg.2.1, Nat.lt_of_lt_of_le h.gg.2.2 hg.size⟩
theorem BD.push {e : TypeId} {st j n : Nat} {v : Value} {xs : List Value} (h : BD w W g gp s k bad cs) (hj : cs[j]? = some v) (ho : W.ownsRow (gp + 1) e st v n xs) (ob : Obj) :
    (∀ w4, (W.alloc ob).grownBy w4 v.ownBlock → w4.frozen? ⟨gp, j, none⟩ = false ∧ w4.cell? ⟨gp, j, none⟩ = some v) ∧
    (∀ w4 v4 n' ys, w4.ownsRow (gp + 1) e st v4 n' ys → (W.alloc ob).grownBy w4 v.ownBlock → BD w (w4.setCell ⟨gp, j, none⟩ v4) g gp s k bad (cs.set j v4) ∧ (w4.setCell ⟨gp, j, none⟩ v4).ownsRow (gp + 1) e st v4 n' ys ∧
      ∀ (e' : TypeId) (st' : Nat) (u : Value) (m : Nat) (zs : List Value), e' ≠ e → W.ownsRow (gp + 1) e' st' u m zs → (w4.setCell ⟨gp, j, none⟩ v4).ownsRow (gp + 1) e' st' u m zs) := by
  have hlt : ∀ b, v.ownBlock = some b → gp < b := fun b e => by have := (World.ownsRow.lt ho b e).1; omega
  have hal : Below W.heap.size W (W.alloc ob) := (Below.refl _ _).alloc (Nat.le_refl _) _
  have h1 := h.mono hal
  refine ⟨fun w4 hg => ?_, fun w4 v4 n' ys h4 hg => ⟨(h1.other hg hlt).set j v4, own_setp h4 (Nat.lt_succ_self _) j v4, fun e' st' u m zs hne hu => ?_⟩⟩
  · have h2 := h1.other hg hlt
    exact ⟨h2.blk.frozen j, (h2.blk.cell j).trans hj⟩
  · refine own_setp ?_ (Nat.lt_succ_self _) j v4
    exact World.ownsRow.kept (own_mono hu hal) hg (own_neT hne hu ho)
end
/-- The state while a segment is read: its block at gs. -/
structure SS (w W : World) (g gp gs : Nat) (s : ByteArray) (k : Nat) (bad : Bool) (cs sc : List Value) (vn : Value) (nn : Nat) (nx : List Value) (vs : Value) (ns : Nat) (sx : List Value) : Prop where
  bd : BD w W g gp s k bad cs
  sb : Blk W gs 65 sc
  on : W.ownsRow (gp + 1) 59 2 vn nn nx
  os : W.ownsRow (gp + 1) 65 5 vs ns sx
  ne : gp < gs ∧ vn.ownBlock ≠ some gs ∧ vs.ownBlock ≠ some gs
section
variable {w W W' : World} {g gp gs k k' : Nat} {s : ByteArray} {bad b2 : Bool} {cs sc nx sx : List Value} {vn vs : Value} {nn ns : Nat}
theorem SS.reader (h : SS w W g gp gs s k bad cs sc vn nn nx vs ns sx) (hc : CS W' g s k' b2) (hg : W.grownBy W' (some g)) : SS w W' g gp gs s k' b2 cs sc vn nn nx vs ns sx :=
  ⟨h.bd.reader hc hg, h.sb.far hg (fun e => by injection e with e; have := h.ne; have := h.bd.gg; omega), own_far h.on hg (by have := h.bd.gg; omega), own_far h.os hg (by have := h.bd.gg; omega), h.ne⟩
theorem SS.set (h : SS w W g gp gs s k bad cs sc vn nn nx vs ns sx) (j : Nat) (v : Value) : SS w (W.setCell ⟨gs, j, none⟩ v) g gp gs s k bad cs (sc.set j v) vn nn nx vs ns sx := by
  have hg := gr_setCell1 (b := gs) (World.grownBy.refl W _) j v
  exact ⟨h.bd.other hg (fun b e => by injection e with e; have := h.ne; omega), h.sb.set j v, World.ownsRow.kept h.on hg (.inr h.ne.2.1), World.ownsRow.kept h.os hg (.inr h.ne.2.2), h.ne⟩
end
theorem seg_first {bad b1 b2 : Bool} {r r1 r2 : List UInt8} {c : ByteArray} {n : Nat} (h1 : b1 = false → bad = false ∧ pTakeT 2 r = some (c, r1)) (h2 : b1 = true → bad = true ∨ pTakeT 2 r = none)
    (h3 : b2 = false → b1 = false ∧ pNum 9999 r1 = some (n, r2)) (h4 : b2 = true → b1 = true ∨ pNum 9999 r1 = none) :
    (b2 = false → bad = false ∧ (bindP (pTake 2 r) fun k r => bindP (pNum 9999 r) fun n r2 => some (((⟨k.toArray⟩ : ByteArray), n), r2)) = some ((c, n), r2)) ∧ (b2 = true → bad = true ∨ (bindP (pTake 2 r) fun k r => bindP (pNum 9999 r) fun n r2 => some (((⟨k.toArray⟩ : ByteArray), n), r2)) = none) := by
  have key : (bindP (pTake 2 r) fun k r => bindP (pNum 9999 r) fun n r2 => some (((⟨k.toArray⟩ : ByteArray), n), r2)) = bindP (pTakeT 2 r) fun c r => bindP (pNum 9999 r) fun n r2 => some ((c, n), r2) := by
    unfold pTakeT
    cases pTake 2 r with
    | none => rfl
    | some x => rfl
  rw [key]
  refine ⟨fun e => ?_, fun e => ?_⟩
  · obtain ⟨k1, k2⟩ := h3 e
    obtain ⟨k3, k4⟩ := h1 k1
    exact ⟨k3, by rw [bindP_some k4, bindP_some k2]⟩
  · cases b1 with
    | true =>
      rcases h2 rfl with k | k
      · exact .inl k
      · exact .inr (bindP_none k)
    | false =>
      obtain ⟨k3, k4⟩ := h1 rfl
      rcases h4 e with k | k
      · cases k
      · right
        rw [bindP_some k4]
        exact bindP_none k
theorem segC_oneZ (x : SegT) : ∀ v ∈ segC x, v.oneCell' = true := by
  intro v hv
  simp [segC] at hv
  rcases hv with rfl | rfl | rfl | rfl | rfl <;> rfl
theorem placeC_oneZ (x : PlaceT) : ∀ v ∈ placeC x, v.oneCell' = true := by
  intro v hv
  simp [placeC] at hv
  rcases hv with rfl | rfl | rfl | rfl <;> rfl
/-- What the body tells. -/
def BodyP (b : List UInt8) (g : Nat) (s : ByteArray) (w : World) (e : Ending) (w' : World) : Prop :=
  ∃ p vn vs vp vr vx k2 b2 r2, e = .returned (.agg (pnrC p vn vs vp vr vx).toArray) ∧ PIn w' p vn vs vp vr vx ∧ CS w' g s k2 b2 ∧ Stg (pPnr b) b2 (some (p, r2)) ∧ w.grownBy w' (some g) ∧ ∀ W R, R < w.heap.size → w'.grownBy W (some R) → PIn W p vn vs vp vr vx
end Go.Proofs.YtofomopmmopflaaGreatDoor
