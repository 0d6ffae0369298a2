/- codec.ReadLeg: its state. -/
import Derived.Test.YtjahkaidinahpaaDoorFM
namespace Go.Proofs.YtjahkaidinahpaaDoor
open Go.RowKit Go.ChangeMaps
set_option linter.unusedSimpArgs false
set_option linter.unusedVariables false
set_option maxRecDepth 20000

theorem sold_info : ∃ i0 : TypeInfo, Tryd.prog.info? 144 = some i0 ∧ i0.zero = some (.agg #[.int .u8 0, .int .i64 0]) ∧ i0.size = 2 ∧ i0.bytes = 16 := by
  have hbyte : (Tryd.prog.info? 144).map (fun i => (i.zero, i.size, i.bytes)) = some (some (.agg #[.int .u8 0, .int .i64 0]), 2, 16) := by kernel_rfl
  rw [Option.map_eq_some_iff] at hbyte
  obtain ⟨i0, h1, h2⟩ := hbyte
  simp only [Prod.mk.injEq] at h2
  exact ⟨i0, h1, h2.1, h2.2.1, h2.2.2⟩

theorem held_info : ∃ i0 : TypeInfo, Tryd.prog.info? 148 = some i0 ∧ i0.zero = some (.agg #[.int .i64 0, .int .u8 0, .string ⟨#[]⟩, .int .i64 0]) ∧ i0.size = 4 ∧ i0.bytes = 40 := by
  have hbyte : (Tryd.prog.info? 148).map (fun i => (i.zero, i.size, i.bytes)) = some (some (.agg #[.int .i64 0, .int .u8 0, .string ⟨#[]⟩, .int .i64 0]), 4, 40) := by kernel_rfl
  rw [Option.map_eq_some_iff] at hbyte
  obtain ⟨i0, h1, h2⟩ := hbyte
  simp only [Prod.mk.injEq] at h2
  exact ⟨i0, h1, h2.1, h2.2.1, h2.2.2⟩

theorem info_leg : (Tryd.prog.info? 90).map (·.size) = some 2 := by kernel_rfl
theorem info_rleg : (Tryd.prog.info? 88).map (·.size) = some 2 := by kernel_rfl
theorem two_one {p q : Option Addr} {n c n2 c2 : Nat} : ∀ v ∈ ([.slice p n c, .slice q n2 c2] : List Value), v.oneCell' = true := by
  intro v hv
  simp at hv
  rcases hv with rfl | rfl <;> rfl

/-- A part of a row is stored. -/
theorem wpList_store_part {P : Program} {w : World} {ops : Array Oper} {rest : List Oper} {op : Oper} {a : Act} {Q : Exit → Act → World → Prop} (hgd : op.guard = none) (ty : TypeId) (x y : Operand) (ho : op.op = .store ty x y)
    (b o : Nat) (T : TypeId) (l0 l : List Value) (hx : a.eval x = .pointer (some ⟨b, o, none⟩)) (hy : a.eval y = .agg l.toArray)
    (ha : Blk w b T l0) (hl : o + l.length ≤ l0.length) (hi : (P.info? ty).map (·.size) = some l.length) (h1 : ∀ v ∈ l, v.oneCell' = true)
    (h : ∀ w', Blk w' b T (overV l0 o l) → Below b w w' → w.grownBy w' (some b) → wpList P ops Q rest (a.put op.dst undef) w') : wpList P ops Q (op :: rest) a w := by
  have e1 : l.toArray.size = l.length := by simp
  refine wpList_store_mid hgd ty x y ho b o l.toArray hx hy (by rw [e1]; exact ha.there o _ hl) (by rw [e1]; exact hi) (all_oneCell_toArray h1) (h _ ?_ ?_ ?_)
  · exact Blk.over l l0 o w ha
  · exact bel_setCells (Nat.le_refl _) _ _ _ (Below.refl _ _)
  · exact gr_setCells1 _ _ _ (gr_of_below (Below.refl _ _) _)

/-- 'append(v, u)' of one element of several cells, which was laid in a new block right ahead. -/
theorem wpList_pushC {P : Program} {wr : World} {ops : Array Oper} {rest : List Oper} {o : Oper} {a : Act} {Q : Exit → Act → World → Prop} (hgd : o.guard = none) (s x : Operand) (t : TypeId)
    (ho : o.op = .call { callee := .builtin .append, args := #[s, x], argTypes := #[t, t] })
    (base : Nat) (e : TypeId) (i : TypeInfo) (z : Value) (st bytes : Nat) (ht : P.underlying t = some (.slice e)) (hi : P.info? e = some i) (hz : i.zero = some z)
    (hsize : i.size = st) (hby : i.bytes = bytes) (hzs : z.cells.size = st) (hst : 0 < st)
    (v : Value) (n : Nat) (xs : List Value) (hs : a.eval s = v) (hown : wr.ownsRow base e st v n xs) (us : List Value) (hus : us.length = st) (hx : a.eval x = .slice (some ⟨wr.heap.size, 0, none⟩) 1 1) (h1 : ∀ u ∈ us, u.oneCell' = true)
    (hm : n + 1 ≤ maxLen) (hbytes : (n + 1) * bytes ≤ 140737488355328) (hbase : base ≤ wr.heap.size)
    (h : ∀ v' w', w'.ownsRow base e st v' (n + 1) (xs ++ us) → Below base wr w' → (wr.alloc (.cells us.toArray e)).grownBy w' v.ownBlock → wpList P ops Q rest (a.put o.dst v') w') :
    wpList P ops Q (o :: rest) a (wr.alloc (.cells us.toArray e)) := by
  refine wpList_append_own _ hgd s x t ho base e i z st bytes ht hi hz hsize hby hzs hst v n xs hs (hown.alloc _) ⟨wr.heap.size, 0, none⟩ 1 1 us hx (by rw [hus, Nat.one_mul]) ?_ h1 hm hbytes (by simp; omega) ?_
  · intro j y hj
    have := (Blk.new wr e us).cell j
    simp only [Addr.add_lit]
    rw [show (0 : Nat) + j = j by omega, this, hj]
  · intro v' w' hown' hg _
    refine h v' w' hown' ?_ hg
    refine ((Below.refl base wr).alloc hbase (.cells us.toArray e)).grown hg (by simp; omega) fun k hk => ?_
    exact (hown.lt k hk).1

/-- What a row does that is far from what is written. -/
theorem Blk.farD {W w4 : World} {o : Obj} {row : Option Nat} {b : Nat} {T : TypeId} {cs : List Value} (h : Blk W b T cs) (hg : (W.alloc o).drew.grownBy w4 row) (hne : row ≠ some b) : Blk w4 b T cs :=
  Blk.far (w := (W.alloc o).drew) (h.alloc _) hg fun e => hne e.symm
theorem Blk.farA {W w4 : World} {o : Obj} {row : Option Nat} {b : Nat} {T : TypeId} {cs : List Value} (h : Blk W b T cs) (hg : (W.alloc o).grownBy w4 row) (hne : row ≠ some b) : Blk w4 b T cs :=
  Blk.far (w := (W.alloc o)) (h.alloc _) hg fun e => hne e.symm

theorem RS.farD {w0 W w4 : World} {o : Obj} {row : Option Nat} {g : Nat} {l : List UInt8} {bad : Bool} (h : RS w0 W g l bad) (hg : (W.alloc o).drew.grownBy w4 row) (hne : row ≠ some g) (hr : ∀ k, row = some k → w0.heap.size ≤ k) : RS w0 w4 g l bad :=
  (h.mono (((Below.refl _ _).alloc (Nat.le_refl _) o).drew)).kept hg (fun e => hne e.symm) hr
theorem RS.farA {w0 W w4 : World} {o : Obj} {row : Option Nat} {g : Nat} {l : List UInt8} {bad : Bool} (h : RS w0 W g l bad) (hg : (W.alloc o).grownBy w4 row) (hne : row ≠ some g) (hr : ∀ k, row = some k → w0.heap.size ≤ k) : RS w0 w4 g l bad :=
  (h.mono (((Below.refl _ _).alloc (Nat.le_refl _) o))).kept hg (fun e => hne e.symm) hr

theorem own_keepA {W w4 : World} {o : Obj} {row : Option Nat} {base : Nat} {e : TypeId} {size : Nat} {v : Value} {n : Nat} {xs : List Value} (h : W.ownsRow base e size v n xs) (hg : (W.alloc o).grownBy w4 row) (hne : v.ownBlock = none ∨ v.ownBlock ≠ row) : w4.ownsRow base e size v n xs :=
  World.ownsRow.kept (h.alloc o) hg hne

/-- The state of ReadLeg: the reader at g, the leg at gl, what comes back at w's end; two: in the second loop. -/
structure RL (two : Bool) (w W : World) (g gl B : Nat) (r : List UInt8) (bad : Bool) (s : List SoldT) (h : List HeldT) : Prop where
  rs : RS w W g r bad
  row : ∃ vs vh, Blk W gl 90 [vs, vh] ∧ W.ownsRow (gl + 1) 144 2 vs s.length (s.flatMap soldC) ∧ W.ownsRow B 148 4 vh h.length (h.flatMap heldC) ∧ (two = false → vh = .slice none 0 0 ∧ h = []) ∧ (two = true → ∀ k, vs.ownBlock = some k → k < B)
  res : Blk W w.heap.size 90 [.slice none 0 0, .slice none 0 0]
  gg : w.heap.size < g ∧ g < gl ∧ gl < B ∧ B ≤ W.heap.size

section
variable {two : Bool} {w W W' : World} {g gl B : Nat} {r r' : List UInt8} {bad b2 : Bool} {s : List SoldT} {h : List HeldT}

theorem RL.reader (k : RL two w W g gl B r bad s h) (hr : RS w W' g r' b2) (hg : W.grownBy W' (some g)) : RL two w W' g gl B r' b2 s h := by
  obtain ⟨k1, ⟨vs, vh, k2, k3, k4, k5, k7⟩, k6, h1, h2, h3, h4⟩ := k
  exact ⟨hr, ⟨vs, vh, k2.far hg (fun e => by injection e with e; omega), World.ownsRow.kept k3 hg (own_ne k3 (by omega)), World.ownsRow.kept k4 hg (own_ne k4 (by omega)), k5, k7⟩, k6.far hg (fun e => by injection e with e; omega), h1, h2, h3, Nat.le_trans h4 hg.size⟩

theorem RL.mono (k : RL two w W g gl B r bad s h) (hb : Below W.heap.size W W') : RL two w W' g gl B r bad s h := by
  obtain ⟨k1, ⟨vs, vh, k2, k3, k4, k5, k7⟩, k6, h1, h2, h3, h4⟩ := k
  have hg : ∀ {v : Value} {base e size n xs}, W.ownsRow base e size v n xs → W'.ownsRow base e size v n xs := fun {v} {base} {e} {size} {n} {xs} h => World.ownsRow.kept h (gr_of_below hb none) (by cases hv : v.ownBlock <;> simp)
  exact ⟨k1.mono hb, ⟨vs, vh, k2.mono hb, hg k3, hg k4, k5, k7⟩, k6.mono hb, h1, h2, h3, Nat.le_trans h4 hb.size⟩

/-- The bounds of the second loop. -/
theorem RL.second (k : RL false w W g gl B r bad s h) : RL true w W g gl W.heap.size r bad s [] := by
  obtain ⟨k1, ⟨vs, vh, k2, k3, k4, k5, k7⟩, k6, h1, h2, h3, h4⟩ := k
  obtain ⟨rfl, rfl⟩ := k5 rfl
  exact ⟨k1, ⟨vs, _, k2, k3, World.ownsRow_nil _ _ _ _, (fun h => by cases h), fun _ k hk => (World.ownsRow.lt k3 k hk).2⟩, k6, h1, h2, by omega, Nat.le_refl _⟩

theorem grow_alloc {o : Obj} {v : Value} {base n size : Nat} {e : TypeId} {xs : List Value} {w4 : World} (k3 : W.ownsRow base e size v n xs) (hB : B ≤ base) (hB2 : base ≤ W.heap.size) (hg : (W.alloc o).drew.grownBy w4 v.ownBlock) : Below B W w4 :=
  (((Below.refl B W).alloc (by omega) o).drew).grown hg (by simp; omega) fun k hk => by have := (World.ownsRow.lt k3 k hk).1; omega

/-- What is sold, with one more. -/
theorem RL.sold (k : RL false w W g gl B r bad s h) {vs : Value} (hvs : W.cell? ⟨gl, 0, none⟩ = some vs) (x : SoldT) :
    W.ownsRow (gl + 1) 144 2 vs s.length (s.flatMap soldC) ∧
    (∀ w4, (W.alloc (.cells (soldC x).toArray 144)).grownBy w4 vs.ownBlock → w4.frozen? ⟨gl, 0, none⟩ = false ∧ w4.cell? ⟨gl, 0, none⟩ = some vs) ∧
    (∀ w4 v4, w4.ownsRow (gl + 1) 144 2 v4 (s.length + 1) (s.flatMap soldC ++ soldC x) → (W.alloc (.cells (soldC x).toArray 144)).grownBy w4 vs.ownBlock → RL false w (w4.setCell ⟨gl, 0, none⟩ v4) g gl B r bad (s ++ [x]) h) := by
  obtain ⟨k1, ⟨vs', vh, k2, k3, k4, k5, k7⟩, k6, h1, h2, h3, h4⟩ := k
  have e : vs' = vs := by
    have := (k2.cell 0).symm.trans hvs
    simpa using this
  subst e
  obtain ⟨rfl, rfl⟩ := k5 rfl
  have hlo := k1.low
  have hne : ∀ b, b < gl + 1 → vs'.ownBlock ≠ some b := fun b hb e => by have := (World.ownsRow.lt k3 _ e).1; omega
  refine ⟨k3, fun w4 hg => ?_, fun w4 v4 ho hg => ?_⟩
  · have := k2.farA hg (hne _ (by omega))
    exact ⟨this.frozen 0, (this.cell 0).trans rfl⟩
  · have hb4 := k2.farA hg (hne _ (by omega))
    have hs : (w4.setCell ⟨gl, 0, none⟩ v4).heap.size = w4.heap.size := by simp [World.setCell]
    have hsz := hg.size
    have e1 : (W.alloc (.cells (soldC x).toArray 144)).heap.size = W.heap.size + 1 := by simp
    have hr4 := k1.farA hg (hne _ (by omega)) (fun k hk => by have := (World.ownsRow.lt k3 k hk).1; omega)
    refine ⟨hr4.kept (gr_setCell1 (World.grownBy.refl _ _) 0 v4) (fun e => by injection e with e; omega) (fun k hk => by injection hk with hk; omega), ⟨v4, _, hb4.set 0 v4, ?_, World.ownsRow_nil _ _ _ _, (fun _ => ⟨rfl, rfl⟩), (fun h => by cases h)⟩, ?_, h1, h2, h3, by omega⟩
    · rw [List.length_append, List.flatMap_append, show ([x] : List SoldT).flatMap soldC = soldC x by simp]
      exact World.ownsRow.kept ho (gr_setCell1 (World.grownBy.refl _ _) 0 v4) (own_ne ho (by omega))
    · exact (k6.farA hg (hne _ (by omega))).far (gr_setCell1 (World.grownBy.refl _ _) 0 v4) (fun e => by injection e with e; omega)

/-- Who holds seats, with one more. -/
theorem RL.held (k : RL true w W g gl B r bad s h) {vh : Value} (hvh : W.cell? ⟨gl, 1, none⟩ = some vh) (x : HeldT) :
    W.ownsRow B 148 4 vh h.length (h.flatMap heldC) ∧
    (∀ w4, (W.alloc (.cells (heldC x).toArray 148)).grownBy w4 vh.ownBlock → w4.frozen? ⟨gl, 1, none⟩ = false ∧ w4.cell? ⟨gl, 1, none⟩ = some vh) ∧
    (∀ w4 v4, w4.ownsRow B 148 4 v4 (h.length + 1) (h.flatMap heldC ++ heldC x) → (W.alloc (.cells (heldC x).toArray 148)).grownBy w4 vh.ownBlock → RL true w (w4.setCell ⟨gl, 1, none⟩ v4) g gl B r bad s (h ++ [x])) := by
  obtain ⟨k1, ⟨vs, vh', k2, k3, k4, k5, k7⟩, k6, h1, h2, h3, h4⟩ := k
  have e : vh' = vh := by
    have := (k2.cell 1).symm.trans hvh
    simpa using this
  subst e
  have hlo := k1.low
  have hne : ∀ b, b < B → vh'.ownBlock ≠ some b := fun b hb e => by have := (World.ownsRow.lt k4 _ e).1; omega
  have hnv : vs.ownBlock = none ∨ vs.ownBlock ≠ vh'.ownBlock := by
    cases hv : vs.ownBlock with
    | none => exact .inl rfl
    | some kk =>
      refine .inr fun e => ?_
      exact hne kk (k7 rfl kk hv) e.symm
  refine ⟨k4, fun w4 hg => ?_, fun w4 v4 ho hg => ?_⟩
  · have := k2.farA hg (hne _ (by omega))
    exact ⟨this.frozen 1, (this.cell 1).trans rfl⟩
  · have hb4 := k2.farA hg (hne _ (by omega))
    have hs : (w4.setCell ⟨gl, 1, none⟩ v4).heap.size = w4.heap.size := by simp [World.setCell]
    have hsz := hg.size
    have e1 : (W.alloc (.cells (heldC x).toArray 148)).heap.size = W.heap.size + 1 := by simp
    have hr4 := k1.farA hg (hne _ (by omega)) (fun k hk => by have := (World.ownsRow.lt k4 k hk).1; omega)
    refine ⟨hr4.kept (gr_setCell1 (World.grownBy.refl _ _) 1 v4) (fun e => by injection e with e; omega) (fun k hk => by injection hk with hk; omega), ⟨vs, v4, hb4.set 1 v4, ?_, ?_, (fun h => by cases h), k7⟩, ?_, h1, h2, h3, by omega⟩
    · exact World.ownsRow.kept (own_keepA k3 hg hnv) (gr_setCell1 (World.grownBy.refl _ _) 1 v4) (own_ne k3 (by omega))
    · rw [List.length_append, List.flatMap_append, show ([x] : List HeldT).flatMap heldC = heldC x by simp]
      exact World.ownsRow.kept ho (gr_setCell1 (World.grownBy.refl _ _) 1 v4) (own_ne ho (by omega))
    · exact (k6.farA hg (hne _ (by omega))).far (gr_setCell1 (World.grownBy.refl _ _) 1 v4) (fun e => by injection e with e; omega)

theorem gr_cell {w w' : World} {g b off : Nat} {u : Value} (hg : w.grownBy w' (some g)) (h : w.cell? ⟨b, off, none⟩ = some u) (hb : b ≠ g) : w'.cell? ⟨b, off, none⟩ = some u := by
  have hlt := World.block_lt_of_cell? w _ h
  have := hg.block b hlt (fun e => hb (by injection e))
  rw [← h]
  simp only [World.cell?, this]

theorem RS.byte_ne {w0 W : World} {bb off : Nat} {z : Int} (h : RS w0 W g r bad) (hx : W.cell? ⟨bb, off, none⟩ = some (.int .u8 z)) : bb ≠ g := by
  rintro rfl
  obtain ⟨_, ⟨v, h1, h2⟩, _⟩ := h
  obtain ⟨p, c, rfl⟩ := h2.len
  rw [h1.cell off] at hx
  match off, hx with
  | 0, hx => simp at hx
  | 1, hx => simp at hx
  | n + 2, hx => simp at hx

theorem gr_new {a w w' : World} {g gx : Nat} (h : a.grownBy w (some g)) (h2 : w.grownBy w' (some gx)) (hx : a.heap.size ≤ gx) : a.grownBy w' (some g) := by
  refine ⟨h2.os.trans h.os, h2.tape.trans h.tape, h2.output.trans h.output, Nat.le_trans h.size h2.size, fun i hi hne => ?_⟩
  rw [h2.block i (Nat.lt_of_lt_of_le hi h.size) (fun e => by injection e with e; omega)]
  exact h.block i hi hne

theorem gr_same {a w w' : World} {g : Nat} (h : a.grownBy w (some g)) (h2 : w.grownBy w' (some g)) : a.grownBy w' (some g) := by
  refine ⟨h2.os.trans h.os, h2.tape.trans h.tape, h2.output.trans h.output, Nat.le_trans h.size h2.size, fun i hi hne => ?_⟩
  rw [h2.block i (Nat.lt_of_lt_of_le hi h.size) hne]
  exact h.block i hi hne

theorem RL.cells (k : RL two w W g gl B r bad s h) : ∃ p n c q m d, W.cell? ⟨gl, 0, none⟩ = some (.slice p n c) ∧ W.cell? ⟨gl, 1, none⟩ = some (.slice q m d) ∧ Blk W gl 90 [.slice p n c, .slice q m d] ∧ HasE soldC W (.slice p n c) s ∧ HasE heldC W (.slice q m d) h ∧ ∀ W', W.grownBy W' (some w.heap.size) → HasE soldC W' (.slice p n c) s ∧ HasE heldC W' (.slice q m d) h := by
  obtain ⟨k1, ⟨vs, vh, k2, k3, k4, k5, k7⟩, k6, hgg⟩ := k
  have h3 : HasE soldC W vs s := HasE.own k3
  have h4 : HasE heldC W vh h := HasE.own k4
  obtain ⟨p, c, rfl⟩ := h3.len
  obtain ⟨q, d, rfl⟩ := h4.len
  exact ⟨p, _, c, q, _, d, (k2.cell 0).trans rfl, (k2.cell 1).trans rfl, k2, h3, h4, fun W' hg => ⟨HasE.own (World.ownsRow.kept k3 hg (own_ne k3 (by omega))), HasE.own (World.ownsRow.kept k4 hg (own_ne k4 (by omega)))⟩⟩
end

theorem sold_step {β : Type} {o : Option β} {K : List SoldT → List UInt8 → Option β} {bad b5 b7 : Bool} {r r5 r7 : List UInt8} {x : UInt8} {n k : Nat} {lst : List SoldT} (h : Stg o bad (pRun pSold K (k + 1) lst r))
    (hf5 : b5 = false → bad = false ∧ pFix 1 r = some (x.toNat, r5)) (ht5 : b5 = true → bad = true ∨ pFix 1 r = none) (hf7 : b7 = false → b5 = false ∧ pNum 400 r5 = some (n, r7)) (ht7 : b7 = true → b5 = true ∨ pNum 400 r5 = none) :
    Stg o b7 (pRun pSold K k (lst ++ [⟨x, n⟩]) r7) := by
  have h2 := stg_two (q := pNum 400) (F := fun c m => (⟨UInt8.ofNat c, (m : Int)⟩ : SoldT)) hf5 ht5 hf7 ht7
  have h3 := Stg.step (p := pSold r) (K := fun s r' => pRun pSold K k (lst ++ [s]) r') h h2.1 h2.2
  simpa using h3

theorem held_step {β : Type} {o : Option β} {K : List HeldT → List UInt8 → Option β} {bad b5 b7 : Bool} {r r5 r7 : List UInt8} {x k : Nat} {s : ByteArray} {lst : List HeldT} (h : Stg o bad (pRun pHeld K (k + 1) lst r))
    (hf5 : b5 = false → bad = false ∧ pFix 2 r = some (x, r5)) (ht5 : b5 = true → bad = true ∨ pFix 2 r = none) (hf7 : b7 = false → b5 = false ∧ pLoc r5 = some (toL s, r7)) (ht7 : b7 = true → b5 = true ∨ pLoc r5 = none) :
    Stg o b7 (pRun pHeld K k (lst ++ [⟨((x / 32 % 128 : Nat) : Int), UInt8.ofNat (65 + x % 32), s, ((x / 4096 : Nat) : Int)⟩]) r7) := by
  have h2 := stg_two (q := pLoc) (F := fun x s => (⟨((x / 32 % 128 : Nat) : Int), UInt8.ofNat (65 + x % 32), ⟨s.toArray⟩, ((x / 4096 : Nat) : Int)⟩ : HeldT)) hf5 ht5 hf7 ht7
  have h3 := Stg.step (p := pHeld r) (K := fun s r' => pRun pHeld K k (lst ++ [s]) r') h h2.1 h2.2
  have e : (⟨(toL s).toArray⟩ : ByteArray) = s := strA_of s
  rw [e] at h3
  exact h3
end Go.Proofs.YtjahkaidinahpaaDoor
