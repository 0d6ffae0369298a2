/- The writer as a state. -/
import Derived.Test.YtjahkaidinahpaaDoorFJ
import Derived.Test.YtjahkaidinahpaaDoorEZ
namespace Go.Proofs.YtjahkaidinahpaaDoor
open Go.RowKit Go.ChangeMaps
set_option linter.unusedSimpArgs false
set_option linter.unusedVariables false
set_option maxRecDepth 20000

/-- The writer at g, made behind w, has the bytes bs in W. -/
structure WW (w W : World) (g : Nat) (bs : List UInt8) : Prop where
  row : ∃ v, Blk W g 105 [v] ∧ OwnB W (g + 1) v bs
  bel : Below w.heap.size w W
  low : w.heap.size ≤ g
  lt : g + 1 ≤ W.heap.size

theorem WW.mono {w W W' : World} {g : Nat} {bs : List UInt8} (h : WW w W g bs) (hb : Below W.heap.size W W') : WW w W' g bs := by
  obtain ⟨⟨v, h1, h2⟩, h3, h4, h5⟩ := h
  exact ⟨⟨v, h1.mono hb, h2.mono hb⟩, h3.trans (hb.mono h3.size), h4, Nat.le_trans h5 hb.size⟩

theorem WW.cell {w W : World} {g : Nat} {bs : List UInt8} (h : WW w W g bs) : ∃ p n c, W.cell? ⟨g, 0, none⟩ = some (.slice p n c) := by
  obtain ⟨⟨v, h1, h2⟩, _⟩ := h
  obtain ⟨p, c, rfl⟩ := h2.has.len
  exact ⟨p, _, c, (h1.cell 0).trans rfl⟩

theorem WW.to {w W W' : World} {g : Nat} {bs bs' : List UInt8} {B : Nat} (h : WW w W g bs) (h1 : ∃ v', Blk W' g 105 [v'] ∧ OwnB W' B v' bs') (hB : W.heap.size ≤ B) (hg : W.grownBy W' (some g)) : WW w W' g bs' := by
  obtain ⟨_, h3, h4, h5⟩ := h
  obtain ⟨v', k1, k2⟩ := h1
  exact ⟨⟨v', k1, k2.low (by omega)⟩, h3.grown hg h3.size fun k hk => by injection hk with hk; omega, h4, Nat.le_trans h5 hg.size⟩

theorem ww_num {w W : World} {g : Nat} {bs : List UInt8} (h : WW w W g bs) (n : Int) (h0 : 0 ≤ n) (hn : n < 9223372036854775808) (hl : bs.length ≤ 1000000) :
    Calls Tryd.prog 44 #[.pointer (some ⟨g, 0, none⟩), .int .i64 n] W fun e w' => e = .returned (.tuple #[]) ∧ WW w w' g (bs ++ varL n.toNat) ∧ W.grownBy w' (some g) := by
  obtain ⟨v, h1, h2⟩ := h.row
  refine (wnum_any g v bs n W h1 h2.has hl h0 hn).mono ?_
  rintro e w' ⟨rfl, k1, k2⟩
  exact ⟨rfl, h.to k1 (Nat.le_refl _) k2, k2⟩

theorem ww_bytes {w W : World} {g : Nat} {bs : List UInt8} (h : WW w W g bs) (n : Int) (k : Nat) (h0 : 0 ≤ n) (hn : n < 9223372036854775808) (hl : bs.length ≤ 1000000) (hk : k ≤ 8) :
    Calls Tryd.prog 75 #[.pointer (some ⟨g, 0, none⟩), .int .i64 n, .int .i64 k] W fun e w' => e = .returned (.tuple #[]) ∧ WW w w' g (bs ++ beL n.toNat k) ∧ W.grownBy w' (some g) := by
  obtain ⟨v, h1, h2⟩ := h.row
  refine (wbytes_any g v bs n k W h1 h2.has hl h0 hn hk).mono ?_
  rintro e w' ⟨rfl, k1, k2⟩
  exact ⟨rfl, h.to k1 (Nat.le_refl _) k2, k2⟩

theorem ww_loc {w W : World} {g : Nat} {bs : List UInt8} (h : WW w W g bs) (s : ByteArray) (hs : s.size ≤ maxLen) (hls : lettersS (toL s) 6 6 = true) (hl : bs.length ≤ 1000000) :
    Calls Tryd.prog 46 #[.pointer (some ⟨g, 0, none⟩), .string s] W fun e w' => e = .returned (.tuple #[]) ∧ WW w w' g (bs ++ beL (numN (valL (toL s))) 4) ∧ W.grownBy w' (some g) := by
  obtain ⟨v, h1, h2⟩ := h.row
  refine (wloc_any g v bs s W h1 h2.has hl hs hls).mono ?_
  rintro e w' ⟨rfl, k1, k2⟩
  exact ⟨rfl, h.to k1 (Nat.le_refl _) k2, k2⟩

theorem ww_text {w W : World} {g : Nat} {bs : List UInt8} (h : WW w W g bs) (s : ByteArray) (hl : bs.length + s.size ≤ 900000) :
    Calls Tryd.prog 87 #[.pointer (some ⟨g, 0, none⟩), .string s] W fun e w' => e = .returned (.tuple #[]) ∧ WW w w' g (bs ++ varL s.size ++ toL s) ∧ W.grownBy w' (some g) := by
  obtain ⟨v, h1, h2⟩ := h.row
  refine (wtext_any g v bs s W h1 h2.has hl).mono ?_
  rintro e w' ⟨rfl, k1, k2⟩
  exact ⟨rfl, h.to k1 (Nat.le_refl _) k2, k2⟩

/-- A new writer, a number into it. -/
theorem ww_new (w1 w : World) (hb : Below w1.heap.size w1 w) (c : UInt8) (ci : Int) (hci : ci = (c.toNat : Int)) (n : Int) (h0 : 0 ≤ n) (hn : n < 9223372036854775808) :
    Calls Tryd.prog 44 #[.pointer (some ⟨w.heap.size + 1, 0, none⟩), .int .i64 n] ((w.alloc (.cells #[.int .u8 ci] 5)).alloc (.cells #[.slice (some ⟨w.heap.size, 0, none⟩) 1 1] 105)) fun e w' =>
      e = .returned (.tuple #[]) ∧ WW w1 w' (w.heap.size + 1) (c :: varL n.toNat) := by
  refine (wnew_any w c ci hci n h0 hn).mono ?_
  rintro e w' ⟨rfl, v', h1, h2, h3, h4⟩
  exact ⟨rfl, ⟨v', h1, h2⟩, hb.trans (h3.mono hb.size), by have := hb.size; omega, h4⟩

theorem own_push {w : World} {B gg cap : Nat} {bs : List UInt8} {c : UInt8} (h : w.ownsRow B 5 1 (.slice (some ⟨gg, 0, none⟩) (bs.length + 1 : Nat) cap) (bs.length + 1) (bs.flatMap byteC ++ [.int .u8 c.toNat])) : OwnB w B (.slice (some ⟨gg, 0, none⟩) (bs.length + 1 : Nat) cap) (bs ++ [c]) := by
  unfold OwnB
  rw [List.length_append, List.flatMap_append]
  exact h

/-- What a byte's append leaves. -/
theorem ww_push {w W : World} {g : Nat} {v : Value} {bs : List UInt8} {c : UInt8} (h1 : Blk W g 105 [v]) (h2 : OwnB W (g + 1) v bs) (h3 : Below w.heap.size w W) (h4 : w.heap.size ≤ g) (h5 : g + 1 ≤ W.heap.size) :
    (∀ w4 v4, OwnB w4 (g + 1) v4 (bs ++ [c]) → (W.alloc (.cells #[.int .u8 c.toNat] 5)).drew.grownBy w4 v.ownBlock → WW w (w4.setCell ⟨g, 0, none⟩ v4) g (bs ++ [c]) ∧ ∀ b T cs, b ≠ g → v.ownBlock ≠ some b → Blk W b T cs → Blk (w4.setCell ⟨g, 0, none⟩ v4) b T cs) ∧
    (∀ w4, (W.alloc (.cells #[.int .u8 c.toNat] 5)).drew.grownBy w4 v.ownBlock → w4.frozen? ⟨g, 0, none⟩ = false ∧ w4.cell? ⟨g, 0, none⟩ = some v) := by
  have hne : v.ownBlock ≠ some g := fun e => by have := (World.ownsRow.lt h2 _ e).1; omega
  have hfar : ∀ {w4 : World}, (W.alloc (.cells #[.int .u8 c.toNat] 5)).drew.grownBy w4 v.ownBlock → ∀ {b : Nat} {T : TypeId} {cs : List Value}, v.ownBlock ≠ some b → Blk W b T cs → Blk w4 b T cs := fun hg _ _ _ hb hk => Blk.far (w := (W.alloc (.cells #[.int .u8 c.toNat] 5)).drew) (hk.alloc _) hg fun e => hb e.symm
  have e1 : (W.alloc (.cells #[.int .u8 c.toNat] 5)).drew.heap.size = W.heap.size + 1 := by simp
  refine ⟨fun w4 v4 k1 k2 => ?_, fun w4 k2 => ?_⟩
  · have hgg := hfar k2 hne h1
    have hbb : Below w.heap.size w w4 := (Below.drew (h3.alloc h3.size _)).grown k2 (by rw [e1]; have := h3.size; omega) fun k hk => by have := (World.ownsRow.lt h2 k hk).1; omega
    have hsz := k2.size
    have e2 : (w4.setCell ⟨g, 0, none⟩ v4).heap.size = w4.heap.size := by simp [World.setCell]
    refine ⟨⟨⟨v4, hgg.set 0 v4, World.ownsRow.kept k1 (gr_setCell1 (World.grownBy.refl _ _) 0 v4) (own_ne k1 (by omega))⟩, hbb.setCell (p := ⟨g, 0, none⟩) h4 v4, h4, by omega⟩, fun b T cs hb1 hb2 hk => ?_⟩
    exact (hfar k2 hb2 hk).far (gr_setCell1 (World.grownBy.refl _ _) 0 v4) fun e => hb1 (by injection e)
  · have hgg := hfar k2 hne h1
    exact ⟨hgg.frozen 0, (hgg.cell 0).trans rfl⟩

theorem flat_le {α : Type} {f : α → List UInt8} {k : Nat} : ∀ {l : List α}, (∀ x ∈ l, (f x).length ≤ k) → (l.flatMap f).length ≤ l.length * k
  | [], _ => Nat.zero_le _
  | a :: l, h => by
    have h1 := h a (List.mem_cons_self ..)
    have h2 := flat_le (l := l) fun x hx => h x (List.mem_cons_of_mem _ hx)
    rw [List.flatMap_cons, List.length_append, List.length_cons, Nat.succ_mul]
    omega

theorem flat_take {α : Type} {f : α → List UInt8} {l : List α} {i : Nat} {x : α} (h : l[i]? = some x) : (l.take (i + 1)).flatMap f = (l.take i).flatMap f ++ f x := by
  rw [List.take_add_one, h, List.flatMap_append]
  simp

theorem Rise.one {α : Type} {one : α → Prop} {low : α → α → Prop} {l : List α} (h : Rise one low l) {x : α} (hx : x ∈ l) : one x := by
  obtain ⟨i, hi⟩ := List.getElem?_of_mem hx
  exact (h i x hi).1

theorem soldB_len {x : SoldT} (h : oneS x) : (soldB x).length ≤ 3 := by
  unfold soldB
  have := varL_len 1 x.n.toNat (by have := h.2.2; have := h.2.1; omega)
  rw [List.length_cons]
  omega

theorem heldB_len (x : HeldT) : (heldB x).length = 6 := by
  unfold heldB
  rw [List.length_append, beL_len, beL_len]
end Go.Proofs.YtjahkaidinahpaaDoor
