/- A cursor in memory; the contract of ahead. -/
import Derived.Test.YtlaieijlengojaaLawCodeA
import Derived.Deep.RegionHeld3
namespace Go.Proofs.Ytlaieijlengojaa
open Go.RowKit

/-- Block b is a cursor: its text and its place. -/
def Cur (w : World) (b : Nat) (s : ByteArray) (p : Int) : Prop := w.heap[b]? = some (.cells #[.string s, .int .i64 p] 26 (0, 0))

section
variable {w w' : World} {b : Nat} {s : ByteArray} {p : Int}
theorem Cur.lt (h : Cur w b s p) : b < w.heap.size := by
  rcases Nat.lt_or_ge b w.heap.size with hlt | hge
  · exact hlt
  · unfold Cur at h; rw [Array.getElem?_eq_none hge] at h; cases h
theorem Cur.text (h : Cur w b s p) : w.cell? ⟨b, 0, none⟩ = some (.string s) := cell_of_row w b 0 _ _ _ h
theorem Cur.at_ (h : Cur w b s p) : w.cell? ⟨b, 1, none⟩ = some (.int .i64 p) := cell_of_row w b 1 _ _ _ h
theorem Cur.frozen (h : Cur w b s p) (i : Nat) : w.frozen? ⟨b, i, none⟩ = false := by
  unfold Cur at h
  simp [World.frozen?, h]
theorem Cur.new (w : World) (s : ByteArray) (p : Int) : Cur (w.alloc (.cells #[.string s, .int .i64 p] 26)) w.heap.size s p := heap_alloc_new w _
theorem Cur.drew (h : Cur w b s p) : Cur w.drew b s p := h
theorem Cur.drewN (h : Cur w b s p) (n : Nat) : Cur (w.drewN n) b s p := h
theorem Cur.alloc (h : Cur w b s p) (o : Obj) : Cur (w.alloc o) b s p := (Below.heap_alloc w o b h.lt).trans h
theorem Cur.set_ (h : Cur w b s p) (q : Int) : Cur (w.setCell ⟨b, 1, none⟩ (.int .i64 q)) b s q := by
  unfold Cur at h ⊢
  simp [World.setCell, Array.getElem?_modify, h]
theorem Cur.below {B : Nat} (h : Cur w b s p) (hb : Below B w w') (hg : b < B) : Cur w' b s p := (hb.block b hg).trans h
theorem Cur.far {c : Nat} (h : Cur w b s p) (hg : w.grownBy w' (some c)) (hne : b ≠ c) : Cur w' b s p := (hg.block b h.lt (by simpa using hne)).trans h
end

section
variable {a w w' : World} {g : Nat}
theorem gr_drewN {row : Option Nat} (h : a.grownBy w row) (n : Nat) : a.grownBy (w.drewN n) row := ⟨h.os, h.tape, h.output, h.size, h.block⟩
theorem gr_drew {row : Option Nat} (h : a.grownBy w row) : a.grownBy w.drew row := ⟨h.os, h.tape, h.output, h.size, h.block⟩
theorem gr_alloc {row : Option Nat} (h : a.grownBy w row) (o : Obj) : a.grownBy (w.alloc o) row :=
  ⟨h.os, h.tape, h.output, Nat.le_trans h.size (by simp), fun i hi hne => (Below.heap_alloc w o i (Nat.lt_of_lt_of_le hi h.size)).trans (h.block i hi hne)⟩
theorem gr_setCell (h : a.grownBy w (some g)) {p : Addr} (hp : p.block = g ∨ a.heap.size ≤ p.block) (u : Value) : a.grownBy (w.setCell p u) (some g) :=
  ⟨h.os, h.tape, h.output, by simpa [World.setCell] using h.size, fun i hi hne => (Below.heap_setCell w p u i (by
    rintro rfl
    rcases hp with hp | hp
    · exact hne (by rw [hp])
    · omega)).trans (h.block i hi hne)⟩
theorem gr_of_below (h : Below a.heap.size a w) (row : Option Nat) : a.grownBy w row := ⟨h.os, h.tape, h.output, h.size, fun i hi _ => h.block i hi⟩
theorem gr_trans {row : Option Nat} (h : a.grownBy w row) (k : w.grownBy w' row) : a.grownBy w' row :=
  ⟨k.os.trans h.os, k.tape.trans h.tape, k.output.trans h.output, Nat.le_trans h.size k.size, fun i hi hne => (k.block i (Nat.lt_of_lt_of_le hi h.size) hne).trans (h.block i hi hne)⟩
/-- Only blocks from B on have turned. -/
theorem bel_gr {B : Nat} (h : Below B a w) (hB : B ≤ w.heap.size) (k : w.grownBy w' (some g)) (hg : B ≤ g) : Below B a w' := h.grown k hB (fun _ hk => by injection hk with hk; omega)
end

/-- A place brought into a text. -/
def place (n : Nat) (p : Int) : Int := if p < 0 then 0 else if (n : Int) < p then n else p
theorem place_ge (n : Nat) (p : Int) : 0 ≤ place n p := by unfold place; split <;> (try split) <;> omega
theorem place_le (n : Nat) (p : Int) : place n p ≤ n := by unfold place; split <;> (try split) <;> omega
theorem place_in (n : Nat) (p : Int) (h0 : 0 ≤ p) (h1 : p ≤ n) : place n p = p := by unfold place; split <;> (try split) <;> omega
theorem place_id (n : Nat) (p : Int) : place n (place n p) = place n p := place_in n _ (place_ge n p) (place_le n p)

theorem bytes_inj {a b : ByteArray} (h : a.data.toList = b.data.toList) : a = b := by
  obtain ⟨⟨a⟩⟩ := a; obtain ⟨⟨b⟩⟩ := b
  simp at h; rw [h]

theorem ahead_any (b : Nat) (s : ByteArray) (p : Int) (w : World) (hs : s.size ≤ maxLen) (hc : Cur w b s p) :
    Calls Try.prog 44 #[.pointer (some ⟨b, 0, none⟩)] w fun e w' => e = .returned (.string (s.extract (place s.size p).toNat s.size)) ∧ Cur w' b s (place s.size p) ∧ w.grownBy w' (some b) := by
  unfold maxLen at hs
  have h1 := hc.text
  have h2 := hc.at_
  have h3 := hc.frozen 1
  have hset := hc.set_
  by_cases hp : p < 0
  · have e : place s.size p = 0 := by unfold place; rw [if_pos hp]
    rw [e]
    have HS := Lib.hid hset
    clear e hset
    go_enter Try.func44, Try.ntmps44
    go_wp2
    go_region
    go_wp2
    go_quiet (fail)
    go_wp2
    go_ret
    exact ⟨ret_str (by simp), (HS.out 0).drewN nq, gr_drewN (gr_drew (gr_setCell (p := ⟨b, 1, none⟩) (World.grownBy.refl w _) (.inl rfl) _)) _⟩
  by_cases hq : (s.size : Int) < p
  · have e : place s.size p = s.size := by unfold place; rw [if_neg hp, if_pos hq]
    rw [e]
    have HS := Lib.hid hset
    clear e hset
    go_enter Try.func44, Try.ntmps44
    go_wp2
    go_region
    go_wp2
    go_quiet (fail)
    go_wp2
    go_ret
    exact ⟨ret_str (by simp), (HS.out s.size).drewN nq, gr_drewN (gr_drew (gr_setCell (p := ⟨b, 1, none⟩) (World.grownBy.refl w _) (.inl rfl) _)) _⟩
  · have e : place s.size p = p := by unfold place; rw [if_neg hp, if_neg hq]
    rw [e]
    have HS := Lib.hid hset
    clear e hset
    have hp0 : 0 ≤ p := by omega
    have hp1 : p ≤ (s.size : Int) := by omega
    obtain ⟨k, rfl⟩ := Int.eq_ofNat_of_zero_le hp0
    have hk : k ≤ s.size := by omega
    go_enter Try.func44, Try.ntmps44
    go_wp2
    go_region
    go_wp2
    go_quiet (fail)
    go_wp2
    go_ret
    exact ⟨rfl, (HS.out k).drewN nq, gr_drewN (gr_drew (gr_setCell (p := ⟨b, 1, none⟩) (World.grownBy.refl w _) (.inl rfl) _)) _⟩
end Go.Proofs.Ytlaieijlengojaa
