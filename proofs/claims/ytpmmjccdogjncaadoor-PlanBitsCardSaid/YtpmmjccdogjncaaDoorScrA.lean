/- screen.row: an array of bytes in memory; a slice of bytes; the row of bytes. -/
import Derived.Test.YtpmmjccdogjncaaDoorSBase
namespace Go.Proofs.YtpmmjccdogjncaaDoor
open Go.RowKit

/-- The cells of bytes. -/
def byteV (l : List UInt8) : List Value := l.map fun x => .int .u8 (x.toNat : Int)

theorem byteV_len (l : List UInt8) : (byteV l).length = l.length := by simp [byteV]

theorem byteV_get {l : List UInt8} {j : Nat} (h : j < l.length) : (byteV l)[j]? = some (.int .u8 ((l.getD j 0).toNat : Int)) := by
  simp [byteV, List.getD, h]

/-- Block b holds just the bytes l, and may be written. -/
def Arr (w : World) (b : Nat) (T : TypeId) (l : List UInt8) : Prop := w.heap[b]? = some (.cells (byteV l).toArray T (0, 0))

section
variable {w w' : World} {b : Nat} {T : TypeId} {l : List UInt8}
theorem Arr.lt (h : Arr w b T l) : b < w.heap.size := by
  rcases Nat.lt_or_ge b w.heap.size with hlt | hge
  · exact hlt
  · unfold Arr at h; rw [Array.getElem?_eq_none hge] at h; cases h
theorem Arr.cell (h : Arr w b T l) {j : Nat} (hj : j < l.length) : w.cell? ⟨b, j, none⟩ = some (.int .u8 ((l.getD j 0).toNat : Int)) := by
  rw [cell_of_row w b j _ _ _ h]
  simp only [List.getElem?_toArray]
  exact byteV_get hj
theorem Arr.frozen (h : Arr w b T l) (j : Nat) : w.frozen? ⟨b, j, none⟩ = false := frozen_of_row w b j _ _ h
theorem Arr.set (h : Arr w b T l) (j : Nat) (x : UInt8) : Arr (w.setCell ⟨b, j, none⟩ (.int .u8 (x.toNat : Int))) b T (l.set j x) := by
  unfold Arr at h ⊢
  simp [World.setCell, Array.getElem?_modify, h, byteV]
theorem Arr.mono (h : Arr w b T l) (hb : Below w.heap.size w w') : Arr w' b T l := (hb.block b h.lt).trans h
theorem Arr.keep {B : Nat} (h : Arr w b T l) (hb : Below B w w') (hB : b < B) : Arr w' b T l := (hb.block b hB).trans h
theorem Arr.alloc (h : Arr w b T l) (o : Obj) : Arr (w.alloc o) b T l := (Below.heap_alloc w o b h.lt).trans h
end

/-- 'v' reads as the bytes l. -/
def HasB (w : World) (v : Value) (l : List UInt8) : Prop :=
  ∃ p c, v = .slice p l.length c ∧ l.length ≤ c ∧ c ≤ maxLen ∧ ∀ j, j < l.length → ∃ b off, p = some ⟨b, off, none⟩ ∧ w.cell? ⟨b, off + j, none⟩ = some (.int .u8 ((l.getD j 0).toNat : Int))

theorem HasB.mono {w w' : World} {v : Value} {l : List UInt8} (h : HasB w v l) (hb : Below w.heap.size w w') : HasB w' v l := by
  obtain ⟨p, c, e, h1, h2, h3⟩ := h
  refine ⟨p, c, e, h1, h2, fun j hj => ?_⟩
  obtain ⟨b, off, e2, h4⟩ := h3 j hj
  exact ⟨b, off, e2, cell_bel hb h4⟩

/-- A byte as it is shown. -/
def rowC (x : UInt8) : UInt8 := if 32 ≤ (x.toNat : Int) ∧ (x.toNat : Int) ≤ 126 then x else 63

/-- The row of bytes: 64 of them. -/
def rowL (l : List UInt8) : List UInt8 := (List.range 64).map fun i => rowC (if i < l.length then l.getD i 0 else 32)

theorem rowL_len (l : List UInt8) : (rowL l).length = 64 := by simp [rowL]

theorem rowL_get (l : List UInt8) {j : Nat} (h : j < 64) : (rowL l).getD j 0 = rowC (if j < l.length then l.getD j 0 else 32) := by
  simp [rowL, List.getD, h]

theorem list_eq8 {a b : List UInt8} (hl : a.length = b.length) (h : ∀ j, j < a.length → a.getD j 0 = b.getD j 0) : a = b := by
  apply List.ext_getElem hl
  intro i h1 h2
  have := h i h1
  simpa [List.getD, h1, h2] using this

theorem getD_set8 (l : List UInt8) (k j : Nat) (x : UInt8) (hk : k < l.length) : (l.set k x).getD j 0 = if j = k then x else l.getD j 0 := by
  rw [List.getD_eq_getElem?_getD, List.getElem?_set]
  by_cases h : k = j
  · subst h; simp [hk]
  · rw [if_neg h, if_neg (fun e => h e.symm), List.getD_eq_getElem?_getD]

/-- The bytes as a string. -/
def strOf (l : List UInt8) : ByteArray := ⟨l.toArray⟩

theorem row_step {l a a' : List UInt8} {n k : Nat} {y : UInt8} (h : ∀ j, j < k → a.getD j 0 = rowC (if j < n then l.getD j 0 else 32)) (hs : ∀ j, a'.getD j 0 = if j = k then y else a.getD j 0) (hy : y = rowC (if k < n then l.getD k 0 else 32)) :
    ∀ j, j < k + 1 → a'.getD j 0 = rowC (if j < n then l.getD j 0 else 32) := by
  intro j hj
  rw [hs j]
  by_cases e : j = k
  · rw [if_pos e, hy, e]
  · rw [if_neg e]; exact h j (by omega)

set_option maxRecDepth 20000 in
set_option maxHeartbeats 8000000 in
theorem row_any (l : List UInt8) (v : Value) (w : World) (hv : HasB w v l) :
    Calls Tryd.prog 61 #[v] w fun e w' => e = .returned (.string (strOf (rowL l))) ∧ Below w.heap.size w w' := by
  obtain ⟨p, c, rfl, h1, h2, h3⟩ := hv
  have H3 := Lib.hid h3
  unfold maxLen at h2
  clear h3
  generalize hn : l.length = n at *
  have HN := Lib.hid hn
  clear hn
  go_enter Tryd.func61, Tryd.ntmps61
  go_wp2_with fail
  go_loopg [5] 64 (fun g i wr => ∃ (k : Nat) (a : List UInt8), k ≤ 64 ∧ g = 64 - k ∧ i = .int .i64 k ∧ Below w.heap.size w wr ∧ Arr wr w.heap.size 71 a ∧ a.length = 64 ∧ ∀ j, j < k → a.getD j 0 = rowC (if j < n then l.getD j 0 else 32))
  case atStart => exact ⟨0, List.replicate 64 0, Nat.zero_le _, rfl, rfl, (Below.refl _ _).alloc (Nat.le_refl _) _, by unfold Arr; rw [heap_alloc_new]; rfl, by simp, fun j hj => absurd hj (Nat.not_lt_zero _)⟩
  case round =>
    obtain ⟨k, a, hk, rfl, rfl, hb, ha, hal, hag⟩ := hrel
    have HAG := Lib.hid hag
    clear hag
    by_cases hlt : k < 64
    · have hki : (k : Int) < 64 := by omega
      have hk0 : (0 : Int) ≤ (k : Int) := by omega
      have c1 := ha.cell (j := k) (by omega)
      have f1 := ha.frozen k
      have HA := Lib.hid ha
      generalize a.getD k 0 = a0 at c1
      by_cases hkn : k < n
      · have hkni : (k : Int) < (n : Int) := by omega
        obtain ⟨b, off, rfl, c0⟩ := H3.out k hkn
        have c2 := cell_bel hb c0
        have hne : b ≠ w.heap.size := by
          intro e
          have := World.block_lt_of_cell? w _ (show w.cell? ⟨b, off + k, none⟩ = some _ from c0)
          simp only at this
          omega
        clear c0
        generalize hx : l.getD k 0 = x at c2
        have hx0 : (0 : Int) ≤ (x.toNat : Int) := by omega
        have hx1 := byte_hi x
        have HX := Lib.hid hx
        clear hx ha
        by_cases hr : 32 ≤ (x.toNat : Int)
        · by_cases hr2 : (x.toNat : Int) ≤ 126
          · have HY : RowKit.Hid (x = rowC (if k < n then l.getD k 0 else 32)) := Lib.hid (by rw [if_pos hkn, HX.out, rowC, if_pos ⟨hr, hr2⟩])
            go_wp2
            go_roundg (64 - (k + 1))
            case measure => omega
            case rel => exact ⟨k + 1, (a.set k 32).set k x, by omega, rfl, by go_num, (hb.setCell (p := ⟨w.heap.size, k, none⟩) (Nat.le_refl _) _).setCell (p := ⟨w.heap.size, k, none⟩) (Nat.le_refl _) _, (HA.out.set k 32).set k x, by simp [hal], row_step HAG.out (y := x) (fun j => by rw [getD_set8 _ _ _ _ (by rw [List.length_set, hal]; omega), getD_set8 _ _ _ _ (by omega)]; split <;> rfl) HY.out⟩
          · have HY : RowKit.Hid (63 = rowC (if k < n then l.getD k 0 else 32)) := Lib.hid (by rw [if_pos hkn, HX.out, rowC, if_neg (by omega)])
            go_wp2
            go_roundg (64 - (k + 1))
            case measure => omega
            case rel => exact ⟨k + 1, ((a.set k 32).set k x).set k 63, by omega, rfl, by go_num, ((hb.setCell (p := ⟨w.heap.size, k, none⟩) (Nat.le_refl _) _).setCell (p := ⟨w.heap.size, k, none⟩) (Nat.le_refl _) _).setCell (p := ⟨w.heap.size, k, none⟩) (Nat.le_refl _) _, ((HA.out.set k 32).set k x).set k 63, by simp [hal], row_step HAG.out (y := 63) (fun j => by rw [getD_set8 _ _ _ _ (by rw [List.length_set, List.length_set, hal]; omega), getD_set8 _ _ _ _ (by rw [List.length_set, hal]; omega), getD_set8 _ _ _ _ (by omega)]; split <;> rfl) HY.out⟩
        · have HY : RowKit.Hid (63 = rowC (if k < n then l.getD k 0 else 32)) := Lib.hid (by rw [if_pos hkn, HX.out, rowC, if_neg (by omega)])
          go_wp2
          go_roundg (64 - (k + 1))
          case measure => omega
          case rel => exact ⟨k + 1, ((a.set k 32).set k x).set k 63, by omega, rfl, by go_num, ((hb.setCell (p := ⟨w.heap.size, k, none⟩) (Nat.le_refl _) _).setCell (p := ⟨w.heap.size, k, none⟩) (Nat.le_refl _) _).setCell (p := ⟨w.heap.size, k, none⟩) (Nat.le_refl _) _, ((HA.out.set k 32).set k x).set k 63, by simp [hal], row_step HAG.out (y := 63) (fun j => by rw [getD_set8 _ _ _ _ (by rw [List.length_set, List.length_set, hal]; omega), getD_set8 _ _ _ _ (by rw [List.length_set, hal]; omega), getD_set8 _ _ _ _ (by omega)]; split <;> rfl) HY.out⟩
      · have hkni : ¬ (k : Int) < (n : Int) := by omega
        have HY : RowKit.Hid (32 = rowC (if k < n then l.getD k 0 else 32)) := Lib.hid (by rw [if_neg hkn]; rfl)
        clear ha
        go_wp2
        go_roundg (64 - (k + 1))
        case measure => omega
        case rel => exact ⟨k + 1, a.set k 32, by omega, rfl, by go_num, hb.setCell (p := ⟨w.heap.size, k, none⟩) (Nat.le_refl _) _, HA.out.set k 32, by simp [hal], row_step HAG.out (y := 32) (fun j => by rw [getD_set8 _ _ _ _ (by omega)]) HY.out⟩
    · have hk6 : k = 64 := by omega
      subst hk6
      have HF : RowKit.Hid (a = rowL l) := Lib.hid (list_eq8 (by rw [hal, rowL_len]) fun j hj => by rw [rowL_get l (by omega), HN.out]; exact HAG.out j (by omega))
      have hsc := string_conv a wr w.heap.size 64 64 hal (fun j hj => ha.cell (by omega))
      have HB := Lib.hid hb
      have HA := Lib.hid ha
      clear ha
      go_wp2
      go_ret
      exact ⟨by rw [HF.out]; rfl, HB.out⟩
end Go.Proofs.YtpmmjccdogjncaaDoor
