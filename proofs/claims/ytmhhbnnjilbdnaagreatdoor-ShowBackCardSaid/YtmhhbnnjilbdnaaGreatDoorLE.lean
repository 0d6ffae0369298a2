/- screen.row: an array of bytes in memory; a slice of bytes; the row of bytes. The reference's filled. Lines: of the program, of the reference. pages, Pages, the reference's Pages; Few. strings.TrimRight of blanks. screen.Text. -/
import Derived.Test.YtmhhbnnjilbdnaaGreatDoorKA
import Derived.Test.YtmhhbnnjilbdnaaGreatDoorKB
import Derived.Test.YtmhhbnnjilbdnaaGreatDoorKE
import Derived.Test.YtmhhbnnjilbdnaaGreatDoorKF
import Derived.Test.YtmhhbnnjilbdnaaGreatDoorPlnP
import Derived.Test.YtmhhbnnjilbdnaaGreatDoorKG
import Derived.Test.YtmhhbnnjilbdnaaGreatDoorSD
import Derived.Test.YtmhhbnnjilbdnaaGreatDoorKJ
import Derived.Test.YtmhhbnnjilbdnaaGreatDoorKL
import Derived.Test.YtmhhbnnjilbdnaaGreatDoorLD
import Derived.Test.YtmhhbnnjilbdnaaGreatDoorRows
import Derived.WalkKit
import Derived.WalkSpells
import Derived.WalkLawsBesides
import Derived.Lib.ConvBytes
import Derived.Lib.Hide
import Derived.Lib.SliceRun
import Derived.IntWalk
import Derived.BigQuiet
import Derived.Deep.QuietTactic
import Derived.Deep.RegionWith
import Derived.Deep.RegionHeld3
import Derived.Deep.LoopGhost
import Derived.Deep.CutRange
import Derived.Deep.CutBlock
import Derived.Deep.MidRow
import Derived.Laws.OwnMore
import Derived.OwnWalk
import Derived.Laws.AppendOwnNone
import Derived.Test.YtmhhbnnjilbdnaaGreatDoorLB
import Derived.Maps.AppendAt
namespace Go.Proofs.YtmhhbnnjilbdnaaGreatDoor
open Go.RowKit

/-- The cells of bytes. -/
def byteV (l : List UInt8) : List Value := l.map fun x => .int .u8 (x.toNat : Int)

theorem byteV_len (l : List UInt8) : (byteV l).length = l.length := by simp [byteV]

theorem byteV_get {l : List UInt8} {j : Nat} (h : j < l.length) : (byteV l)[j]? = some (.int .u8 ((l.getD j 0).toNat : Int)) := by
  simp [byteV, List.getD, h]

/-- Block b holds just the bytes l, and may be written. -/
def Arr (w : World) (b : Nat) (T : TypeId) (l : List UInt8) : Prop := w.heap[b]? = some (.cells (byteV l).toArray T (0, 0))

section
variable {w w' : World} {b : Nat} {T : TypeId} {l : List UInt8}
theorem Arr.lt (h : Arr w b T l) : b < w.heap.size := by
  rcases Nat.lt_or_ge b w.heap.size with hlt | hge
  · exact hlt
  · unfold Arr at h; rw [Array.getElem?_eq_none hge] at h; cases h
theorem Arr.cell (h : Arr w b T l) {j : Nat} (hj : j < l.length) : w.cell? ⟨b, j, none⟩ = some (.int .u8 ((l.getD j 0).toNat : Int)) := by
  rw [cell_of_row w b j _ _ _ h]
  simp only [List.getElem?_toArray]
  exact byteV_get hj
theorem Arr.frozen (h : Arr w b T l) (j : Nat) : w.frozen? ⟨b, j, none⟩ = false := frozen_of_row w b j _ _ h
theorem Arr.set (h : Arr w b T l) (j : Nat) (x : UInt8) : Arr (w.setCell ⟨b, j, none⟩ (.int .u8 (x.toNat : Int))) b T (l.set j x) := by
  unfold Arr at h ⊢
  simp [World.setCell, Array.getElem?_modify, h, byteV]
theorem Arr.mono (h : Arr w b T l) (hb : Below w.heap.size w w') : Arr w' b T l := (hb.block b h.lt).trans h
theorem Arr.keep {B : Nat} (h : Arr w b T l) (hb : Below B w w') (hB : b < B) : Arr w' b T l := (hb.block b hB).trans h
theorem Arr.alloc (h : Arr w b T l) (o : Obj) : Arr (w.alloc o) b T l := (Below.heap_alloc w o b h.lt).trans h
end

/-- 'v' reads as the bytes l. -/
def HasB (w : World) (v : Value) (l : List UInt8) : Prop :=
  ∃ p c, v = .slice p l.length c ∧ l.length ≤ c ∧ c ≤ maxLen ∧ ∀ j, j < l.length → ∃ b off, p = some ⟨b, off, none⟩ ∧ w.cell? ⟨b, off + j, none⟩ = some (.int .u8 ((l.getD j 0).toNat : Int))

theorem HasB.mono {w w' : World} {v : Value} {l : List UInt8} (h : HasB w v l) (hb : Below w.heap.size w w') : HasB w' v l := by
  obtain ⟨p, c, e, h1, h2, h3⟩ := h
  refine ⟨p, c, e, h1, h2, fun j hj => ?_⟩
  obtain ⟨b, off, e2, h4⟩ := h3 j hj
  exact ⟨b, off, e2, cell_bel hb h4⟩

/-- A byte as it is shown. -/
def rowC (x : UInt8) : UInt8 := if 32 ≤ (x.toNat : Int) ∧ (x.toNat : Int) ≤ 126 then x else 63

/-- The row of bytes: 64 of them. -/
def rowL (l : List UInt8) : List UInt8 := (List.range 64).map fun i => rowC (if i < l.length then l.getD i 0 else 32)

theorem rowL_len (l : List UInt8) : (rowL l).length = 64 := by simp [rowL]

theorem rowL_get (l : List UInt8) {j : Nat} (h : j < 64) : (rowL l).getD j 0 = rowC (if j < l.length then l.getD j 0 else 32) := by
  simp [rowL, List.getD, h]

theorem list_eq8 {a b : List UInt8} (hl : a.length = b.length) (h : ∀ j, j < a.length → a.getD j 0 = b.getD j 0) : a = b := by
  apply List.ext_getElem hl
  intro i h1 h2
  have := h i h1
  simpa [List.getD, h1, h2] using this

theorem getD_set8 (l : List UInt8) (k j : Nat) (x : UInt8) (hk : k < l.length) : (l.set k x).getD j 0 = if j = k then x else l.getD j 0 := by
  rw [List.getD_eq_getElem?_getD, List.getElem?_set]
  by_cases h : k = j
  · subst h; simp [hk]
  · rw [if_neg h, if_neg (fun e => h e.symm), List.getD_eq_getElem?_getD]

theorem row_step {l a a' : List UInt8} {n k : Nat} {y : UInt8} (h : ∀ j, j < k → a.getD j 0 = rowC (if j < n then l.getD j 0 else 32)) (hs : ∀ j, a'.getD j 0 = if j = k then y else a.getD j 0) (hy : y = rowC (if k < n then l.getD k 0 else 32)) :
    ∀ j, j < k + 1 → a'.getD j 0 = rowC (if j < n then l.getD j 0 else 32) := by
  intro j hj
  rw [hs j]
  by_cases e : j = k
  · rw [if_pos e, hy, e]
  · rw [if_neg e]; exact h j (by omega)

set_option maxRecDepth 20000 in
set_option maxHeartbeats 8000000 in
theorem row_any (l : List UInt8) (v : Value) (w : World) (hv : HasB w v l) :
    Calls Tryz.prog 36 #[v] w fun e w' => e = .returned (.string (strOf (rowL l))) ∧ Below w.heap.size w w' := by
  obtain ⟨p, c, rfl, h1, h2, h3⟩ := hv
  have H3 := Lib.hid h3
  unfold maxLen at h2
  clear h3
  generalize hn : l.length = n at *
  have HN := Lib.hid hn
  clear hn
  go_enter Tryz.func36, Tryz.ntmps36
  go_wp2_with fail
  go_loopg [5] 64 (fun g i wr => ∃ (k : Nat) (a : List UInt8), k ≤ 64 ∧ g = 64 - k ∧ i = .int .i64 k ∧ Below w.heap.size w wr ∧ Arr wr w.heap.size 79 a ∧ a.length = 64 ∧ ∀ j, j < k → a.getD j 0 = rowC (if j < n then l.getD j 0 else 32))
  case atStart => exact ⟨0, List.replicate 64 0, Nat.zero_le _, rfl, rfl, (Below.refl _ _).alloc (Nat.le_refl _) _, by unfold Arr; rw [heap_alloc_new]; rfl, by simp, fun j hj => absurd hj (Nat.not_lt_zero _)⟩
  case round =>
    obtain ⟨k, a, hk, rfl, rfl, hb, ha, hal, hag⟩ := hrel
    have HAG := Lib.hid hag
    clear hag
    by_cases hlt : k < 64
    · have hki : (k : Int) < 64 := by omega
      have hk0 : (0 : Int) ≤ (k : Int) := by omega
      have c1 := ha.cell (j := k) (by omega)
      have f1 := ha.frozen k
      have HA := Lib.hid ha
      generalize a.getD k 0 = a0 at c1
      by_cases hkn : k < n
      · have hkni : (k : Int) < (n : Int) := by omega
        obtain ⟨b, off, rfl, c0⟩ := H3.out k hkn
        have c2 := cell_bel hb c0
        have hne : b ≠ w.heap.size := by
          intro e
          have := World.block_lt_of_cell? w _ (show w.cell? ⟨b, off + k, none⟩ = some _ from c0)
          simp only at this
          omega
        clear c0
        generalize hx : l.getD k 0 = x at c2
        have hx0 : (0 : Int) ≤ (x.toNat : Int) := by omega
        have hx1 := byte_hi x
        have HX := Lib.hid hx
        clear hx ha
        by_cases hr : 32 ≤ (x.toNat : Int)
        · by_cases hr2 : (x.toNat : Int) ≤ 126
          · have HY : RowKit.Hid (x = rowC (if k < n then l.getD k 0 else 32)) := Lib.hid (by rw [if_pos hkn, HX.out, rowC, if_pos ⟨hr, hr2⟩])
            go_wp2
            go_roundg (64 - (k + 1))
            case measure => omega
            case rel => exact ⟨k + 1, (a.set k 32).set k x, by omega, rfl, by go_num, (hb.setCell (p := ⟨w.heap.size, k, none⟩) (Nat.le_refl _) _).setCell (p := ⟨w.heap.size, k, none⟩) (Nat.le_refl _) _, (HA.out.set k 32).set k x, by simp [hal], row_step HAG.out (y := x) (fun j => by rw [getD_set8 _ _ _ _ (by rw [List.length_set, hal]; omega), getD_set8 _ _ _ _ (by omega)]; split <;> rfl) HY.out⟩
          · have HY : RowKit.Hid (63 = rowC (if k < n then l.getD k 0 else 32)) := Lib.hid (by rw [if_pos hkn, HX.out, rowC, if_neg (by omega)])
            go_wp2
            go_roundg (64 - (k + 1))
            case measure => omega
            case rel => exact ⟨k + 1, ((a.set k 32).set k x).set k 63, by omega, rfl, by go_num, ((hb.setCell (p := ⟨w.heap.size, k, none⟩) (Nat.le_refl _) _).setCell (p := ⟨w.heap.size, k, none⟩) (Nat.le_refl _) _).setCell (p := ⟨w.heap.size, k, none⟩) (Nat.le_refl _) _, ((HA.out.set k 32).set k x).set k 63, by simp [hal], row_step HAG.out (y := 63) (fun j => by rw [getD_set8 _ _ _ _ (by rw [List.length_set, List.length_set, hal]; omega), getD_set8 _ _ _ _ (by rw [List.length_set, hal]; omega), getD_set8 _ _ _ _ (by omega)]; split <;> rfl) HY.out⟩
        · have HY : RowKit.Hid (63 = rowC (if k < n then l.getD k 0 else 32)) := Lib.hid (by rw [if_pos hkn, HX.out, rowC, if_neg (by omega)])
          go_wp2
          go_roundg (64 - (k + 1))
          case measure => omega
          case rel => exact ⟨k + 1, ((a.set k 32).set k x).set k 63, by omega, rfl, by go_num, ((hb.setCell (p := ⟨w.heap.size, k, none⟩) (Nat.le_refl _) _).setCell (p := ⟨w.heap.size, k, none⟩) (Nat.le_refl _) _).setCell (p := ⟨w.heap.size, k, none⟩) (Nat.le_refl _) _, ((HA.out.set k 32).set k x).set k 63, by simp [hal], row_step HAG.out (y := 63) (fun j => by rw [getD_set8 _ _ _ _ (by rw [List.length_set, List.length_set, hal]; omega), getD_set8 _ _ _ _ (by rw [List.length_set, hal]; omega), getD_set8 _ _ _ _ (by omega)]; split <;> rfl) HY.out⟩
      · have hkni : ¬ (k : Int) < (n : Int) := by omega
        have HY : RowKit.Hid (32 = rowC (if k < n then l.getD k 0 else 32)) := Lib.hid (by rw [if_neg hkn]; rfl)
        clear ha
        go_wp2
        go_roundg (64 - (k + 1))
        case measure => omega
        case rel => exact ⟨k + 1, a.set k 32, by omega, rfl, by go_num, hb.setCell (p := ⟨w.heap.size, k, none⟩) (Nat.le_refl _) _, HA.out.set k 32, by simp [hal], row_step HAG.out (y := 32) (fun j => by rw [getD_set8 _ _ _ _ (by omega)]) HY.out⟩
    · have hk6 : k = 64 := by omega
      subst hk6
      have HF : RowKit.Hid (a = rowL l) := Lib.hid (list_eq8 (by rw [hal, rowL_len]) fun j hj => by rw [rowL_get l (by omega), HN.out]; exact HAG.out j (by omega))
      have hsc := string_conv a wr w.heap.size 64 64 hal (fun j hj => ha.cell (by omega))
      have HB := Lib.hid hb
      have HA := Lib.hid ha
      clear ha
      go_wp2
      go_ret
      exact ⟨by rw [HF.out]; rfl, HB.out⟩
end Go.Proofs.YtmhhbnnjilbdnaaGreatDoor
namespace Go.Proofs.YtmhhbnnjilbdnaaGreatDoor
open Go.RowKit

theorem rowL_fill (l : List UInt8) (h : l.length ≤ 64) : rowL l = l.map rowC ++ List.replicate (64 - l.length) 32 := by
  apply list_eq8
  · rw [rowL_len]; simp; omega
  · intro j hj
    rw [rowL_len] at hj
    rw [rowL_get l hj, List.getD_eq_getElem?_getD (l := _ ++ _), List.getElem?_append]
    by_cases e : j < l.length
    · simp [e, List.getD]
    · rw [if_neg e, if_neg (by simpa using e), List.getElem?_replicate, if_pos (by simp; omega)]
      rfl

end Go.Proofs.YtmhhbnnjilbdnaaGreatDoor
namespace Go.Proofs.YtmhhbnnjilbdnaaGreatDoor
open Go.RowKit

/-- How many rows so many bytes take. -/
def rowsN (n : Nat) : Nat := if n = 0 then 1 else (n + 63) / 64

theorem rowsN_pos (n : Nat) : 1 ≤ rowsN n := by unfold rowsN; split <;> omega

theorem rowsN_more (n j : Nat) : j + 1 < rowsN n ↔ 64 * (j + 1) < n := by unfold rowsN; split <;> omega

/-- The row at the place i of a line. -/
def rowAt (b : List UInt8) (i : Nat) : ByteArray := strOf (rowL ((b.drop (64 * i)).take 64))

/-- The rows of a line. -/
def chunks (b : List UInt8) : List ByteArray := (List.range (rowsN b.length)).map (rowAt b)

theorem chunks_len (b : List UInt8) : (chunks b).length = rowsN b.length := by simp [chunks]

theorem chunks_take (b : List UInt8) {j : Nat} (h : j < rowsN b.length) : (chunks b).take (j + 1) = (chunks b).take j ++ [rowAt b j] := by
  rw [List.take_succ_eq_append_getElem (by rw [chunks_len]; exact h)]
  simp [chunks]

theorem chunks_last (b : List UInt8) {j : Nat} (h : j + 1 = rowsN b.length) : chunks b = (chunks b).take j ++ [rowAt b j] := by
  rw [← chunks_take b (by omega), List.take_of_length_le (by rw [chunks_len]; omega)]

def linesN (l : List ByteArray) (k : Nat) : List ByteArray := (l.take k).flatMap fun s => chunks s.data.toList

/-- The rows of lines. -/
def linesS (l : List ByteArray) : List ByteArray := linesN l 400

theorem linesN_zero (l : List ByteArray) : linesN l 0 = [] := by simp [linesN]

theorem linesN_step (l : List ByteArray) {k : Nat} (h : k < l.length) : linesN l (k + 1) = linesN l k ++ chunks (l.getD k ByteArray.empty).data.toList := by
  unfold linesN
  rw [List.take_succ_eq_append_getElem h, List.flatMap_append]
  simp [List.getD, h]

theorem rowsN_469 {n : Nat} (h : n ≤ 30000) : rowsN n ≤ 469 := by unfold rowsN; split <;> omega

theorem linesN_len (l : List ByteArray) (h : ∀ s ∈ l, s.size ≤ 30000) : ∀ k, (linesN l k).length ≤ k * 469
  | 0 => by rw [linesN_zero]; exact Nat.zero_le _
  | k + 1 => by
    have h2 := linesN_len l h k
    by_cases hk : k < l.length
    · have e : l.getD k ByteArray.empty = l[k] := by simp [List.getD, hk]
      have h1 : (l.getD k ByteArray.empty).data.toList.length ≤ 30000 := by
        rw [e]
        have := h _ (List.getElem_mem hk)
        simpa using this
      have h3 := rowsN_469 h1
      rw [linesN_step l hk, List.length_append, chunks_len, Nat.succ_mul]
      exact Nat.add_le_add h2 h3
    · have e : linesN l (k + 1) = linesN l k := by unfold linesN; rw [List.take_of_length_le (by omega), List.take_of_length_le (by omega)]
      rw [e, Nat.succ_mul]
      exact Nat.le_trans h2 (Nat.le_add_right _ _)

/-- Block b holds the bytes B from its head on. -/
def CellsB (w : World) (b : Nat) (B : List UInt8) : Prop := ∀ i, i < B.length → w.cell? ⟨b, i, none⟩ = some (.int .u8 ((B.getD i 0).toNat : Int))

theorem CellsB.mono {w w' : World} {b : Nat} {B : List UInt8} (h : CellsB w b B) (hb : Below w.heap.size w w') : CellsB w' b B := fun i hi => cell_bel hb (h i hi)
theorem CellsB.far {w w' : World} {b : Nat} {B : List UInt8} {row : Option Nat} (h : CellsB w b B) (hg : w.grownBy w' row) (hne : row ≠ some b) : CellsB w' b B := fun i hi => hg.cell (h i hi) (fun e => hne e.symm)
theorem CellsB.hasB {w : World} {b o n c : Nat} {B : List UInt8} (h : CellsB w b B) (hn : n = B.length - o) (hc : n ≤ c) (hm : c ≤ maxLen) : HasB w (.slice (some ⟨b, o, none⟩) n c) (B.drop o) := by
  have e : (B.drop o).length = n := by rw [List.length_drop, hn]
  refine ⟨_, _, by rw [e], by rw [e]; exact hc, hm, fun j hj => ⟨_, _, rfl, ?_⟩⟩
  rw [e] at hj
  rw [h (o + j) (by omega)]
  simp [List.getD]
theorem CellsB.hasB64 {w : World} {b o c : Nat} {B : List UInt8} (h : CellsB w b B) (hn : o + 64 ≤ B.length) (hc : 64 ≤ c) (hm : c ≤ maxLen) : HasB w (.slice (some ⟨b, o, none⟩) 64 c) ((B.drop o).take 64) := by
  have e : ((B.drop o).take 64).length = 64 := by simp; omega
  refine ⟨_, _, by rw [e], by rw [e]; exact hc, hm, fun j hj => ⟨_, _, rfl, ?_⟩⟩
  rw [e] at hj
  rw [h (o + j) (by omega)]
  simp [List.getD, hj]

/-- 'append(v, u)' of one element of one cell, which was laid in a new block right ahead; and where the new slice lies. -/
theorem wpList_push_at {P : Program} {wr : World} {ops : Array Oper} {rest : List Oper} {o : Oper} {a : Act} {Q : Exit → Act → World → Prop} (hgd : o.guard = none) (s x : Operand) (t : TypeId)
    (ho : o.op = .call { callee := .builtin .append, args := #[s, x], argTypes := #[t, t] })
    (base : Nat) (e : TypeId) (i : TypeInfo) (z : Value) (bytes : Nat) (ht : P.underlying t = some (.slice e)) (hi : P.info? e = some i) (hz : i.zero = some z)
    (hsize : i.size = 1) (hby : i.bytes = bytes) (hzs : z.cells.size = 1)
    (v : Value) (n : Nat) (xs : List Value) (hs : a.eval s = v) (hown : wr.ownsRow base e 1 v n xs) (u : Value) (hx : a.eval x = .slice (some ⟨wr.heap.size, 0, none⟩) 1 1) (h1 : u.oneCell' = true)
    (hm : n + 1 ≤ maxLen) (hbytes : (n + 1) * bytes ≤ 140737488355328) (hbase : base ≤ wr.heap.size)
    (h : ∀ v' w', w'.ownsRow base e 1 v' (n + 1) (xs ++ [u]) → Below base wr w' → wr.grownBy w' v.ownBlock → (v'.ownBlock = v.ownBlock ∨ ∃ k, v'.ownBlock = some k ∧ wr.heap.size < k) → wpList P ops Q rest (a.put o.dst v') w') :
    wpList P ops Q (o :: rest) a (wr.alloc (.cells #[u] e)) := by
  refine wpList_append_own_at _ hgd s x t ho base e i z 1 bytes ht hi hz hsize hby hzs (by decide) v n xs hs (hown.alloc _) ⟨wr.heap.size, 0, none⟩ 1 1 [u] hx rfl ?_ ?_ hm hbytes (by simp; omega) ?_
  · intro j y hj
    match j, hj with
    | 0, hj =>
      simp at hj; subst hj
      simp [Addr.add]
  · intro y hy
    simp at hy; subst hy; exact h1
  · intro v' w' hown' hg _ hloc
    refine h v' w' hown' ?_ ?_ ?_
    · refine ((Below.refl base wr).alloc hbase (.cells #[u] e)).grown hg (by simp; omega) fun k hk => ?_
      exact (hown.lt k hk).1
    · exact gby_trans (World.grownBy_alloc wr _ _) hg
    · rcases hloc with h | h
      · exact .inl h
      · exact .inr ⟨_, h, by simp⟩

theorem bytes_convB (s : ByteArray) (w : World) (hs : s.size ≤ maxLen) : ∃ w1 : World, ∃ cap : Nat, (convert 9 69 (.string s)).run Tryz.prog w = .ok (.slice (some ⟨w.heap.size, 0, none⟩) s.size cap) w1 ∧
    Below w.heap.size w w1 ∧ s.size ≤ cap ∧ cap ≤ maxLen ∧ CellsB w1 w.heap.size s.data.toList ∧ w.heap.size < w1.heap.size := by
  have hl : s.data.toList.length = s.size := by simp
  refine ⟨_, _, Lib.run_convert_string_bytes (P := Tryz.prog) w 9 69 5 s Tryz.underlying9 Tryz.underlying69 Tryz.underlying5, ?_, grownCap_ge _ _ _ _, grownCap_le_maxLen _ _ _ _ hs, fun j hj => ?_, by rw [Lib.bytesWorld_size]; omega⟩
  · exact ⟨rfl, rfl, rfl, by rw [Lib.bytesWorld_size]; omega, fun i hi => Lib.bytesWorld_at_old _ _ _ _ hi⟩
  · exact Lib.bytesWorld_cell _ _ _ _ (by rw [← hl]; exact hj)

set_option maxRecDepth 20000 in
set_option maxHeartbeats 8000000 in
theorem lines_any (l : List ByteArray) (v : Value) (w : World) (hv : HasL w v l) (hz : ∀ s ∈ l, s.size ≤ 30000) :
    Calls Tryz.prog 11 #[v] w fun e w' => ∃ v', e = .returned v' ∧ OwnL w' w.heap.size v' (linesS l) ∧ Below w.heap.size w w' := by
  obtain ⟨p, c, rfl⟩ := own_len hv
  have HZ : RowKit.Hid (∀ k, k < l.length → (l.getD k ByteArray.empty).data.toList.length ≤ 30000) := Lib.hid fun k hk => by
    have e : l.getD k ByteArray.empty = l[k] := by simp [List.getD, hk]
    rw [e]
    have := hz _ (List.getElem_mem hk)
    simpa using this
  have HLN := Lib.hid (linesN_len l hz)
  have HLE : RowKit.Hid (∀ (W : World), HasL W (.slice p l.length c) l → ∀ k, k < l.length → ∃ b off, p = some ⟨b, off, none⟩ ∧ W.cell? ⟨b, off + k, none⟩ = some (.string (l.getD k ByteArray.empty))) := Lib.hid fun W h k hk => by
    rcases h with ⟨_, _, _, rfl, _⟩ | ⟨b, off, c, e, _, _, h3⟩
    · simp at hk
    · injection e with e1 e2 e3
      exact ⟨b, off, e1, h3 k hk⟩
  have hc1 : l.length ≤ c := by
    rcases hv with ⟨_, _, e, rfl, _⟩ | ⟨b, off, c', e, h1, h2, _⟩
    · simp
    · injection e with _ _ e3
      subst e3
      exact h1
  have HV := Lib.hid hv
  have HST := Lib.hid (fun k => linesN_step l (k := k))
  obtain ⟨i0, hi, hz0, hz1, hz2⟩ := str_info
  clear hv hz
  generalize hn : l.length = n at *
  have HN := Lib.hid hn
  clear hn
  go_enter Tryz.func11, Tryz.ntmps11
  go_upto_region 2 with fail
  go_cut [11, 12, 13] from 14 (fun s11 s12 s13 wx => s11 = .slice p (min n 400) c ∧ s12 = .int .i64 ((min n 400 : Nat) : Int) ∧ s13 = .int .i64 0 ∧ w = wx)
  case first =>
    by_cases h4 : n ≤ 400
    · have e4 : min n 400 = n := by omega
      have h4i : (n : Int) ≤ 400 := by omega
      have h5i : (n : Int) ≤ (c : Int) := by omega
      have E4 := Lib.hid e4
      clear e4 h4
      go_wp2_with fail
      all_goals (
        go_meet
        exact ⟨by (first | (rw [E4.out]; done) | (rw [E4.out]; have e4 := E4.out; congr 1; omega)), by (first | (rw [E4.out]; done) | (rw [E4.out]; rfl) | (rw [E4.out]; have e4 := E4.out; congr 1; omega)), rfl, rfl⟩)
    · have e4 : min n 400 = 400 := by omega
      have h4i : ¬ (n : Int) ≤ 400 := by omega
      have h5i : (400 : Int) ≤ (c : Int) := by omega
      have E4 := Lib.hid e4
      clear e4 h4
      go_wp2_with fail
      all_goals (
        go_meet
        exact ⟨by (first | (rw [E4.out]; done) | (rw [E4.out]; have e4 := E4.out; congr 1; omega)), by (first | (rw [E4.out]; done) | (rw [E4.out]; rfl) | (rw [E4.out]; have e4 := E4.out; congr 1; omega)), rfl, rfl⟩)
  case rest =>
    obtain ⟨rfl, rfl, rfl, rfl⟩ := hcut
    have hM : min n 400 ≤ n := by omega
    have hM4 : min n 400 ≤ 400 := by omega
    have HM : RowKit.Hid (linesN l (min n 400) = linesS l) := Lib.hid (by
      unfold linesS linesN
      rcases Nat.le_total n 400 with h | h
      · rw [Nat.min_eq_left h, List.take_of_length_le (by rw [HN.out]; omega), List.take_of_length_le (by rw [HN.out]; omega)]
      · rw [Nat.min_eq_right h])
    generalize min n 400 = M at *
    clear hc1
    go_wp2_with fail
    go_loopg [3, 13] M (fun g t i wr => ∃ k : Nat, k ≤ M ∧ g = M - k ∧ i = .int .i64 k ∧ Below w.heap.size w wr ∧ OwnL wr w.heap.size t (linesN l k))
    case atStart => exact ⟨0, Nat.zero_le _, rfl, rfl, Below.refl _ _, by rw [linesN_zero]; exact OwnL.nil _ _⟩
    case round =>
      obtain ⟨k, hk, rfl, rfl, hb, ht⟩ := hrel
      have HT := Lib.hid ht
      clear ht
      by_cases hlt : k < M
      · obtain ⟨b, off, rfl, c1⟩ := HLE.out _ (HV.out.mono hb) k (by omega)
        have hki : (k : Int) < (M : Int) := by omega
        have hk0 : (0 : Int) ≤ (k : Int) := by omega
        have hzz := HZ.out k (by omega)
        have HSK := Lib.hid (HST.out k (by omega))
        have hlk := HLN.out k
        have hlk2 : (linesN l k).length ≤ 400 * 469 := Nat.le_trans hlk (Nat.mul_le_mul_right _ (by omega))
        generalize l.getD k ByteArray.empty = s at *
        clear hlk
        obtain ⟨wo, rfl⟩ : ∃ x : World, x = wr := ⟨_, rfl⟩
        obtain ⟨w1, cap, hcv, hbc, hcp, hcm, hB, hbk⟩ := bytes_convB s wo (by simp only [Array.length_toList] at hzz; have : s.data.size = s.size := rfl; unfold maxLen; omega)
        have hsl : s.data.toList.length = s.size := by simp
        rw [hsl] at hzz
        have HB0 := Lib.hid hB
        have HM1 := Lib.hid (fun j => rowsN_more s.size j)
        have HCT := Lib.hid (fun j => chunks_take s.data.toList (j := j))
        have HCE := Lib.hid (fun j => chunks_last s.data.toList (j := j))
        rw [hsl] at HCT HCE
        have hmp := rowsN_pos s.size
        have hml := rowsN_469 hzz
        have HT1 : RowKit.Hid (u3.ownBlock ≠ some wo.heap.size) := Lib.hid fun e => by
          have := (World.ownsRow.lt HT.out _ e).2
          omega
        have HCLN : RowKit.Hid (∀ j, ((chunks s.data.toList).take j).length ≤ 469) := Lib.hid fun j => by
          rw [List.length_take, chunks_len, hsl]; omega
        generalize s.data.toList = B at *
        generalize s.size = N at *
        generalize rowsN N = m at *
        have HSL := Lib.hid hsl
        have hwb := hb.size
        unfold maxLen at hcm
        clear hB hsl
        go_wp2_with fail
        go_loopg [3, 6] m (fun g t q wx => ∃ j : Nat, j + 1 ≤ m ∧ 64 * j ≤ N ∧ g = m - j ∧ q = .slice (some ⟨wo.heap.size, 64 * j, none⟩) (N - 64 * j) (cap - 64 * j) ∧ Below w.heap.size w wx ∧ OwnL wx w.heap.size t (linesN l k ++ (chunks B).take j) ∧ CellsB wx wo.heap.size B ∧ t.ownBlock ≠ some wo.heap.size ∧ wo.heap.size < wx.heap.size)
        case atStart => exact ⟨0, hmp, by omega, rfl, rfl, hb.trans (hbc.mono hwb), by rw [List.take_zero, List.append_nil]; exact HT.out.mono hbc, HB0.out, HT1.out, hbk⟩
        case round =>
          obtain ⟨j, hj, hjN, rfl, rfl, hb2, ht2, hB2, htb, hbk2⟩ := hrel
          have HT2 := Lib.hid ht2
          have HB2 := Lib.hid hB2
          have HTB := Lib.hid htb
          have hcl := HCLN.out j
          have hll : (linesN l k ++ (chunks B).take j).length ≤ 400 * 469 + 469 := by rw [List.length_append]; omega
          clear ht2 hB2 htb hcl
          obtain ⟨r, hr⟩ : ∃ r, r = N - 64 * j := ⟨_, rfl⟩
          obtain ⟨cc, hcc⟩ : ∃ cc, cc = cap - 64 * j := ⟨_, rfl⟩
          rw [← hr, ← hcc]
          have hrc : r ≤ cc := by omega
          have hccm : cc ≤ maxLen := by unfold maxLen; omega
          have hccm2 : (cc : Int) ≤ 9223372036854775807 := by omega
          by_cases h64 : 64 < r
          · have h64i : (64 : Int) < (r : Int) := by omega
            have h64c : (64 : Int) ≤ (cc : Int) := by omega
            have hri : (r : Int) ≤ (cc : Int) := by omega
            have hj2 : j + 1 < m := (HM1.out j).2 (by omega)
            have HCJ := Lib.hid (HCT.out j (by omega))
            have HRW : RowKit.Hid (∀ W, CellsB W wo.heap.size B → Calls Tryz.prog 36 #[.slice (some ⟨wo.heap.size, 64 * j, none⟩) 64 cc] W fun e w' => e = .returned (.string (rowAt B j)) ∧ Below W.heap.size W w') := Lib.hid fun W h => row_any _ _ W (h.hasB64 (by rw [HSL.out]; omega) (by omega) hccm)
            have HFIN : RowKit.Hid (64 * j + 64 = 64 * (j + 1) ∧ r - 64 = N - 64 * (j + 1) ∧ cc - 64 = cap - 64 * (j + 1) ∧ 64 * (j + 1) ≤ N) := Lib.hid (by omega)
            generalize 64 * j = o at *
            generalize hF : linesN l k ++ (chunks B).take j = F at *
            have HFE := Lib.hid hF
            clear hF
            clear hr hcc
            have hwb2 := hb2.size
            go_wp2_with (first
              | (go_at_call 36; (with_reducible refine (HRW.out _ HB2.out).mono ?_); rintro e w5 ⟨rfl, hb5⟩; have hown : w5.ownsRow w.heap.size 9 1 _ F.length (strV F) := HT2.out.mono hb5; have hwb5 := hb5.size)
              | (at_builtin; refine wpList_push_at rfl _ _ 24 rfl w.heap.size 9 i0 (.string ⟨#[]⟩) 16 Tryz.underlying24 hi hz0 hz1 hz2 rfl _ _ _ rfl hown _ rfl rfl (by unfold maxLen; omega) (by omega) (by omega) ?_; intro v6 w6 hown6 hb6 hgr6 hloc6))
            go_roundg (m - (j + 1))
            case measure => omega
            case rel =>
              obtain ⟨f1, f2, f3, f4⟩ := HFIN.out
              refine ⟨j + 1, by omega, f4, rfl, ?_, (hb2.trans (hb5.mono hwb2)).trans hb6, ?_, ?_, ?_, ?_⟩
              · rw [f1, f2, f3]
              · rw [HCJ.out, ← List.append_assoc, HFE.out]
                have e1 : (F ++ [rowAt B j]).length = F.length + 1 := by simp
                have e2 : strV (F ++ [rowAt B j]) = strV F ++ [.string (rowAt B j)] := by simp [strV]
                unfold OwnL
                rw [e1, e2]
                exact hown6
              · exact (HB2.out.mono hb5).far hgr6 HTB.out
              · rcases hloc6 with e | ⟨x, e, hx⟩
                · rw [e]; exact HTB.out
                · rw [e]; intro e2; injection e2 with e2; omega
              · have := hb5.size
                have := hb6.size
                omega
          · have h64i : ¬ (64 : Int) < (r : Int) := by omega
            have hj2 : j + 1 = m := by
              have := HM1.out j
              omega
            have HCJ := Lib.hid (HCE.out j hj2)
            have HRW : RowKit.Hid (∀ W, CellsB W wo.heap.size B → Calls Tryz.prog 36 #[.slice (some ⟨wo.heap.size, 64 * j, none⟩) r cc] W fun e w' => e = .returned (.string (rowAt B j)) ∧ Below W.heap.size W w') := Lib.hid fun W h => by
              have e : rowAt B j = strOf (rowL (B.drop (64 * j))) := by
                rw [rowAt, List.take_of_length_le (by rw [List.length_drop, HSL.out]; omega)]
              rw [e]
              exact row_any _ _ W (h.hasB (by rw [HSL.out]; exact hr) hrc hccm)
            generalize 64 * j = o at *
            generalize hF : linesN l k ++ (chunks B).take j = F at *
            have HFE := Lib.hid hF
            clear hF hr hcc
            have hwb2 := hb2.size
            go_wp2_with (first
              | (go_at_call 36; (with_reducible refine (HRW.out _ HB2.out).mono ?_); rintro e w5 ⟨rfl, hb5⟩; have hown : w5.ownsRow w.heap.size 9 1 _ F.length (strV F) := HT2.out.mono hb5; have hwb5 := hb5.size)
              | (at_builtin; refine wpList_push_at rfl _ _ 24 rfl w.heap.size 9 i0 (.string ⟨#[]⟩) 16 Tryz.underlying24 hi hz0 hz1 hz2 rfl _ _ _ rfl hown _ rfl rfl (by unfold maxLen; omega) (by omega) (by omega) ?_; intro v6 w6 hown6 hb6 hgr6 hloc6))
            go_roundg (M - (k + 1))
            case measure => omega
            case rel =>
              refine ⟨k + 1, by omega, rfl, by go_num, (hb2.trans (hb5.mono hwb2)).trans hb6, ?_⟩
              rw [HSK.out, HCJ.out, ← List.append_assoc, HFE.out]
              have e1 : (F ++ [rowAt B j]).length = F.length + 1 := by simp
              have e2 : strV (F ++ [rowAt B j]) = strV F ++ [.string (rowAt B j)] := by simp [strV]
              unfold OwnL
              rw [e1, e2]
              exact hown6
      · have hkM : k = M := by omega
        subst hkM
        go_wp2
        go_ret
        exact ⟨_, rfl, by rw [← HM.out]; exact HT.out, hb⟩
end Go.Proofs.YtmhhbnnjilbdnaaGreatDoor
namespace Go.Proofs.YtmhhbnnjilbdnaaGreatDoor
open Go.RowKit

/-- How many pages so many rows take. -/
def pagesN (n : Nat) : Nat := max 1 ((n + 22) / 23)

theorem pages_any (n : Nat) (p : Option Addr) (c : Nat) (w : World) (hn : n ≤ 1000000) :
    Calls Tryz.prog 68 #[.slice p n c] w fun e w' => e = .returned (.int .i64 (pagesN n)) ∧ w = w' := by
  have h1 : (n : Int) ≤ 1000000 := by omega
  have h2 : (0 : Int) ≤ (n : Int) := by omega
  go_enter Tryz.func68, Tryz.ntmps68
  go_wp2
  all_goals (
    go_ret
    exact ⟨ret_int (by unfold pagesN; omega), rfl⟩)

theorem linesS_len (l : List ByteArray) (h : ∀ s ∈ l, s.size ≤ 30000) : (linesS l).length ≤ 187600 := linesN_len l h 400

theorem Pages_any (l : List ByteArray) (v : Value) (w : World) (hv : HasL w v l) (hz : ∀ s ∈ l, s.size ≤ 30000) :
    Calls Tryz.prog 38 #[v] w fun e w' => e = .returned (.int .i64 (pagesN (linesS l).length)) ∧ Below w.heap.size w w' := by
  have hlen := linesS_len l hz
  have HLI := Lib.hid (lines_any l v w hv hz)
  clear hz hv
  go_enter Tryz.func38, Tryz.ntmps38
  go_wp2_with (first
    | (go_at_call 11; (with_reducible refine HLI.out.mono ?_); rintro e w1 ⟨v1, rfl, ho1, hb1⟩; obtain ⟨p1, c1, rfl⟩ := own_len ho1.has; have HP := Lib.hid (pages_any (linesS l).length p1 c1 w1 (by omega)))
    | (go_at_call 68; refine HP.out.mono ?_; rintro e w2 ⟨rfl, rfl⟩))
  go_ret
  exact ⟨rfl, hb1⟩

end Go.Proofs.YtmhhbnnjilbdnaaGreatDoor
namespace Go.Proofs.YtmhhbnnjilbdnaaGreatDoor
open Go.RowKit

/-- Without the blanks at its end. -/
def trimL (l : List UInt8) : List UInt8 := (l.reverse.dropWhile (· == 32)).reverse

theorem trimL_snoc (l : List UInt8) (c : UInt8) : trimL (l ++ [c]) = if c == 32 then trimL l else l ++ [c] := by
  unfold trimL
  rw [List.reverse_append]
  simp only [List.reverse_cons, List.reverse_nil, List.nil_append, List.cons_append, List.dropWhile_cons]
  split
  · rfl
  · simp

theorem trim_stop (l : List UInt8) {k : Nat} (h : k < l.length) (hc : l.getD k 0 ≠ 32) : trimL (l.take (k + 1)) = l.take (k + 1) := by
  rw [List.take_succ_eq_append_getElem h, trimL_snoc, if_neg]
  have : l.getD k 0 = l[k] := by simp [List.getD, h]
  rw [← this]; simpa using hc

end Go.Proofs.YtmhhbnnjilbdnaaGreatDoor
namespace Go.Proofs.YtmhhbnnjilbdnaaGreatDoor
open Go.RowKit

/-- A screen, by value: 24 rows of 64 bytes, one behind the other. -/
def scrV (l : List UInt8) : Value := .agg (byteV l).toArray

theorem Arr.range {w : World} {b : Nat} {T : TypeId} {l : List UInt8} (h : Arr w b T l) : w.rangeAt b 0 (byteV l) := fun j v hj => by
  have hjl : j < l.length := by
    have := (List.getElem?_eq_some_iff.1 hj).1
    rwa [byteV_len] at this
  rw [byteV_get hjl] at hj
  injection hj with hj
  rw [Nat.zero_add, h.cell hjl, hj]

theorem info_screen : (Tryz.prog.info? 81).map (·.size) = some 1536 := by kernel_rfl
/-- The row at the place k of a screen. -/
def rowK (l : List UInt8) (k : Nat) : List UInt8 := (l.drop (64 * k)).take 64

theorem rowK_len {l : List UInt8} (hl : l.length = 1536) {k : Nat} (hk : k < 24) : (rowK l k).length = 64 := by
  simp [rowK, hl]; omega

theorem rowK_get {l : List UInt8} {k j : Nat} (hj : j < 64) : (rowK l k).getD j 0 = l.getD (64 * k + j) 0 := by
  simp [rowK, List.getD, hj]

theorem byteV_one {l : List UInt8} : ∀ v ∈ byteV l, v.oneCell' = true := by
  intro v hv
  simp only [byteV, List.mem_map] at hv
  obtain ⟨x, _, rfl⟩ := hv
  rfl

end Go.Proofs.YtmhhbnnjilbdnaaGreatDoor
