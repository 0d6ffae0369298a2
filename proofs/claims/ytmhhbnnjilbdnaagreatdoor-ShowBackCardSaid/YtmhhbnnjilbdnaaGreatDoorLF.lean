/- Rows; the reference's Render. Two screens are equal just if their bytes are; plain. plain. The law ScreenUnlike: the walk. The law ScreenWhole: the walk. -/
import Derived.Test.YtmhhbnnjilbdnaaGreatDoorKA
import Derived.Test.YtmhhbnnjilbdnaaGreatDoorLE
import Derived.Test.YtmhhbnnjilbdnaaGreatDoorScrI
import Derived.Test.YtmhhbnnjilbdnaaGreatDoorRows
import Derived.WalkKit
import Derived.WalkSpells
import Derived.WalkLawsBesides
import Derived.Lib.ConvBytes
import Derived.Lib.Hide
import Derived.Lib.SliceRun
import Derived.IntWalk
import Derived.BigQuiet
import Derived.Deep.QuietTactic
import Derived.Deep.RegionWith
import Derived.Deep.RegionHeld3
import Derived.Deep.LoopGhost
import Derived.Deep.CutRange
import Derived.Deep.CutBlock
import Derived.Deep.MidRow
import Derived.Laws.OwnMore
import Derived.OwnWalk
import Derived.Laws.AppendOwnNone
import Derived.Maps.AppendAt
import Derived.Lib.LazyBuf
import Derived.ProofKit
import Derived.OpenShut
import Derived.SliceStrings
import Derived.DeepKeys
import Derived.Test.YtmhhbnnjilbdnaaGreatDoorKE
import Derived.Test.YtmhhbnnjilbdnaaGreatDoorKF
import Derived.Test.YtmhhbnnjilbdnaaGreatDoorPlnP
import Derived.Test.YtmhhbnnjilbdnaaGreatDoorKJ
import Derived.Test.YtmhhbnnjilbdnaaGreatDoorKL
namespace Go.Proofs.YtmhhbnnjilbdnaaGreatDoor
open Go.RowKit

theorem rowC_twice (x : UInt8) : rowC (rowC x) = rowC x := by
  unfold rowC
  by_cases h : 32 ≤ (x.toNat : Int) ∧ (x.toNat : Int) ≤ 126
  · simp only [if_pos h]
  · simp only [if_neg h]
    rfl

theorem rowL_twice (l : List UInt8) : rowL (rowL l) = rowL l := by
  apply list_eq8
  · rw [rowL_len, rowL_len]
  · intro j hj
    rw [rowL_len] at hj
    rw [rowL_get _ hj, rowL_len, if_pos hj, rowL_get _ hj, rowC_twice]

theorem flat64_drop {f : Nat → List UInt8} (hf : ∀ i, (f i).length = 64) : ∀ (n i : Nat), i < n → (((List.range n).flatMap f).drop (64 * i)).take 64 = f i
  | 0, i, h => absurd h (Nat.not_lt_zero _)
  | n + 1, i, h => by
    have hl : ∀ m, ((List.range m).flatMap f).length = 64 * m := by
      intro m
      rw [List.length_flatMap]
      simp only [hf]
      rw [List.map_const', List.sum_replicate_nat]
      simp
      omega
    rw [List.range_succ, List.flatMap_append]
    have e1 : ([n] : List Nat).flatMap f = f n := by simp
    rw [e1]
    by_cases e : i = n
    · subst e
      rw [List.drop_append_of_le_length (by rw [hl]; exact Nat.le_refl _), List.drop_eq_nil_of_le (by rw [hl]; exact Nat.le_refl _), List.nil_append, List.take_of_length_le (by rw [hf]; exact Nat.le_refl _)]
    · rw [List.drop_append_of_le_length (by rw [hl]; omega), List.take_append_of_le_length (by rw [List.length_drop, hl]; omega)]
      exact flat64_drop hf n i (by omega)

theorem rowK_page (rows : List ByteArray) (pg : Nat) {i : Nat} (h : i < 24) : rowK (pageL rows pg) i = rowL (cellK rows pg i).data.toList :=
  flat64_drop (fun _ => rowL_len _) 24 i h

end Go.Proofs.YtmhhbnnjilbdnaaGreatDoor
namespace Go.Proofs.YtmhhbnnjilbdnaaGreatDoor
open Go.RowKit

/-- The cells of bytes, as data. -/
def litV (l : List UInt8) : List Lit := l.map fun x => .int .u8 (x.toNat : Int)

theorem litV_inj {a b : List UInt8} (h : litV a = litV b) : a = b := by
  unfold litV at h
  induction a generalizing b with
  | nil => cases b with
    | nil => rfl
    | cons y t => simp at h
  | cons x s ih => cases b with
    | nil => simp at h
    | cons y t =>
      simp only [List.map_cons, List.cons.injEq, Lit.int.injEq, true_and] at h
      rw [UInt8.toNat_inj.1 (by omega : x.toNat = y.toNat), ih h.2]

theorem mapM_some {α β : Type} {f : α → Option β} {g : α → β} : ∀ (l : List α), (∀ x ∈ l, f x = some (g x)) → l.mapM f = some (l.map g)
  | [], _ => rfl
  | a :: t, h => by
    rw [List.mapM_cons, h a (by simp), mapM_some t (fun x hx => h x (by simp [hx]))]
    rfl

theorem lit_byte (d : Nat) (x : UInt8) : Tryz.prog.keyLits (d + 1) 5 [.int .u8 (x.toNat : Int)] = some [.int .u8 (x.toNat : Int)] := by
  have hw : (Lit.int .u8 (x.toNat : Int)).wf = true := by
    have e1 : IntKind.u8.min = 0 := by decide
    have e2 : IntKind.u8.max = 255 := by decide
    have := byte_hi x
    simp [Lit.wf]
    omega
  simp [Program.keyLits, Tryz.underlying5, hw]

theorem flat_one {α β : Type} (f : α → β) : ∀ l : List α, (l.map fun i => [f i]).flatten = l.map f
  | [] => rfl
  | a :: t => by simp [flat_one f t]

theorem range_get (r : List UInt8) : (List.range r.length).map (fun i => r.getD i 0) = r := by
  apply List.ext_getElem
  · simp
  · intro j h1 h2
    simp [List.getD, h2]

theorem cells_row : Tryz.prog.cellsOf 79 = 64 := by kernel_rfl
theorem cells_scr : Tryz.prog.cellsOf 81 = 1536 := by kernel_rfl
theorem cells_byte : Tryz.prog.cellsOf 5 = 1 := by kernel_rfl

theorem lit_row (d : Nat) (r : List UInt8) (hr : r.length = 64) : Tryz.prog.keyLits (d + 2) 79 (byteV r) = some (litV r) := by
  have h1 : ∀ i ∈ List.range 64, Tryz.prog.keyLits (d + 1) 5 (((byteV r).drop (i * 1)).take 1) = some [.int .u8 ((r.getD i 0).toNat : Int)] := by
    intro i hi
    have hi := List.mem_range.1 hi
    have e : ((byteV r).drop (i * 1)).take 1 = [.int .u8 ((r.getD i 0).toNat : Int)] := by
      rw [Nat.mul_one, List.drop_eq_getElem_cons (by rw [byteV_len]; omega)]
      simp [byteV, List.getD, hr, hi]
    rw [e, lit_byte]
  unfold Program.keyLits
  simp only [Tryz.underlying79, cells_row, cells_byte, byteV_len, hr, if_true, mapM_some _ h1, Option.map_some]
  rw [flat_one]
  congr 1
  unfold litV
  conv => rhs; rw [← range_get r, hr, List.map_map]
  rfl

theorem lit_scr (d : Nat) (l : List UInt8) (hl : l.length = 1536) : Tryz.prog.keyLits (d + 3) 81 (byteV l) = some (litV l) := by
  have h1 : ∀ i ∈ List.range 24, Tryz.prog.keyLits (d + 2) 79 (((byteV l).drop (i * 64)).take 64) = some (litV (rowK l i)) := by
    intro i hi
    have hi := List.mem_range.1 hi
    have e : ((byteV l).drop (i * 64)).take 64 = byteV (rowK l i) := by simp [byteV, rowK, Nat.mul_comm]
    rw [e, lit_row d _ (rowK_len hl hi)]
  have e : ((List.range 24).map fun i => litV (rowK l i)).flatten = litV l := by
    have := rows_all (cur := l) (f := rowK l) (fun _ _ => rfl) hl
    conv => rhs; rw [this]
    unfold litV
    rw [List.map_flatMap, List.flatMap_def]
  unfold Program.keyLits
  simp only [Tryz.underlying81, cells_scr, cells_row, byteV_len, hl, if_true, mapM_some _ h1, Option.map_some, e]

theorem key_scr : Tryz.prog.keyTypeAt 3 81 = true := by kernel_rfl

/-- Two screens are equal just if their bytes are. -/
theorem eql_scr (a b : List UInt8) (ha : a.length = 1536) (hb : b.length = 1536) (w : World) :
    (Op.equalIn 10000 81 (.agg (byteV a).toArray) (.agg (byteV b).toArray)).run Tryz.prog w = .ok (decide (a = b)) w := by
  have hf : ∀ l : List UInt8, l.length = 1536 → (Value.agg (byteV l).toArray).formed Tryz.prog 81 = true := by
    intro l hl
    unfold Value.formed
    simp only [Tryz.underlying81, cells_scr]
    simp [byteV, hl]
  obtain ⟨r, hr, hiff⟩ := run_equalIn_deep (P := Tryz.prog) 9997 3 81 key_scr w 3 3 _ _ (litV a) (litV b) (hf a ha) (hf b hb) (show Tryz.prog.keyLits 3 81 (byteV a).toArray.toList = _ from lit_scr 0 a ha) (show Tryz.prog.keyLits 3 81 (byteV b).toArray.toList = _ from lit_scr 0 b hb)
  have e : r = decide (a = b) := by
    cases r
    · symm
      rw [decide_eq_false_iff_not]
      intro e
      have := hiff.2 (by rw [e])
      cases this
    · symm
      rw [decide_eq_true_eq]
      exact litV_inj (hiff.1 rfl)
  rw [← e]
  exact hr

theorem guard_scr : Tryz.prog.eqGuardType Tryz.prog.depth 81 = false := by kernel_rfl
end Go.Proofs.YtmhhbnnjilbdnaaGreatDoor
namespace Go.Proofs.YtmhhbnnjilbdnaaGreatDoor
open Go.RowKit

def okByte (x : UInt8) : Bool := decide (32 ≤ (x.toNat : Int) ∧ (x.toNat : Int) ≤ 126)

/-- Can a text be shown as it is, in a row? -/
def goodS (s : ByteArray) : Bool := decide (s.size ≤ 64) && (decide (s.size = 0) || s.data.toList.getD (s.size - 1) 0 != 32) && s.data.toList.all okByte

def plainB (l : List ByteArray) : Bool := l.all fun s => decide (l.length ≤ 400) && goodS s

end Go.Proofs.YtmhhbnnjilbdnaaGreatDoor
namespace Go.Proofs.YtmhhbnnjilbdnaaGreatDoor
open Go.RowKit Go.ChangeShapes Go.WideShapes Go.ChangeAt

theorem good_map {b : List UInt8} (h : b.all okByte = true) : b.map rowC = b := by
  induction b with
  | nil => rfl
  | cons x t ih =>
    simp only [List.all_cons, Bool.and_eq_true] at h
    rw [List.map_cons, ih h.2]
    congr 1
    have := h.1
    unfold okByte at this
    rw [decide_eq_true_eq] at this
    rw [rowC, if_pos this]

theorem trim_blanks (b : List UInt8) : ∀ m, trimL (b ++ List.replicate m 32) = trimL b
  | 0 => by simp
  | m + 1 => by
    rw [List.replicate_succ', ← List.append_assoc, trimL_snoc, if_pos (by decide), trim_blanks b m]

theorem good_trim {s : ByteArray} (h : goodS s = true) : trimL (rowL s.data.toList) = s.data.toList ∧ s.size ≤ 64 := by
  unfold goodS at h
  simp only [Bool.and_eq_true, decide_eq_true_eq, Bool.or_eq_true] at h
  obtain ⟨⟨h1, h2⟩, h3⟩ := h
  have hl : s.data.toList.length = s.size := by simp
  refine ⟨?_, h1⟩
  rw [rowL_fill _ (by omega), trim_blanks, good_map h3]
  rcases h2 with h2 | h2
  · rw [List.length_eq_zero_iff.1 (by omega : s.data.toList.length = 0)]; rfl
  · by_cases h0 : s.size = 0
    · rw [List.length_eq_zero_iff.1 (by omega : s.data.toList.length = 0)]; rfl
    · have := trim_stop s.data.toList (k := s.size - 1) (by omega) (by simpa using h2)
      rw [List.take_of_length_le (by omega)] at this
      exact this

theorem chunks_one {b : List UInt8} (h : b.length ≤ 64) : chunks b = [strOf (rowL b)] := by
  have e : rowsN b.length = 1 := by unfold rowsN; split <;> omega
  unfold chunks
  rw [e]
  simp [rowAt, List.take_of_length_le h]

theorem plain_parts {l : List ByteArray} (h : plainB l = true) : l.length ≤ 400 ∧ ∀ s ∈ l, goodS s = true := by
  unfold plainB at h
  rw [List.all_eq_true] at h
  refine ⟨?_, fun s hs => ?_⟩
  · cases l with
    | nil => simp
    | cons x t =>
      have := h x (by simp)
      simp only [Bool.and_eq_true, decide_eq_true_eq] at this
      exact this.1
  · have := h s hs
    simp only [Bool.and_eq_true] at this
    exact this.2

theorem flat_single {α β : Type} {f : α → List β} {g : α → β} : ∀ (l : List α), (∀ s ∈ l, f s = [g s]) → l.flatMap f = l.map g
  | [], _ => rfl
  | x :: t, h => by
    rw [List.flatMap_cons, h x (by simp), flat_single t (fun s hs => h s (by simp [hs]))]
    rfl

theorem getD_mem {l : List ByteArray} {i : Nat} (h : i < l.length) : l.getD i ByteArray.empty ∈ l := by
  have e : l.getD i ByteArray.empty = l[i] := by simp [List.getD, h]
  rw [e]; exact List.getElem_mem h

theorem plain_lines {l : List ByteArray} (h : plainB l = true) : linesS l = l.map fun s => strOf (rowL s.data.toList) := by
  obtain ⟨h1, h2⟩ := plain_parts h
  unfold linesS linesN
  rw [List.take_of_length_le h1]
  refine flat_single l fun s hs => ?_
  have hz := (good_trim (h2 s hs)).2
  exact chunks_one (by simpa using hz)

theorem unlike {a b : List ByteArray} (ha : plainB a = true) (hb : plainB b = true) (hl : a.length = b.length) (h : ∀ j, j < pagesN (linesS a).length → pageL (linesS a) j = pageL (linesS b) j) : a = b := by
  apply list_eq hl
  intro i hi
  have la : (linesS a).length = a.length := by rw [plain_lines ha, List.length_map]
  have lb : (linesS b).length = b.length := by rw [plain_lines hb, List.length_map]
  have hj : i / 23 < pagesN (linesS a).length := by rw [la]; unfold pagesN; omega
  have e := h _ hj
  have hr : i % 23 < 24 := by omega
  have e1 := rowK_page (linesS a) (i / 23) hr
  have e2 := rowK_page (linesS b) (i / 23) hr
  rw [e, e2] at e1
  have hc : ∀ l : List ByteArray, plainB l = true → (hi : i < l.length) → rowL (cellK (linesS l) (i / 23) (i % 23)).data.toList = rowL (l.getD i ByteArray.empty).data.toList := by
    intro l hp hi
    have hll : (linesS l).length = l.length := by rw [plain_lines hp, List.length_map]
    unfold cellK
    rw [if_pos (by omega), if_pos (by rw [hll]; omega), show i / 23 * 23 + i % 23 = i by omega, plain_lines hp]
    have e : (l.map fun s => strOf (rowL s.data.toList)).getD i ByteArray.empty = strOf (rowL (l.getD i ByteArray.empty).data.toList) := by
      simp [List.getD, hi]
    rw [e, show ∀ m, (strOf m).data.toList = m from fun m => by simp [strOf], rowL_twice]
  rw [hc b hb (by omega), hc a ha hi] at e1
  have ga := good_trim ((plain_parts ha).2 _ (getD_mem hi))
  have gb := good_trim ((plain_parts hb).2 _ (getD_mem (show i < b.length by omega)))
  apply bytes_inj
  rw [← ga.1, ← gb.1, e1]
end Go.Proofs.YtmhhbnnjilbdnaaGreatDoor
namespace Go.Proofs.YtmhhbnnjilbdnaaGreatDoor
open Go.RowKit Go.ChangeShapes Go.WideShapes Go.ChangeAt
set_option linter.unusedSimpArgs false

theorem Arr.far {w w' : World} {b : Nat} {T : TypeId} {l : List UInt8} {row : Option Nat} (h : Arr w b T l) (hg : w.grownBy w' row) (hne : some b ≠ row) : Arr w' b T l := (hg.block b h.lt hne).trans h

end Go.Proofs.YtmhhbnnjilbdnaaGreatDoor
