/- Two screens are equal just if their bytes are; plain. -/
import Derived.Test.YtpmmjccdogjncaaDoorScrP
import Derived.DeepKeys
namespace Go.Proofs.YtpmmjccdogjncaaDoor
open Go.RowKit

/-- The cells of bytes, as data. -/
def litV (l : List UInt8) : List Lit := l.map fun x => .int .u8 (x.toNat : Int)

theorem litV_inj {a b : List UInt8} (h : litV a = litV b) : a = b := by
  unfold litV at h
  induction a generalizing b with
  | nil => cases b with
    | nil => rfl
    | cons y t => simp at h
  | cons x s ih => cases b with
    | nil => simp at h
    | cons y t =>
      simp only [List.map_cons, List.cons.injEq, Lit.int.injEq, true_and] at h
      rw [UInt8.toNat_inj.1 (by omega : x.toNat = y.toNat), ih h.2]

theorem mapM_some {α β : Type} {f : α → Option β} {g : α → β} : ∀ (l : List α), (∀ x ∈ l, f x = some (g x)) → l.mapM f = some (l.map g)
  | [], _ => rfl
  | a :: t, h => by
    rw [List.mapM_cons, h a (by simp), mapM_some t (fun x hx => h x (by simp [hx]))]
    rfl

theorem lit_byte (d : Nat) (x : UInt8) : Tryd.prog.keyLits (d + 1) 5 [.int .u8 (x.toNat : Int)] = some [.int .u8 (x.toNat : Int)] := by
  have hw : (Lit.int .u8 (x.toNat : Int)).wf = true := by
    have e1 : IntKind.u8.min = 0 := by decide
    have e2 : IntKind.u8.max = 255 := by decide
    have := byte_hi x
    simp [Lit.wf]
    omega
  simp [Program.keyLits, Tryd.underlying5, hw]

theorem flat_one {α β : Type} (f : α → β) : ∀ l : List α, (l.map fun i => [f i]).flatten = l.map f
  | [] => rfl
  | a :: t => by simp [flat_one f t]

theorem range_get (r : List UInt8) : (List.range r.length).map (fun i => r.getD i 0) = r := by
  apply List.ext_getElem
  · simp
  · intro j h1 h2
    simp [List.getD, h2]

theorem cells_row : Tryd.prog.cellsOf 71 = 64 := by kernel_rfl
theorem cells_scr : Tryd.prog.cellsOf 73 = 1536 := by kernel_rfl
theorem cells_byte : Tryd.prog.cellsOf 5 = 1 := by kernel_rfl

theorem lit_row (d : Nat) (r : List UInt8) (hr : r.length = 64) : Tryd.prog.keyLits (d + 2) 71 (byteV r) = some (litV r) := by
  have h1 : ∀ i ∈ List.range 64, Tryd.prog.keyLits (d + 1) 5 (((byteV r).drop (i * 1)).take 1) = some [.int .u8 ((r.getD i 0).toNat : Int)] := by
    intro i hi
    have hi := List.mem_range.1 hi
    have e : ((byteV r).drop (i * 1)).take 1 = [.int .u8 ((r.getD i 0).toNat : Int)] := by
      rw [Nat.mul_one, List.drop_eq_getElem_cons (by rw [byteV_len]; omega)]
      simp [byteV, List.getD, hr, hi]
    rw [e, lit_byte]
  unfold Program.keyLits
  simp only [Tryd.underlying71, cells_row, cells_byte, byteV_len, hr, if_true, mapM_some _ h1, Option.map_some]
  rw [flat_one]
  congr 1
  unfold litV
  conv => rhs; rw [← range_get r, hr, List.map_map]
  rfl

theorem lit_scr (d : Nat) (l : List UInt8) (hl : l.length = 1536) : Tryd.prog.keyLits (d + 3) 73 (byteV l) = some (litV l) := by
  have h1 : ∀ i ∈ List.range 24, Tryd.prog.keyLits (d + 2) 71 (((byteV l).drop (i * 64)).take 64) = some (litV (rowK l i)) := by
    intro i hi
    have hi := List.mem_range.1 hi
    have e : ((byteV l).drop (i * 64)).take 64 = byteV (rowK l i) := by simp [byteV, rowK, Nat.mul_comm]
    rw [e, lit_row d _ (rowK_len hl hi)]
  have e : ((List.range 24).map fun i => litV (rowK l i)).flatten = litV l := by
    have := rows_all (cur := l) (f := rowK l) (fun _ _ => rfl) hl
    conv => rhs; rw [this]
    unfold litV
    rw [List.map_flatMap, List.flatMap_def]
  unfold Program.keyLits
  simp only [Tryd.underlying73, cells_scr, cells_row, byteV_len, hl, if_true, mapM_some _ h1, Option.map_some, e]

theorem key_scr : Tryd.prog.keyTypeAt 3 73 = true := by kernel_rfl

/-- Two screens are equal just if their bytes are. -/
theorem eql_scr (a b : List UInt8) (ha : a.length = 1536) (hb : b.length = 1536) (w : World) :
    (Op.equalIn 10000 73 (.agg (byteV a).toArray) (.agg (byteV b).toArray)).run Tryd.prog w = .ok (decide (a = b)) w := by
  have hf : ∀ l : List UInt8, l.length = 1536 → (Value.agg (byteV l).toArray).formed Tryd.prog 73 = true := by
    intro l hl
    unfold Value.formed
    simp only [Tryd.underlying73, cells_scr]
    simp [byteV, hl]
  obtain ⟨r, hr, hiff⟩ := run_equalIn_deep (P := Tryd.prog) 9997 3 73 key_scr w 3 3 _ _ (litV a) (litV b) (hf a ha) (hf b hb) (show Tryd.prog.keyLits 3 73 (byteV a).toArray.toList = _ from lit_scr 0 a ha) (show Tryd.prog.keyLits 3 73 (byteV b).toArray.toList = _ from lit_scr 0 b hb)
  have e : r = decide (a = b) := by
    cases r
    · symm
      rw [decide_eq_false_iff_not]
      intro e
      have := hiff.2 (by rw [e])
      cases this
    · symm
      rw [decide_eq_true_eq]
      exact litV_inj (hiff.1 rfl)
  rw [← e]
  exact hr

theorem guard_scr : Tryd.prog.eqGuardType Tryd.prog.depth 73 = false := by kernel_rfl
end Go.Proofs.YtpmmjccdogjncaaDoor
