/- The map's Has, Number, Marks. -/
import Derived.Test.YtpmmjccdogjncaaDoorPlnQ
namespace Go.Proofs.YtpmmjccdogjncaaDoor
open Go.RowKit Go.ChangeMaps
set_option linter.unusedSimpArgs false

theorem zero_mark (w : World) : (zeroValue 90).run Tryd.prog w = .ok (markV mark0) w := by kernel_rfl

/-- What a look-up yields. -/
def lkF (pl : List St) (f : St → Mk) (s : St) : Mk := if s ∈ pl then f s else mark0

theorem MapF.look1 {w : World} {b : Nat} {pl : List St} {f : St → Mk} (h : MapF w b pl f) (s : St) (hs : okRow s.1) :
    (Instr.lookup 86 (.map (some b)) (.agg #[.int .i64 s.1, .int .u8 s.2.toNat]) false).run Tryd.prog w = .ok (.agg #[.int .i64 (lkF pl f s).num, .bool (lkF pl f s).blk, .string (lkF pl f s).txt]) w := by
  unfold lkF
  rcases h.look false s hs (zero_mark w) with ⟨h1, h2⟩ | ⟨h1, h2⟩
  · rw [if_pos h1]; exact h2
  · rw [if_neg h1]; exact h2

theorem MapF.look2 {w : World} {b : Nat} {pl : List St} {f : St → Mk} (h : MapF w b pl f) (s : St) (hs : okRow s.1) :
    (Instr.lookup 86 (.map (some b)) (.agg #[.int .i64 s.1, .int .u8 s.2.toNat]) true).run Tryd.prog w = .ok (.tuple #[.agg #[.int .i64 (lkF pl f s).num, .bool (lkF pl f s).blk, .string (lkF pl f s).txt], .bool (decide (s ∈ pl))]) w := by
  unfold lkF
  rcases h.look true s hs (zero_mark w) with ⟨h1, h2⟩ | ⟨h1, h2⟩
  · rw [if_pos h1, decide_eq_true h1]; exact h2
  · rw [if_neg h1, decide_eq_false h1]; exact h2

/-- Is it a seat? -/
def hasB (p : Pl) (l : List UInt8) (s : St) : Bool := decide (s ∈ placesL p.first p.last l) && !decide (s ∈ p.bks)

theorem lk_has (p : Pl) (l : List UInt8) (s : St) : (decide (s ∈ placesL p.first p.last l) && !(lkF (placesL p.first p.last l) (markF p l) s).blk) = hasB p l s := by
  unfold hasB lkF markF
  by_cases h1 : s ∈ placesL p.first p.last l
  · rw [if_pos h1]
    by_cases h2 : s ∈ p.bks
    · rw [if_pos h2, decide_eq_true h2]
    · rw [if_neg h2, decide_eq_false h2]
  · rw [decide_eq_false h1]; rfl

theorem lk_num (p : Pl) (l : List UInt8) (s : St) : (if decide (s ∈ placesL p.first p.last l) = true then (lkF (placesL p.first p.last l) (markF p l) s).num else -1) = atL (placesL p.first p.last l) s := by
  unfold lkF markF
  by_cases h1 : s ∈ placesL p.first p.last l
  · rw [if_pos (decide_eq_true h1), if_pos h1]
    split <;> rfl
  · rw [if_neg (by simpa using h1)]
    unfold atL
    rw [if_neg h1]

/-- The marks of any seat. -/
def mksT (p : Pl) (l : List UInt8) (s : St) : ByteArray := if hasB p l s = true then strOf (marksL p.lets.data.toList p.exits s) else ⟨#[]⟩

theorem lk_txt (p : Pl) (l : List UInt8) (s : St) : (lkF (placesL p.first p.last l) (markF p l) s).txt = mksT p l s := by
  unfold mksT hasB lkF markF
  by_cases h1 : s ∈ placesL p.first p.last l
  · rw [if_pos h1]
    by_cases h2 : s ∈ p.bks
    · rw [if_pos h2, if_neg (by simp [h2])]
    · rw [if_neg h2, if_pos (by simp [h1, h2])]
  · rw [if_neg h1, if_neg (by simp [h1])]; rfl

/-- What is read of a map in a world that grew. -/
structure Ob (w : World) (g b : Nat) (P : List St) (f : St → Mk) : Prop where
  cell : w.cell? ⟨g, 0, none⟩ = some (.map (some b))
  map : MapF w b P f

theorem Ob.mono {w w' : World} {g b : Nat} {P : List St} {f : St → Mk} (h : Ob w g b P f) (hb : Below w.heap.size w w') : Ob w' g b P f := ⟨cell_bel hb h.cell, h.map.mono hb⟩

theorem Stage.ob {w : World} {B g b : Nat} {vl : Value} {pl ml : List St} {f : St → Mk} (h : Stage w B g b vl pl ml f) : Ob w g b ml f := ⟨(h.blk.cell 0).trans rfl, h.map⟩

set_option maxRecDepth 20000 in
set_option maxHeartbeats 8000000 in
theorem has_ob (g b : Nat) (P : List St) (f : St → Mk) (s : St) (w : World) (h : Ob w g b P f) (hs : okRow s.1) :
    Calls Tryd.prog 28 #[.pointer (some ⟨g, 0, none⟩), seatK s] w fun e w' => e = .returned (.bool (decide (s ∈ P) && !(lkF P f s).blk)) ∧ Below w.heap.size w w' := by
  obtain ⟨r, c⟩ := s
  obtain ⟨w1, e1, k1, k2, kb, ks⟩ := seat_boxed w r c
  have ho := h.mono kb
  have HW := Lib.hid kb
  have c0 := ho.cell
  have hl1 := (ho.mono (Below.refl _ _).drew).map.look2 (r, c) hs
  have hl2 := (ho.mono ((Below.refl _ _).alloc (Nat.le_refl _) (.cells #[.int .i64 0, .bool false, .string ⟨#[]⟩] 90)).drew).map.look2 (r, c) hs
  simp only at hl1 hl2
  have HC : RowKit.Hid (∀ W, Below w1.heap.size w1 W → W.cell? ⟨g, 0, none⟩ = some (.map (some b)) ∧ W.cell? ⟨w.heap.size, 0, none⟩ = some (.int .i64 r) ∧ W.cell? ⟨w.heap.size, 1, none⟩ = some (.int .u8 c.toNat)) := Lib.hid fun W h => ⟨cell_bel h c0, cell_bel h k1, cell_bel h k2⟩
  have hS0 := HC.out w1.drew (Below.refl _ _).drew
  have HS1 : RowKit.Hid (∀ o, (w1.alloc o).drew.cell? ⟨g, 0, none⟩ = some (.map (some b)) ∧ (w1.alloc o).drew.cell? ⟨w.heap.size, 0, none⟩ = some (.int .i64 r) ∧ (w1.alloc o).drew.cell? ⟨w.heap.size, 1, none⟩ = some (.int .u8 c.toNat)) := Lib.hid fun o => HC.out _ ((Below.refl _ _).alloc (Nat.le_refl _) _).drew
  generalize lkF P f (r, c) = mk at *
  generalize decide ((r, c) ∈ P) = hd at *
  obtain ⟨num, blk, txt⟩ := mk
  simp only at hl1 hl2 ⊢
  unfold seatK seatV
  clear h ho kb ks hs
  go_enter Tryd.func28, Tryd.ntmps28
  go_upto_region 1 with fail
  clear e1
  go_region_held3 (fun W => W.cell? ⟨g, 0, none⟩ = some (.map (some b)) ∧ W.cell? ⟨w.heap.size, 0, none⟩ = some (.int .i64 r) ∧ W.cell? ⟨w.heap.size, 1, none⟩ = some (.int .u8 c.toNat))
    (first
      | exact hS0
      | assumption
      | exact HS1.out _)
    (first
      | (go_at_call 58; skip))
  all_goals
    cases hd
    · go_wp2
      go_ret
      exact ⟨ret_bool rfl, bel_trans HW.out ((Below.refl _ _).alloc (Nat.le_refl _) _).drew⟩
    · go_wp2
      go_ret
      exact ⟨ret_bool rfl, bel_trans HW.out ((Below.refl _ _).alloc (Nat.le_refl _) _).drew⟩
set_option maxRecDepth 20000 in
set_option maxHeartbeats 8000000 in
theorem number_ob (g b : Nat) (P : List St) (f : St → Mk) (s : St) (w : World) (h : Ob w g b P f) (hs : okRow s.1) :
    Calls Tryd.prog 30 #[.pointer (some ⟨g, 0, none⟩), seatK s] w fun e w' => e = .returned (.int .i64 (if decide (s ∈ P) = true then (lkF P f s).num else -1)) ∧ Below w.heap.size w w' := by
  obtain ⟨r, c⟩ := s
  obtain ⟨w1, e1, k1, k2, kb, ks⟩ := seat_boxed w r c
  have ho := h.mono kb
  have HW := Lib.hid kb
  have c0 := ho.cell
  have hl1 := (ho.mono (Below.refl _ _).drew).map.look2 (r, c) hs
  have hl2 := (ho.mono ((Below.refl _ _).alloc (Nat.le_refl _) (.cells #[.int .i64 0, .bool false, .string ⟨#[]⟩] 90)).drew).map.look2 (r, c) hs
  simp only at hl1 hl2
  have HC : RowKit.Hid (∀ W, Below w1.heap.size w1 W → W.cell? ⟨g, 0, none⟩ = some (.map (some b)) ∧ W.cell? ⟨w.heap.size, 0, none⟩ = some (.int .i64 r) ∧ W.cell? ⟨w.heap.size, 1, none⟩ = some (.int .u8 c.toNat)) := Lib.hid fun W h => ⟨cell_bel h c0, cell_bel h k1, cell_bel h k2⟩
  have hS0 := HC.out w1.drew (Below.refl _ _).drew
  have HS1 : RowKit.Hid (∀ o, (w1.alloc o).drew.cell? ⟨g, 0, none⟩ = some (.map (some b)) ∧ (w1.alloc o).drew.cell? ⟨w.heap.size, 0, none⟩ = some (.int .i64 r) ∧ (w1.alloc o).drew.cell? ⟨w.heap.size, 1, none⟩ = some (.int .u8 c.toNat)) := Lib.hid fun o => HC.out _ ((Below.refl _ _).alloc (Nat.le_refl _) _).drew
  generalize lkF P f (r, c) = mk at *
  generalize decide ((r, c) ∈ P) = hd at *
  obtain ⟨num, blk, txt⟩ := mk
  simp only at hl1 hl2 ⊢
  unfold seatK seatV
  clear h ho kb ks hs
  go_enter Tryd.func30, Tryd.ntmps30
  go_upto_region 1 with fail
  clear e1
  go_region_held3 (fun W => W.cell? ⟨g, 0, none⟩ = some (.map (some b)) ∧ W.cell? ⟨w.heap.size, 0, none⟩ = some (.int .i64 r) ∧ W.cell? ⟨w.heap.size, 1, none⟩ = some (.int .u8 c.toNat))
    (first
      | exact hS0
      | assumption
      | exact HS1.out _)
    (first
      | (go_at_call 58; skip))
  all_goals
    cases hd
    · go_wp2
      go_ret
      exact ⟨ret_int rfl, bel_trans HW.out ((Below.refl _ _).alloc (Nat.le_refl _) _).drew⟩
    · go_wp2
      go_ret
      exact ⟨ret_int rfl, bel_trans HW.out ((Below.refl _ _).alloc (Nat.le_refl _) _).drew⟩
set_option maxRecDepth 20000 in
set_option maxHeartbeats 8000000 in
theorem marks_ob (g b : Nat) (P : List St) (f : St → Mk) (s : St) (w : World) (h : Ob w g b P f) (hs : okRow s.1) :
    Calls Tryd.prog 32 #[.pointer (some ⟨g, 0, none⟩), seatK s] w fun e w' => e = .returned (.string (lkF P f s).txt) ∧ Below w.heap.size w w' := by
  obtain ⟨r, c⟩ := s
  obtain ⟨w1, e1, k1, k2, kb, ks⟩ := seat_boxed w r c
  have ho := h.mono kb
  have HW := Lib.hid kb
  have c0 := ho.cell
  have hl1 : ∀ n, _ := fun n => (ho.mono (below_drewN (Below.refl w1.heap.size w1) n)).map.look1 (r, c) hs
  simp only at hl1
  generalize lkF P f (r, c) = mk at *
  obtain ⟨num, blk, txt⟩ := mk
  simp only at hl1 ⊢
  have hfl : ∀ W, (Instr.field 90 (.agg #[.int .i64 num, .bool blk, .string txt]) 2).run Tryd.prog W = .ok (.string txt) W := fun W => by
    first
      | (rfl)
      | (kernel_rfl)
      | (simp [Instr.field, go_sem, run_underlying Tryd.underlying90])
  unfold seatK seatV
  clear h ho kb ks hs
  go_enter Tryd.func32, Tryd.ntmps32
  go_upto_region 1 with fail
  clear e1
  go_quiet (fail)
  go_wp2
  go_ret
  exact ⟨rfl, below_drewN HW.out _⟩
end Go.Proofs.YtpmmjccdogjncaaDoor
