/- An edit (the reference): small laws for change and Apply. -/
import Derived.Test.YtjahkaidinahpaaDoorHG
import Derived.Test.YtjahkaidinahpaaDoorGF
namespace Go.Proofs.YtjahkaidinahpaaDoor
open Go.RowKit Go.ChangeMaps
set_option linter.unusedSimpArgs false
set_option linter.unusedVariables false
set_option maxRecDepth 20000

/-- What reads the same when one block between lo and hi was written. -/
theorem agr_store {lo hi hi2 g : Nat} {w4 w8 V : World} (hg : w4.grownBy w8 (some g)) (h1 : lo ≤ g) (h2 : g < hi) (h3 : hi2 ≤ hi) (hA : Agr lo hi2 w8 V) : Agr lo hi w4 V := fun a u ha hc => by
  refine hA a u (ha.imp id fun k => Nat.le_trans h3 k) ?_
  rw [hg.cell_far a (World.block_lt_of_cell? w4 a hc) (by intro e; injection e with e; omega)]
  exact hc

theorem pin_one {w : World} {x : PnrT} {vn vs vp vr vx : Value} (h : PIn w x vn vs vp vr vx) : ∀ v ∈ pnrC x vn vs vp vr vx, v.oneCell' = true := by
  obtain ⟨_, _, rfl⟩ := h.n.len
  obtain ⟨_, _, rfl⟩ := h.s.len
  obtain ⟨_, _, rfl⟩ := own_len h.ph
  obtain ⟨_, _, rfl⟩ := own_len h.rm
  obtain ⟨_, _, rfl⟩ := h.x.len
  exact pnrC_one

theorem own_pos {w : World} {B : Nat} {e : TypeId} {st n : Nat} {v : Value} {xs : List Value} (h : w.ownsRow B e st v n xs) (hn : 0 < n) : ∃ b c, v = .slice (some ⟨b, 0, none⟩) n c ∧ B ≤ b ∧ b < w.heap.size := by
  rcases h.2 with ⟨_, e2⟩ | ⟨g, cap, cur, e1, hb, hg, _⟩
  · omega
  · exact ⟨g, cap, e1, hb, (Array.getElem?_eq_some_iff.1 hg).1⟩

/-- A segment that is cancelled. -/
def offS (s : SegT) : SegT := { s with live := false }
theorem segs_set : ∀ (l : List SegT) (k : Nat), k < l.length → (l.flatMap segC).set (k * 5 + 4) (.bool false) = (l.set k (offS (l.getD k sg0))).flatMap segC
  | [], _, h => by simp at h
  | s :: l, 0, _ => by
    obtain ⟨a, b, c, d, e⟩ := s
    simp [segC, offS]
  | s :: l, k + 1, h => by
    have ih := segs_set l k (by simpa using h)
    rw [List.flatMap_cons, List.set_append_right _ _ (by simp [segC]; omega), List.set_cons_succ, List.flatMap_cons, show (k + 1) * 5 + 4 - (segC s).length = k * 5 + 4 by simp [segC]; omega, ih]
    rfl

theorem segs_at : ∀ (l : List SegT) (k : Nat), k < l.length → (l.flatMap segC)[k * 5 + 4]? = some (.bool (l.getD k sg0).live)
  | [], _, h => by simp at h
  | s :: l, 0, _ => by simp [segC]
  | s :: l, k + 1, h => by
    have ih := segs_at l k (by simpa using h)
    rw [List.flatMap_cons, List.getElem?_append_right (by simp [segC]; omega), show (k + 1) * 5 + 4 - (segC s).length = k * 5 + 4 by simp [segC]; omega, ih]
    rfl

theorem mem_off {l : List SegT} {k : Nat} (hk : k < l.length) {x : SegT} (h : x ∈ l.set k (offS (l.getD k sg0))) : ∃ y ∈ l, x = y ∨ x = offS y := by
  rcases List.mem_or_eq_of_mem_set h with h1 | h1
  · exact ⟨x, h1, .inl rfl⟩
  · exact ⟨_, List.mem_of_getElem? (getD_at sg0 hk), .inr h1⟩

theorem tf_ok {tk td tm : Int} (h : tfS tk td tm = true) : tickOk tk td tm false := tick_tf.2 ⟨.inr h, fun h => by cases h⟩

theorem tick3' {a b c : Int} : ∀ v ∈ [Value.int .i64 a, .int .i64 b, .int .i64 c], v.oneCell' = true := by
  intro v hv
  simp at hv
  rcases hv with rfl | rfl | rfl <;> rfl
end Go.Proofs.YtjahkaidinahpaaDoor
