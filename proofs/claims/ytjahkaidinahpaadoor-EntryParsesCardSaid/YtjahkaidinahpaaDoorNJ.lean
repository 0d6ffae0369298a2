/- Parse: its deferred closure; an entry, taken apart. -/
import Derived.Test.YtjahkaidinahpaaDoorNI
import Derived.Tactics2
import Derived.Defers
import Derived.Recover
namespace Go.Proofs.YtjahkaidinahpaaDoor.En
open Go.RowKit
set_option linter.unusedSimpArgs false
set_option linter.unusedVariables false
set_option maxRecDepth 100000

def zcmdV : List Value := cmdC cmd0

theorem blk_o {w : World} {b c j : Nat} {T : TypeId} {cs : List Value} {v : Value} (h : Blk w b T cs) (hne : ¬ c = b) : Blk (w.setCell ⟨c, j, none⟩ v) b T cs := h.far (gr_setCell1 (World.grownBy.refl _ _) j v) (by intro e; injection e with e; exact hne e.symm)
theorem blk_dr {w : World} {b : Nat} {T : TypeId} {cs : List Value} (h : Blk w b T cs) : Blk w.drew b T cs := h
theorem set_same : ∀ (cs : List Value) (j : Nat) (v : Value), cs[j]? = some v → cs.set j v = cs
  | [], _, _, h => by simp at h
  | a :: cs, 0, v, h => by simp at h; rw [h]; rfl
  | a :: cs, j + 1, v, h => by rw [List.set_cons_succ, set_same cs j v (by simpa using h)]
theorem blk_s {w : World} {b j : Nat} {T : TypeId} {cs : List Value} {v : Value} (h : Blk w b T cs) (hj : cs[j]? = some v) : Blk (w.setCell ⟨b, j, none⟩ v) b T cs := by
  have := h.set j v
  rwa [set_same cs j v hj] at this
theorem blk_set2 {w : World} {b : Nat} {T : TypeId} {x y x' y' : Value} (h : Blk w b T [x, y]) : Blk ((w.setCell ⟨b, 0, none⟩ x').setCell ⟨b, 1, none⟩ y') b T [x', y'] := (h.set 0 x').set 1 y'
theorem assert_yes (v : Value) (w : World) : (Instr.typeAssert (.iface 73 v) 20 73 true).run Tryd.prog w = .ok (.tuple #[v, .bool true]) w := by kernel_rfl
theorem assert_no (w : World) : (Instr.typeAssert .nilIface 20 73 true).run Tryd.prog w = .ok (.tuple #[.agg #[.int .i64 0, .int .i64 0], .bool false]) w := by kernel_rfl

set_option maxHeartbeats 400000 in
theorem catch_boom (g0 g1 : Nat) (k p x y : Int) (older : List PanicEntry) (B : Nat) (hB0 : B ≤ g0) (hB1 : B ≤ g1) (w : World) (h0 : Blk w g0 71 (cmdC cmd0)) (h1 : Blk w g1 73 [.int .i64 x, .int .i64 y]) (hne : g0 ≠ g1) :
    CallsD Tryd.prog 60 #[.pointer (some ⟨g0, 0, none⟩), .pointer (some ⟨g1, 0, none⟩)] (.panicking ({ v := .iface 73 (.agg #[.int .i64 k, .int .i64 p]), recovered := false } :: older)) w fun e u' w' =>
      e = .returned (.tuple #[]) ∧ u' = .panicking ({ v := .iface 73 (.agg #[.int .i64 k, .int .i64 p]), recovered := true } :: older) ∧ Blk w' g0 71 (cmdC cmd0) ∧ Blk w' g1 73 [.int .i64 k, .int .i64 p] ∧ Below B w w' := by
  refine callsD_of_wpS Tryd.func60 rfl fun c₀ cs hu => ?_
  apply wpS_seq
  apply wpS_region
  have hta := assert_yes
  simp [wpOpsS, go_sem, recoverD, hu, Tryd.ntmps60, Exit.thenS, hta]
  refine wpS_of_wp ?_
  have hz : g0 < w.heap.size := h0.lt
  have hz1 : g1 < w.heap.size := h1.lt
  have a0 := h0.alloc (.cells #[.int .i64 k, .int .i64 p] 73)
  have a1 := h1.alloc (.cells #[.int .i64 k, .int .i64 p] 73)
  have a2 := Blk.new w 73 [.int .i64 k, .int .i64 p]
  have hl := (Below.refl B w).alloc (by omega) (.cells #[.int .i64 k, .int .i64 p] 73)
  generalize hw : w.alloc (.cells #[.int .i64 k, .int .i64 p] 73) = w1 at *
  rw [show Array.replicate 10 undef = #[undef, undef, undef, undef, undef, undef, undef, undef, undef, undef] from rfl]
  simp only [List.setIfInBounds_toArray, List.set_cons_zero, List.set_cons_succ, List.append_toArray, List.cons_append, List.nil_append]
  have c0 : w1.cell? ⟨g0, 0, none⟩ = some (.int .i64 0) := a0.cell 0
  have c1 : w1.cell? ⟨g0, 1, none⟩ = some (txV []) := a0.cell 1
  have c2 : w1.cell? ⟨g0, 2, none⟩ = some (txV []) := a0.cell 2
  have c3 : w1.cell? ⟨g0, 3, none⟩ = some (.int .i64 0) := a0.cell 3
  have c4 : w1.cell? ⟨g0, 4, none⟩ = some (txV []) := a0.cell 4
  have c5 : w1.cell? ⟨g0, 5, none⟩ = some (txV []) := a0.cell 5
  have c6 : w1.cell? ⟨g0, 6, none⟩ = some (.int .i64 0) := a0.cell 6
  have c7 : w1.cell? ⟨g0, 7, none⟩ = some (txV []) := a0.cell 7
  have c8 : w1.cell? ⟨g0, 8, none⟩ = some (txV []) := a0.cell 8
  have c9 : w1.cell? ⟨g0, 9, none⟩ = some (.int .i64 0) := a0.cell 9
  have c10 : w1.cell? ⟨g0, 10, none⟩ = some (.int .i64 0) := a0.cell 10
  have c11 : w1.cell? ⟨g0, 11, none⟩ = some (.int .u8 (0 : UInt8).toNat) := a0.cell 11
  have c12 : w1.cell? ⟨g0, 12, none⟩ = some (.int .i64 0) := a0.cell 12
  have c13 : w1.cell? ⟨g0, 13, none⟩ = some (.int .i64 0) := a0.cell 13
  have c14 : w1.cell? ⟨g0, 14, none⟩ = some (.int .u8 (0 : UInt8).toNat) := a0.cell 14
  have f0 : ∀ j, w1.frozen? ⟨g0, j, none⟩ = false := a0.frozen
  have f1 : ∀ j, w1.frozen? ⟨g1, j, none⟩ = false := a1.frozen
  have d0 : w1.cell? ⟨g1, 0, none⟩ = some (.int .i64 x) := a1.cell 0
  have d1 : w1.cell? ⟨g1, 1, none⟩ = some (.int .i64 y) := a1.cell 1
  have e0 : w1.cell? ⟨w.heap.size, 0, none⟩ = some (.int .i64 k) := a2.cell 0
  have e1 : w1.cell? ⟨w.heap.size, 1, none⟩ = some (.int .i64 p) := a2.cell 1
  have hn0 : ¬ g0 = w.heap.size := by omega
  have hn1 : ¬ g1 = w.heap.size := by omega
  have hn2 : ¬ g1 = g0 := fun e => hne e.symm
  go_wp2
  go_region
  go_wp2
  simp only [bodyPostS]
  refine ⟨trivial, _, rfl, ?_⟩
  refine ⟨.tuple #[], by simp [results, Tryd.results60], rfl, rfl, ?_, ?_, ?_⟩
  · refine blk_dr (blk_o (blk_o ?_ hn2) hn2)
    exact (blk_s (blk_s (blk_s (blk_s (blk_s (blk_s (blk_s (blk_s (blk_s (blk_s (blk_s (blk_s (blk_s (blk_s (blk_s a0 (j := 0) (v := .int .i64 0) rfl) (j := 1) (v := .string ⟨#[]⟩) rfl) (j := 2) (v := .string ⟨#[]⟩) rfl) (j := 3) (v := .int .i64 0) rfl) (j := 4) (v := .string ⟨#[]⟩) rfl) (j := 5) (v := .string ⟨#[]⟩) rfl) (j := 6) (v := .int .i64 0) rfl) (j := 7) (v := .string ⟨#[]⟩) rfl) (j := 8) (v := .string ⟨#[]⟩) rfl) (j := 9) (v := .int .i64 0) rfl) (j := 10) (v := .int .i64 0) rfl) (j := 11) (v := .int .u8 0) rfl) (j := 12) (v := .int .i64 0) rfl) (j := 13) (v := .int .i64 0) rfl) (j := 14) (v := .int .u8 0) rfl)
  · refine blk_dr (blk_set2 (x := .int .i64 x) (y := .int .i64 y) ?_)
    exact (blk_o (blk_o (blk_o (blk_o (blk_o (blk_o (blk_o (blk_o (blk_o (blk_o (blk_o (blk_o (blk_o (blk_o (blk_o a1 hne) hne) hne) hne) hne) hne) hne) hne) hne) hne) hne) hne) hne) hne) hne)
  · exact ((((((((((((((((((hl.setCell hB0 _).setCell hB0 _).setCell hB0 _).setCell hB0 _).setCell hB0 _).setCell hB0 _).setCell hB0 _).setCell hB0 _).setCell hB0 _).setCell hB0 _).setCell hB0 _).setCell hB0 _).setCell hB0 _).setCell hB0 _).setCell hB0 _).setCell hB1 _).setCell hB1 _)).drew


theorem catch_idle (g0 g1 : Nat) (B : Nat) (w : World) (hB : B ≤ w.heap.size) :
    CallsD Tryd.prog 60 #[.pointer (some ⟨g0, 0, none⟩), .pointer (some ⟨g1, 0, none⟩)] .returning w fun e u' w' => e = .returned (.tuple #[]) ∧ u' = .returning ∧ (∀ b, b < w.heap.size → w'.heap[b]? = w.heap[b]?) ∧ Below B w w' := by
  refine callsD_of_wpS Tryd.func60 rfl fun c₀ cs hu => ?_
  apply wpS_seq
  apply wpS_region
  have hta := assert_no
  simp [wpOpsS, go_sem, recoverD, hu, Tryd.ntmps60, Exit.thenS, hta]
  refine wpS_of_wp ?_
  have hl := (Below.refl B w).alloc hB (.cells #[.int .i64 0, .int .i64 0] 73)
  have hb := fun b (h : b < w.heap.size) => Below.heap_alloc w (.cells #[.int .i64 0, .int .i64 0] 73) b h
  have HB := Lib.hid hb
  clear hb
  rw [show Array.replicate 10 undef = #[undef, undef, undef, undef, undef, undef, undef, undef, undef, undef] from rfl]
  simp only [List.setIfInBounds_toArray, List.set_cons_zero, List.set_cons_succ, List.append_toArray, List.cons_append, List.nil_append]
  go_wp2
  simp only [bodyPostS]
  exact ⟨trivial, .returning, by rw [← hu], .tuple #[], by simp [results, Tryd.results60], rfl, rfl, HB.out, hl⟩

end Go.Proofs.YtjahkaidinahpaaDoor.En
