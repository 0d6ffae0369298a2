/- A slice of acts (a number and a text each) that came in. -/
import Derived.Test.YtpfgmmmeofnkoaaQListG
import Derived.Deep.SlicePairs
namespace Go.Proofs.Ytpfgmmmeofnkoaa
open Go.RowKit Go.ChangeShapes Go.WideShapes Go.ChangeAt Go.Deep

/-- 'v' reads as n acts, the i-th the number K i and the text S i. -/
def HasA (w : World) (v : Value) (n : Nat) (K : Nat → Int) (S : Nat → ByteArray) : Prop :=
  ∃ p c, v = .slice p n c ∧ n ≤ maxLen ∧ ∀ i, i < n → ∃ b off, p = some ⟨b, off, none⟩ ∧ w.cell? ⟨b, off + i * 2, none⟩ = some (.int .i64 (K i)) ∧ w.cell? ⟨b, off + i * 2 + 1, none⟩ = some (.string (S i)) ∧ (Lit.int .i64 (K i)).wf = true ∧ (S i).size ≤ maxLen

theorem HasA.mono {w w' : World} {v : Value} {n : Nat} {K : Nat → Int} {S : Nat → ByteArray} (h : HasA w v n K S) (hb : Below w.heap.size w w') : HasA w' v n K S := by
  obtain ⟨p, c, e, hm, h⟩ := h
  refine ⟨p, c, e, hm, fun i hi => ?_⟩
  obtain ⟨b, off, e2, h1, h2, h3, h4⟩ := h i hi
  exact ⟨b, off, e2, cell_bel hb h1, cell_bel hb h2, h3, h4⟩

def Acts (w : World) (v : Value) (a : Nat × (Nat → Int) × (Nat → ByteArray)) : Prop := HasA w v a.1 a.2.1 a.2.2

theorem open_acts {H : Type} {enc : TypeId × Value → H} {W : World} {a0 : Option Addr} {len cap fuel : Nat} {x : DataW H × List MemPlace}
    (hf : DataW.trod enc Try.prog W 0 (fun _ => true) true fuel 37 [.slice a0 len cap] = some x) : ∃ a, Acts W (.slice a0 len cap) a := by
  have he : ∃ f0 f1 : Field, Try.prog.underlying 39 = some (.struct #[f0, f1]) ∧ f0.offset = 0 ∧ f1.offset = 1 ∧ f0.type = 3 ∧ f1.type = 9 := ⟨_, _, Try.underlying39, rfl, rfl, rfl, rfl⟩
  obtain ⟨f0, f1, he, o0, o1, t0, t1⟩ := he
  rcases open_slice_pairs Try.underlying37 he (by kernel_rfl) o0 o1 (by rw [t0]; kernel_rfl) (by rw [t1]; kernel_rfl) hf with ⟨hcs, _⟩ | ⟨a, len', cap', m, n, V0, V1, D0, D1, P0, P1, hcs, _, hl, hm, hmm, _, hcell⟩
  · simp at hcs
    obtain ⟨rfl, rfl, rfl⟩ := hcs
    exact ⟨(0, fun _ => 0, fun _ => ByteArray.empty), none, 0, rfl, by simp, fun i hi => absurd hi (Nat.not_lt_zero _)⟩
  · simp at hcs
    obtain ⟨rfl, rfl, rfl⟩ := hcs
    simp only [if_true] at hmm
    have each : ∀ i, i < len → ∃ q : Int × ByteArray, V0 i = .int .i64 q.1 ∧ V1 i = .string q.2 ∧ (Lit.int .i64 q.1).wf = true ∧ q.2.size ≤ maxLen := by
      intro i hi
      obtain ⟨_, _, g0, g1⟩ := hcell i (by omega)
      rw [t0] at g0
      rw [t1] at g1
      obtain ⟨k, e1, _, h1⟩ := DataW.trod_int Try.underlying3 g0
      obtain ⟨s, e2, _, h2⟩ := DataW.trod_string Try.underlying9 g1
      injection e1 with e1
      injection e2 with e2
      exact ⟨(k, s), e1, e2, h1, h2⟩
    have each2 : ∀ i, ∃ q : Int × ByteArray, i < len → V0 i = .int .i64 q.1 ∧ V1 i = .string q.2 ∧ (Lit.int .i64 q.1).wf = true ∧ q.2.size ≤ maxLen := by
      intro i
      by_cases hi : i < len
      · obtain ⟨q, hq⟩ := each i hi
        exact ⟨q, fun _ => hq⟩
      · exact ⟨(0, ByteArray.empty), fun h => absurd h hi⟩
    obtain ⟨q, hq⟩ := Classical.axiomOfChoice each2
    refine ⟨(len, fun i => (q i).1, fun i => (q i).2), some a, cap, rfl, by omega, fun i hi => ?_⟩
    obtain ⟨c0, c1, _, _⟩ := hcell i (by omega)
    obtain ⟨e1, e2, h1, h2⟩ := hq i hi
    obtain ⟨b, off, spot⟩ := a
    have hspot : spot = none := by simpa [Addr.add] using World.cell?_spot (hcell 0 (by omega)).1
    subst hspot
    rw [Addr.add_lit, e1] at c0
    rw [Addr.add_lit, e2] at c1
    exact ⟨b, off, rfl, c0, by rw [Nat.add_assoc]; exact c1, h1, h2⟩
end Go.Proofs.Ytpfgmmmeofnkoaa
