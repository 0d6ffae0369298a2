/- A slice of acts (two numbers and a text each) that came in. -/
import Derived.Test.YtlaieijlengojaaScanI
import Derived.ProofKit
import Derived.OpenShut
import Derived.Deep.Slices
namespace Go.Proofs.Ytlaieijlengojaa
open Go.RowKit Go.ChangeShapes Go.WideShapes Go.ChangeAt Go.Deep

/-- 'v' reads as n acts, the i-th the numbers K i, N i and the text S i. -/
def HasA (w : World) (v : Value) (n : Nat) (K N : Nat → Int) (S : Nat → ByteArray) : Prop :=
  ∃ p c, v = .slice p n c ∧ n ≤ maxLen ∧ ∀ i, i < n → ∃ b off, p = some ⟨b, off, none⟩ ∧ w.cell? ⟨b, off + i * 3, none⟩ = some (.int .i64 (K i)) ∧ w.cell? ⟨b, off + i * 3 + 1, none⟩ = some (.int .i64 (N i)) ∧ w.cell? ⟨b, off + i * 3 + 2, none⟩ = some (.string (S i)) ∧ (Lit.int .i64 (K i)).wf = true ∧ (Lit.int .i64 (N i)).wf = true ∧ (S i).size ≤ maxLen

def Acts (w : World) (v : Value) (a : Nat × (Nat → Int) × (Nat → Int) × (Nat → ByteArray)) : Prop := HasA w v a.1 a.2.1 a.2.2.1 a.2.2.2

theorem open_acts {H : Type} {enc : TypeId × Value → H} {W : World} {a0 : Option Addr} {len cap fuel : Nat} {x : DataW H × List MemPlace}
    (hf : DataW.trod enc Try.prog W 0 (fun _ => true) true fuel 44 [.slice a0 len cap] = some x) : ∃ a, Acts W (.slice a0 len cap) a := by
  have he : ∃ f0 f1 f2 : Field, Try.prog.underlying 47 = some (.struct #[f0, f1, f2]) ∧ f0.offset = 0 ∧ f1.offset = 1 ∧ f2.offset = 2 ∧ f0.type = 3 ∧ f1.type = 3 ∧ f2.type = 9 := ⟨_, _, _, Try.underlying47, rfl, rfl, rfl, rfl, rfl, rfl⟩
  obtain ⟨f0, f1, f2, he, o0, o1, o2, t0, t1, t2⟩ := he
  have ce : Try.prog.cellsOf 47 = 3 := by kernel_rfl
  have ci : Try.prog.cellsOf 3 = 1 := by kernel_rfl
  have cs1 : Try.prog.cellsOf 9 = 1 := by kernel_rfl
  rcases open_slice Try.underlying44 hf with ⟨hcs, _⟩ | ⟨a, len', cap', m, n, D, Pl, hcs, _, hl, hm, hmm, _, hx⟩
  · simp at hcs
    obtain ⟨rfl, rfl, rfl⟩ := hcs
    exact ⟨(0, fun _ => 0, fun _ => 0, fun _ => ByteArray.empty), none, 0, rfl, by simp, fun i hi => absurd hi (Nat.not_lt_zero _)⟩
  · simp at hcs
    obtain ⟨rfl, rfl, rfl⟩ := hcs
    simp only [if_true] at hmm
    have each : ∀ i, i < len → ∃ q : Int × Int × ByteArray, W.cell? (a.add (i * 3)) = some (.int .i64 q.1) ∧ W.cell? (a.add (i * 3 + 1)) = some (.int .i64 q.2.1) ∧ W.cell? (a.add (i * 3 + 2)) = some (.string q.2.2) ∧ (Lit.int .i64 q.1).wf = true ∧ (Lit.int .i64 q.2.1).wf = true ∧ q.2.2.size ≤ maxLen := by
      intro i hi
      obtain ⟨cs', h1, h2⟩ := hx i (by omega)
      rw [ce] at h1
      obtain ⟨_, hlen, hcell⟩ := World.cells?_some h1
      obtain ⟨xs, k, hk, hxy, _, hxl, hf⟩ := DataW.trod_struct he h2
      match xs, hxl, cs', hlen with
      | [y0, y1, y2], _, [v0, v1, v2], _ =>
        have g0 := hf 0 f0 rfl
        have g1 := hf 1 f1 rfl
        have g2 := hf 2 f2 rfl
        simp [o0, o1, o2, t0, t1, t2, ci, cs1] at g0 g1 g2
        have e0 := hcell 0 (by omega)
        have e1 := hcell 1 (by omega)
        have e2 := hcell 2 (by omega)
        rw [add_add] at e0 e1 e2
        obtain ⟨x0, r0, _, w0⟩ := DataW.trod_int Try.underlying3 g0
        obtain ⟨x1, r1, _, w1⟩ := DataW.trod_int Try.underlying3 g1
        obtain ⟨x2, r2, _, w2⟩ := DataW.trod_string Try.underlying9 g2
        injection r0 with r0
        injection r1 with r1
        injection r2 with r2
        subst r0
        subst r1
        subst r2
        exact ⟨(x0, x1, x2), by simpa using e0, by simpa using e1, by simpa using e2, w0, w1, w2⟩
    have each2 : ∀ i, ∃ q : Int × Int × ByteArray, i < len → W.cell? (a.add (i * 3)) = some (.int .i64 q.1) ∧ W.cell? (a.add (i * 3 + 1)) = some (.int .i64 q.2.1) ∧ W.cell? (a.add (i * 3 + 2)) = some (.string q.2.2) ∧ (Lit.int .i64 q.1).wf = true ∧ (Lit.int .i64 q.2.1).wf = true ∧ q.2.2.size ≤ maxLen := by
      intro i
      by_cases hi : i < len
      · obtain ⟨q, hq⟩ := each i hi
        exact ⟨q, fun _ => hq⟩
      · exact ⟨(0, 0, ByteArray.empty), fun h => absurd h hi⟩
    obtain ⟨q, hq⟩ := Classical.axiomOfChoice each2
    refine ⟨(len, fun i => (q i).1, fun i => (q i).2.1, fun i => (q i).2.2), some a, cap, rfl, by omega, fun i hi => ?_⟩
    obtain ⟨c0, c1, c2, w0, w1, w2⟩ := hq i hi
    obtain ⟨b, off, spot⟩ := a
    have hspot : spot = none := by simpa [Addr.add] using World.cell?_spot (hq 0 (Nat.lt_of_le_of_lt (Nat.zero_le _) hi)).1
    subst hspot
    rw [Addr.add_lit] at c0 c1 c2
    exact ⟨b, off, rfl, c0, by rw [Nat.add_assoc]; exact c1, by rw [Nat.add_assoc]; exact c2, w0, w1, w2⟩
end Go.Proofs.Ytlaieijlengojaa
