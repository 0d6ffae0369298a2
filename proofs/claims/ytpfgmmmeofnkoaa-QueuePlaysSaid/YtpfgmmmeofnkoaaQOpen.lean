/- A slice of texts that came in. -/
import Derived.Test.YtpfgmmmeofnkoaaQListD
import Derived.ProofKit
import Derived.OpenShut
import Derived.SliceStrings
namespace Go.Proofs.Ytpfgmmmeofnkoaa
open Go.RowKit Go.ChangeShapes Go.WideShapes Go.ChangeAt

/-- What the walk is told of a slice of texts that came in. -/
def Texts (w : World) (v : Value) (l : List ByteArray) : Prop := HasL w v l ∧ l.length ≤ maxLen ∧ ∀ s ∈ l, s.size ≤ maxLen

theorem open_texts {H : Type} {enc : TypeId × Value → H} {W : World} {a0 : Option Addr} {len cap fuel : Nat} {x : DataW H × List MemPlace}
    (hf : DataW.trod enc Try.prog W 0 (fun _ => true) true fuel 22 [.slice a0 len cap] = some x) : ∃ l, Texts W (.slice a0 len cap) l := by
  rcases open_strings Try.underlying22 Try.underlying9 (by kernel_rfl) hf with ⟨hcs, _⟩ | ⟨a, len', cap', ss, hcs, _, hl, hm, hz, _, hcell, hsz⟩
  · simp at hcs
    obtain ⟨rfl, rfl, rfl⟩ := hcs
    exact ⟨[], HasL.nil _, by simp, by simp⟩
  · simp at hcs
    obtain ⟨rfl, rfl, rfl⟩ := hcs
    simp only [if_true] at hz
    by_cases h0 : len = 0
    · subst h0
      exact ⟨[], .inl ⟨_, _, rfl, rfl, fun h => by cases h⟩, by simp, by simp⟩
    · obtain ⟨b, off, spot⟩ := a
      have hspot : spot = none := by simpa [Addr.add] using World.cell?_spot (hcell 0 (by omega))
      subst hspot
      have e : (ss.take len).length = len := by simp; omega
      refine ⟨ss.take len, .inr ⟨b, off, cap, by rw [e], by omega, hm, fun j hj => ?_⟩, by omega, fun s hs => hsz s (List.mem_of_mem_take hs)⟩
      rw [e] at hj
      have h1 := hcell j (by omega)
      rw [Addr.add_lit] at h1
      rw [h1]
      simp [List.getD, hj]
end Go.Proofs.Ytpfgmmmeofnkoaa
