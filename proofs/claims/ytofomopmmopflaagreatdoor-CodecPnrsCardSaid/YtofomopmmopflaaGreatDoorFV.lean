/- Lists of rows that came in; a leg that came in. -/
import Derived.Test.YtofomopmmopflaaGreatDoorMA
import Derived.Test.YtofomopmmopflaaGreatDoorME
import Derived.Test.YtofomopmmopflaaGreatDoorFO
import Derived.Test.YtofomopmmopflaaGreatDoorRows
import Derived.WalkKit
import Derived.WalkSpells
import Derived.WalkLawsBesides
import Derived.Lib.ConvBytes
import Derived.Lib.Hide
import Derived.Lib.SliceRun
import Derived.IntWalk
import Derived.BigQuiet
import Derived.Deep.QuietTactic
import Derived.Deep.RegionWith
import Derived.Deep.RegionHeld3
import Derived.Deep.LoopGhost
import Derived.Deep.CutRange
import Derived.Deep.CutBlock
import Derived.Deep.MidRow
import Derived.Laws.OwnMore
import Derived.OwnWalk
import Derived.Laws.AppendOwnNone
import Derived.Laws.Rows
import Derived.Laws.MakeOwn
import Derived.Laws.CopyOwn
import Derived.Laws.BitsAllLaws
import Derived.DeepKeys5
import Derived.Maps.OwnOps
import Derived.Handy
import Derived.Lib.AppendStr
import Derived.StillTailTactics
import Derived.Deep.AppendLies
import Derived.ProofKit
import Derived.OpenShut
import Derived.SliceStrings
import Derived.Lib.SmallJoins
import Derived.Deep.SlicePairs
import Derived.ChangeSlices
namespace Go.Proofs.YtofomopmmopflaaGreatDoor
open Go.RowKit Go.ChangeShapes Go.WideShapes Go.ChangeAt Go.Joins Go.Deep
set_option linter.unusedSimpArgs false
set_option linter.unusedVariables false

section
variable {H : Type} {enc : TypeId × Value → H} {W : World}

theorem open_listE {α : Type} {en : α → List Value} {st : Nat} (hst : ∀ a, (en a).length = st) (ok : α → Prop) {t e : TypeId} (ht : Tryz.prog.underlying t = some (.slice e)) (ce : Tryz.prog.cellsOf e = st) (h0 : 0 < st)
    (each : ∀ {fuel : Nat} {cs : List Value} {x : DataW H × List MemPlace}, cs.length = st → DataW.trod enc Tryz.prog W 0 (fun _ => true) true fuel e cs = some x → ∃ a, cs = en a ∧ ok a)
    {a0 : Option Addr} {len cap fuel : Nat} {x : DataW H × List MemPlace} (hf : DataW.trod enc Tryz.prog W 0 (fun _ => true) true fuel t [.slice a0 len cap] = some x) : ∃ l : List α, HasE en W (.slice a0 len cap) l ∧ ∀ a ∈ l, ok a := by
  rcases open_slice ht hf with ⟨hcs, _⟩ | ⟨a, len', cap', m, n, D, Pl, hcs, _, hl, hm, hmm, _, hx⟩
  · simp at hcs
    obtain ⟨rfl, rfl, rfl⟩ := hcs
    exact ⟨[], HasE.nil W, by simp⟩
  · simp at hcs
    obtain ⟨rfl, rfl, rfl⟩ := hcs
    simp only [if_true] at hmm
    by_cases hl0 : len = 0
    · subst hl0
      exact ⟨[], .inl ⟨some a, cap, rfl, rfl, fun h => by cases h⟩, by simp⟩
    have key : ∀ i, i < len → ∃ q : α, ok q ∧ ∀ k u, (en q)[k]? = some u → W.cell? ((a.add (i * st)).add k) = some u := by
      intro i hi
      obtain ⟨cs', h1, h2⟩ := hx i (by omega)
      rw [ce] at h1
      obtain ⟨_, hlen, hcell⟩ := World.cells?_some h1
      obtain ⟨q, rfl, hq⟩ := each hlen h2
      refine ⟨q, hq, fun k u hk => ?_⟩
      have hkl : k < st := by
        rcases Nat.lt_or_ge k st with h | h
        · exact h
        · rw [List.getElem?_eq_none (by rw [hst]; exact h)] at hk; cases hk
      have := hcell k hkl
      rw [this, hk]
    have hspot : a.spot = none := by
      obtain ⟨q, _, h⟩ := key 0 (by omega)
      have hq : (en q)[0]? = some ((en q)[0]'(by rw [hst]; exact h0)) := List.getElem?_eq_getElem _
      have := World.cell?_spot (h 0 _ hq)
      simpa [Addr.add] using this
    obtain ⟨b, off, sp⟩ := a
    simp at hspot
    subst hspot
    have key2 : ∀ i : Fin len, ∃ q : α, ok q ∧ ∀ k u, (en q)[k]? = some u → W.cell? ⟨b, off + (i.val * st + k), none⟩ = some u := by
      intro i
      obtain ⟨q, h1, h2⟩ := key i.val i.isLt
      refine ⟨q, h1, fun k u hk => ?_⟩
      have := h2 k u hk
      rw [Addr.add_lit, Addr.add_lit] at this
      rw [← Nat.add_assoc]
      exact this
    obtain ⟨q, hq⟩ := Classical.axiomOfChoice key2
    have hlen : (List.ofFn q).length = len := by simp
    refine ⟨List.ofFn q, .inr ⟨b, off, cap, by rw [hlen], by rw [hlen]; exact hl, hm, fun j u hj => ?_⟩, fun y hy => ?_⟩
    · have hjl : j < len * st := by
        rcases Nat.lt_or_ge j (len * st) with h | h
        · exact h
        · rw [List.getElem?_eq_none (by rw [cells_len hst, hlen]; exact h)] at hj; cases hj
      have hi : j / st < len := Nat.div_lt_of_lt_mul (by rw [Nat.mul_comm]; exact hjl)
      have e : j = j / st * st + j % st := (Nat.div_add_mod' j st).symm
      have hg : (List.ofFn q)[j / st]? = some (q ⟨j / st, hi⟩) := by simp [List.getElem?_ofFn, hi]
      rw [e, cells_get hst (j % st) hg (Nat.mod_lt _ h0)] at hj
      have := (hq ⟨j / st, hi⟩).2 _ _ hj
      rw [← e] at this
      exact this
    · obtain ⟨i, rfl⟩ := List.mem_ofFn.1 hy
      exact (hq i).1

theorem seat_each {fuel : Nat} {v0 v1 : Value} {x : DataW H × List MemPlace} (h : DataW.trod enc Tryz.prog W 0 (fun _ => true) true fuel 71 [v0, v1] = some x) : ∃ (r : Int) (c : UInt8), v0 = .int .i64 r ∧ v1 = .int .u8 c.toNat ∧ (Lit.int .i64 r).wf = true := by
  have he : ∃ f0 f1 : Field, Tryz.prog.underlying 71 = some (.struct #[f0, f1]) ∧ f0.offset = 0 ∧ f1.offset = 1 ∧ f0.type = 3 ∧ f1.type = 5 := ⟨_, _, Tryz.underlying71, rfl, rfl, rfl, rfl⟩
  obtain ⟨f0, f1, he, o0, o1, t0, t1⟩ := he
  obtain ⟨y0, y1, n, _, _, g0, g1⟩ := trod_struct2 he h
  rw [t0, o0, show Tryz.prog.cellsOf 3 = 1 by kernel_rfl] at g0
  rw [t1, o1, show Tryz.prog.cellsOf 5 = 1 by kernel_rfl] at g1
  obtain ⟨k, e1, _, h1⟩ := DataW.trod_int Tryz.underlying3 g0
  obtain ⟨s, e2, _, h2⟩ := DataW.trod_int Tryz.underlying5 g1
  simp at e1 e2
  obtain ⟨c, hc, _⟩ := wf_byte h2
  exact ⟨k, c, e1, by rw [e2, hc], h1⟩

end
end Go.Proofs.YtofomopmmopflaaGreatDoor
