/- Texts and bytes that came in. -/
import Derived.Test.YtofomopmmopflaaGreatDoorMA
import Derived.Test.YtofomopmmopflaaGreatDoorMB
import Derived.Test.YtofomopmmopflaaGreatDoorMD
import Derived.Test.YtofomopmmopflaaGreatDoorME
import Derived.Test.YtofomopmmopflaaGreatDoorRows
import Derived.WalkKit
import Derived.WalkSpells
import Derived.WalkLawsBesides
import Derived.Lib.ConvBytes
import Derived.Lib.Hide
import Derived.Lib.SliceRun
import Derived.IntWalk
import Derived.BigQuiet
import Derived.Deep.QuietTactic
import Derived.Deep.RegionWith
import Derived.Deep.RegionHeld3
import Derived.Deep.LoopGhost
import Derived.Deep.CutRange
import Derived.Deep.CutBlock
import Derived.Deep.MidRow
import Derived.Laws.OwnMore
import Derived.OwnWalk
import Derived.Laws.AppendOwnNone
import Derived.Laws.Rows
import Derived.Laws.MakeOwn
import Derived.Laws.CopyOwn
import Derived.Laws.BitsAllLaws
import Derived.DeepKeys5
import Derived.Maps.OwnOps
import Derived.Handy
import Derived.Lib.AppendStr
import Derived.StillTailTactics
import Derived.Deep.AppendLies
import Derived.ProofKit
import Derived.OpenShut
import Derived.SliceStrings
import Derived.Lib.SmallJoins
import Derived.Deep.SlicePairs
import Derived.ChangeSlices
namespace Go.Proofs.YtofomopmmopflaaGreatDoor
open Go.RowKit Go.ChangeShapes Go.WideShapes Go.ChangeAt Go.Joins Go.Deep
set_option linter.unusedSimpArgs false
set_option linter.unusedVariables false

theorem open_texts {H : Type} {enc : TypeId × Value → H} {W : World} {a0 : Option Addr} {len cap fuel : Nat} {x : DataW H × List MemPlace}
    (hf : DataW.trod enc Tryz.prog W 0 (fun _ => true) true fuel 24 [.slice a0 len cap] = some x) : ∃ l, Texts W (.slice a0 len cap) l := by
  rcases open_strings Tryz.underlying24 Tryz.underlying9 (by kernel_rfl) hf with ⟨hcs, _⟩ | ⟨a, len', cap', ss, hcs, _, hl, hm, hz, _, hcell, hsz⟩
  · simp at hcs
    obtain ⟨rfl, rfl, rfl⟩ := hcs
    exact ⟨[], HasL.nil _, by simp, by simp⟩
  · simp at hcs
    obtain ⟨rfl, rfl, rfl⟩ := hcs
    simp only [if_true] at hz
    by_cases h0 : len = 0
    · subst h0
      exact ⟨[], .inl ⟨_, _, rfl, rfl, fun h => by cases h⟩, by simp, by simp⟩
    · obtain ⟨b, off, spot⟩ := a
      have hspot : spot = none := by simpa [Addr.add] using World.cell?_spot (hcell 0 (by omega))
      subst hspot
      have e : (ss.take len).length = len := by simp; omega
      refine ⟨ss.take len, .inr ⟨b, off, cap, by rw [e], by omega, hm, fun j hj => ?_⟩, by omega, fun s hs => hsz s (List.mem_of_mem_take hs)⟩
      rw [e] at hj
      have h1 := hcell j (by omega)
      rw [Addr.add_lit] at h1
      rw [h1]
      simp [List.getD, hj]

theorem wf_byte {n : Int} (h : (Lit.int .u8 n).wf = true) : ∃ c : UInt8, n = (c.toNat : Int) ∧ UInt8.ofNat n.toNat = c := by
  have hh : 0 ≤ n ∧ n < 256 := by
    simp [Lit.wf, IntKind.min, IntKind.max, IntKind.signed, IntKind.bits] at h
    omega
  obtain ⟨k, rfl⟩ := Int.eq_ofNat_of_zero_le hh.1
  exact ⟨UInt8.ofNat k, by simp; omega, by simp⟩

theorem spot_none {w : World} {a : Addr} {u : Value} (h : w.cell? a = some u) : a = ⟨a.block, a.off, none⟩ := by
  obtain ⟨b, off, spot⟩ := a
  have : spot = none := by simpa using World.cell?_spot h
  subst this
  rfl

theorem open_bytesE {H : Type} {enc : TypeId × Value → H} {W : World} {a0 : Option Addr} {len cap fuel : Nat} {x : DataW H × List MemPlace}
    (hf : DataW.trod enc Tryz.prog W 0 (fun _ => true) true fuel 30 [.slice a0 len cap] = some x) : ∃ l, Bytes W (.slice a0 len cap) l := by
  rcases open_ints Tryz.underlying30 Tryz.underlying5 (by kernel_rfl) hf with ⟨hcs, _⟩ | ⟨a, len', cap', zs, hcs, _, hl, hm, hz, _, hcell, hwf⟩
  · simp at hcs
    obtain ⟨rfl, rfl, rfl⟩ := hcs
    exact ⟨[], HasE.nil W⟩
  · simp at hcs
    obtain ⟨rfl, rfl, rfl⟩ := hcs
    simp only [if_true] at hz
    by_cases h0 : cap = 0
    · have : len = 0 := by omega
      subst this
      exact ⟨[], .inl ⟨some a, cap, rfl, rfl, fun h => by cases h⟩⟩
    · have ha := spot_none (hcell 0 (by omega))
      simp [Addr.add] at ha
      obtain ⟨b, off, sp⟩ := a
      simp at ha
      subst ha
      have hlen : ((zs.take len).map fun n => UInt8.ofNat n.toNat).length = len := by rw [List.length_map, List.length_take]; omega
      refine ⟨(zs.take len).map fun n => UInt8.ofNat n.toNat, .inr ⟨b, off, cap, by rw [hlen], by rw [hlen]; exact hl, hm, fun j u hj => ?_⟩⟩
      rw [flat_byte, List.getElem?_map] at hj
      have hjl : j < len := by
        rcases Nat.lt_or_ge j len with h | h
        · exact h
        · rw [List.getElem?_eq_none (by rw [hlen]; exact h)] at hj; simp at hj
      rw [List.getElem?_map, List.getElem?_take_of_lt hjl, List.getElem?_eq_getElem (by omega)] at hj
      obtain ⟨c, hc, hc2⟩ := wf_byte (hwf zs[j] (List.getElem_mem _))
      simp only [Option.map_some, Option.some.injEq] at hj
      have := hcell j (by omega)
      rw [Addr.add_lit] at this
      rw [this, ← hj, List.getD_eq_getElem?_getD, List.getElem?_eq_getElem (by omega), hc2, ← hc]
      rfl
end Go.Proofs.YtofomopmmopflaaGreatDoor
