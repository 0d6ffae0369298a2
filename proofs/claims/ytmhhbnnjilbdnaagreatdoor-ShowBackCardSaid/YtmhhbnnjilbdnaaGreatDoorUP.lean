/- A sound, small PNR is formed. -/
import Derived.Test.YtmhhbnnjilbdnaaGreatDoorUA
import Derived.Test.YtmhhbnnjilbdnaaGreatDoorGJ
namespace Go.Proofs.YtmhhbnnjilbdnaaGreatDoor.Sh
open Go.RowKit En Go.ChangeMaps
set_option linter.unusedSimpArgs false
set_option linter.unusedVariables false
set_option maxRecDepth 20000

theorem sound_yes {p : PnrT} (h : soundPS p = true) : SoundP p := by
  rcases Classical.em (SoundP p) with k | k
  · exact k
  · rw [soundPS_no k] at h; cases h
theorem fine_small {p : PnrT} (h : smallB p = true) (hs : soundPS p = true) (hw : ∀ x ∈ p.seats, (Lit.int .i64 x.seg).wf = true) : FineP p ∧ cntP p < 300 := by
  have h := of_decide_eq_true h
  have hs := sound_yes hs
  refine ⟨fine_of hs hw h.2.2.2.2, ?_⟩
  have := hs.names.1
  have := hs.segs.1
  have := hs.phones.1
  have := hs.remarks.1
  unfold cntP
  omega
theorem room_small {p : PnrT} (h : smallB p = true) : Room p ∧ (p.names.length ≤ 1000 ∧ p.segs.length ≤ 1000 ∧ p.phones.length ≤ 1000 ∧ p.remarks.length ≤ 1000 ∧ p.seats.length ≤ 1000) := by
  have h := of_decide_eq_true h
  unfold Room
  omega
end Go.Proofs.YtmhhbnnjilbdnaaGreatDoor.Sh
