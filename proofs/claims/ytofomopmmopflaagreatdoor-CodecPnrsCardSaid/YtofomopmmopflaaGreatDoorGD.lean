/- check.texts and the reference's texts; check.ticket. -/
import Derived.Test.YtofomopmmopflaaGreatDoorMA
import Derived.Test.YtofomopmmopflaaGreatDoorMB
import Derived.Test.YtofomopmmopflaaGreatDoorMC
import Derived.Test.YtofomopmmopflaaGreatDoorME
import Derived.Test.YtofomopmmopflaaGreatDoorFN
import Derived.Test.YtofomopmmopflaaGreatDoorGA
import Derived.Test.YtofomopmmopflaaGreatDoorGB
import Derived.Test.YtofomopmmopflaaGreatDoorRows
import Derived.WalkKit
import Derived.WalkSpells
import Derived.WalkLawsBesides
import Derived.Lib.ConvBytes
import Derived.Lib.Hide
import Derived.Lib.SliceRun
import Derived.IntWalk
import Derived.BigQuiet
import Derived.Deep.QuietTactic
import Derived.Deep.RegionWith
import Derived.Deep.RegionHeld3
import Derived.Deep.LoopGhost
import Derived.Deep.CutRange
import Derived.Deep.CutBlock
import Derived.Deep.MidRow
import Derived.Laws.OwnMore
import Derived.OwnWalk
import Derived.Laws.AppendOwnNone
import Derived.Laws.Rows
import Derived.Laws.MakeOwn
import Derived.Laws.CopyOwn
import Derived.Laws.BitsAllLaws
import Derived.DeepKeys5
import Derived.Maps.OwnOps
import Derived.Handy
import Derived.Lib.AppendStr
import Derived.StillTailTactics
import Derived.Deep.AppendLies
namespace Go.Proofs.YtofomopmmopflaaGreatDoor
open Go.RowKit Go.ChangeMaps
set_option linter.unusedSimpArgs false
set_option linter.unusedVariables false
set_option maxRecDepth 20000

/-- Free texts, at most so many. -/
def textsOk (l : List ByteArray) (most : Nat) : Prop := l.length ≤ most ∧ ∀ s ∈ l, freeP s
open Classical in
noncomputable def textsS (l : List ByteArray) (most : Nat) : Bool := decide (textsOk l most)
theorem textsS_yes {l : List ByteArray} {most : Nat} (h : textsOk l most) : textsS l most = true := by unfold textsS; simp [h]
theorem textsS_no {l : List ByteArray} {most : Nat} (h : ¬ textsOk l most) : textsS l most = false := by unfold textsS; simp [h]

set_option maxHeartbeats 8000000 in
theorem texts_any (l : List ByteArray) (v : Value) (most : Nat) (w : World) (hv : HasL w v l) (hs : ∀ s ∈ l, s.size ≤ maxLen) (hm : most ≤ 1000) :
    Calls Tryz.prog 51 #[v, .int .i64 most] w fun e w' => e = .returned (.bool (textsS l most)) ∧ Below w.heap.size w w' := by
  obtain ⟨p, c, rfl⟩ := own_len hv
  have HV := Lib.hid hv
  have HS := Lib.hid hs
  by_cases hlong : most < l.length
  · have hi : (most : Int) < (l.length : Int) := by omega
    have HF := Lib.hid (textsS_no (l := l) (most := most) fun h => by have := h.1; omega)
    clear hv hlong hs
    go_enter Tryz.func51, Tryz.ntmps51
    go_wp2
    go_ret
    exact ⟨ret_bool HF.out.symm, Below.refl _ _⟩
  have hi : ¬ (most : Int) < (l.length : Int) := by omega
  have HYES : RowKit.Hid ((∀ s ∈ l, freeP s) → textsS l most = true) := Lib.hid fun h => textsS_yes ⟨by omega, h⟩
  have HNO : RowKit.Hid (∀ s ∈ l, ¬ freeP s → textsS l most = false) := Lib.hid fun s h1 h2 => textsS_no fun h => h2 (h.2 s h1)
  generalize textsS l most = sb at *
  have hn : l.length ≤ 1000 := by omega
  generalize hN : l.length = N at *
  have HN := Lib.hid hN
  clear hv hlong hs hN hm
  go_enter Tryz.func51, Tryz.ntmps51
  go_wp2
  go_loopg [13] N (fun g0 s13 wr => ∃ i : Nat, i ≤ N ∧ g0 = N - i ∧ s13 = .int .i64 (i : Int) ∧ (∀ s ∈ l.take i, freeP s) ∧ Below w.heap.size w wr)
  case atStart => exact ⟨0, Nat.zero_le _, rfl, rfl, (fun s h => by cases h), Below.refl _ _⟩
  case round =>
    obtain ⟨i, hiN, rfl, rfl, hall, hbw⟩ := hrel
    have HALL := Lib.hid hall
    clear hall
    by_cases hlt : i < N
    · have hii : (i : Int) < (N : Int) := by omega
      have hi0 : (0 : Int) ≤ (i : Int) := by omega
      have hlN : i < l.length := by rw [HN.out]; exact hlt
      obtain ⟨bb, off, rfl, c0⟩ := str_at (HV.out.mono hbw) hlN
      have hg : l[i]? = some (l.getD i ByteArray.empty) := by rw [List.getD_eq_getElem?_getD, List.getElem?_eq_getElem hlN]; rfl
      have hmem : l.getD i ByteArray.empty ∈ l := List.mem_of_getElem? hg
      have hsz := HS.out _ hmem
      have HTK : RowKit.Hid (l.take (i + 1) = l.take i ++ [l.getD i ByteArray.empty]) := Lib.hid (by rw [List.take_add_one, hg]; rfl)
      have HNOk := Lib.hid (HNO.out _ hmem)
      clear hmem hg
      generalize l.getD i ByteArray.empty = s at *
      have HFR : RowKit.Hid (∀ W, Calls Tryz.prog 52 #[.string s] W fun e w' => e = .returned (.bool (freeS (toL s))) ∧ Below W.heap.size W w') := Lib.hid fun W => free_any s W hsz
      cases hL : freeS (toL s) with
      | false =>
        rw [hL] at HFR
        have HF := Lib.hid (HNOk.out (by unfold freeP; rw [hL]; decide))
        clear hL
        go_wp2_with (first
          | (go_at_call 52; (with_reducible refine (HFR.out _).mono ?_); rintro e w5 ⟨rfl, hb5⟩))
        go_ret
        exact ⟨ret_bool HF.out.symm, below_low hbw hbw.size hb5⟩
      | true =>
        rw [hL] at HFR
        have HL := Lib.hid hL
        clear hL
        go_wp2_with (first
          | (go_at_call 52; (with_reducible refine (HFR.out _).mono ?_); rintro e w5 ⟨rfl, hb5⟩))
        go_roundg (N - (i + 1))
        case measure => omega
        case rel => exact ⟨i + 1, by omega, rfl, by go_num, (fun t ht => by
          rw [HTK.out] at ht
          rcases List.mem_append.1 ht with h1 | h1
          · exact HALL.out t h1
          · rw [List.mem_singleton.1 h1]; exact HL.out), below_low hbw hbw.size hb5⟩
    · have hie : i = N := by omega
      subst hie
      have hii : ¬ (i : Int) < (i : Int) := by omega
      have HT := Lib.hid (HYES.out (by have := HALL.out; rwa [List.take_of_length_le (by rw [HN.out]; exact Nat.le_refl _)] at this))
      go_wp2
      go_ret
      exact ⟨ret_bool HT.out.symm, hbw⟩
end Go.Proofs.YtofomopmmopflaaGreatDoor
