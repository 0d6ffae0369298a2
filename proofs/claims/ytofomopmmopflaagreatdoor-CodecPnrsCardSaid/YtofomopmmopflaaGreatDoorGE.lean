/- Parts of a sound PNR: the reference's texts, moments, ticketing fields, a segment by itself. -/
import Derived.Test.YtofomopmmopflaaGreatDoorMA
import Derived.Test.YtofomopmmopflaaGreatDoorMB
import Derived.Test.YtofomopmmopflaaGreatDoorMC
import Derived.Test.YtofomopmmopflaaGreatDoorME
import Derived.Test.YtofomopmmopflaaGreatDoorFN
import Derived.Test.YtofomopmmopflaaGreatDoorGA
import Derived.Test.YtofomopmmopflaaGreatDoorGB
import Derived.Test.YtofomopmmopflaaGreatDoorGD
import Derived.Test.YtofomopmmopflaaGreatDoorRows
import Derived.WalkKit
import Derived.WalkSpells
import Derived.WalkLawsBesides
import Derived.Lib.ConvBytes
import Derived.Lib.Hide
import Derived.Lib.SliceRun
import Derived.IntWalk
import Derived.BigQuiet
import Derived.Deep.QuietTactic
import Derived.Deep.RegionWith
import Derived.Deep.RegionHeld3
import Derived.Deep.LoopGhost
import Derived.Deep.CutRange
import Derived.Deep.CutBlock
import Derived.Deep.MidRow
import Derived.Laws.OwnMore
import Derived.OwnWalk
import Derived.Laws.AppendOwnNone
import Derived.Laws.Rows
import Derived.Laws.MakeOwn
import Derived.Laws.CopyOwn
import Derived.Laws.BitsAllLaws
import Derived.DeepKeys5
import Derived.Maps.OwnOps
import Derived.Handy
import Derived.Lib.AppendStr
import Derived.StillTailTactics
import Derived.Deep.AppendLies
namespace Go.Proofs.YtofomopmmopflaaGreatDoor
open Go.RowKit Go.ChangeMaps
set_option linter.unusedSimpArgs false
set_option linter.unusedVariables false
set_option maxRecDepth 20000

set_option maxHeartbeats 8000000 in
theorem refTexts_any (l : List ByteArray) (v : Value) (most : Nat) (w : World) (hv : HasL w v l) (hs : ∀ s ∈ l, s.size ≤ maxLen) (hm : most ≤ 1000) :
    Calls Tryz.prog 62 #[v, .int .i64 most] w fun e w' => e = .returned (.bool (textsS l most)) ∧ w = w' := by
  obtain ⟨p, c, rfl⟩ := own_len hv
  have HV := Lib.hid hv
  have HS := Lib.hid hs
  by_cases hlong : most < l.length
  · have hi : (most : Int) < (l.length : Int) := by omega
    have HF := Lib.hid (textsS_no (l := l) (most := most) fun h => by have := h.1; omega)
    clear hv hlong hs
    go_enter Tryz.func62, Tryz.ntmps62
    go_wp2
    go_ret
    exact ⟨ret_bool HF.out.symm, rfl⟩
  have hi : ¬ (most : Int) < (l.length : Int) := by omega
  have HYES : RowKit.Hid ((∀ s ∈ l, freeP s) → textsS l most = true) := Lib.hid fun h => textsS_yes ⟨by omega, h⟩
  have HNO : RowKit.Hid (∀ s ∈ l, ¬ freeP s → textsS l most = false) := Lib.hid fun s h1 h2 => textsS_no fun h => h2 (h.2 s h1)
  generalize textsS l most = sb at *
  have hn : l.length ≤ 1000 := by omega
  generalize hN : l.length = N at *
  have HN := Lib.hid hN
  clear hv hlong hs hN hm
  go_enter Tryz.func62, Tryz.ntmps62
  go_wp2
  go_loopg [5] N (fun g0 s5 wr => ∃ i : Nat, i ≤ N ∧ g0 = N - i ∧ s5 = .int .i64 (i : Int) ∧ (∀ s ∈ l.take i, freeP s) ∧ w = wr)
  case atStart => exact ⟨0, Nat.zero_le _, rfl, rfl, (fun s h => by cases h), rfl⟩
  case round =>
    obtain ⟨i, hiN, rfl, rfl, hall, rfl⟩ := hrel
    have HALL := Lib.hid hall
    clear hall
    by_cases hlt : i < N
    · have hii : (i : Int) < (N : Int) := by omega
      have hi0 : (0 : Int) ≤ (i : Int) := by omega
      have hlN : i < l.length := by rw [HN.out]; exact hlt
      obtain ⟨bb, off, rfl, c0⟩ := str_at HV.out hlN
      have hg : l[i]? = some (l.getD i ByteArray.empty) := by rw [List.getD_eq_getElem?_getD, List.getElem?_eq_getElem hlN]; rfl
      have hmem : l.getD i ByteArray.empty ∈ l := List.mem_of_getElem? hg
      have hsz := HS.out _ hmem
      have HTK : RowKit.Hid (l.take (i + 1) = l.take i ++ [l.getD i ByteArray.empty]) := Lib.hid (by rw [List.take_add_one, hg]; rfl)
      have HNOk := Lib.hid (HNO.out _ hmem)
      clear hmem hg
      generalize l.getD i ByteArray.empty = s at *
      have HFR : RowKit.Hid (∀ W, Calls Tryz.prog 63 #[.string s] W fun e w' => e = .returned (.bool (freeS (toL s))) ∧ W = w') := Lib.hid fun W => refFree_any2 s W hsz
      cases hL : freeS (toL s) with
      | false =>
        rw [hL] at HFR
        have HF := Lib.hid (HNOk.out (by unfold freeP; rw [hL]; decide))
        clear hL
        go_wp2_with (first
          | (go_at_call 63; (with_reducible refine (HFR.out _).mono ?_); rintro e w5 ⟨rfl, rfl⟩))
        go_ret
        exact ⟨ret_bool HF.out.symm, rfl⟩
      | true =>
        rw [hL] at HFR
        have HL := Lib.hid hL
        clear hL
        go_wp2_with (first
          | (go_at_call 63; (with_reducible refine (HFR.out _).mono ?_); rintro e w5 ⟨rfl, rfl⟩))
        go_roundg (N - (i + 1))
        case measure => omega
        case rel => exact ⟨i + 1, by omega, rfl, by go_num, (fun t ht => by
          rw [HTK.out] at ht
          rcases List.mem_append.1 ht with h1 | h1
          · exact HALL.out t h1
          · rw [List.mem_singleton.1 h1]; exact HL.out), rfl⟩
    · have hie : i = N := by omega
      subst hie
      have hii : ¬ (i : Int) < (i : Int) := by omega
      have HT := Lib.hid (HYES.out (by have := HALL.out; rwa [List.take_of_length_le (by rw [HN.out]; exact Nat.le_refl _)] at this))
      go_wp2
      go_ret
      exact ⟨ret_bool HT.out.symm, rfl⟩

/-- A moment's number, or an error. -/
def joinZ (d m : Int) : Int × Int := if (0 ≤ d ∧ d < 366) ∧ 0 ≤ m ∧ m < 1440 then (d * 1440 + m, 0) else (0, 1)
theorem joinZ_yes {d m : Int} (h : (0 ≤ d ∧ d < 366) ∧ 0 ≤ m ∧ m < 1440) : joinZ d m = (d * 1440 + m, 0) := if_pos h
theorem joinZ_no {d m : Int} (h : ¬ ((0 ≤ d ∧ d < 366) ∧ 0 ≤ m ∧ m < 1440)) : joinZ d m = (0, 1) := if_neg h

theorem join_any (d m : Int) (w : World) : Calls Tryz.prog 21 #[.int .i64 d, .int .i64 m] w fun e w' => e = .returned (.tuple #[.int .i64 (joinZ d m).1, .int .i64 (joinZ d m).2]) ∧ w = w' := by
  by_cases h : (0 ≤ d ∧ d < 366) ∧ 0 ≤ m ∧ m < 1440
  · rw [joinZ_yes h]
    obtain ⟨⟨h1, h2⟩, h3, h4⟩ := h
    go_enter Tryz.func21, Tryz.ntmps21
    go_wp2
    go_ret2
    exact ⟨rfl, rfl⟩
  · rw [joinZ_no h]
    by_cases h1 : d < 0
    · clear h
      go_enter Tryz.func21, Tryz.ntmps21
      go_wp2
      go_ret2
      exact ⟨rfl, rfl⟩
    by_cases h2 : 366 ≤ d
    · clear h
      go_enter Tryz.func21, Tryz.ntmps21
      go_wp2
      go_ret2
      exact ⟨rfl, rfl⟩
    by_cases h3 : m < 0
    · clear h
      go_enter Tryz.func21, Tryz.ntmps21
      go_wp2
      go_ret2
      exact ⟨rfl, rfl⟩
    · have h4 : 1440 ≤ m := by omega
      clear h
      go_enter Tryz.func21, Tryz.ntmps21
      go_wp2
      go_ret2
      exact ⟨rfl, rfl⟩

theorem refJoin_any (d m : Int) (w : World) : Calls Tryz.prog 89 #[.int .i64 d, .int .i64 m] w fun e w' => e = .returned (.tuple #[.int .i64 (joinZ d m).1, .int .i64 (joinZ d m).2]) ∧ w = w' := by
  by_cases h : (0 ≤ d ∧ d < 366) ∧ 0 ≤ m ∧ m < 1440
  · rw [joinZ_yes h]
    obtain ⟨⟨h1, h2⟩, h3, h4⟩ := h
    go_enter Tryz.func89, Tryz.ntmps89
    go_wp2
    go_ret2
    exact ⟨rfl, rfl⟩
  · rw [joinZ_no h]
    by_cases h1 : d < 0
    · clear h
      go_enter Tryz.func89, Tryz.ntmps89
      go_wp2
      go_ret2
      exact ⟨rfl, rfl⟩
    by_cases h2 : 366 ≤ d
    · clear h
      go_enter Tryz.func89, Tryz.ntmps89
      go_wp2
      go_ret2
      exact ⟨rfl, rfl⟩
    by_cases h3 : m < 0
    · clear h
      go_enter Tryz.func89, Tryz.ntmps89
      go_wp2
      go_ret2
      exact ⟨rfl, rfl⟩
    · have h4 : 1440 ≤ m := by omega
      clear h
      go_enter Tryz.func89, Tryz.ntmps89
      go_wp2
      go_ret2
      exact ⟨rfl, rfl⟩

/-- The weekday is none just for no day. -/
theorem weekday_any (d : Int) (w : World) : Calls Tryz.prog 80 #[.int .i64 d] w fun e w' => (∃ z : Int, e = .returned (.int .i64 z) ∧ (z == 0) = !decide (0 ≤ d ∧ d < 366)) ∧ w = w' := by
  by_cases h1 : d < 0
  · go_enter Tryz.func80, Tryz.ntmps80
    go_wp2
    go_ret
    exact ⟨⟨0, rfl, by rw [decide_eq_false (by omega)]; rfl⟩, rfl⟩
  by_cases h2 : 366 ≤ d
  · go_enter Tryz.func80, Tryz.ntmps80
    go_wp2
    go_ret
    exact ⟨⟨0, rfl, by rw [decide_eq_false (by omega)]; rfl⟩, rfl⟩
  · go_enter Tryz.func80, Tryz.ntmps80
    go_wp2
    go_ret
    refine ⟨⟨d % 7 + 1, rfl, ?_⟩, rfl⟩
    have hd : decide (0 ≤ d ∧ d < 366) = true := decide_eq_true (by omega)
    first
      | (rw [hd, Bool.not_true, beq_eq_false_iff_ne]; omega)
      | omega
end Go.Proofs.YtofomopmmopflaaGreatDoor
