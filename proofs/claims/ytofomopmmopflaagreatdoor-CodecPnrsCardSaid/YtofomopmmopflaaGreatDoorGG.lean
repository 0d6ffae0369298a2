/- The reference's parts: a ticketing field, a segment, a live segment. -/
import Derived.Test.YtofomopmmopflaaGreatDoorMA
import Derived.Test.YtofomopmmopflaaGreatDoorMB
import Derived.Test.YtofomopmmopflaaGreatDoorMC
import Derived.Test.YtofomopmmopflaaGreatDoorMD
import Derived.Test.YtofomopmmopflaaGreatDoorME
import Derived.Test.YtofomopmmopflaaGreatDoorFI
import Derived.Test.YtofomopmmopflaaGreatDoorFN
import Derived.Test.YtofomopmmopflaaGreatDoorGA
import Derived.Test.YtofomopmmopflaaGreatDoorGB
import Derived.Test.YtofomopmmopflaaGreatDoorGE
import Derived.Test.YtofomopmmopflaaGreatDoorRows
import Derived.WalkKit
import Derived.WalkSpells
import Derived.WalkLawsBesides
import Derived.Lib.ConvBytes
import Derived.Lib.Hide
import Derived.Lib.SliceRun
import Derived.IntWalk
import Derived.BigQuiet
import Derived.Deep.QuietTactic
import Derived.Deep.RegionWith
import Derived.Deep.RegionHeld3
import Derived.Deep.LoopGhost
import Derived.Deep.CutRange
import Derived.Deep.CutBlock
import Derived.Deep.MidRow
import Derived.Laws.OwnMore
import Derived.OwnWalk
import Derived.Laws.AppendOwnNone
import Derived.Laws.Rows
import Derived.Laws.MakeOwn
import Derived.Laws.CopyOwn
import Derived.Laws.BitsAllLaws
import Derived.DeepKeys5
import Derived.Maps.OwnOps
import Derived.Handy
import Derived.Lib.AppendStr
import Derived.StillTailTactics
import Derived.Deep.AppendLies
namespace Go.Proofs.YtofomopmmopflaaGreatDoor
open Go.RowKit Go.ChangeMaps
set_option linter.unusedSimpArgs false
set_option linter.unusedVariables false
set_option maxRecDepth 20000

/-- What TicketFormed tells. -/
def tfS (tk td tm : Int) : Bool := if tk = 2 then decide (td = 0 ∧ tm = 0) else decide (tk = 1 ∧ (0 ≤ td ∧ td < 366) ∧ 0 ≤ tm ∧ tm < 1440)

theorem tfS_2 {td tm : Int} : tfS 2 td tm = decide (td = 0 ∧ tm = 0) := if_pos rfl
theorem tfS_o {tk td tm : Int} (h : tk ≠ 2) : tfS tk td tm = decide (tk = 1 ∧ (0 ≤ td ∧ td < 366) ∧ 0 ≤ tm ∧ tm < 1440) := if_neg h

theorem tick_tf {tk td tm : Int} {q : Bool} : tickOk tk td tm q ↔ ((tk = 0 ∧ td = 0 ∧ tm = 0) ∨ tfS tk td tm = true) ∧ (q = true → tk = 1) := by
  unfold tickOk tfS
  by_cases h2 : tk = 2
  · subst h2
    rw [if_pos rfl, decide_eq_true_eq]
    cases q <;> simp
  · rw [if_neg h2, decide_eq_true_eq]
    by_cases h1 : tk = 1
    · subst h1
      cases q <;> simp
    · by_cases h0 : tk = 0
      · subst h0
        cases q <;> simp
      · cases q <;> simp [h0, h1, h2]

theorem ticketFormed_any (tk td tm : Int) (w : World) :
    Calls Tryz.prog 61 #[.agg #[.int .i64 tk, .int .i64 td, .int .i64 tm]] w fun e w' => e = .returned (.bool (tfS tk td tm)) ∧ Below w.heap.size w w' := by
  have hbk := Blk.new w 26 [.int .i64 tk, .int .i64 td, .int .i64 tm]
  have hb1 : Below w.heap.size w (w.alloc (.cells #[.int .i64 tk, .int .i64 td, .int .i64 tm] 26)) := (Below.refl _ _).alloc (Nat.le_refl _) _
  have HB := Lib.hid hb1
  have t0 := (hbk.cell 0).trans rfl
  by_cases h2 : tk = 2
  · subst h2
    rw [tfS_2]
    by_cases ha : td = 0
    · by_cases hb : tm = 0
      · subst ha hb
        clear hbk hb1 t0
        go_enter Tryz.func61, Tryz.ntmps61
        go_wp2
        go_ret
        exact ⟨rfl, HB.out⟩
      · have hbb : (tm == 0) = false := by rw [beq_eq_false_iff_ne]; exact hb
        have hd : decide (td = 0 ∧ tm = 0) = false := decide_eq_false fun h => hb h.2
        rw [hd]
        subst ha
        clear hbk hb1 t0 hb hd
        go_enter Tryz.func61, Tryz.ntmps61
        go_wp2
        go_ret
        exact ⟨rfl, HB.out⟩
    · have hab : (td == 0) = false := by rw [beq_eq_false_iff_ne]; exact ha
      have hd : decide (td = 0 ∧ tm = 0) = false := decide_eq_false fun h => ha h.1
      rw [hd]
      clear hbk hb1 t0 ha hd
      go_enter Tryz.func61, Tryz.ntmps61
      go_wp2
      go_ret
      exact ⟨rfl, HB.out⟩
  · rw [tfS_o h2]
    have h2b : (tk == 2) = false := by rw [beq_eq_false_iff_ne]; exact h2
    have HJ := Lib.hid fun W => refJoin_any td tm W
    by_cases h1 : tk = 1
    · have h1b : (tk == 1) = true := by rw [beq_iff_eq]; exact h1
      by_cases hv : (0 ≤ td ∧ td < 366) ∧ 0 ≤ tm ∧ tm < 1440
      · have hd : decide (tk = 1 ∧ (0 ≤ td ∧ td < 366) ∧ 0 ≤ tm ∧ tm < 1440) = true := decide_eq_true ⟨h1, hv⟩
        rw [hd]
        rw [joinZ_yes hv] at HJ
        clear hbk hb1 t0 h1 h2 hv hd
        go_enter Tryz.func61, Tryz.ntmps61
        go_wp2_with (first
          | (go_at_call 89; (with_reducible refine (HJ.out _).mono ?_); rintro e w9 ⟨rfl, rfl⟩))
        go_ret
        exact ⟨rfl, HB.out⟩
      · have hd : decide (tk = 1 ∧ (0 ≤ td ∧ td < 366) ∧ 0 ≤ tm ∧ tm < 1440) = false := decide_eq_false fun h => hv h.2
        rw [hd]
        rw [joinZ_no hv] at HJ
        clear hbk hb1 t0 h1 h2 hv hd
        go_enter Tryz.func61, Tryz.ntmps61
        go_wp2_with (first
          | (go_at_call 89; (with_reducible refine (HJ.out _).mono ?_); rintro e w9 ⟨rfl, rfl⟩))
        go_ret
        exact ⟨rfl, HB.out⟩
    · have h1b : (tk == 1) = false := by rw [beq_eq_false_iff_ne]; exact h1
      have hd : decide (tk = 1 ∧ (0 ≤ td ∧ td < 366) ∧ 0 ≤ tm ∧ tm < 1440) = false := decide_eq_false fun h => h1 h.1
      rw [hd]
      clear hbk hb1 t0 h1 h2 hd
      go_enter Tryz.func61, Tryz.ntmps61
      go_wp2_with (first
        | (go_at_call 89; (with_reducible refine (HJ.out _).mono ?_); rintro e w9 ⟨rfl, rfl⟩))
      go_ret
      exact ⟨rfl, HB.out⟩

open Classical in
noncomputable def segS (x : SegT) : Bool := decide (segOk x)
theorem segS_yes {x : SegT} (h : segOk x) : segS x = true := by unfold segS; simp [h]
theorem segS_no {x : SegT} (h : ¬ segOk x) : segS x = false := by unfold segS; simp [h]

set_option maxHeartbeats 4000000 in
theorem segFormed_any (x : SegT) (w : World) (hs : x.car.size ≤ maxLen) :
    Calls Tryz.prog 60 #[.agg (segC x).toArray] w fun e w' => e = .returned (.bool (segS x)) ∧ Below w.heap.size w w' := by
  have HYES : RowKit.Hid (segOk x → segS x = true) := Lib.hid segS_yes
  have HNO : RowKit.Hid (¬ segOk x → segS x = false) := Lib.hid segS_no
  generalize segS x = sb at *
  obtain ⟨car, num, day, cls, live⟩ := x
  unfold segOk at HYES HNO
  simp only at HYES HNO hs
  unfold segC
  simp only
  have hb1 : Below w.heap.size w (w.alloc (.cells #[.string car, .int .i64 num, .int .i64 day, .int .u8 cls.toNat, .bool live] 65)) := (Below.refl _ _).alloc (Nat.le_refl _) _
  have HB := Lib.hid hb1
  clear hb1
  have HCA : RowKit.Hid (∀ W, Calls Tryz.prog 87 #[.string car] W fun e w' => e = .returned (.bool (carrierS (toL car))) ∧ W = w') := Lib.hid fun W => refCarrier_any car W hs
  have HCL : RowKit.Hid (∀ W, Calls Tryz.prog 88 #[.int .u8 cls.toNat] W fun e w' => e = .returned (.bool (bL cls)) ∧ W = w') := Lib.hid fun W => rClass_any _ W (by omega) (byte_hi cls)
  cases hc : carrierS (toL car) with
  | false =>
    have HF := Lib.hid (HNO.out fun h => by rw [h.1] at hc; cases hc)
    rw [hc] at HCA
    clear hc
    go_enter Tryz.func60, Tryz.ntmps60
    go_wp2_with (first
      | (go_at_call 87; (with_reducible refine (HCA.out _).mono ?_); rintro e w9 ⟨rfl, rfl⟩))
    go_ret
    exact ⟨ret_bool HF.out.symm, HB.out⟩
  | true =>
    rw [hc] at HCA
    have HC := Lib.hid hc
    clear hc
    by_cases h1 : 1 ≤ num
    rotate_left
    · have HF := Lib.hid (HNO.out fun h => h1 h.2.1.1)
      go_enter Tryz.func60, Tryz.ntmps60
      go_wp2_with (first
        | (go_at_call 87; (with_reducible refine (HCA.out _).mono ?_); rintro e w9 ⟨rfl, rfl⟩))
      go_ret
      exact ⟨ret_bool HF.out.symm, HB.out⟩
    by_cases h2 : num ≤ 9999
    rotate_left
    · have HF := Lib.hid (HNO.out fun h => h2 h.2.1.2)
      go_enter Tryz.func60, Tryz.ntmps60
      go_wp2_with (first
        | (go_at_call 87; (with_reducible refine (HCA.out _).mono ?_); rintro e w9 ⟨rfl, rfl⟩))
      go_ret
      exact ⟨ret_bool HF.out.symm, HB.out⟩
    by_cases h3 : 0 ≤ day
    rotate_left
    · have HF := Lib.hid (HNO.out fun h => h3 h.2.2.1.1)
      go_enter Tryz.func60, Tryz.ntmps60
      go_wp2_with (first
        | (go_at_call 87; (with_reducible refine (HCA.out _).mono ?_); rintro e w9 ⟨rfl, rfl⟩))
      go_ret
      exact ⟨ret_bool HF.out.symm, HB.out⟩
    by_cases h4 : day < 366
    rotate_left
    · have HF := Lib.hid (HNO.out fun h => h4 h.2.2.1.2)
      go_enter Tryz.func60, Tryz.ntmps60
      go_wp2_with (first
        | (go_at_call 87; (with_reducible refine (HCA.out _).mono ?_); rintro e w9 ⟨rfl, rfl⟩))
      go_ret
      exact ⟨ret_bool HF.out.symm, HB.out⟩
    cases hl : bL cls with
    | false =>
      have HF := Lib.hid (HNO.out fun h => by rw [h.2.2.2] at hl; cases hl)
      rw [hl] at HCL
      clear hl
      go_enter Tryz.func60, Tryz.ntmps60
      go_wp2_with (first
        | (go_at_call 87; (with_reducible refine (HCA.out _).mono ?_); rintro e w9 ⟨rfl, rfl⟩)
        | (go_at_call 88; (with_reducible refine (HCL.out _).mono ?_); rintro e w9 ⟨rfl, rfl⟩))
      go_ret
      exact ⟨ret_bool HF.out.symm, HB.out⟩
    | true =>
      have HT := Lib.hid (HYES.out ⟨HC.out, ⟨h1, h2⟩, ⟨h3, h4⟩, hl⟩)
      rw [hl] at HCL
      clear hl
      go_enter Tryz.func60, Tryz.ntmps60
      go_wp2_with (first
        | (go_at_call 87; (with_reducible refine (HCA.out _).mono ?_); rintro e w9 ⟨rfl, rfl⟩)
        | (go_at_call 88; (with_reducible refine (HCL.out _).mono ?_); rintro e w9 ⟨rfl, rfl⟩))
      go_ret
      exact ⟨ret_bool HT.out.symm, HB.out⟩
end Go.Proofs.YtofomopmmopflaaGreatDoor
