/- Ticketing fields; a segment by itself. -/
import Derived.Test.YtofomopmmopflaaGreatDoorMA
import Derived.Test.YtofomopmmopflaaGreatDoorMB
import Derived.Test.YtofomopmmopflaaGreatDoorMC
import Derived.Test.YtofomopmmopflaaGreatDoorMD
import Derived.Test.YtofomopmmopflaaGreatDoorME
import Derived.Test.YtofomopmmopflaaGreatDoorFI
import Derived.Test.YtofomopmmopflaaGreatDoorFN
import Derived.Test.YtofomopmmopflaaGreatDoorGB
import Derived.Test.YtofomopmmopflaaGreatDoorGE
import Derived.Test.YtofomopmmopflaaGreatDoorRows
import Derived.WalkKit
import Derived.WalkSpells
import Derived.WalkLawsBesides
import Derived.Lib.ConvBytes
import Derived.Lib.Hide
import Derived.Lib.SliceRun
import Derived.IntWalk
import Derived.BigQuiet
import Derived.Deep.QuietTactic
import Derived.Deep.RegionWith
import Derived.Deep.RegionHeld3
import Derived.Deep.LoopGhost
import Derived.Deep.CutRange
import Derived.Deep.CutBlock
import Derived.Deep.MidRow
import Derived.Laws.OwnMore
import Derived.OwnWalk
import Derived.Laws.AppendOwnNone
import Derived.Laws.Rows
import Derived.Laws.MakeOwn
import Derived.Laws.CopyOwn
import Derived.Laws.BitsAllLaws
import Derived.DeepKeys5
import Derived.Maps.OwnOps
import Derived.Handy
import Derived.Lib.AppendStr
import Derived.StillTailTactics
import Derived.Deep.AppendLies
namespace Go.Proofs.YtofomopmmopflaaGreatDoor
open Go.RowKit Go.ChangeMaps
set_option linter.unusedSimpArgs false
set_option linter.unusedVariables false
set_option maxRecDepth 20000

open Classical in
noncomputable def tickS (tk td tm : Int) (q : Bool) : Bool := decide (tickOk tk td tm q)
theorem tickS_yes {tk td tm : Int} {q : Bool} (h : tickOk tk td tm q) : tickS tk td tm q = true := by unfold tickS; simp [h]
theorem tickS_no {tk td tm : Int} {q : Bool} (h : ¬ tickOk tk td tm q) : tickS tk td tm q = false := by unfold tickS; simp [h]

theorem info_ticket : (Tryz.prog.info? 26).map (·.size) = some 3 := by kernel_rfl
theorem tick3_one {a b c : Int} : ∀ v ∈ ([.int .i64 a, .int .i64 b, .int .i64 c] : List Value), v.oneCell' = true := by
  intro v hv
  simp at hv
  rcases hv with rfl | rfl | rfl <;> rfl

theorem rangeAt_part {w : World} {b : Nat} {T : TypeId} {cs : List Value} (h : Blk w b T cs) (o : Nat) (l : List Value) (hl : ∀ j u, l[j]? = some u → cs[o + j]? = some u) : w.rangeAt b o l := fun j u hj => by
  rw [h.cell, hl j u hj]

set_option maxHeartbeats 8000000 in
theorem ticket_any (p : PnrT) (vn vs vp vr vx : Value) (w : World) :
    Calls Tryz.prog 53 #[.agg (pnrC p vn vs vp vr vx).toArray] w fun e w' => e = .returned (.bool (tickS p.tk p.td p.tm p.queued)) ∧ Below w.heap.size w w' := by
  have HYES : RowKit.Hid (tickOk p.tk p.td p.tm p.queued → tickS p.tk p.td p.tm p.queued = true) := Lib.hid tickS_yes
  have HNO : RowKit.Hid (¬ tickOk p.tk p.td p.tm p.queued → tickS p.tk p.td p.tm p.queued = false) := Lib.hid tickS_no
  generalize tickS p.tk p.td p.tm p.queued = sb at *
  have hbk := Blk.new w 29 (pnrC p vn vs vp vr vx)
  have hb1 : Below w.heap.size w (w.alloc (.cells (pnrC p vn vs vp vr vx).toArray 29)) := (Below.refl _ _).alloc (Nat.le_refl _) _
  have hz1 : (w.alloc (.cells (pnrC p vn vs vp vr vx).toArray 29)).heap.size = w.heap.size + 1 := by simp
  obtain ⟨loc, off, names, segs, phones, tk, td, tm, recv, remarks, seats, queued⟩ := p
  unfold pnrC at hbk hb1 hz1 ⊢
  simp only at hbk hb1 hz1 HYES HNO ⊢
  have HBK := Lib.hid hbk
  have HB := Lib.hid hb1
  clear hbk hb1 hz1
  go_enter Tryz.func53, Tryz.ntmps53
  go_upto_region 1 with fail
  generalize w.alloc (.cells #[.string loc, .string off, vn, vs, vp, .int .i64 tk, .int .i64 td, .int .i64 tm, .string recv, vr, vx, .bool queued] 29) = w1 at *
  have hr : w1.rangeAt w.heap.size 5 [.int .i64 tk, .int .i64 td, .int .i64 tm] := rangeAt_part HBK.out 5 _ fun j u hj => by
    match j, hj with
    | 0, hj => exact hj
    | 1, hj => exact hj
    | 2, hj => exact hj
  go_upto_region 2 with (first
    | (refine wpList_load_mid rfl 26 _ rfl w.heap.size 5 rfl [.int .i64 tk, .int .i64 td, .int .i64 tm] _ hr Tryz.underlying26 rfl info_ticket ?_)
    | (refine wpList_store_blk rfl 26 (.tmp 3) (.tmp 7) rfl w1.heap.size 26 [.int .i64 0, .int .i64 0, .int .i64 0] [.int .i64 tk, .int .i64 td, .int .i64 tm] rfl rfl (Blk.new w1 26 [.int .i64 0, .int .i64 0, .int .i64 0]) rfl info_ticket tick3_one ?_; intro w8 ha8 hb8 hgr8))
  dsimp only [Act.put]
  have hal : Below w1.heap.size w1 (w1.alloc (.cells #[.int .i64 0, .int .i64 0, .int .i64 0] 26)) := (Below.refl _ _).alloc (Nat.le_refl _) _
  have h18 := hal.trans hb8
  have HB8 := Lib.hid (below_w HB.out h18)
  have t0 : w8.cell? ⟨w1.heap.size, 0, none⟩ = some (.int .i64 tk) := (ha8.cell 0).trans rfl
  have t1 : w8.cell? ⟨w1.heap.size, 1, none⟩ = some (.int .i64 td) := (ha8.cell 1).trans rfl
  have t2 : w8.cell? ⟨w1.heap.size, 2, none⟩ = some (.int .i64 tm) := (ha8.cell 2).trans rfl
  have q9 : w8.cell? ⟨w.heap.size, 11, none⟩ = some (.bool queued) := ((HBK.out.mono h18).cell 11).trans rfl
  clear hr ha8 hb8 hgr8 hal h18
  by_cases hk1 : tk = 1
  · have hk1b : (tk == 1) = true := by rw [beq_iff_eq]; exact hk1
    have HJ := Lib.hid fun W => join_any td tm W
    by_cases hv : (0 ≤ td ∧ td < 366) ∧ 0 ≤ tm ∧ tm < 1440
    · have HT := Lib.hid (HYES.out (.inl ⟨hk1, hv.1, hv.2.1, hv.2.2⟩))
      rw [joinZ_yes hv] at HJ
      clear hk1 hv
      go_wp2_with (first
        | (go_at_call 21; (with_reducible refine (HJ.out _).mono ?_); rintro e w9 ⟨rfl, rfl⟩))
      go_ret
      exact ⟨ret_bool HT.out.symm, HB8.out⟩
    · have HF := Lib.hid (HNO.out (by
        rintro (⟨_, h1, h2, h3⟩ | ⟨_, _, _, h4 | h4⟩)
        · exact hv ⟨h1, h2, h3⟩
        · omega
        · omega))
      rw [joinZ_no hv] at HJ
      clear hk1 hv
      go_wp2_with (first
        | (go_at_call 21; (with_reducible refine (HJ.out _).mono ?_); rintro e w9 ⟨rfl, rfl⟩))
      go_ret
      exact ⟨ret_bool HF.out.symm, HB8.out⟩
  · have hk1b : (tk == 1) = false := by rw [beq_eq_false_iff_ne]; exact hk1
    have HNT : RowKit.Hid (¬ (queued = false ∧ td = 0 ∧ tm = 0 ∧ (tk = 2 ∨ tk = 0)) → sb = false) := Lib.hid fun h => HNO.out (by
      rintro (⟨h1, _⟩ | h1)
      · exact hk1 h1
      · exact h h1)
    have HYT : RowKit.Hid (queued = false ∧ td = 0 ∧ tm = 0 ∧ (tk = 2 ∨ tk = 0) → sb = true) := Lib.hid fun h => HYES.out (.inr h)
    clear hk1
    cases queued with
    | true =>
      have HF := Lib.hid (HNT.out (by simp))
      go_wp2
      go_ret
      exact ⟨ret_bool HF.out.symm, HB8.out⟩
    | false =>
      by_cases h1 : td = 0
      rotate_left
      · have h1b : (td == 0) = false := by rw [beq_eq_false_iff_ne]; exact h1
        have HF := Lib.hid (HNT.out (fun h => h1 h.2.1))
        clear h1
        go_wp2
        go_ret
        exact ⟨ret_bool HF.out.symm, HB8.out⟩
      have h1b : (td == 0) = true := by rw [beq_iff_eq]; exact h1
      by_cases h2 : tm = 0
      rotate_left
      · have h2b : (tm == 0) = false := by rw [beq_eq_false_iff_ne]; exact h2
        have HF := Lib.hid (HNT.out (fun h => h2 h.2.2.1))
        clear h1 h2
        go_wp2
        go_ret
        exact ⟨ret_bool HF.out.symm, HB8.out⟩
      have h2b : (tm == 0) = true := by rw [beq_iff_eq]; exact h2
      by_cases h3 : tk = 2
      · have h3b : (tk == 2) = true := by rw [beq_iff_eq]; exact h3
        have HT := Lib.hid (HYT.out ⟨rfl, h1, h2, .inl h3⟩)
        clear h1 h2 h3
        go_wp2
        go_ret
        exact ⟨ret_bool HT.out.symm, HB8.out⟩
      have h3b : (tk == 2) = false := by rw [beq_eq_false_iff_ne]; exact h3
      by_cases h4 : tk = 0
      · have h4b : (tk == 0) = true := by rw [beq_iff_eq]; exact h4
        have HT := Lib.hid (HYT.out ⟨rfl, h1, h2, .inr h4⟩)
        clear h1 h2 h3 h4
        go_wp2
        go_ret
        exact ⟨ret_bool HT.out.symm, HB8.out⟩
      · have h4b : (tk == 0) = false := by rw [beq_eq_false_iff_ne]; exact h4
        have HF := Lib.hid (HNT.out (fun h => by rcases h.2.2.2 with h5 | h5; exact h3 h5; exact h4 h5))
        clear h1 h2 h3 h4
        go_wp2
        go_ret
        exact ⟨ret_bool HF.out.symm, HB8.out⟩
end Go.Proofs.YtofomopmmopflaaGreatDoor
