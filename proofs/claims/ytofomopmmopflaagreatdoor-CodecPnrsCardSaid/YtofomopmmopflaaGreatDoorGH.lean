/- Rows of PNRs at an index; a live segment (the reference). -/
import Derived.Test.YtofomopmmopflaaGreatDoorMA
import Derived.Test.YtofomopmmopflaaGreatDoorMB
import Derived.Test.YtofomopmmopflaaGreatDoorMC
import Derived.Test.YtofomopmmopflaaGreatDoorMD
import Derived.Test.YtofomopmmopflaaGreatDoorME
import Derived.Test.YtofomopmmopflaaGreatDoorFN
import Derived.Test.YtofomopmmopflaaGreatDoorGB
import Derived.Test.YtofomopmmopflaaGreatDoorRows
import Derived.WalkKit
import Derived.WalkSpells
import Derived.WalkLawsBesides
import Derived.Lib.ConvBytes
import Derived.Lib.Hide
import Derived.Lib.SliceRun
import Derived.IntWalk
import Derived.BigQuiet
import Derived.Deep.QuietTactic
import Derived.Deep.RegionWith
import Derived.Deep.RegionHeld3
import Derived.Deep.LoopGhost
import Derived.Deep.CutRange
import Derived.Deep.CutBlock
import Derived.Deep.MidRow
import Derived.Laws.OwnMore
import Derived.OwnWalk
import Derived.Laws.AppendOwnNone
import Derived.Laws.Rows
import Derived.Laws.MakeOwn
import Derived.Laws.CopyOwn
import Derived.Laws.BitsAllLaws
import Derived.DeepKeys5
import Derived.Maps.OwnOps
import Derived.Handy
import Derived.Lib.AppendStr
import Derived.StillTailTactics
import Derived.Deep.AppendLies
namespace Go.Proofs.YtofomopmmopflaaGreatDoor
open Go.RowKit Go.ChangeMaps
set_option linter.unusedSimpArgs false
set_option linter.unusedVariables false
set_option maxRecDepth 20000

def nm0 : NameT := ⟨⟨#[]⟩, ⟨#[]⟩⟩
def sg0 : SegT := ⟨⟨#[]⟩, 0, 0, 0, false⟩
def pl0 : PlaceT := ⟨0, 0, 0, 0⟩
theorem info_name : (Tryz.prog.info? 59).map (·.size) = some 2 := by kernel_rfl
theorem info_seg : (Tryz.prog.info? 65).map (·.size) = some 5 := by kernel_rfl
theorem info_place : (Tryz.prog.info? 73).map (·.size) = some 4 := by kernel_rfl
theorem info_key : (Tryz.prog.info? 61).map (·.size) = some 2 := by kernel_rfl
theorem row_at {α : Type} {en : α → List Value} {st : Nat} (hst : ∀ a, (en a).length = st) {w : World} {p : Option Addr} {n c : Nat} {l : List α} (d : α) (h : HasE en w (.slice p n c) l) {i : Nat} (hi : i < l.length) : ∃ b off, p = some ⟨b, off, none⟩ ∧ w.rangeAt b (off + i * st) (en (l.getD i d)) := by
  obtain ⟨b, off, h1, h2⟩ := h.at hst (getD_at d hi)
  refine ⟨b, off, h1, fun j u hj => ?_⟩
  have hjl : j < st := by
    rcases Nat.lt_or_ge j st with h | h
    · exact h
    · rw [List.getElem?_eq_none (by rw [hst]; exact h)] at hj; cases hj
  rw [Nat.add_assoc]
  exact h2 j u hjl hj

theorem name_at {w : World} {p : Option Addr} {n c : Nat} {l : List NameT} (h : HasE nameC w (.slice p n c) l) {i : Nat} (hi : i < l.length) : ∃ b off, p = some ⟨b, off, none⟩ ∧ w.rangeAt b (off + i * 2) (nameC (l.getD i nm0)) ∧ w.cell? ⟨b, off + i * 2, none⟩ = some (.string (l.getD i nm0).last) ∧ w.cell? ⟨b, off + i * 2 + 1, none⟩ = some (.string (l.getD i nm0).first) := by
  obtain ⟨b, off, h1, h2⟩ := row_at nameC_len nm0 h hi
  exact ⟨b, off, h1, h2, h2 0 _ rfl, h2 1 _ rfl⟩

theorem seg_at {w : World} {p : Option Addr} {n c : Nat} {l : List SegT} (h : HasE segC w (.slice p n c) l) {i : Nat} (hi : i < l.length) : ∃ b off, p = some ⟨b, off, none⟩ ∧ w.rangeAt b (off + i * 5) (segC (l.getD i sg0)) ∧ w.cell? ⟨b, off + i * 5, none⟩ = some (.string (l.getD i sg0).car) ∧ w.cell? ⟨b, off + i * 5 + 1, none⟩ = some (.int .i64 (l.getD i sg0).num) ∧ w.cell? ⟨b, off + i * 5 + 2, none⟩ = some (.int .i64 (l.getD i sg0).day) ∧ w.cell? ⟨b, off + i * 5 + 3, none⟩ = some (.int .u8 (l.getD i sg0).cls.toNat) ∧ w.cell? ⟨b, off + i * 5 + 4, none⟩ = some (.bool (l.getD i sg0).live) := by
  obtain ⟨b, off, h1, h2⟩ := row_at segC_len sg0 h hi
  exact ⟨b, off, h1, h2, h2 0 _ rfl, h2 1 _ rfl, h2 2 _ rfl, h2 3 _ rfl, h2 4 _ rfl⟩

theorem place_at {w : World} {p : Option Addr} {n c : Nat} {l : List PlaceT} (h : HasE placeC w (.slice p n c) l) {i : Nat} (hi : i < l.length) : ∃ b off, p = some ⟨b, off, none⟩ ∧ w.rangeAt b (off + i * 4) (placeC (l.getD i pl0)) ∧ w.cell? ⟨b, off + i * 4, none⟩ = some (.int .i64 (l.getD i pl0).seg) ∧ w.cell? ⟨b, off + i * 4 + 1, none⟩ = some (.int .i64 (l.getD i pl0).pax) ∧ w.cell? ⟨b, off + i * 4 + 2, none⟩ = some (.int .i64 (l.getD i pl0).row) ∧ w.cell? ⟨b, off + i * 4 + 3, none⟩ = some (.int .u8 (l.getD i pl0).c.toNat) := by
  obtain ⟨b, off, h1, h2⟩ := row_at placeC_len pl0 h hi
  exact ⟨b, off, h1, h2, h2 0 _ rfl, h2 1 _ rfl, h2 2 _ rfl, h2 3 _ rfl⟩

open Classical in
noncomputable def liveS (l : List SegT) (n : Int) : Bool := decide (liveAt l n)
theorem liveS_yes {l : List SegT} {n : Int} (h : liveAt l n) : liveS l n = true := by unfold liveS; simp [h]
theorem liveS_no {l : List SegT} {n : Int} (h : ¬ liveAt l n) : liveS l n = false := by unfold liveS; simp [h]

theorem wrap_pred {n : Int} (h : (Lit.int .i64 n).wf = true) (i : Nat) (hi : i ≤ 1000000) : ((i : Int) == wrap64 (n - 1)) = decide ((i : Int) = n - 1) := by
  have hb : -9223372036854775808 ≤ n ∧ n ≤ 9223372036854775807 := by
    simp [Lit.wf, IntKind.min, IntKind.max, IntKind.signed, IntKind.bits] at h
    exact h
  unfold wrap64
  rw [Bool.eq_iff_iff, beq_iff_eq, decide_eq_true_eq]
  omega

set_option maxHeartbeats 8000000 in
theorem isLive_any (p : PnrT) (vn vs vp vr vx : Value) (n : Int) (w : World) (hn : (Lit.int .i64 n).wf = true) (hs : HasE segC w vs p.segs) (hl : p.segs.length ≤ 1000) :
    Calls Tryz.prog 92 #[.agg (pnrC p vn vs vp vr vx).toArray, .int .i64 n] w fun e w' => e = .returned (.bool (liveS p.segs n)) ∧ Below w.heap.size w w' := by
  obtain ⟨ps, cs, rfl⟩ := hs.len
  have hbk := Blk.new w 29 (pnrC p vn (.slice ps p.segs.length cs) vp vr vx)
  have hb1 : Below w.heap.size w (w.alloc (.cells (pnrC p vn (.slice ps p.segs.length cs) vp vr vx).toArray 29)) := (Below.refl _ _).alloc (Nat.le_refl _) _
  have HS := Lib.hid (hs.mono hb1)
  obtain ⟨loc, off, names, segs, phones, tk, td, tm, recv, remarks, seats, queued⟩ := p
  unfold pnrC at hbk hb1 HS ⊢
  simp only at hbk hb1 hs hl HS ⊢
  have HBK := Lib.hid hbk
  have HB := Lib.hid hb1
  have HYES : RowKit.Hid (∀ i, i < segs.length → (i : Int) = n - 1 → (segs.getD i sg0).live = true → liveS segs n = true) := Lib.hid fun i hi h1 h2 => liveS_yes ⟨by omega, _, by rw [show (n - 1).toNat = i by omega]; exact getD_at sg0 hi, h2⟩
  have HNO : RowKit.Hid ((∀ i, i < segs.length → ¬ ((i : Int) = n - 1 ∧ (segs.getD i sg0).live = true)) → liveS segs n = false) := Lib.hid fun h => liveS_no (by
    rintro ⟨h1, s, h2, h3⟩
    have hlt := (List.getElem?_eq_some_iff.1 h2).1
    rw [getD_at sg0 hlt] at h2
    injection h2 with h2
    exact h _ hlt ⟨by omega, by rw [h2]; exact h3⟩)
  have HWP : RowKit.Hid (∀ i : Nat, i ≤ 1000000 → ((i : Int) == wrap64 (n - 1)) = decide ((i : Int) = n - 1)) := Lib.hid fun i hi => wrap_pred hn i hi
  generalize liveS segs n = sb at *
  generalize hN : segs.length = N at *
  have HN := Lib.hid hN
  clear hbk hb1 hs hn hN
  go_enter Tryz.func92, Tryz.ntmps92
  go_upto_region 1 with fail
  generalize w.alloc (.cells #[.string loc, .string off, vn, .slice ps N cs, vp, .int .i64 tk, .int .i64 td, .int .i64 tm, .string recv, vr, vx, .bool queued] 29) = w1 at *
  have c3 : w1.cell? ⟨w.heap.size, 3, none⟩ = some (.slice ps N cs) := (HBK.out.cell 3).trans rfl
  go_wp2
  go_loopg [5] N (fun g0 s5 wr => ∃ i : Nat, i ≤ N ∧ g0 = N - i ∧ s5 = .int .i64 (i : Int) ∧ (∀ j, j < i → ¬ ((j : Int) = n - 1 ∧ (segs.getD j sg0).live = true)) ∧ w1 = wr)
  case atStart => exact ⟨0, Nat.zero_le _, rfl, rfl, (fun j h => absurd h (Nat.not_lt_zero _)), rfl⟩
  case round =>
    obtain ⟨i, hiN, rfl, rfl, hall, rfl⟩ := hrel
    have HALL := Lib.hid hall
    clear hall
    by_cases hlt : i < N
    · have hii : (i : Int) < (N : Int) := by omega
      have hi0 : (0 : Int) ≤ (i : Int) := by omega
      have hiN2 : i < segs.length := by rw [HN.out]; exact hlt
      obtain ⟨bb, off2, rfl, _, _, _, _, _, g4⟩ := seg_at HS.out hiN2
      have hwp := HWP.out i (by omega)
      have HYk := Lib.hid (HYES.out i hlt)
      have HNX : RowKit.Hid (¬ ((i : Int) = n - 1 ∧ (segs.getD i sg0).live = true) → ∀ j, j < i + 1 → ¬ ((j : Int) = n - 1 ∧ (segs.getD j sg0).live = true)) := Lib.hid fun h j hj => by
        rcases Nat.lt_or_ge j i with h1 | h1
        · exact HALL.out j h1
        · rw [show j = i by omega]; exact h
      generalize (segs.getD i sg0).live = lv at *
      cases lv with
      | false =>
        have HX := Lib.hid (HNX.out (by simp))
        clear hwp
        go_wp2
        go_roundg (N - (i + 1))
        case measure => omega
        case rel => exact ⟨i + 1, by omega, rfl, by go_num, HX.out, rfl⟩
      | true =>
        by_cases he : (i : Int) = n - 1
        · have HT := Lib.hid (HYk.out he (by first | rfl | trivial))
          have hpos : (0 : Int) < n := by omega
          rw [decide_eq_true he] at hwp
          clear he
          go_wp2
          go_ret
          exact ⟨ret_bool (by first | exact HT.out.symm | (rw [HT.out]; simp [hpos])), HB.out⟩
        · have HX := Lib.hid (HNX.out (fun h => he h.1))
          rw [decide_eq_false he] at hwp
          clear he
          go_wp2
          go_roundg (N - (i + 1))
          case measure => omega
          case rel => exact ⟨i + 1, by omega, rfl, by go_num, HX.out, rfl⟩
    · have hie : i = N := by omega
      subst hie
      have hii : ¬ (i : Int) < (i : Int) := by omega
      have HF := Lib.hid (HNO.out HALL.out)
      go_wp2
      go_ret
      exact ⟨ret_bool HF.out.symm, HB.out⟩
end Go.Proofs.YtofomopmmopflaaGreatDoor
