/- The reference's parts: a ticketing field, a segment, a live segment. Rows of PNRs at an index; a live segment (the reference). The reference's seats of a PNR. A PNR that lies in memory; when it is sound, as a Bool. Lists of a PNR, copied (the reference). -/
import Derived.Test.YtmhhbnnjilbdnaaGreatDoorKA
import Derived.Test.YtmhhbnnjilbdnaaGreatDoorKB
import Derived.Test.YtmhhbnnjilbdnaaGreatDoorKF
import Derived.Test.YtmhhbnnjilbdnaaGreatDoorPlnP
import Derived.Test.YtmhhbnnjilbdnaaGreatDoorKG
import Derived.Test.YtmhhbnnjilbdnaaGreatDoorKJ
import Derived.Test.YtmhhbnnjilbdnaaGreatDoorKL
import Derived.Test.YtmhhbnnjilbdnaaGreatDoorLB
import Derived.Test.YtmhhbnnjilbdnaaGreatDoorRows
import Derived.WalkKit
import Derived.WalkSpells
import Derived.WalkLawsBesides
import Derived.Lib.ConvBytes
import Derived.Lib.Hide
import Derived.Lib.SliceRun
import Derived.IntWalk
import Derived.BigQuiet
import Derived.Deep.QuietTactic
import Derived.Deep.RegionWith
import Derived.Deep.RegionHeld3
import Derived.Deep.LoopGhost
import Derived.Deep.CutRange
import Derived.Deep.CutBlock
import Derived.Deep.MidRow
import Derived.Laws.OwnMore
import Derived.OwnWalk
import Derived.Laws.AppendOwnNone
import Derived.Laws.Rows
import Derived.Laws.MakeOwn
import Derived.Laws.CopyOwn
import Derived.Laws.BitsAllLaws
import Derived.DeepKeys5
import Derived.Maps.OwnOps
import Derived.Handy
import Derived.Lib.AppendStr
import Derived.StillTailTactics
import Derived.Deep.AppendLies
import Derived.Test.YtmhhbnnjilbdnaaGreatDoorLA
import Derived.WideKeyEntry
namespace Go.Proofs.YtmhhbnnjilbdnaaGreatDoor
open Go.RowKit Go.ChangeMaps
set_option linter.unusedSimpArgs false
set_option linter.unusedVariables false
set_option maxRecDepth 20000

/-- What TicketFormed tells. -/
def tfS (tk td tm : Int) : Bool := if tk = 2 then decide (td = 0 ∧ tm = 0) else decide (tk = 1 ∧ (0 ≤ td ∧ td < 366) ∧ 0 ≤ tm ∧ tm < 1440)

theorem tfS_2 {td tm : Int} : tfS 2 td tm = decide (td = 0 ∧ tm = 0) := if_pos rfl
theorem tfS_o {tk td tm : Int} (h : tk ≠ 2) : tfS tk td tm = decide (tk = 1 ∧ (0 ≤ td ∧ td < 366) ∧ 0 ≤ tm ∧ tm < 1440) := if_neg h

theorem tick_tf {tk td tm : Int} {q : Bool} : tickOk tk td tm q ↔ ((tk = 0 ∧ td = 0 ∧ tm = 0) ∨ tfS tk td tm = true) ∧ (q = true → tk = 1) := by
  unfold tickOk tfS
  by_cases h2 : tk = 2
  · subst h2
    rw [if_pos rfl, decide_eq_true_eq]
    cases q <;> simp
  · rw [if_neg h2, decide_eq_true_eq]
    by_cases h1 : tk = 1
    · subst h1
      cases q <;> simp
    · by_cases h0 : tk = 0
      · subst h0
        cases q <;> simp
      · cases q <;> simp [h0, h1, h2]

theorem ticketFormed_any (tk td tm : Int) (w : World) :
    Calls Tryz.prog 22 #[.agg #[.int .i64 tk, .int .i64 td, .int .i64 tm]] w fun e w' => e = .returned (.bool (tfS tk td tm)) ∧ Below w.heap.size w w' := by
  have hbk := Blk.new w 26 [.int .i64 tk, .int .i64 td, .int .i64 tm]
  have hb1 : Below w.heap.size w (w.alloc (.cells #[.int .i64 tk, .int .i64 td, .int .i64 tm] 26)) := (Below.refl _ _).alloc (Nat.le_refl _) _
  have HB := Lib.hid hb1
  have t0 := (hbk.cell 0).trans rfl
  by_cases h2 : tk = 2
  · subst h2
    rw [tfS_2]
    by_cases ha : td = 0
    · by_cases hb : tm = 0
      · subst ha hb
        clear hbk hb1 t0
        go_enter Tryz.func22, Tryz.ntmps22
        go_wp2
        go_ret
        exact ⟨rfl, HB.out⟩
      · have hbb : (tm == 0) = false := by rw [beq_eq_false_iff_ne]; exact hb
        have hd : decide (td = 0 ∧ tm = 0) = false := decide_eq_false fun h => hb h.2
        rw [hd]
        subst ha
        clear hbk hb1 t0 hb hd
        go_enter Tryz.func22, Tryz.ntmps22
        go_wp2
        go_ret
        exact ⟨rfl, HB.out⟩
    · have hab : (td == 0) = false := by rw [beq_eq_false_iff_ne]; exact ha
      have hd : decide (td = 0 ∧ tm = 0) = false := decide_eq_false fun h => ha h.1
      rw [hd]
      clear hbk hb1 t0 ha hd
      go_enter Tryz.func22, Tryz.ntmps22
      go_wp2
      go_ret
      exact ⟨rfl, HB.out⟩
  · rw [tfS_o h2]
    have h2b : (tk == 2) = false := by rw [beq_eq_false_iff_ne]; exact h2
    have HJ := Lib.hid fun W => refJoin_any td tm W
    by_cases h1 : tk = 1
    · have h1b : (tk == 1) = true := by rw [beq_iff_eq]; exact h1
      by_cases hv : (0 ≤ td ∧ td < 366) ∧ 0 ≤ tm ∧ tm < 1440
      · have hd : decide (tk = 1 ∧ (0 ≤ td ∧ td < 366) ∧ 0 ≤ tm ∧ tm < 1440) = true := decide_eq_true ⟨h1, hv⟩
        rw [hd]
        rw [joinZ_yes hv] at HJ
        clear hbk hb1 t0 h1 h2 hv hd
        go_enter Tryz.func22, Tryz.ntmps22
        go_wp2_with (first
          | (go_at_call 50; (with_reducible refine (HJ.out _).mono ?_); rintro e w9 ⟨rfl, rfl⟩))
        go_ret
        exact ⟨rfl, HB.out⟩
      · have hd : decide (tk = 1 ∧ (0 ≤ td ∧ td < 366) ∧ 0 ≤ tm ∧ tm < 1440) = false := decide_eq_false fun h => hv h.2
        rw [hd]
        rw [joinZ_no hv] at HJ
        clear hbk hb1 t0 h1 h2 hv hd
        go_enter Tryz.func22, Tryz.ntmps22
        go_wp2_with (first
          | (go_at_call 50; (with_reducible refine (HJ.out _).mono ?_); rintro e w9 ⟨rfl, rfl⟩))
        go_ret
        exact ⟨rfl, HB.out⟩
    · have h1b : (tk == 1) = false := by rw [beq_eq_false_iff_ne]; exact h1
      have hd : decide (tk = 1 ∧ (0 ≤ td ∧ td < 366) ∧ 0 ≤ tm ∧ tm < 1440) = false := decide_eq_false fun h => h1 h.1
      rw [hd]
      clear hbk hb1 t0 h1 h2 hd
      go_enter Tryz.func22, Tryz.ntmps22
      go_wp2_with (first
        | (go_at_call 50; (with_reducible refine (HJ.out _).mono ?_); rintro e w9 ⟨rfl, rfl⟩))
      go_ret
      exact ⟨rfl, HB.out⟩

open Classical in
noncomputable def segS (x : SegT) : Bool := decide (segOk x)
theorem segS_yes {x : SegT} (h : segOk x) : segS x = true := by unfold segS; simp [h]
theorem segS_no {x : SegT} (h : ¬ segOk x) : segS x = false := by unfold segS; simp [h]

set_option maxHeartbeats 4000000 in
theorem segFormed_any (x : SegT) (w : World) (hs : x.car.size ≤ maxLen) :
    Calls Tryz.prog 21 #[.agg (segC x).toArray] w fun e w' => e = .returned (.bool (segS x)) ∧ Below w.heap.size w w' := by
  have HYES : RowKit.Hid (segOk x → segS x = true) := Lib.hid segS_yes
  have HNO : RowKit.Hid (¬ segOk x → segS x = false) := Lib.hid segS_no
  generalize segS x = sb at *
  obtain ⟨car, num, day, cls, live⟩ := x
  unfold segOk at HYES HNO
  simp only at HYES HNO hs
  unfold segC
  simp only
  have hb1 : Below w.heap.size w (w.alloc (.cells #[.string car, .int .i64 num, .int .i64 day, .int .u8 cls.toNat, .bool live] 44)) := (Below.refl _ _).alloc (Nat.le_refl _) _
  have HB := Lib.hid hb1
  clear hb1
  have HCA : RowKit.Hid (∀ W, Calls Tryz.prog 48 #[.string car] W fun e w' => e = .returned (.bool (carrierS (toL car))) ∧ W = w') := Lib.hid fun W => refCarrier_any car W hs
  have HCL : RowKit.Hid (∀ W, Calls Tryz.prog 49 #[.int .u8 cls.toNat] W fun e w' => e = .returned (.bool (bL cls)) ∧ W = w') := Lib.hid fun W => rClass_any _ W (by omega) (byte_hi cls)
  cases hc : carrierS (toL car) with
  | false =>
    have HF := Lib.hid (HNO.out fun h => by rw [h.1] at hc; cases hc)
    rw [hc] at HCA
    clear hc
    go_enter Tryz.func21, Tryz.ntmps21
    go_wp2_with (first
      | (go_at_call 48; (with_reducible refine (HCA.out _).mono ?_); rintro e w9 ⟨rfl, rfl⟩))
    go_ret
    exact ⟨ret_bool HF.out.symm, HB.out⟩
  | true =>
    rw [hc] at HCA
    have HC := Lib.hid hc
    clear hc
    by_cases h1 : 1 ≤ num
    rotate_left
    · have HF := Lib.hid (HNO.out fun h => h1 h.2.1.1)
      go_enter Tryz.func21, Tryz.ntmps21
      go_wp2_with (first
        | (go_at_call 48; (with_reducible refine (HCA.out _).mono ?_); rintro e w9 ⟨rfl, rfl⟩))
      go_ret
      exact ⟨ret_bool HF.out.symm, HB.out⟩
    by_cases h2 : num ≤ 9999
    rotate_left
    · have HF := Lib.hid (HNO.out fun h => h2 h.2.1.2)
      go_enter Tryz.func21, Tryz.ntmps21
      go_wp2_with (first
        | (go_at_call 48; (with_reducible refine (HCA.out _).mono ?_); rintro e w9 ⟨rfl, rfl⟩))
      go_ret
      exact ⟨ret_bool HF.out.symm, HB.out⟩
    by_cases h3 : 0 ≤ day
    rotate_left
    · have HF := Lib.hid (HNO.out fun h => h3 h.2.2.1.1)
      go_enter Tryz.func21, Tryz.ntmps21
      go_wp2_with (first
        | (go_at_call 48; (with_reducible refine (HCA.out _).mono ?_); rintro e w9 ⟨rfl, rfl⟩))
      go_ret
      exact ⟨ret_bool HF.out.symm, HB.out⟩
    by_cases h4 : day < 366
    rotate_left
    · have HF := Lib.hid (HNO.out fun h => h4 h.2.2.1.2)
      go_enter Tryz.func21, Tryz.ntmps21
      go_wp2_with (first
        | (go_at_call 48; (with_reducible refine (HCA.out _).mono ?_); rintro e w9 ⟨rfl, rfl⟩))
      go_ret
      exact ⟨ret_bool HF.out.symm, HB.out⟩
    cases hl : bL cls with
    | false =>
      have HF := Lib.hid (HNO.out fun h => by rw [h.2.2.2] at hl; cases hl)
      rw [hl] at HCL
      clear hl
      go_enter Tryz.func21, Tryz.ntmps21
      go_wp2_with (first
        | (go_at_call 48; (with_reducible refine (HCA.out _).mono ?_); rintro e w9 ⟨rfl, rfl⟩)
        | (go_at_call 49; (with_reducible refine (HCL.out _).mono ?_); rintro e w9 ⟨rfl, rfl⟩))
      go_ret
      exact ⟨ret_bool HF.out.symm, HB.out⟩
    | true =>
      have HT := Lib.hid (HYES.out ⟨HC.out, ⟨h1, h2⟩, ⟨h3, h4⟩, hl⟩)
      rw [hl] at HCL
      clear hl
      go_enter Tryz.func21, Tryz.ntmps21
      go_wp2_with (first
        | (go_at_call 48; (with_reducible refine (HCA.out _).mono ?_); rintro e w9 ⟨rfl, rfl⟩)
        | (go_at_call 49; (with_reducible refine (HCL.out _).mono ?_); rintro e w9 ⟨rfl, rfl⟩))
      go_ret
      exact ⟨ret_bool HT.out.symm, HB.out⟩
end Go.Proofs.YtmhhbnnjilbdnaaGreatDoor
namespace Go.Proofs.YtmhhbnnjilbdnaaGreatDoor
open Go.RowKit Go.ChangeMaps
set_option linter.unusedSimpArgs false
set_option linter.unusedVariables false
set_option maxRecDepth 20000

theorem info_seg : (Tryz.prog.info? 44).map (·.size) = some 5 := by kernel_rfl
theorem info_place : (Tryz.prog.info? 72).map (·.size) = some 4 := by kernel_rfl
open Classical in
noncomputable def liveS (l : List SegT) (n : Int) : Bool := decide (liveAt l n)
theorem liveS_yes {l : List SegT} {n : Int} (h : liveAt l n) : liveS l n = true := by unfold liveS; simp [h]
theorem liveS_no {l : List SegT} {n : Int} (h : ¬ liveAt l n) : liveS l n = false := by unfold liveS; simp [h]

theorem wrap_pred {n : Int} (h : (Lit.int .i64 n).wf = true) (i : Nat) (hi : i ≤ 1000000) : ((i : Int) == wrap64 (n - 1)) = decide ((i : Int) = n - 1) := by
  have hb : -9223372036854775808 ≤ n ∧ n ≤ 9223372036854775807 := by
    simp [Lit.wf, IntKind.min, IntKind.max, IntKind.signed, IntKind.bits] at h
    exact h
  unfold wrap64
  rw [Bool.eq_iff_iff, beq_iff_eq, decide_eq_true_eq]
  omega

set_option maxHeartbeats 8000000 in
theorem isLive_any (p : PnrT) (vn vs vp vr vx : Value) (n : Int) (w : World) (hn : (Lit.int .i64 n).wf = true) (hs : HasE segC w vs p.segs) (hl : p.segs.length ≤ 1000) :
    Calls Tryz.prog 53 #[.agg (pnrC p vn vs vp vr vx).toArray, .int .i64 n] w fun e w' => e = .returned (.bool (liveS p.segs n)) ∧ Below w.heap.size w w' := by
  obtain ⟨ps, cs, rfl⟩ := hs.len
  have hbk := Blk.new w 29 (pnrC p vn (.slice ps p.segs.length cs) vp vr vx)
  have hb1 : Below w.heap.size w (w.alloc (.cells (pnrC p vn (.slice ps p.segs.length cs) vp vr vx).toArray 29)) := (Below.refl _ _).alloc (Nat.le_refl _) _
  have HS := Lib.hid (hs.mono hb1)
  obtain ⟨loc, off, names, segs, phones, tk, td, tm, recv, remarks, seats, queued⟩ := p
  unfold pnrC at hbk hb1 HS ⊢
  simp only at hbk hb1 hs hl HS ⊢
  have HBK := Lib.hid hbk
  have HB := Lib.hid hb1
  have HYES : RowKit.Hid (∀ i, i < segs.length → (i : Int) = n - 1 → (segs.getD i sg0).live = true → liveS segs n = true) := Lib.hid fun i hi h1 h2 => liveS_yes ⟨by omega, _, by rw [show (n - 1).toNat = i by omega]; exact getD_at sg0 hi, h2⟩
  have HNO : RowKit.Hid ((∀ i, i < segs.length → ¬ ((i : Int) = n - 1 ∧ (segs.getD i sg0).live = true)) → liveS segs n = false) := Lib.hid fun h => liveS_no (by
    rintro ⟨h1, s, h2, h3⟩
    have hlt := (List.getElem?_eq_some_iff.1 h2).1
    rw [getD_at sg0 hlt] at h2
    injection h2 with h2
    exact h _ hlt ⟨by omega, by rw [h2]; exact h3⟩)
  have HWP : RowKit.Hid (∀ i : Nat, i ≤ 1000000 → ((i : Int) == wrap64 (n - 1)) = decide ((i : Int) = n - 1)) := Lib.hid fun i hi => wrap_pred hn i hi
  generalize liveS segs n = sb at *
  generalize hN : segs.length = N at *
  have HN := Lib.hid hN
  clear hbk hb1 hs hn hN
  go_enter Tryz.func53, Tryz.ntmps53
  go_upto_region 1 with fail
  generalize w.alloc (.cells #[.string loc, .string off, vn, .slice ps N cs, vp, .int .i64 tk, .int .i64 td, .int .i64 tm, .string recv, vr, vx, .bool queued] 29) = w1 at *
  have c3 : w1.cell? ⟨w.heap.size, 3, none⟩ = some (.slice ps N cs) := (HBK.out.cell 3).trans rfl
  go_wp2
  go_loopg [5] N (fun g0 s5 wr => ∃ i : Nat, i ≤ N ∧ g0 = N - i ∧ s5 = .int .i64 (i : Int) ∧ (∀ j, j < i → ¬ ((j : Int) = n - 1 ∧ (segs.getD j sg0).live = true)) ∧ w1 = wr)
  case atStart => exact ⟨0, Nat.zero_le _, rfl, rfl, (fun j h => absurd h (Nat.not_lt_zero _)), rfl⟩
  case round =>
    obtain ⟨i, hiN, rfl, rfl, hall, rfl⟩ := hrel
    have HALL := Lib.hid hall
    clear hall
    by_cases hlt : i < N
    · have hii : (i : Int) < (N : Int) := by omega
      have hi0 : (0 : Int) ≤ (i : Int) := by omega
      have hiN2 : i < segs.length := by rw [HN.out]; exact hlt
      obtain ⟨bb, off2, rfl, _, _, _, _, _, g4⟩ := seg_at HS.out hiN2
      have hwp := HWP.out i (by omega)
      have HYk := Lib.hid (HYES.out i hlt)
      have HNX : RowKit.Hid (¬ ((i : Int) = n - 1 ∧ (segs.getD i sg0).live = true) → ∀ j, j < i + 1 → ¬ ((j : Int) = n - 1 ∧ (segs.getD j sg0).live = true)) := Lib.hid fun h j hj => by
        rcases Nat.lt_or_ge j i with h1 | h1
        · exact HALL.out j h1
        · rw [show j = i by omega]; exact h
      generalize (segs.getD i sg0).live = lv at *
      cases lv with
      | false =>
        have HX := Lib.hid (HNX.out (by simp))
        clear hwp
        go_wp2
        go_roundg (N - (i + 1))
        case measure => omega
        case rel => exact ⟨i + 1, by omega, rfl, by go_num, HX.out, rfl⟩
      | true =>
        by_cases he : (i : Int) = n - 1
        · have HT := Lib.hid (HYk.out he (by first | rfl | trivial))
          have hpos : (0 : Int) < n := by omega
          rw [decide_eq_true he] at hwp
          clear he
          go_wp2
          go_ret
          exact ⟨ret_bool (by first | exact HT.out.symm | (rw [HT.out]; simp [hpos])), HB.out⟩
        · have HX := Lib.hid (HNX.out (fun h => he h.1))
          rw [decide_eq_false he] at hwp
          clear he
          go_wp2
          go_roundg (N - (i + 1))
          case measure => omega
          case rel => exact ⟨i + 1, by omega, rfl, by go_num, HX.out, rfl⟩
    · have hie : i = N := by omega
      subst hie
      have hii : ¬ (i : Int) < (i : Int) := by omega
      have HF := Lib.hid (HNO.out HALL.out)
      go_wp2
      go_ret
      exact ⟨ret_bool HF.out.symm, HB.out⟩
end Go.Proofs.YtmhhbnnjilbdnaaGreatDoor
namespace Go.Proofs.YtmhhbnnjilbdnaaGreatDoor
open Go.RowKit Go.ChangeMaps
set_option linter.unusedSimpArgs false
set_option linter.unusedVariables false
set_option maxRecDepth 20000

def okPair (y x : PlaceT) : Prop := lowP y x ∧ seatK y ≠ seatK x
def refOk (segs : List SegT) (nn : Nat) (l : List PlaceT) : Prop := ∀ (i : Nat) (x : PlaceT), l[i]? = some x → placeOk segs nn x ∧ ∀ (k : Nat) (y : PlaceT), k < i → l[k]? = some y → okPair y x

theorem low_all {segs : List SegT} {nn : Nat} {l : List PlaceT} (h : Rise (placeOk segs nn) lowP l) : ∀ (d k : Nat) (y x : PlaceT), l[k]? = some y → l[k + d + 1]? = some x → lowP y x
  | 0, k, y, x, hy, hx => (h (k + 0 + 1) x hx).2 y (Nat.succ_pos _) hy
  | d + 1, k, y, x, hy, hx => by
    have hlt : k + d + 1 < l.length := by
      have := (List.getElem?_eq_some_iff.1 hx).1
      omega
    have hz : l[k + d + 1]? = some l[k + d + 1] := List.getElem?_eq_getElem hlt
    have h1 := low_all h d k y _ hy hz
    have h2 := (h (k + (d + 1) + 1) x hx).2 l[k + d + 1] (Nat.succ_pos _) hz
    unfold lowP at h1 h2 ⊢
    omega

theorem refOk_iff {segs : List SegT} {nn : Nat} {l : List PlaceT} : refOk segs nn l ↔ Rise (placeOk segs nn) lowP l ∧ (l.map seatK).Nodup := by
  constructor
  · intro h
    refine ⟨fun i x hx => ⟨(h i x hx).1, fun y h0 hy => ((h i x hx).2 (i - 1) y (by omega) hy).1⟩, ?_⟩
    rw [List.nodup_iff_pairwise_ne, List.pairwise_map, List.pairwise_iff_getElem]
    intro k i hk hi hki
    exact ((h i l[i] (List.getElem?_eq_getElem hi)).2 k l[k] hki (List.getElem?_eq_getElem hk)).2
  · rintro ⟨h1, h2⟩ i x hx
    refine ⟨(h1 i x hx).1, fun k y hk hy => ⟨?_, ?_⟩⟩
    · obtain ⟨d, rfl⟩ : ∃ d, i = k + d + 1 := ⟨i - k - 1, by omega⟩
      exact low_all h1 d k y x hy hx
    · rw [List.nodup_iff_pairwise_ne, List.pairwise_map, List.pairwise_iff_getElem] at h2
      obtain ⟨hi, e1⟩ := List.getElem?_eq_some_iff.1 hx
      obtain ⟨hk', e2⟩ := List.getElem?_eq_some_iff.1 hy
      rw [← e1, ← e2]
      exact h2 k i hk' hi hk

open Classical in
noncomputable def placesS (segs : List SegT) (nn : Nat) (l : List PlaceT) : Bool := decide (Rise (placeOk segs nn) lowP l ∧ (l.map seatK).Nodup)
theorem placesS_yes {segs : List SegT} {nn : Nat} {l : List PlaceT} (h : Rise (placeOk segs nn) lowP l ∧ (l.map seatK).Nodup) : placesS segs nn l = true := by unfold placesS; simp [h]
theorem placesS_no {segs : List SegT} {nn : Nat} {l : List PlaceT} (h : ¬ (Rise (placeOk segs nn) lowP l ∧ (l.map seatK).Nodup)) : placesS segs nn l = false := by unfold placesS; simp only [h]; rfl

set_option maxHeartbeats 16000000 in
theorem refSeats_any (p : PnrT) (vn vs vp vr vx : Value) (w : World) (hn : HasE nameC w vn p.names) (hs : HasE segC w vs p.segs) (hx : HasE placeC w vx p.seats) (hw : ∀ x ∈ p.seats, (Lit.int .i64 x.seg).wf = true) (h1 : p.names.length ≤ 1000) (h2 : p.segs.length ≤ 1000) (h3 : p.seats.length ≤ 1000) :
    Calls Tryz.prog 25 #[.agg (pnrC p vn vs vp vr vx).toArray] w fun e w' => e = .returned (.bool (placesS p.segs p.names.length p.seats)) ∧ Below w.heap.size w w' := by
  obtain ⟨pn, cn, rfl⟩ := hn.len
  obtain ⟨px, cx, rfl⟩ := hx.len
  have HIL : RowKit.Hid (∀ W n, Below w.heap.size w W → (Lit.int .i64 n).wf = true → Calls Tryz.prog 53 #[.agg (pnrC p (.slice pn p.names.length cn) vs vp vr (.slice px p.seats.length cx)).toArray, .int .i64 n] W fun e w' => e = .returned (.bool (liveS p.segs n)) ∧ Below W.heap.size W w') := Lib.hid fun W n hb hwf => isLive_any p _ vs vp vr _ n W hwf (hs.mono hb) h2
  have hbk := Blk.new w 29 (pnrC p (.slice pn p.names.length cn) vs vp vr (.slice px p.seats.length cx))
  have hb1 : Below w.heap.size w (w.alloc (.cells (pnrC p (.slice pn p.names.length cn) vs vp vr (.slice px p.seats.length cx)).toArray 29)) := (Below.refl _ _).alloc (Nat.le_refl _) _
  have HX := Lib.hid (hx.mono hb1)
  obtain ⟨loc, off, names, segs, phones, tk, td, tm, recv, remarks, seats, queued⟩ := p
  unfold pnrC at hbk hb1 HX HIL ⊢
  simp only at hbk hb1 hs hx h1 h2 h3 hw HX HIL ⊢
  have HBK := Lib.hid hbk
  have HB := Lib.hid hb1
  have HW := Lib.hid hw
  have HYES : RowKit.Hid (refOk segs names.length seats → placesS segs names.length seats = true) := Lib.hid fun h => placesS_yes (refOk_iff.1 h)
  have HNO : RowKit.Hid (¬ refOk segs names.length seats → placesS segs names.length seats = false) := Lib.hid fun h => placesS_no fun k => h (refOk_iff.2 k)
  generalize placesS segs names.length seats = sb at *
  have HLV : RowKit.Hid (∀ n, liveS segs n = true → liveAt segs n) := Lib.hid fun n h => by
    by_cases k : liveAt segs n
    · exact k
    · rw [liveS_no k] at h; cases h
  have HLN : RowKit.Hid (∀ n, liveS segs n = false → ¬ liveAt segs n) := Lib.hid fun n h k => by rw [liveS_yes k] at h; cases h
  generalize hNN : names.length = NN at *
  generalize hM : seats.length = M at *
  have HM := Lib.hid hM
  clear hbk hb1 hs hx hw hM hn hNN
  go_enter Tryz.func25, Tryz.ntmps25
  go_upto_region 1 with fail
  generalize w.alloc (.cells #[.string loc, .string off, .slice pn NN cn, vs, vp, .int .i64 tk, .int .i64 td, .int .i64 tm, .string recv, vr, .slice px M cx, .bool queued] 29) = w1 at *
  have c8 : w1.cell? ⟨w.heap.size, 10, none⟩ = some (.slice px M cx) := (HBK.out.cell 10).trans rfl
  go_wp2
  go_loopg [3] M (fun g0 s3 wr => ∃ i : Nat, i ≤ M ∧ g0 = M - i ∧ s3 = .int .i64 (i : Int) ∧ refOk segs NN (seats.take i) ∧ Below w1.heap.size w1 wr)
  case atStart => exact ⟨0, Nat.zero_le _, rfl, rfl, (fun j x h => by simp at h), Below.refl _ _⟩
  case round =>
    obtain ⟨i, hiM, rfl, rfl, hok, hbw⟩ := hrel
    have HOK := Lib.hid hok
    clear hok
    have d8 := cell_bel hbw c8
    by_cases hlt : i < M
    · have hii : (i : Int) < (M : Int) := by omega
      have hi0 : (0 : Int) ≤ (i : Int) := by omega
      have hiM2 : i < seats.length := by rw [HM.out]; exact hlt
      obtain ⟨bb, off2, rfl, hr, _, _, _, _⟩ := place_at (HX.out.mono hbw) hiM2
      have hwf := HW.out _ (List.mem_of_getElem? (getD_at pl0 hiM2))
      have HXI := Lib.hid (getD_at pl0 hiM2)
      generalize seats.getD i pl0 = x at *
      obtain ⟨sg, pa, row, c⟩ := x
      simp only at hwf
      go_upto_region 5 with (first
        | (refine wpList_load_mid rfl 72 _ rfl bb (off2 + i * 4) rfl (placeC ⟨sg, pa, row, c⟩) _ hr Tryz.underlying72 rfl info_place ?_)
        | (refine wpList_store_blk rfl 72 (.tmp 4) (.tmp 18) rfl wr.heap.size 72 (placeC pl0) (placeC ⟨sg, pa, row, c⟩) rfl rfl (Blk.new wr 72 (placeC pl0)) rfl info_place (placeC_one _) ?_; intro w8 ha8 hb8 hgr8))
      dsimp only [Act.put]
      have hal : Below wr.heap.size wr (wr.alloc (.cells (placeC pl0).toArray 72)) := (Below.refl _ _).alloc (Nat.le_refl _) _
      have hb38 := hbw.trans ((hal.trans hb8).mono hbw.size)
      have HA8 := Lib.hid ha8
      have hpr := (HBK.out.mono hb38).range
      have HTX : RowKit.Hid (∀ W, Calls Tryz.prog 54 #[.agg #[.int .i64 row, .int .u8 c.toNat]] W fun e w' => e = .returned (.string (seatT row c)) ∧ Below W.heap.size W w') := Lib.hid fun W => refText_any row c W
      have hse := seatT_empty (r := row) (c := c)
      generalize seatT row c = st at *
      have hb08 := below_w HB.out hb38
      have HLVk := Lib.hid (HLV.out sg)
      have HLNk := Lib.hid (HLN.out sg)
      have HILk := Lib.hid (HIL.out w8 sg hb08 hwf)
      clear hr ha8 hb8 hbw hal hgr8 d8 hwf
      have HBAD : RowKit.Hid (¬ placeOk segs NN ⟨sg, pa, row, c⟩ → sb = false) := Lib.hid fun h => HNO.out fun k => h (k i _ HXI.out).1
      have t0 : w8.cell? ⟨wr.heap.size, 0, none⟩ = some (.int .i64 sg) := (HA8.out.cell 0).trans rfl
      cases hlv : liveS segs sg with
      | false =>
        have HF := Lib.hid (HBAD.out fun h => HLNk.out hlv h.1)
        rw [hlv] at HILk
        clear hlv
        go_wp2_with (first
          | (refine wpList_load_mid rfl 29 (.tmp 1) rfl w.heap.size 0 rfl _ _ hpr Tryz.underlying29 rfl info_pnr ?_)
          | (go_at_call 53; (with_reducible refine HILk.out.mono ?_); rintro e w9 ⟨rfl, hb9⟩))
        go_ret
        exact ⟨ret_bool HF.out.symm, below_low hb08 hb08.size hb9⟩
      | true =>
        have HLA := Lib.hid (HLVk.out hlv)
        rw [hlv] at HILk
        clear hlv
        have t1 : ∀ W, Below w8.heap.size w8 W → W.cell? ⟨wr.heap.size, 1, none⟩ = some (.int .i64 pa) := fun W h => ((HA8.out.mono h).cell 1).trans rfl
        have T1 := Lib.hid t1
        have T2 : RowKit.Hid (∀ W, Below w8.heap.size w8 W → W.cell? ⟨wr.heap.size, 2, none⟩ = some (.int .i64 row) ∧ W.cell? ⟨wr.heap.size, 3, none⟩ = some (.int .u8 c.toNat) ∧ W.cell? ⟨w.heap.size, 2, none⟩ = some (.slice pn NN cn)) := Lib.hid fun W h => ⟨((HA8.out.mono h).cell 2).trans rfl, ((HA8.out.mono h).cell 3).trans rfl, ((HBK.out.mono (hb38.trans (h.mono hb38.size))).cell 2).trans rfl⟩
        clear t1
        by_cases hp1 : pa < 1
        · have HF := Lib.hid (HBAD.out fun h => by have := h.2.1.1; simp only at this; omega)
          go_wp2_with (first
            | (refine wpList_load_mid rfl 29 (.tmp 1) rfl w.heap.size 0 rfl _ _ hpr Tryz.underlying29 rfl info_pnr ?_)
            | (go_at_call 53; (with_reducible refine HILk.out.mono ?_); rintro e w9 ⟨rfl, hb9⟩; have u1 := T1.out w9 hb9; obtain ⟨u2, u3, u4⟩ := T2.out w9 hb9))
          go_ret
          exact ⟨ret_bool HF.out.symm, below_low hb08 hb08.size hb9⟩
        by_cases hp2 : (NN : Int) < pa
        · have HF := Lib.hid (HBAD.out fun h => by have := h.2.1.2; simp only at this; omega)
          go_wp2_with (first
            | (refine wpList_load_mid rfl 29 (.tmp 1) rfl w.heap.size 0 rfl _ _ hpr Tryz.underlying29 rfl info_pnr ?_)
            | (go_at_call 53; (with_reducible refine HILk.out.mono ?_); rintro e w9 ⟨rfl, hb9⟩; have u1 := T1.out w9 hb9; obtain ⟨u2, u3, u4⟩ := T2.out w9 hb9))
          go_ret
          exact ⟨ret_bool HF.out.symm, below_low hb08 hb08.size hb9⟩
        by_cases hseat : 1 ≤ row ∧ row ≤ 99 ∧ bL c = true
        rotate_left
        · rw [decide_eq_false hseat] at hse
          have hse2 : (st.toList == []) = true := hse
          have HF := Lib.hid (HBAD.out fun h => hseat h.2.2)
          clear hse hseat
          go_wp2_with (first
            | (refine wpList_load_mid rfl 29 (.tmp 1) rfl w.heap.size 0 rfl _ _ hpr Tryz.underlying29 rfl info_pnr ?_)
            | (go_at_call 53; (with_reducible refine HILk.out.mono ?_); rintro e w9 ⟨rfl, hb9⟩; have u1 := T1.out w9 hb9; obtain ⟨u2, u3, u4⟩ := T2.out w9 hb9)
            | (go_at_call 54; (with_reducible refine (HTX.out _).mono ?_); rintro e w10 ⟨rfl, hb10⟩))
          go_ret
          exact ⟨ret_bool HF.out.symm, below_low hb08 hb08.size (bel_trans hb9 hb10)⟩
        rw [decide_eq_true hseat] at hse
        have hse2 : (st.toList == []) = false := hse
        have HPO : RowKit.Hid (placeOk segs NN ⟨sg, pa, row, c⟩) := Lib.hid ⟨HLA.out, ⟨by simp only; omega, by simp only; omega⟩, hseat⟩
        clear hse hseat
        go_upto_region 7 with (first
          | (refine wpList_load_mid rfl 29 (.tmp 1) rfl w.heap.size 0 rfl _ _ hpr Tryz.underlying29 rfl info_pnr ?_)
          | (go_at_call 53; (with_reducible refine HILk.out.mono ?_); rintro e w9 ⟨rfl, hb9⟩; have u1 := T1.out w9 hb9; obtain ⟨u2, u3, u4⟩ := T2.out w9 hb9)
          | (go_at_call 54; (with_reducible refine (HTX.out _).mono ?_); rintro e w10 ⟨rfl, hb10⟩))
        have hb810 := bel_trans hb9 hb10
        have HBX := Lib.hid (hb38.trans (hb810.mono hb38.size))
        have HAX := Lib.hid (HA8.out.mono hb810)
        clear hb9 hb10 hb810 u1 u2 u3 u4 t0 hpr HTX HILk T1 T2 HA8 hb08 hb38
        have HPN : RowKit.Hid (∀ (k : Nat) (y : PlaceT), k < i → seats[k]? = some y → ¬ okPair y ⟨sg, pa, row, c⟩ → sb = false) := Lib.hid fun k y hk hy h => HNO.out fun q => h ((q i _ HXI.out).2 k y hk hy)
        have HNX : RowKit.Hid ((∀ (k : Nat) (y : PlaceT), k < i → seats[k]? = some y → okPair y ⟨sg, pa, row, c⟩) → refOk segs NN (seats.take (i + 1))) := Lib.hid fun h j y hy => by
          have hj : j < i + 1 := by
            rcases Nat.lt_or_ge j (i + 1) with h | h
            · exact h
            · rw [List.getElem?_take, if_neg (by omega)] at hy; cases hy
          rw [take_at hj] at hy
          rcases Nat.lt_or_ge j i with hji | hji
          · obtain ⟨k1, k2⟩ := HOK.out j y (by rw [take_at hji]; exact hy)
            refine ⟨k1, fun k z hk hz => k2 k z hk ?_⟩
            rw [take_at (by omega)] at hz ⊢
            exact hz
          · have e : j = i := by omega
            subst e
            rw [HXI.out] at hy
            injection hy with hy
            subst hy
            refine ⟨HPO.out, fun k z hk hz => h k z hk ?_⟩
            rw [take_at (by omega)] at hz
            exact hz
        have hgx : RowKit.Hid (wr.heap.size = wr.heap.size) := Lib.hid rfl
        generalize wr.heap.size = gx at *
        go_wp2
        go_loopg [5] i (fun g0 s5 wx => ∃ k : Nat, k ≤ i ∧ g0 = i - k ∧ s5 = .int .i64 (k : Int) ∧ (∀ (j : Nat) (y : PlaceT), j < k → seats[j]? = some y → okPair y ⟨sg, pa, row, c⟩) ∧ Below w10.heap.size w10 wx)
        case atStart => exact ⟨0, Nat.zero_le _, rfl, rfl, (fun j y h => absurd h (Nat.not_lt_zero _)), Below.refl _ _⟩
        case round =>
          obtain ⟨k, hk, rfl, rfl, hall, hbx⟩ := hrel
          have HALL := Lib.hid hall
          clear hall
          by_cases hki : k < i
          · have hkii : (k : Int) < (i : Int) := by omega
            have hk0 : (0 : Int) ≤ (k : Int) := by omega
            have hkM : (k : Int) < (M : Int) := by omega
            have hkM2 : k < seats.length := by rw [HM.out]; omega
            have hb1x := HBX.out.trans (hbx.mono HBX.out.size)
            have e8 := cell_bel hb1x c8
            obtain ⟨bb2, off3, e2, hr, _, _, _, _⟩ := place_at (HX.out.mono hb1x) hkM2
            simp at e2
            obtain ⟨rfl, rfl⟩ := e2
            have HY := Lib.hid (getD_at pl0 hkM2)
            have HPNk := Lib.hid (HPN.out k _ hki HY.out)
            have HNXk : RowKit.Hid (okPair (seats.getD k pl0) ⟨sg, pa, row, c⟩ → ∀ (j : Nat) (y : PlaceT), j < k + 1 → seats[j]? = some y → okPair y ⟨sg, pa, row, c⟩) := Lib.hid fun h j y hj hy => by
              rcases Nat.lt_or_ge j k with h1 | h1
              · exact HALL.out j y h1 hy
              · have e : j = k := by omega
                subst e
                rw [HY.out] at hy
                injection hy with hy
                rw [← hy]
                exact h
            generalize seats.getD k pl0 = y at *
            obtain ⟨sg', pa', row', c'⟩ := y
            go_upto_region 11 with (first
              | (refine wpList_load_mid rfl 72 _ rfl bb (off2 + k * 4) rfl (placeC ⟨sg', pa', row', c'⟩) _ hr Tryz.underlying72 rfl info_place ?_)
              | (refine wpList_store_blk rfl 72 (.tmp 6) (.tmp 52) rfl wr.heap.size 72 (placeC pl0) (placeC ⟨sg', pa', row', c'⟩) rfl rfl (Blk.new wr 72 (placeC pl0)) rfl info_place (placeC_one _) ?_; intro w8 ha8 hb8 hgr8))
            dsimp only [Act.put]
            have hal : Below wr.heap.size wr (wr.alloc (.cells (placeC pl0).toArray 72)) := (Below.refl _ _).alloc (Nat.le_refl _) _
            have h18 := hal.trans hb8
            have hbx8 := hbx.trans (h18.mono hbx.size)
            have HXX := Lib.hid (HAX.out.mono hbx8)
            have x0 : w8.cell? ⟨gx, 0, none⟩ = some (.int .i64 sg) := (HXX.out.cell 0).trans rfl
            have x1 : w8.cell? ⟨gx, 1, none⟩ = some (.int .i64 pa) := (HXX.out.cell 1).trans rfl
            have x2 : w8.cell? ⟨gx, 2, none⟩ = some (.int .i64 row) := (HXX.out.cell 2).trans rfl
            have x3 : w8.cell? ⟨gx, 3, none⟩ = some (.int .u8 c.toNat) := (HXX.out.cell 3).trans rfl
            have y0 : w8.cell? ⟨wr.heap.size, 0, none⟩ = some (.int .i64 sg') := (ha8.cell 0).trans rfl
            have y1 : w8.cell? ⟨wr.heap.size, 1, none⟩ = some (.int .i64 pa') := (ha8.cell 1).trans rfl
            have y2 : w8.cell? ⟨wr.heap.size, 2, none⟩ = some (.int .i64 row') := (ha8.cell 2).trans rfl
            have y3 : w8.cell? ⟨wr.heap.size, 3, none⟩ = some (.int .u8 c'.toNat) := (ha8.cell 3).trans rfl
            have HBR := Lib.hid (below_w HB.out (HBX.out.trans (hbx8.mono HBX.out.size)))
            have HBX8 := Lib.hid hbx8
            clear hr ha8 hb8 hgr8 hal h18 hbx8 hbx e8 hb1x
            by_cases hA : sg < sg'
            · have HF := Lib.hid (HPNk.out fun h => by have := h.1; unfold lowP at this; simp only at this; omega)
              go_wp2
              go_ret
              exact ⟨ret_bool HF.out.symm, HBR.out⟩
            by_cases hE : sg' = sg
            · have hEb : (sg' == sg) = true := by rw [beq_iff_eq]; exact hE
              by_cases hP : pa ≤ pa'
              · have HF := Lib.hid (HPNk.out fun h => by have := h.1; unfold lowP at this; simp only at this; omega)
                clear hE
                go_wp2
                go_ret
                exact ⟨ret_bool HF.out.symm, HBR.out⟩
              · by_cases hR : row' = row
                · by_cases hC : c' = c
                  · have HF := Lib.hid (HPNk.out fun h => h.2 (by unfold seatK; simp only; rw [hE, hR, hC]))
                    subst hR hC
                    clear hE
                    go_wp2
                    go_ret
                    exact ⟨ret_bool HF.out.symm, HBR.out⟩
                  · have hCb : ((c'.toNat : Int) == (c.toNat : Int)) = false := by
                      rw [beq_eq_false_iff_ne]
                      exact fun h => hC (UInt8.toNat_inj.1 (by omega))
                    have HN2 := Lib.hid (HNXk.out ⟨by unfold lowP; simp only; omega, fun h => hC (by unfold seatK at h; simp only [Prod.mk.injEq] at h; exact h.2.2)⟩)
                    subst hR
                    clear hE hC
                    go_wp2
                    go_roundg (i - (k + 1))
                    case measure => omega
                    case rel => exact ⟨k + 1, by omega, rfl, by go_num, HN2.out, HBX8.out⟩
                · have hRb : (row' == row) = false := by rw [beq_eq_false_iff_ne]; exact hR
                  have HN2 := Lib.hid (HNXk.out ⟨by unfold lowP; simp only; omega, fun h => hR (by unfold seatK at h; simp only [Prod.mk.injEq] at h; exact h.2.1)⟩)
                  clear hE hR
                  go_wp2
                  go_roundg (i - (k + 1))
                  case measure => omega
                  case rel => exact ⟨k + 1, by omega, rfl, by go_num, HN2.out, HBX8.out⟩
            · have hEb : (sg' == sg) = false := by rw [beq_eq_false_iff_ne]; exact hE
              have HN2 := Lib.hid (HNXk.out ⟨by unfold lowP; simp only; omega, fun h => hE (by unfold seatK at h; simp only [Prod.mk.injEq] at h; exact h.1)⟩)
              clear hE
              go_wp2
              go_roundg (i - (k + 1))
              case measure => omega
              case rel => exact ⟨k + 1, by omega, rfl, by go_num, HN2.out, HBX8.out⟩
          · have hke : k = i := by omega
            subst hke
            have hkii : ¬ (k : Int) < (k : Int) := by omega
            have HN3 := Lib.hid (HNX.out HALL.out)
            go_wp2
            go_roundg (M - (k + 1))
            case measure => omega
            case rel => exact ⟨k + 1, by omega, rfl, by go_num, HN3.out, HBX.out.trans (hbx.mono HBX.out.size)⟩
    · have hie : i = M := by omega
      subst hie
      have hii : ¬ (i : Int) < (i : Int) := by omega
      have HT := Lib.hid (HYES.out (by have := HOK.out; rwa [List.take_of_length_le (by rw [HM.out]; exact Nat.le_refl _)] at this))
      go_wp2
      go_ret
      exact ⟨ret_bool HT.out.symm, below_w HB.out hbw⟩
end Go.Proofs.YtmhhbnnjilbdnaaGreatDoor
namespace Go.Proofs.YtmhhbnnjilbdnaaGreatDoor
open Go.RowKit Go.ChangeMaps
set_option linter.unusedSimpArgs false
set_option linter.unusedVariables false
set_option maxRecDepth 20000

open Classical in
noncomputable def soundPS (p : PnrT) : Bool := decide (SoundP p)
theorem soundPS_yes {p : PnrT} (h : SoundP p) : soundPS p = true := by unfold soundPS; simp [h]
theorem soundPS_no {p : PnrT} (h : ¬ SoundP p) : soundPS p = false := by unfold soundPS; simp [h]

/-- Empty, or so many letters. -/
def orL (s : ByteArray) (n : Int) : Bool := (s.toList == []) || lettersS (toL s) n n
theorem toList_nil {s : ByteArray} : (s.toList == []) = true ↔ toL s = [] := by
  rw [beq_iff_eq, ByteArray.toList_eq]
  exact Iff.rfl
theorem orL_iff {s : ByteArray} {n : Int} : orL s n = true ↔ (toL s = [] ∨ lettersS (toL s) n n = true) := by
  unfold orL
  rw [Bool.or_eq_true, toList_nil]

theorem tickS_bool {tk td tm : Int} {q : Bool} : tickS tk td tm q = ((((tk == 0) && ((td == 0) && (tm == 0))) || tfS tk td tm) && (!q || (tk == 1))) := by
  rw [Bool.eq_iff_iff, Bool.and_eq_true, Bool.or_eq_true, Bool.or_eq_true, Bool.and_eq_true, Bool.and_eq_true, beq_iff_eq, beq_iff_eq, beq_iff_eq, beq_iff_eq]
  have h1 : tickS tk td tm q = true ↔ tickOk tk td tm q := by
    constructor
    · intro h
      by_cases k : tickOk tk td tm q
      · exact k
      · rw [tickS_no k] at h; cases h
    · exact tickS_yes
  rw [h1, tick_tf]
  cases q <;> simp

/-- No two live segments are of one leg. -/
def LiveOnce (l : List SegT) : Prop := ∀ (i k : Nat) (x y : SegT), k < i → l[i]? = some x → l[k]? = some y → x.live = true → y.live = true → legK y ≠ legK x
theorem liveOnce_iff {l : List SegT} : LiveOnce l ↔ ((l.filter (·.live)).map legK).Nodup := by
  rw [List.nodup_iff_pairwise_ne, List.pairwise_map, List.pairwise_filter, List.pairwise_iff_getElem]
  constructor
  · intro h k i hk hi hki h1 h2
    exact h i k l[i] l[k] hki (List.getElem?_eq_getElem hi) (List.getElem?_eq_getElem hk) h2 h1
  · intro h i k x y hki hx hy h1 h2
    obtain ⟨hi, e1⟩ := List.getElem?_eq_some_iff.1 hx
    obtain ⟨hk, e2⟩ := List.getElem?_eq_some_iff.1 hy
    subst e1 e2
    exact h k i hk hi hki h2 h1

/-- Empty, or free. -/
def orF (s : ByteArray) : Bool := (s.toList == []) || freeS (toL s)
theorem orF_iff {s : ByteArray} : orF s = true ↔ (toL s = [] ∨ freeP s) := by
  unfold orF freeP
  rw [Bool.or_eq_true, toList_nil]

/-- What is left behind the locator, the office and the names. -/
theorem sound_rest {p : PnrT} (h1 : orL p.loc 6 = true) (h2 : orL p.off 3 = true) (h3 : p.names.length ≤ 9) (h4 : ∀ x ∈ p.names, nameOk x) :
    soundPS p = (segsS p.segs && (textsS p.phones 4 && (textsS p.remarks 10 && (orF p.recv && (tickS p.tk p.td p.tm p.queued && placesS p.segs p.names.length p.seats))))) := by
  have e1 : segsS p.segs = true ↔ segsOk p.segs := by
    constructor
    · intro h
      by_cases k : segsOk p.segs
      · exact k
      · rw [segsS_no k] at h; cases h
    · exact segsS_yes
  have e2 : ∀ (l : List ByteArray) (n : Nat), textsS l n = true ↔ textsOk l n := fun l n => by
    constructor
    · intro h
      by_cases k : textsOk l n
      · exact k
      · rw [textsS_no k] at h; cases h
    · exact textsS_yes
  have e3 : tickS p.tk p.td p.tm p.queued = true ↔ tickOk p.tk p.td p.tm p.queued := by
    constructor
    · intro h
      by_cases k : tickOk p.tk p.td p.tm p.queued
      · exact k
      · rw [tickS_no k] at h; cases h
    · exact tickS_yes
  have e4 : placesS p.segs p.names.length p.seats = true ↔ (Rise (placeOk p.segs p.names.length) lowP p.seats ∧ (p.seats.map seatK).Nodup) := by
    constructor
    · intro h
      by_cases k : Rise (placeOk p.segs p.names.length) lowP p.seats ∧ (p.seats.map seatK).Nodup
      · exact k
      · rw [placesS_no k] at h; cases h
    · exact placesS_yes
  have e5 : soundPS p = true ↔ SoundP p := by
    constructor
    · intro h
      by_cases k : SoundP p
      · exact k
      · rw [soundPS_no k] at h; cases h
    · exact soundPS_yes
  rw [Bool.eq_iff_iff, e5, Bool.and_eq_true, Bool.and_eq_true, Bool.and_eq_true, Bool.and_eq_true, Bool.and_eq_true, e1, e2, e2, e3, e4, orF_iff]
  constructor
  · intro h
    exact ⟨h.segs, h.phones, h.remarks, h.recv, h.tick, h.seats⟩
  · rintro ⟨k1, k2, k3, k4, k5, k6⟩
    exact ⟨orL_iff.1 h1, orL_iff.1 h2, ⟨h3, h4⟩, k1, k2, k3, k4, k5, k6⟩
end Go.Proofs.YtmhhbnnjilbdnaaGreatDoor
namespace Go.Proofs.YtmhhbnnjilbdnaaGreatDoor
open Go.RowKit Go.ChangeMaps
set_option linter.unusedSimpArgs false
set_option linter.unusedVariables false
set_option maxRecDepth 20000

set_option maxHeartbeats 8000000 in
theorem copySegs_any (v : Value) (l : List SegT) (w : World) (h : HasE segC w v l) (hl : l.length ≤ 1000) :
    Calls Tryz.prog 64 #[v] w fun e w' => (∃ v', e = .returned v' ∧ w'.ownsRow w.heap.size 44 5 v' l.length (l.flatMap segC)) ∧ Below w.heap.size w w' := by
  obtain ⟨p, c, rfl⟩ := h.len
  have HH := Lib.hid h
  obtain ⟨i0, hi0, hz0, hsz0, hby0⟩ := seg_tinfo
  have hm1 : ([] : List SegT).length + l.length ≤ maxLen := by simp; unfold maxLen; omega
  have hm2 : (([] : List SegT).length + l.length) * 40 ≤ 140737488355328 := by simp; omega
  clear h hl
  go_enter Tryz.func64, Tryz.ntmps64
  go_wp2_with (first
    | (refine wpList_append_big segC_len segC_one (by decide) rfl (.tmp 4) (.tmp 5) 23 rfl w.heap.size 44 i0 _ 40 Tryz.underlying23 hi0 hz0 hsz0 hby0 rfl (.slice none 0 0) [] rfl (World.ownsRow_nil _ _ _ _) _ l rfl HH.out hm1 hm2 (Nat.le_refl _) ?_; intro v' w1 ho hg hb))
  go_ret
  exact ⟨⟨v', rfl, ho⟩, hb⟩

set_option maxHeartbeats 8000000 in
theorem copyNames_any (v : Value) (l : List NameT) (w : World) (h : HasE nameC w v l) (hl : l.length ≤ 1000) :
    Calls Tryz.prog 61 #[v] w fun e w' => (∃ v', e = .returned v' ∧ w'.ownsRow w.heap.size 38 2 v' l.length (l.flatMap nameC)) ∧ Below w.heap.size w w' := by
  obtain ⟨p, c, rfl⟩ := h.len
  have HH := Lib.hid h
  obtain ⟨i0, hi0, hz0, hsz0, hby0⟩ := name_tinfo
  have hm1 : ([] : List NameT).length + l.length ≤ maxLen := by simp; unfold maxLen; omega
  have hm2 : (([] : List NameT).length + l.length) * 32 ≤ 140737488355328 := by simp; omega
  clear h hl
  go_enter Tryz.func61, Tryz.ntmps61
  go_wp2_with (first
    | (refine wpList_append_big nameC_len nameC_one (by decide) rfl (.tmp 4) (.tmp 5) 22 rfl w.heap.size 38 i0 _ 32 Tryz.underlying22 hi0 hz0 hsz0 hby0 rfl (.slice none 0 0) [] rfl (World.ownsRow_nil _ _ _ _) _ l rfl HH.out hm1 hm2 (Nat.le_refl _) ?_; intro v' w1 ho hg hb))
  go_ret
  exact ⟨⟨v', rfl, ho⟩, hb⟩

def txtC (s : ByteArray) : List Value := [.string s]
theorem txtC_len (s : ByteArray) : (txtC s).length = 1 := rfl
theorem txtC_one (s : ByteArray) : ∀ v ∈ txtC s, v.oneCell' = true := by
  intro v hv
  simp [txtC] at hv
  subst hv
  rfl
theorem flat_txt : ∀ (l : List ByteArray), l.flatMap txtC = strV l
  | [] => rfl
  | b :: l => by rw [List.flatMap_cons, flat_txt l]; rfl

theorem texts_has {w : World} {v : Value} {l : List ByteArray} (h : HasL w v l) : HasE txtC w v l := by
  rcases h with h | ⟨b, off, c, h1, h2, h3, h4⟩
  · exact .inl h
  · refine .inr ⟨b, off, c, h1, h2, h3, fun j u hj => ?_⟩
    rw [flat_txt] at hj
    have hjl : j < l.length := by
      rcases Nat.lt_or_ge j l.length with h | h
      · exact h
      · rw [List.getElem?_eq_none (by rw [strV_len]; exact h)] at hj; cases hj
    rw [h4 j hjl]
    unfold strV at hj
    rw [List.getElem?_map, List.getElem?_eq_getElem hjl] at hj
    rw [List.getD_eq_getElem?_getD, List.getElem?_eq_getElem hjl]
    exact hj

set_option maxHeartbeats 8000000 in
theorem copyTexts_any (v : Value) (l : List ByteArray) (w : World) (h : HasL w v l) (hl : l.length ≤ 1000) :
    Calls Tryz.prog 80 #[v] w fun e w' => (∃ v', e = .returned v' ∧ OwnL w' w.heap.size v' l) ∧ Below w.heap.size w w' := by
  have h := texts_has h
  obtain ⟨p, c, rfl⟩ := h.len
  have HH := Lib.hid h
  obtain ⟨i0, hi0, hz0, hsz0, hby0⟩ := str_tinfo
  have hm1 : ([] : List ByteArray).length + l.length ≤ maxLen := by simp; unfold maxLen; omega
  have hm2 : (([] : List ByteArray).length + l.length) * 16 ≤ 140737488355328 := by simp; omega
  clear h hl
  go_enter Tryz.func80, Tryz.ntmps80
  go_wp2_with (first
    | (refine wpList_append_big txtC_len txtC_one (by decide) rfl (.tmp 4) (.tmp 5) 24 rfl w.heap.size 9 i0 _ 16 Tryz.underlying24 hi0 hz0 hsz0 hby0 rfl (.slice none 0 0) [] rfl (World.ownsRow_nil _ _ _ _) _ l rfl HH.out hm1 hm2 (Nat.le_refl _) ?_; intro v' w1 ho hg hb))
  go_ret
  refine ⟨⟨v', rfl, ?_⟩, hb⟩
  rw [List.nil_append, flat_txt] at ho
  exact ho
end Go.Proofs.YtmhhbnnjilbdnaaGreatDoor
