/- jetwayref12.Same. Printed by tools/gen_same.py. -/
import Derived.Test.YtmhhbnnjilbdnaaGreatDoorKA
import Derived.Test.YtmhhbnnjilbdnaaGreatDoorKB
import Derived.Test.YtmhhbnnjilbdnaaGreatDoorKF
import Derived.Test.YtmhhbnnjilbdnaaGreatDoorPlnP
import Derived.Test.YtmhhbnnjilbdnaaGreatDoorKG
import Derived.Test.YtmhhbnnjilbdnaaGreatDoorKJ
import Derived.Test.YtmhhbnnjilbdnaaGreatDoorKL
import Derived.Test.YtmhhbnnjilbdnaaGreatDoorRows
import Derived.WalkKit
import Derived.WalkSpells
import Derived.WalkLawsBesides
import Derived.Lib.ConvBytes
import Derived.Lib.Hide
import Derived.Lib.SliceRun
import Derived.IntWalk
import Derived.BigQuiet
import Derived.Deep.QuietTactic
import Derived.Deep.RegionWith
import Derived.Deep.RegionHeld3
import Derived.Deep.LoopGhost
import Derived.Deep.CutRange
import Derived.Deep.CutBlock
import Derived.Deep.MidRow
import Derived.Laws.OwnMore
import Derived.OwnWalk
import Derived.Laws.AppendOwnNone
import Derived.Laws.Rows
import Derived.Laws.MakeOwn
import Derived.Laws.CopyOwn
import Derived.Laws.BitsAllLaws
import Derived.DeepKeys5
import Derived.Maps.OwnOps
import Derived.Handy
import Derived.Lib.AppendStr
import Derived.StillTailTactics
import Derived.Deep.AppendLies
import Derived.WideKeyEntry
namespace Go.Proofs.YtmhhbnnjilbdnaaGreatDoor
open Go.RowKit Go.ChangeMaps
set_option linter.unusedSimpArgs false
set_option linter.unusedVariables false
set_option maxRecDepth 20000

open Classical in
noncomputable def sameS (a b : PnrT) : Bool := decide (a = b)
theorem sameS_yes {a b : PnrT} (h : a = b) : sameS a b = true := by unfold sameS; simp [h]
theorem sameS_no {a b : PnrT} (h : a ≠ b) : sameS a b = false := by unfold sameS; simp [h]

/-- All but the names, the segments and the seats is alike. -/
def headP (a b : PnrT) : Prop := a.loc = b.loc ∧ a.off = b.off ∧ a.tk = b.tk ∧ a.td = b.td ∧ a.tm = b.tm ∧ a.recv = b.recv ∧ a.queued = b.queued ∧ a.names.length = b.names.length ∧ a.segs.length = b.segs.length ∧ a.seats.length = b.seats.length ∧ a.phones = b.phones ∧ a.remarks = b.remarks
theorem head_all {a b : PnrT} (h : headP a b) (h1 : a.names = b.names) (h2 : a.segs = b.segs) (h3 : a.seats = b.seats) : a = b := by
  obtain ⟨k1, k2, k3, k4, k5, k6, k7, _, _, _, k8, k9⟩ := h
  cases a
  cases b
  simp only at *
  subst k1 k2 k3 k4 k5 k6 k7 k8 k9 h1 h2 h3
  rfl
theorem head_of {a b : PnrT} (h : a = b) : headP a b := by
  subst h
  exact ⟨rfl, rfl, rfl, rfl, rfl, rfl, rfl, rfl, rfl, rfl, rfl, rfl⟩
theorem str_eqb {s t : ByteArray} (h : s = t) : (s.toList == t.toList) = true ∧ (s.toList != t.toList) = false := by subst h; simp
theorem str_neb {s t : ByteArray} (h : s ≠ t) : (s.toList == t.toList) = false ∧ (s.toList != t.toList) = true := by
  have e : (s.toList == t.toList) = false := by rw [beq_eq_false_iff_ne]; exact fun k => h (toList_inj k)
  exact ⟨e, by rw [bne, e]; rfl⟩
theorem int_eqb {s t : Int} (h : s = t) : (s == t) = true ∧ (s != t) = false := by subst h; simp
theorem int_neb {s t : Int} (h : s ≠ t) : (s == t) = false ∧ (s != t) = true := by
  have e : (s == t) = false := by rw [beq_eq_false_iff_ne]; exact h
  exact ⟨e, by rw [bne, e]; rfl⟩
theorem bool_eqb {s t : Bool} (h : s = t) : (s == t) = true ∧ (s != t) = false := by subst h; simp
theorem bool_neb {s t : Bool} (h : s ≠ t) : (s == t) = false ∧ (s != t) = true := by
  have e : (s == t) = false := by rw [beq_eq_false_iff_ne]; exact h
  exact ⟨e, by rw [bne, e]; rfl⟩

theorem take_next {α : Type} {l m : List α} {i : Nat} (d : α) (h1 : i < l.length) (h2 : i < m.length) (h : l.take i = m.take i) (he : l.getD i d = m.getD i d) : l.take (i + 1) = m.take (i + 1) := by
  rw [List.take_add_one, List.take_add_one, h, getD_at d h1, getD_at d h2, he]

set_option maxHeartbeats 400000000 in
theorem samePnr_any (a b : PnrT) (an asg ap ar ax bn bs bp br bx : Value) (w : World) (ha : PIn w a an asg ap ar ax) (hb : PIn w b bn bs bp br bx) :
    Calls Tryz.prog 10 #[.agg (pnrC a an asg ap ar ax).toArray, .agg (pnrC b bn bs bp br bx).toArray] w fun e w' => e = .returned (.bool (sameS a b)) ∧ Below w.heap.size w w' := by
  have HYES : RowKit.Hid (headP a b → a.names = b.names → a.segs = b.segs → a.seats = b.seats → sameS a b = true) := Lib.hid fun h h1 h2 h3 => sameS_yes (head_all h h1 h2 h3)
  have HNO : RowKit.Hid (¬ headP a b → sameS a b = false) := Lib.hid fun h => sameS_no fun k => h (head_of k)
  have HNE : RowKit.Hid (a ≠ b → sameS a b = false) := Lib.hid sameS_no
  generalize sameS a b = sb at *
  have hz1 : (w.alloc (.cells (pnrC a an asg ap ar ax).toArray 29)).heap.size = w.heap.size + 1 := by simp
  have hbw : Below w.heap.size w ((w.alloc (.cells (pnrC a an asg ap ar ax).toArray 29)).alloc (.cells (pnrC b bn bs bp br bx).toArray 29)) := ((Below.refl _ _).alloc (Nat.le_refl _) _).alloc (by simp) _
  have hba : Blk ((w.alloc (.cells (pnrC a an asg ap ar ax).toArray 29)).alloc (.cells (pnrC b bn bs bp br bx).toArray 29)) w.heap.size 29 (pnrC a an asg ap ar ax) := (Blk.new w 29 (pnrC a an asg ap ar ax)).alloc _
  have hbb : Blk ((w.alloc (.cells (pnrC a an asg ap ar ax).toArray 29)).alloc (.cells (pnrC b bn bs bp br bx).toArray 29)) (w.heap.size + 1) 29 (pnrC b bn bs bp br bx) := by
    have h := Blk.new (w.alloc (.cells (pnrC a an asg ap ar ax).toArray 29)) 29 (pnrC b bn bs bp br bx)
    rw [hz1] at h
    exact h
  have HA := Lib.hid (ha.mono hbw)
  have HB := Lib.hid (hb.mono hbw)
  have HBW := Lib.hid hbw
  have HBA := Lib.hid hba
  have HBB := Lib.hid hbb
  have HPH : RowKit.Hid (∀ W, Below w.heap.size w W → Calls Tryz.prog 35 #[ap, bp] W fun e w' => e = .returned (.bool (decide (a.phones = b.phones))) ∧ Below W.heap.size W w') := Lib.hid fun W h => same_any a.phones b.phones ap bp W (ha.ph.mono h) (hb.ph.mono h) (by have := ha.few; omega) (by have := hb.few; omega)
  have HRM : RowKit.Hid (∀ W, Below w.heap.size w W → Calls Tryz.prog 35 #[ar, br] W fun e w' => e = .returned (.bool (decide (a.remarks = b.remarks))) ∧ Below W.heap.size W w') := Lib.hid fun W h => same_any a.remarks b.remarks ar br W (ha.rm.mono h) (hb.rm.mono h) (by have := ha.few; omega) (by have := hb.few; omega)
  have hfa := ha.few
  have hfb := hb.few
  obtain ⟨pn, cn, rfl⟩ := ha.n.len
  obtain ⟨ps, cs, rfl⟩ := ha.s.len
  obtain ⟨px, cx, rfl⟩ := ha.x.len
  obtain ⟨qn, dn, rfl⟩ := hb.n.len
  obtain ⟨qs, ds, rfl⟩ := hb.s.len
  obtain ⟨qx, dx, rfl⟩ := hb.x.len
  unfold pnrC at HBA HBB HA HB HBW ⊢
  clear ha hb hbw hba hbb hz1
  generalize hAN : a.names.length = AN at *
  generalize hAS : a.segs.length = AS at *
  generalize hAX : a.seats.length = AX at *
  generalize hBN : b.names.length = BN at *
  generalize hBS : b.segs.length = BS at *
  generalize hBX : b.seats.length = BX at *
  have HAN := Lib.hid hAN
  have HAS := Lib.hid hAS
  have HAX := Lib.hid hAX
  have HBN := Lib.hid hBN
  have HBS := Lib.hid hBS
  have HBX := Lib.hid hBX
  clear hAN hAS hAX hBN hBS hBX
  go_enter Tryz.func10, Tryz.ntmps10
  go_upto_region 1 with fail
  generalize hg2 : w.heap.size + 1 = g2 at *
  have HG2 := Lib.hid hg2
  clear hg2
  generalize (w.alloc (.cells #[.string a.loc, .string a.off, .slice pn AN cn, .slice ps AS cs, ap, .int .i64 a.tk, .int .i64 a.td, .int .i64 a.tm, .string a.recv, ar, .slice px AX cx, .bool a.queued] 29)).alloc (.cells #[.string b.loc, .string b.off, .slice qn BN dn, .slice qs BS ds, bp, .int .i64 b.tk, .int .i64 b.td, .int .i64 b.tm, .string b.recv, br, .slice qx BX dx, .bool b.queued] 29) = w2 at *
  have HCA : RowKit.Hid (∀ W, Below w2.heap.size w2 W → W.cell? ⟨w.heap.size, 2, none⟩ = some (.slice pn AN cn) ∧ W.cell? ⟨w.heap.size, 3, none⟩ = some (.slice ps AS cs) ∧ W.cell? ⟨w.heap.size, 10, none⟩ = some (.slice px AX cx) ∧ W.cell? ⟨w.heap.size, 4, none⟩ = some ap ∧ W.cell? ⟨w.heap.size, 9, none⟩ = some ar) := Lib.hid fun W h => ⟨((HBA.out.mono h).cell 2).trans rfl, ((HBA.out.mono h).cell 3).trans rfl, ((HBA.out.mono h).cell 10).trans rfl, ((HBA.out.mono h).cell 4).trans rfl, ((HBA.out.mono h).cell 9).trans rfl⟩
  have HCB : RowKit.Hid (∀ W, Below w2.heap.size w2 W → W.cell? ⟨g2, 2, none⟩ = some (.slice qn BN dn) ∧ W.cell? ⟨g2, 3, none⟩ = some (.slice qs BS ds) ∧ W.cell? ⟨g2, 10, none⟩ = some (.slice qx BX dx) ∧ W.cell? ⟨g2, 4, none⟩ = some bp ∧ W.cell? ⟨g2, 9, none⟩ = some br) := Lib.hid fun W h => ⟨((HBB.out.mono h).cell 2).trans rfl, ((HBB.out.mono h).cell 3).trans rfl, ((HBB.out.mono h).cell 10).trans rfl, ((HBB.out.mono h).cell 4).trans rfl, ((HBB.out.mono h).cell 9).trans rfl⟩
  obtain ⟨x2, x3, x10, x4, x9⟩ := HCA.out w2 (Below.refl _ _)
  obtain ⟨y2, y3, y10, y4, y9⟩ := HCB.out w2 (Below.refl _ _)
  have x0 : w2.cell? ⟨w.heap.size, 0, none⟩ = some (.string a.loc) := (HBA.out.cell 0).trans rfl
  have y0 : w2.cell? ⟨g2, 0, none⟩ = some (.string b.loc) := (HBB.out.cell 0).trans rfl
  have x1 : w2.cell? ⟨w.heap.size, 1, none⟩ = some (.string a.off) := (HBA.out.cell 1).trans rfl
  have y1 : w2.cell? ⟨g2, 1, none⟩ = some (.string b.off) := (HBB.out.cell 1).trans rfl
  have x5 : w2.cell? ⟨w.heap.size, 5, none⟩ = some (.int .i64 a.tk) := (HBA.out.cell 5).trans rfl
  have y5 : w2.cell? ⟨g2, 5, none⟩ = some (.int .i64 b.tk) := (HBB.out.cell 5).trans rfl
  have x6 : w2.cell? ⟨w.heap.size, 6, none⟩ = some (.int .i64 a.td) := (HBA.out.cell 6).trans rfl
  have y6 : w2.cell? ⟨g2, 6, none⟩ = some (.int .i64 b.td) := (HBB.out.cell 6).trans rfl
  have x7 : w2.cell? ⟨w.heap.size, 7, none⟩ = some (.int .i64 a.tm) := (HBA.out.cell 7).trans rfl
  have y7 : w2.cell? ⟨g2, 7, none⟩ = some (.int .i64 b.tm) := (HBB.out.cell 7).trans rfl
  have x8 : w2.cell? ⟨w.heap.size, 8, none⟩ = some (.string a.recv) := (HBA.out.cell 8).trans rfl
  have y8 : w2.cell? ⟨g2, 8, none⟩ = some (.string b.recv) := (HBB.out.cell 8).trans rfl
  have x11 : w2.cell? ⟨w.heap.size, 11, none⟩ = some (.bool a.queued) := (HBA.out.cell 11).trans rfl
  have y11 : w2.cell? ⟨g2, 11, none⟩ = some (.bool b.queued) := (HBB.out.cell 11).trans rfl
  obtain ⟨hd, hdd⟩ : ∃ hd : Bool, (hd = true ↔ headP a b) := by
    by_cases k : headP a b
    · exact ⟨true, by simp [k]⟩
    · exact ⟨false, by simp [k]⟩
  have HHD := Lib.hid hdd
  clear hdd
  go_cut [83] from 8 to 83 (fun s83 wx => s83 = .bool (!hd) ∧ Below w2.heap.size w2 wx)
  case first =>
    have HHN : RowKit.Hid (¬ headP a b → hd = false) := Lib.hid fun h => by
      cases hd with
      | false => rfl
      | true => exact absurd (HHD.out.1 rfl) h
    clear HYES HNO HNE
    by_cases h0 : a.loc = b.loc
    rotate_left
    · have hf := HHN.out fun k => h0 k.1
      subst hf
      obtain ⟨e1, e2⟩ := str_neb h0
      clear h0
      clear x1 y1 x5 y5 x6 y6 x7 y7 x8 y8 x11 y11 x2 y2 x3 y3 x10 y10 x4 y4 x9 y9
      clear HPH HRM HCA HCB HA HB HBA HBB hfa hfb HHN HHD
      go_wp2
      go_meet
      exact ⟨by first | rfl | simp, Below.refl _ _⟩
    obtain ⟨u0, v0⟩ := str_eqb h0
    have H0 := Lib.hid h0
    clear h0
    by_cases h1 : a.off = b.off
    rotate_left
    · have hf := HHN.out fun k => h1 k.2.1
      subst hf
      obtain ⟨e1, e2⟩ := str_neb h1
      clear h1
      clear x5 y5 x6 y6 x7 y7 x8 y8 x11 y11 x2 y2 x3 y3 x10 y10 x4 y4 x9 y9
      clear HPH HRM HCA HCB HA HB HBA HBB hfa hfb HHN HHD H0
      go_wp2
      go_meet
      exact ⟨by first | rfl | simp, Below.refl _ _⟩
    obtain ⟨u1, v1⟩ := str_eqb h1
    have H1 := Lib.hid h1
    clear h1
    by_cases h2 : a.tk = b.tk
    rotate_left
    · have hf := HHN.out fun k => h2 k.2.2.1
      subst hf
      obtain ⟨e1, e2⟩ := int_neb h2
      clear h2
      clear x8 y8 x11 y11 x2 y2 x3 y3 x10 y10 x4 y4 x9 y9
      clear HPH HRM HCA HCB HA HB HBA HBB hfa hfb HHN HHD H0 H1
      go_wp2
      go_meet
      exact ⟨by first | rfl | simp, Below.refl _ _⟩
    obtain ⟨u2, v2⟩ := int_eqb h2
    have H2 := Lib.hid h2
    clear h2
    by_cases h3 : a.td = b.td
    rotate_left
    · have hf := HHN.out fun k => h3 k.2.2.2.1
      subst hf
      obtain ⟨e1, e2⟩ := int_neb h3
      clear h3
      clear x8 y8 x11 y11 x2 y2 x3 y3 x10 y10 x4 y4 x9 y9
      clear HPH HRM HCA HCB HA HB HBA HBB hfa hfb HHN HHD H0 H1 H2
      go_wp2
      go_meet
      exact ⟨by first | rfl | simp, Below.refl _ _⟩
    obtain ⟨u3, v3⟩ := int_eqb h3
    have H3 := Lib.hid h3
    clear h3
    by_cases h4 : a.tm = b.tm
    rotate_left
    · have hf := HHN.out fun k => h4 k.2.2.2.2.1
      subst hf
      obtain ⟨e1, e2⟩ := int_neb h4
      clear h4
      clear x8 y8 x11 y11 x2 y2 x3 y3 x10 y10 x4 y4 x9 y9
      clear HPH HRM HCA HCB HA HB HBA HBB hfa hfb HHN HHD H0 H1 H2 H3
      go_wp2
      go_meet
      exact ⟨by first | rfl | simp, Below.refl _ _⟩
    obtain ⟨u4, v4⟩ := int_eqb h4
    have H4 := Lib.hid h4
    clear h4
    by_cases h5 : a.recv = b.recv
    rotate_left
    · have hf := HHN.out fun k => h5 k.2.2.2.2.2.1
      subst hf
      obtain ⟨e1, e2⟩ := str_neb h5
      clear h5
      clear x11 y11 x2 y2 x3 y3 x10 y10 x4 y4 x9 y9
      clear HPH HRM HCA HCB HA HB HBA HBB hfa hfb HHN HHD H0 H1 H2 H3 H4
      go_wp2
      go_meet
      exact ⟨by first | rfl | simp, Below.refl _ _⟩
    obtain ⟨u5, v5⟩ := str_eqb h5
    have H5 := Lib.hid h5
    clear h5
    by_cases h6 : a.queued = b.queued
    rotate_left
    · have hf := HHN.out fun k => h6 k.2.2.2.2.2.2.1
      subst hf
      obtain ⟨e1, e2⟩ := bool_neb h6
      clear h6
      clear x2 y2 x3 y3 x10 y10 x4 y4 x9 y9
      clear HPH HRM HCA HCB HA HB HBA HBB hfa hfb HHN HHD H0 H1 H2 H3 H4 H5
      go_wp2
      go_meet
      exact ⟨by first | rfl | simp, Below.refl _ _⟩
    obtain ⟨u6, v6⟩ := bool_eqb h6
    have H6 := Lib.hid h6
    clear h6
    by_cases h7 : AN = BN
    rotate_left
    · have hf := HHN.out fun k => h7 (by have := k.2.2.2.2.2.2.2.1; rw [HAN.out, HBN.out] at this; exact this)
      subst hf
      obtain ⟨e1, e2⟩ := int_neb (show (AN : Int) ≠ (BN : Int) by omega)
      clear h7
      clear x3 y3 x10 y10 x4 y4 x9 y9
      clear HPH HRM HCA HCB HA HB HBA HBB hfa hfb HHN HHD H0 H1 H2 H3 H4 H5 H6
      go_wp2
      go_meet
      exact ⟨by first | rfl | simp, Below.refl _ _⟩
    obtain ⟨u7, v7⟩ := int_eqb (show (AN : Int) = (BN : Int) by omega)
    have H7 := Lib.hid h7
    clear h7
    by_cases h8 : AS = BS
    rotate_left
    · have hf := HHN.out fun k => h8 (by have := k.2.2.2.2.2.2.2.2.1; rw [HAS.out, HBS.out] at this; exact this)
      subst hf
      obtain ⟨e1, e2⟩ := int_neb (show (AS : Int) ≠ (BS : Int) by omega)
      clear h8
      clear x10 y10 x4 y4 x9 y9
      clear HPH HRM HCA HCB HA HB HBA HBB hfa hfb HHN HHD H0 H1 H2 H3 H4 H5 H6 H7
      go_wp2
      go_meet
      exact ⟨by first | rfl | simp, Below.refl _ _⟩
    obtain ⟨u8, v8⟩ := int_eqb (show (AS : Int) = (BS : Int) by omega)
    have H8 := Lib.hid h8
    clear h8
    by_cases h9 : AX = BX
    rotate_left
    · have hf := HHN.out fun k => h9 (by have := k.2.2.2.2.2.2.2.2.2.1; rw [HAX.out, HBX.out] at this; exact this)
      subst hf
      obtain ⟨e1, e2⟩ := int_neb (show (AX : Int) ≠ (BX : Int) by omega)
      clear h9
      clear x4 y4 x9 y9
      clear HPH HRM HCA HCB HA HB HBA HBB hfa hfb HHN HHD H0 H1 H2 H3 H4 H5 H6 H7 H8
      go_wp2
      go_meet
      exact ⟨by first | rfl | simp, Below.refl _ _⟩
    obtain ⟨u9, v9⟩ := int_eqb (show (AX : Int) = (BX : Int) by omega)
    have H9 := Lib.hid h9
    clear h9
    by_cases h10 : a.phones = b.phones
    rotate_left
    · have hf := HHN.out fun k => h10 k.2.2.2.2.2.2.2.2.2.2.1
      subst hf
      rw [decide_eq_false h10] at HPH
      clear h10
      go_wp2_with (first
        | (go_at_call 35; (with_reducible refine (HPH.out _ HBW.out).mono ?_); rintro e w9 ⟨rfl, hb9⟩; obtain ⟨_, _, _, _, z9⟩ := HCA.out w9 hb9; obtain ⟨_, _, _, _, t9⟩ := HCB.out w9 hb9))
      go_meet
      exact ⟨by first | rfl | simp, hb9⟩
    rw [decide_eq_true h10] at HPH
    have H10 := Lib.hid h10
    clear h10
    by_cases h11 : a.remarks = b.remarks
    rotate_left
    · have hf := HHN.out fun k => h11 k.2.2.2.2.2.2.2.2.2.2.2
      subst hf
      rw [decide_eq_false h11] at HRM
      clear h11
      go_wp2_with (first
        | (go_at_call 35; (with_reducible refine (HPH.out _ HBW.out).mono ?_); rintro e w9 ⟨rfl, hb9⟩; obtain ⟨_, _, _, _, z9⟩ := HCA.out w9 hb9; obtain ⟨_, _, _, _, t9⟩ := HCB.out w9 hb9)
        | (go_at_call 35; (with_reducible refine (HRM.out _ (HBW.out.trans (hb9.mono HBW.out.size))).mono ?_); rintro e w10 ⟨rfl, hb10⟩))
      go_meet
      exact ⟨by first | rfl | simp, bel_trans hb9 hb10⟩
    rw [decide_eq_true h11] at HRM
    have H11 := Lib.hid h11
    clear h11
    have ht : hd = true := HHD.out.2 ⟨H0.out, H1.out, H2.out, H3.out, H4.out, H5.out, H6.out, by rw [HAN.out, HBN.out]; exact H7.out, by rw [HAS.out, HBS.out]; exact H8.out, by rw [HAX.out, HBX.out]; exact H9.out, H10.out, H11.out⟩
    subst ht
    go_wp2_with (first
      | (go_at_call 35; (with_reducible refine (HPH.out _ HBW.out).mono ?_); rintro e w9 ⟨rfl, hb9⟩; obtain ⟨_, _, _, _, z9⟩ := HCA.out w9 hb9; obtain ⟨_, _, _, _, t9⟩ := HCB.out w9 hb9)
      | (go_at_call 35; (with_reducible refine (HRM.out _ (HBW.out.trans (hb9.mono HBW.out.size))).mono ?_); rintro e w10 ⟨rfl, hb10⟩))
    go_meet
    exact ⟨by first | rfl | simp, bel_trans hb9 hb10⟩
  case rest =>
    obtain ⟨rfl, hbx⟩ := hcut
    rename World => wx
    have HWX := Lib.hid hbx
    clear hbx x0 x1 x2 x3 x4 x5 x6 x7 x8 x9 x10 x11 y0 y1 y2 y3 y4 y5 y6 y7 y8 y9 y10 y11 HPH HRM
    cases hd with
    | false =>
      have HF := Lib.hid (HNO.out fun k => by have := HHD.out.2 k; cases this)
      go_wp2
      go_ret
      exact ⟨ret_bool HF.out.symm, below_w HBW.out HWX.out⟩
    | true =>
      have HH := Lib.hid (HHD.out.1 rfl)
      obtain rfl : AN = BN := by have := HH.out.2.2.2.2.2.2.2.1; rw [HAN.out, HBN.out] at this; exact this
      obtain rfl : AS = BS := by have := HH.out.2.2.2.2.2.2.2.2.1; rw [HAS.out, HBS.out] at this; exact this
      obtain rfl : AX = BX := by have := HH.out.2.2.2.2.2.2.2.2.2.1; rw [HAX.out, HBX.out] at this; exact this
      clear HHD HNO
      obtain ⟨c2, c3, c10, _⟩ := HCA.out wx HWX.out
      obtain ⟨d2, d3, d10, _⟩ := HCB.out wx HWX.out
      go_wp2
      go_loopg [5] AN (fun g0 s5 wq => ∃ i : Nat, i ≤ AN ∧ g0 = AN - i ∧ s5 = .int .i64 (i : Int) ∧ a.names.take i = b.names.take i ∧ Below w2.heap.size w2 wq)
      case atStart => exact ⟨0, Nat.zero_le _, rfl, rfl, rfl, HWX.out⟩
      case round =>
        obtain ⟨i, hiN, rfl, rfl, htk, hbr⟩ := hrel
        have HTK := Lib.hid htk
        have HBR := Lib.hid hbr
        clear htk hbr c2 c3 c10 d2 d3 d10
        obtain ⟨c2, c3, c10, _⟩ := HCA.out _ HBR.out
        obtain ⟨d2, d3, d10, _⟩ := HCB.out _ HBR.out
        by_cases hlt : i < AN
        · have hii : (i : Int) < (AN : Int) := by omega
          have hi0 : (0 : Int) ≤ (i : Int) := by omega
          have hi1 : i < a.names.length := by rw [HAN.out]; exact hlt
          have hi2 : i < b.names.length := by rw [HBN.out]; exact hlt
          obtain ⟨bb, of1, rfl, _, g0, g1⟩ := name_at (HA.out.n.mono HBR.out) hi1
          obtain ⟨bc, of2, rfl, _, k0, k1⟩ := name_at (HB.out.n.mono HBR.out) hi2
          have HNX : RowKit.Hid (a.names.getD i nm0 = b.names.getD i nm0 → a.names.take (i + 1) = b.names.take (i + 1)) := Lib.hid (take_next nm0 hi1 hi2 HTK.out)
          have HNE2 : RowKit.Hid (a.names.getD i nm0 ≠ b.names.getD i nm0 → sb = false) := Lib.hid fun h => HNE.out fun k => h (by rw [k])
          generalize a.names.getD i nm0 = x at *
          generalize b.names.getD i nm0 = y at *
          obtain ⟨xlast, xfirst⟩ := x
          obtain ⟨ylast, yfirst⟩ := y
          simp only at g0 k0 g1 k1
          go_upto_region 6 with fail
          by_cases e0 : xlast = ylast
          rotate_left
          · obtain ⟨f1, f2⟩ := str_neb e0
            have HF := Lib.hid (HNE2.out fun h => e0 (by injection h))
            clear e0
            go_quiet (fail)
            go_wp2
            go_ret
            exact ⟨ret_bool HF.out.symm, below_w HBW.out (below_drewN HBR.out _)⟩
          obtain ⟨u0, v0⟩ := str_eqb e0
          have E0 := Lib.hid e0
          clear e0
          by_cases e1 : xfirst = yfirst
          rotate_left
          · obtain ⟨f1, f2⟩ := str_neb e1
            have HF := Lib.hid (HNE2.out fun h => e1 (by injection h))
            clear e1
            go_quiet (fail)
            go_wp2
            go_ret
            exact ⟨ret_bool HF.out.symm, below_w HBW.out (below_drewN HBR.out _)⟩
          obtain ⟨u1, v1⟩ := str_eqb e1
          have E1 := Lib.hid e1
          clear e1
          have HT := Lib.hid (HNX.out (by rw [E0.out, E1.out]))
          go_quiet (fail)
          go_wp2
          go_roundg (AN - (i + 1))
          case measure => omega
          case rel => exact ⟨i + 1, by omega, rfl, by go_num, HT.out, below_drewN HBR.out _⟩
        · have hie : i = AN := by omega
          subst hie
          have hii : ¬ (i : Int) < (i : Int) := by omega
          have Hnames : RowKit.Hid (a.names = b.names) := Lib.hid (by have := HTK.out; rwa [List.take_of_length_le (by rw [HAN.out]; exact Nat.le_refl _), List.take_of_length_le (by rw [HBN.out]; exact Nat.le_refl _)] at this)
          clear c2 c3 c10 d2 d3 d10 HTK
          obtain ⟨c2, c3, c10, _⟩ := HCA.out _ HBR.out
          obtain ⟨d2, d3, d10, _⟩ := HCB.out _ HBR.out
          go_wp2
          go_loopg [6] AS (fun g0 s6 wq => ∃ i : Nat, i ≤ AS ∧ g0 = AS - i ∧ s6 = .int .i64 (i : Int) ∧ a.segs.take i = b.segs.take i ∧ Below w2.heap.size w2 wq)
          case atStart => exact ⟨0, Nat.zero_le _, rfl, rfl, rfl, HBR.out⟩
          case round =>
            obtain ⟨i, hiN, rfl, rfl, htk, hbr⟩ := hrel
            have HTK := Lib.hid htk
            have HBR := Lib.hid hbr
            clear htk hbr c2 c3 c10 d2 d3 d10
            obtain ⟨c2, c3, c10, _⟩ := HCA.out _ HBR.out
            obtain ⟨d2, d3, d10, _⟩ := HCB.out _ HBR.out
            by_cases hlt : i < AS
            · have hii : (i : Int) < (AS : Int) := by omega
              have hi0 : (0 : Int) ≤ (i : Int) := by omega
              have hi1 : i < a.segs.length := by rw [HAS.out]; exact hlt
              have hi2 : i < b.segs.length := by rw [HBS.out]; exact hlt
              obtain ⟨bb, of1, rfl, _, g0, g1, g2, g3, g4⟩ := seg_at (HA.out.s.mono HBR.out) hi1
              obtain ⟨bc, of2, rfl, _, k0, k1, k2, k3, k4⟩ := seg_at (HB.out.s.mono HBR.out) hi2
              have HNX : RowKit.Hid (a.segs.getD i sg0 = b.segs.getD i sg0 → a.segs.take (i + 1) = b.segs.take (i + 1)) := Lib.hid (take_next sg0 hi1 hi2 HTK.out)
              have HNE2 : RowKit.Hid (a.segs.getD i sg0 ≠ b.segs.getD i sg0 → sb = false) := Lib.hid fun h => HNE.out fun k => h (by rw [k])
              generalize a.segs.getD i sg0 = x at *
              generalize b.segs.getD i sg0 = y at *
              obtain ⟨xcar, xnum, xday, xcls, xlive⟩ := x
              obtain ⟨ycar, ynum, yday, ycls, ylive⟩ := y
              simp only at g0 k0 g1 k1 g2 k2 g3 k3 g4 k4
              go_upto_region 11 with fail
              by_cases e0 : xcar = ycar
              rotate_left
              · obtain ⟨f1, f2⟩ := str_neb e0
                have HF := Lib.hid (HNE2.out fun h => e0 (by injection h))
                clear e0
                go_quiet (fail)
                go_wp2
                go_ret
                exact ⟨ret_bool HF.out.symm, below_w HBW.out (below_drewN HBR.out _)⟩
              obtain ⟨u0, v0⟩ := str_eqb e0
              have E0 := Lib.hid e0
              clear e0
              by_cases e1 : xnum = ynum
              rotate_left
              · obtain ⟨f1, f2⟩ := int_neb e1
                have HF := Lib.hid (HNE2.out fun h => e1 (by injection h))
                clear e1
                go_quiet (fail)
                go_wp2
                go_ret
                exact ⟨ret_bool HF.out.symm, below_w HBW.out (below_drewN HBR.out _)⟩
              obtain ⟨u1, v1⟩ := int_eqb e1
              have E1 := Lib.hid e1
              clear e1
              by_cases e2 : xday = yday
              rotate_left
              · obtain ⟨f1, f2⟩ := int_neb e2
                have HF := Lib.hid (HNE2.out fun h => e2 (by injection h))
                clear e2
                go_quiet (fail)
                go_wp2
                go_ret
                exact ⟨ret_bool HF.out.symm, below_w HBW.out (below_drewN HBR.out _)⟩
              obtain ⟨u2, v2⟩ := int_eqb e2
              have E2 := Lib.hid e2
              clear e2
              by_cases e3 : (xcls.toNat : Int) = (ycls.toNat : Int)
              rotate_left
              · obtain ⟨f1, f2⟩ := int_neb e3
                have HF := Lib.hid (HNE2.out fun h => e3 (by injection h; simp [*]))
                clear e3
                go_quiet (fail)
                go_wp2
                go_ret
                exact ⟨ret_bool HF.out.symm, below_w HBW.out (below_drewN HBR.out _)⟩
              obtain ⟨u3, v3⟩ := int_eqb e3
              have E3 := Lib.hid e3
              clear e3
              by_cases e4 : xlive = ylive
              rotate_left
              · obtain ⟨f1, f2⟩ := bool_neb e4
                have HF := Lib.hid (HNE2.out fun h => e4 (by injection h))
                clear e4
                go_quiet (fail)
                go_wp2
                go_ret
                exact ⟨ret_bool HF.out.symm, below_w HBW.out (below_drewN HBR.out _)⟩
              obtain ⟨u4, v4⟩ := bool_eqb e4
              have E4 := Lib.hid e4
              clear e4
              have HT := Lib.hid (HNX.out (by rw [E0.out, E1.out, E2.out, show xcls = ycls from UInt8.toNat_inj.1 (by have := E3.out; omega), E4.out]))
              go_quiet (fail)
              go_wp2
              go_roundg (AS - (i + 1))
              case measure => omega
              case rel => exact ⟨i + 1, by omega, rfl, by go_num, HT.out, below_drewN HBR.out _⟩
            · have hie : i = AS := by omega
              subst hie
              have hii : ¬ (i : Int) < (i : Int) := by omega
              have Hsegs : RowKit.Hid (a.segs = b.segs) := Lib.hid (by have := HTK.out; rwa [List.take_of_length_le (by rw [HAS.out]; exact Nat.le_refl _), List.take_of_length_le (by rw [HBS.out]; exact Nat.le_refl _)] at this)
              clear c2 c3 c10 d2 d3 d10 HTK
              obtain ⟨c2, c3, c10, _⟩ := HCA.out _ HBR.out
              obtain ⟨d2, d3, d10, _⟩ := HCB.out _ HBR.out
              go_wp2
              go_loopg [7] AX (fun g0 s7 wq => ∃ i : Nat, i ≤ AX ∧ g0 = AX - i ∧ s7 = .int .i64 (i : Int) ∧ a.seats.take i = b.seats.take i ∧ Below w2.heap.size w2 wq)
              case atStart => exact ⟨0, Nat.zero_le _, rfl, rfl, rfl, HBR.out⟩
              case round =>
                obtain ⟨i, hiN, rfl, rfl, htk, hbr⟩ := hrel
                have HTK := Lib.hid htk
                have HBR := Lib.hid hbr
                clear htk hbr c2 c3 c10 d2 d3 d10
                obtain ⟨c2, c3, c10, _⟩ := HCA.out _ HBR.out
                obtain ⟨d2, d3, d10, _⟩ := HCB.out _ HBR.out
                by_cases hlt : i < AX
                · have hii : (i : Int) < (AX : Int) := by omega
                  have hi0 : (0 : Int) ≤ (i : Int) := by omega
                  have hi1 : i < a.seats.length := by rw [HAX.out]; exact hlt
                  have hi2 : i < b.seats.length := by rw [HBX.out]; exact hlt
                  obtain ⟨bb, of1, rfl, _, g0, g1, g2, g3⟩ := place_at (HA.out.x.mono HBR.out) hi1
                  obtain ⟨bc, of2, rfl, _, k0, k1, k2, k3⟩ := place_at (HB.out.x.mono HBR.out) hi2
                  have HNX : RowKit.Hid (a.seats.getD i pl0 = b.seats.getD i pl0 → a.seats.take (i + 1) = b.seats.take (i + 1)) := Lib.hid (take_next pl0 hi1 hi2 HTK.out)
                  have HNE2 : RowKit.Hid (a.seats.getD i pl0 ≠ b.seats.getD i pl0 → sb = false) := Lib.hid fun h => HNE.out fun k => h (by rw [k])
                  generalize a.seats.getD i pl0 = x at *
                  generalize b.seats.getD i pl0 = y at *
                  obtain ⟨xseg, xpax, xrow, xc⟩ := x
                  obtain ⟨yseg, ypax, yrow, yc⟩ := y
                  simp only at g0 k0 g1 k1 g2 k2 g3 k3
                  go_upto_region 16 with fail
                  by_cases e0 : xseg = yseg
                  rotate_left
                  · obtain ⟨f1, f2⟩ := int_neb e0
                    have HF := Lib.hid (HNE2.out fun h => e0 (by injection h))
                    clear e0
                    go_quiet (fail)
                    go_wp2
                    go_ret
                    exact ⟨ret_bool HF.out.symm, below_w HBW.out (below_drewN HBR.out _)⟩
                  obtain ⟨u0, v0⟩ := int_eqb e0
                  have E0 := Lib.hid e0
                  clear e0
                  by_cases e1 : xpax = ypax
                  rotate_left
                  · obtain ⟨f1, f2⟩ := int_neb e1
                    have HF := Lib.hid (HNE2.out fun h => e1 (by injection h))
                    clear e1
                    go_quiet (fail)
                    go_wp2
                    go_ret
                    exact ⟨ret_bool HF.out.symm, below_w HBW.out (below_drewN HBR.out _)⟩
                  obtain ⟨u1, v1⟩ := int_eqb e1
                  have E1 := Lib.hid e1
                  clear e1
                  by_cases e2 : xrow = yrow
                  rotate_left
                  · obtain ⟨f1, f2⟩ := int_neb e2
                    have HF := Lib.hid (HNE2.out fun h => e2 (by injection h))
                    clear e2
                    go_quiet (fail)
                    go_wp2
                    go_ret
                    exact ⟨ret_bool HF.out.symm, below_w HBW.out (below_drewN HBR.out _)⟩
                  obtain ⟨u2, v2⟩ := int_eqb e2
                  have E2 := Lib.hid e2
                  clear e2
                  by_cases e3 : (xc.toNat : Int) = (yc.toNat : Int)
                  rotate_left
                  · obtain ⟨f1, f2⟩ := int_neb e3
                    have HF := Lib.hid (HNE2.out fun h => e3 (by injection h; simp [*]))
                    clear e3
                    go_quiet (fail)
                    go_wp2
                    go_ret
                    exact ⟨ret_bool HF.out.symm, below_w HBW.out (below_drewN HBR.out _)⟩
                  obtain ⟨u3, v3⟩ := int_eqb e3
                  have E3 := Lib.hid e3
                  clear e3
                  have HT := Lib.hid (HNX.out (by rw [E0.out, E1.out, E2.out, show xc = yc from UInt8.toNat_inj.1 (by have := E3.out; omega)]))
                  go_quiet (fail)
                  go_wp2
                  go_roundg (AX - (i + 1))
                  case measure => omega
                  case rel => exact ⟨i + 1, by omega, rfl, by go_num, HT.out, below_drewN HBR.out _⟩
                · have hie : i = AX := by omega
                  subst hie
                  have hii : ¬ (i : Int) < (i : Int) := by omega
                  have Hseats : RowKit.Hid (a.seats = b.seats) := Lib.hid (by have := HTK.out; rwa [List.take_of_length_le (by rw [HAX.out]; exact Nat.le_refl _), List.take_of_length_le (by rw [HBX.out]; exact Nat.le_refl _)] at this)
                  have HT := Lib.hid (HYES.out HH.out Hnames.out Hsegs.out Hseats.out)
                  go_wp2
                  go_ret
                  exact ⟨ret_bool HT.out.symm, below_w HBW.out HBR.out⟩
end Go.Proofs.YtmhhbnnjilbdnaaGreatDoor
