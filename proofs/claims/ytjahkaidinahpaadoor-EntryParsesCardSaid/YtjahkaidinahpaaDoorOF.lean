/- Entries: the reference's seats and parts (printed by gen_rparts.py). -/
import Derived.Test.YtjahkaidinahpaaDoorOE
namespace Go.Proofs.YtjahkaidinahpaaDoor.En
open Go.RowKit
set_option linter.unusedSimpArgs false
set_option linter.unusedVariables false
set_option maxRecDepth 20000

theorem RS.setKind {w : World} {b : Nat} {s : ByteArray} {p : Nat} {c : CmdT} {x : ErrS} (h : RS w b s p c x) (t : Int) : RS (w.setCell ⟨b, 2, none⟩ (.int .i64 t)) b s p { c with kind := t } x := Blk.set h 2 (.int .i64 t)
theorem RS.setText {w : World} {b : Nat} {s : ByteArray} {p : Nat} {c : CmdT} {x : ErrS} (h : RS w b s p c x) (t : List UInt8) : RS (w.setCell ⟨b, 3, none⟩ (txV t)) b s p { c with text := t } x := Blk.set h 3 (txV t)
theorem RS.setOffice {w : World} {b : Nat} {s : ByteArray} {p : Nat} {c : CmdT} {x : ErrS} (h : RS w b s p c x) (t : List UInt8) : RS (w.setCell ⟨b, 4, none⟩ (txV t)) b s p { c with office := t } x := Blk.set h 4 (txV t)
theorem RS.setDay {w : World} {b : Nat} {s : ByteArray} {p : Nat} {c : CmdT} {x : ErrS} (h : RS w b s p c x) (t : Int) : RS (w.setCell ⟨b, 5, none⟩ (.int .i64 t)) b s p { c with day := t } x := Blk.set h 5 (.int .i64 t)
theorem RS.setSrc {w : World} {b : Nat} {s : ByteArray} {p : Nat} {c : CmdT} {x : ErrS} (h : RS w b s p c x) (t : List UInt8) : RS (w.setCell ⟨b, 6, none⟩ (txV t)) b s p { c with src := t } x := Blk.set h 6 (txV t)
theorem RS.setDst {w : World} {b : Nat} {s : ByteArray} {p : Nat} {c : CmdT} {x : ErrS} (h : RS w b s p c x) (t : List UInt8) : RS (w.setCell ⟨b, 7, none⟩ (txV t)) b s p { c with dst := t } x := Blk.set h 7 (txV t)
theorem RS.setMinute {w : World} {b : Nat} {s : ByteArray} {p : Nat} {c : CmdT} {x : ErrS} (h : RS w b s p c x) (t : Int) : RS (w.setCell ⟨b, 8, none⟩ (.int .i64 t)) b s p { c with minute := t } x := Blk.set h 8 (.int .i64 t)
theorem RS.setLast {w : World} {b : Nat} {s : ByteArray} {p : Nat} {c : CmdT} {x : ErrS} (h : RS w b s p c x) (t : List UInt8) : RS (w.setCell ⟨b, 9, none⟩ (txV t)) b s p { c with last := t } x := Blk.set h 9 (txV t)
theorem RS.setFirst {w : World} {b : Nat} {s : ByteArray} {p : Nat} {c : CmdT} {x : ErrS} (h : RS w b s p c x) (t : List UInt8) : RS (w.setCell ⟨b, 10, none⟩ (txV t)) b s p { c with first := t } x := Blk.set h 10 (txV t)
theorem RS.setN {w : World} {b : Nat} {s : ByteArray} {p : Nat} {c : CmdT} {x : ErrS} (h : RS w b s p c x) (t : Int) : RS (w.setCell ⟨b, 11, none⟩ (.int .i64 t)) b s p { c with n := t } x := Blk.set h 11 (.int .i64 t)
theorem RS.setPax {w : World} {b : Nat} {s : ByteArray} {p : Nat} {c : CmdT} {x : ErrS} (h : RS w b s p c x) (t : Int) : RS (w.setCell ⟨b, 12, none⟩ (.int .i64 t)) b s p { c with pax := t } x := Blk.set h 12 (.int .i64 t)
theorem RS.setCls {w : World} {b : Nat} {s : ByteArray} {p : Nat} {c : CmdT} {x : ErrS} (h : RS w b s p c x) (t : UInt8) : RS (w.setCell ⟨b, 13, none⟩ (.int .u8 t.toNat)) b s p { c with cls := t } x := Blk.set h 13 (.int .u8 t.toNat)
theorem RS.setLine {w : World} {b : Nat} {s : ByteArray} {p : Nat} {c : CmdT} {x : ErrS} (h : RS w b s p c x) (t : Int) : RS (w.setCell ⟨b, 14, none⟩ (.int .i64 t)) b s p { c with line := t } x := Blk.set h 14 (.int .i64 t)
theorem RS.kind_ {w : World} {b : Nat} {s : ByteArray} {p : Nat} {c : CmdT} {x : ErrS} (h : RS w b s p c x) : w.cell? ⟨b, 2, none⟩ = some (.int .i64 c.kind) := Blk.cell h 2
theorem RS.text_ {w : World} {b : Nat} {s : ByteArray} {p : Nat} {c : CmdT} {x : ErrS} (h : RS w b s p c x) : w.cell? ⟨b, 3, none⟩ = some (txV c.text) := Blk.cell h 3
theorem RS.office_ {w : World} {b : Nat} {s : ByteArray} {p : Nat} {c : CmdT} {x : ErrS} (h : RS w b s p c x) : w.cell? ⟨b, 4, none⟩ = some (txV c.office) := Blk.cell h 4
theorem RS.day_ {w : World} {b : Nat} {s : ByteArray} {p : Nat} {c : CmdT} {x : ErrS} (h : RS w b s p c x) : w.cell? ⟨b, 5, none⟩ = some (.int .i64 c.day) := Blk.cell h 5
theorem RS.src_ {w : World} {b : Nat} {s : ByteArray} {p : Nat} {c : CmdT} {x : ErrS} (h : RS w b s p c x) : w.cell? ⟨b, 6, none⟩ = some (txV c.src) := Blk.cell h 6
theorem RS.dst_ {w : World} {b : Nat} {s : ByteArray} {p : Nat} {c : CmdT} {x : ErrS} (h : RS w b s p c x) : w.cell? ⟨b, 7, none⟩ = some (txV c.dst) := Blk.cell h 7
theorem RS.minute_ {w : World} {b : Nat} {s : ByteArray} {p : Nat} {c : CmdT} {x : ErrS} (h : RS w b s p c x) : w.cell? ⟨b, 8, none⟩ = some (.int .i64 c.minute) := Blk.cell h 8
theorem RS.last_ {w : World} {b : Nat} {s : ByteArray} {p : Nat} {c : CmdT} {x : ErrS} (h : RS w b s p c x) : w.cell? ⟨b, 9, none⟩ = some (txV c.last) := Blk.cell h 9
theorem RS.first_ {w : World} {b : Nat} {s : ByteArray} {p : Nat} {c : CmdT} {x : ErrS} (h : RS w b s p c x) : w.cell? ⟨b, 10, none⟩ = some (txV c.first) := Blk.cell h 10
theorem RS.n_ {w : World} {b : Nat} {s : ByteArray} {p : Nat} {c : CmdT} {x : ErrS} (h : RS w b s p c x) : w.cell? ⟨b, 11, none⟩ = some (.int .i64 c.n) := Blk.cell h 11
theorem RS.pax_ {w : World} {b : Nat} {s : ByteArray} {p : Nat} {c : CmdT} {x : ErrS} (h : RS w b s p c x) : w.cell? ⟨b, 12, none⟩ = some (.int .i64 c.pax) := Blk.cell h 12
theorem RS.cls_ {w : World} {b : Nat} {s : ByteArray} {p : Nat} {c : CmdT} {x : ErrS} (h : RS w b s p c x) : w.cell? ⟨b, 13, none⟩ = some (.int .u8 c.cls.toNat) := Blk.cell h 13
theorem RS.line_ {w : World} {b : Nat} {s : ByteArray} {p : Nat} {c : CmdT} {x : ErrS} (h : RS w b s p c x) : w.cell? ⟨b, 14, none⟩ = some (.int .i64 c.line) := Blk.cell h 14
theorem RS.setSeat {w : World} {b : Nat} {s : ByteArray} {p : Nat} {c : CmdT} {x : ErrS} (h : RS w b s p c x) (r : Int) (y : UInt8) : RS ((w.setCell ⟨b, 15, none⟩ (.int .i64 r)).setCell ⟨b, 16, none⟩ (.int .u8 y.toNat)) b s p { c with row := r, c := y } x := Blk.set (Blk.set h 15 (.int .i64 r)) 16 (.int .u8 y.toNat)
theorem RS.row_ {w : World} {b : Nat} {s : ByteArray} {p : Nat} {c : CmdT} {x : ErrS} (h : RS w b s p c x) : w.cell? ⟨b, 15, none⟩ = some (.int .i64 c.row) := Blk.cell h 15
theorem RS.let_ {w : World} {b : Nat} {s : ByteArray} {p : Nat} {c : CmdT} {x : ErrS} (h : RS w b s p c x) : w.cell? ⟨b, 16, none⟩ = some (.int .u8 c.c.toNat) := Blk.cell h 16

/-- What the reference comes to. -/
def OutR (b : Nat) (s : ByteArray) (W : World) (r : CmdT × Nat × ErrS) (e : Ending) (w' : World) : Prop := e = .returned (.tuple #[]) ∧ RS w' b s r.2.1 r.1 r.2.2 ∧ r.2.1 ≤ s.size ∧ Below b W w'
theorem outR {b : Nat} {s : ByteArray} {W w' : World} {r : CmdT × Nat × ErrS} {c : CmdT} {q : Nat} {x : ErrS} (h : r = (c, q, x)) (h1 : RS w' b s q c x) (hq : q ≤ s.size) (h2 : Below b W w') : OutR b s W r (.returned (.tuple #[])) w' := by
  subst h; exact ⟨rfl, h1, hq, h2⟩
theorem bl3h {w w1 w2 : World} {b : Nat} (h : RowKit.Hid (Below b w w1)) (k : RowKit.Hid (Below b w1 w2)) : RowKit.Hid (Below b w w2) := Lib.hid (h.out.trans k.out)
theorem lsh {w w' : World} {b : Nat} (h : RowKit.Hid (Below b w w')) (j : Nat) (v : Value) : RowKit.Hid (Below b w (w'.setCell ⟨b, j, none⟩ v)) := Lib.hid (low_set h.out j v)

set_option maxHeartbeats 4000000 in
theorem rparts_in (b : Nat) (s : ByteArray) (p : Nat) (x : ErrS) (w : World) (hs : s.size ≤ maxLen) (hp : p ≤ s.size) (hc : RS w b s p (cmdK 1) x) :
    Calls Tryd.prog 66 #[.pointer (some ⟨b, 0, none⟩)] w (OutR b s w (rIn (toL s) p x)) := by
  have HT1 : RowKit.Hid (∀ q c x W, q ≤ s.size → RS W b s q c x → _) := Lib.hid (rtext_t (b := b) hs 1 (by decide))
  have HS47 : RowKit.Hid (∀ q c x W, q ≤ s.size → RS W b s q c x → _) := Lib.hid (rsign_t (b := b) hs 47 47 rfl)
  have HT2 : RowKit.Hid (∀ q c x W, q ≤ s.size → RS W b s q c x → _) := Lib.hid (rtext_t (b := b) hs 2 (by decide))
  have hB0 := Lib.hid (Below.refl b w)
  have k2 : w.cell? ⟨b, 2, none⟩ = some (.int .i64 1) := hc.kind_
  go_enter Tryd.func66, Tryd.ntmps66
  go_wp2_with (first
    | (go_at_call 139; (with_reducible refine (HT1.out _ _ _ _ hp hc).mono ?_); rintro e w1 ⟨v1, q1, y1, h1, hq1, rfl, hc1, hx1⟩; have hb1 := bl3h hB0 hx1; have kf1 := hc1.frozen 3; have kc1 := hc1.text_; have hd1 := hc1.setText v1; have hB1 := lsh hb1 3 (txV v1))
    | (go_at_call 140; (with_reducible refine (HS47.out _ _ _ _ hq1 hd1).mono ?_); rintro e w2 ⟨q2, y2, h2, hq2, rfl, hc2, hx2⟩; have hb2 := bl3h hB1 hx2; have hd2 := hc2; have hB2 := hb2)
    | (go_at_call 139; (with_reducible refine (HT2.out _ _ _ _ hq2 hd2).mono ?_); rintro e w3 ⟨v3, q3, y3, h3, hq3, rfl, hc3, hx3⟩; have hb3 := bl3h hB2 hx3; have kf3 := hc3.frozen 4; have kc3 := hc3.office_; have hd3 := hc3.setOffice v3; have hB3 := lsh hb3 4 (txV v3)))
  go_end0
  exact outR (by unfold rIn; simp only [Rd.bind, Rd.pure, h1.out, h2.out, h3.out]) hd3 hq3 hB3.out

set_option maxHeartbeats 4000000 in
theorem rparts_avail (b : Nat) (s : ByteArray) (p : Nat) (x : ErrS) (w : World) (hs : s.size ≤ maxLen) (hp : p ≤ s.size) (hc : RS w b s p (cmdK 3) x) :
    Calls Tryd.prog 66 #[.pointer (some ⟨b, 0, none⟩)] w (OutR b s w (rAvail (toL s) p x)) := by
  have HDA : RowKit.Hid (∀ q c x W, q ≤ s.size → RS W b s q c x → _) := Lib.hid (rday_t (b := b) hs)
  have HT2 : RowKit.Hid (∀ q c x W, q ≤ s.size → RS W b s q c x → _) := Lib.hid (rtext_t (b := b) hs 2 (by decide))
  have hB0 := Lib.hid (Below.refl b w)
  have k2 : w.cell? ⟨b, 2, none⟩ = some (.int .i64 3) := hc.kind_
  go_enter Tryd.func66, Tryd.ntmps66
  go_wp2_with (first
    | (go_at_call 141; (with_reducible refine (HDA.out _ _ _ _ hp hc).mono ?_); rintro e w1 ⟨v1, q1, y1, h1, hq1, rfl, hc1, hx1⟩; have hb1 := bl3h hB0 hx1; have kf1 := hc1.frozen 5; have kc1 := hc1.day_; have hd1 := hc1.setDay v1; have hB1 := lsh hb1 5 (.int .i64 v1))
    | (go_at_call 139; (with_reducible refine (HT2.out _ _ _ _ hq1 hd1).mono ?_); rintro e w2 ⟨v2, q2, y2, h2, hq2, rfl, hc2, hx2⟩; have hb2 := bl3h hB1 hx2; have kf2 := hc2.frozen 6; have kc2 := hc2.src_; have hd2 := hc2.setSrc v2; have hB2 := lsh hb2 6 (txV v2))
    | (go_at_call 139; (with_reducible refine (HT2.out _ _ _ _ hq2 hd2).mono ?_); rintro e w3 ⟨v3, q3, y3, h3, hq3, rfl, hc3, hx3⟩; have hb3 := bl3h hB2 hx3; have kf3 := hc3.frozen 7; have kc3 := hc3.dst_; have hd3 := hc3.setDst v3; have hB3 := lsh hb3 7 (txV v3)))
  go_end0
  exact outR (by unfold rAvail; simp only [Rd.bind, Rd.pure, h1.out, h2.out, h3.out]) hd3 hq3 hB3.out

set_option maxHeartbeats 4000000 in
theorem rparts_name (b : Nat) (s : ByteArray) (p : Nat) (x : ErrS) (w : World) (hs : s.size ≤ maxLen) (hp : p ≤ s.size) (hc : RS w b s p (cmdK 5) x) :
    Calls Tryd.prog 66 #[.pointer (some ⟨b, 0, none⟩)] w (OutR b s w (rName (toL s) p x)) := by
  have HT3 : RowKit.Hid (∀ q c x W, q ≤ s.size → RS W b s q c x → _) := Lib.hid (rtext_t (b := b) hs 3 (by decide))
  have HS47 : RowKit.Hid (∀ q c x W, q ≤ s.size → RS W b s q c x → _) := Lib.hid (rsign_t (b := b) hs 47 47 rfl)
  have hB0 := Lib.hid (Below.refl b w)
  have k2 : w.cell? ⟨b, 2, none⟩ = some (.int .i64 5) := hc.kind_
  go_enter Tryd.func66, Tryd.ntmps66
  go_wp2_with (first
    | (go_at_call 139; (with_reducible refine (HT3.out _ _ _ _ hp hc).mono ?_); rintro e w1 ⟨v1, q1, y1, h1, hq1, rfl, hc1, hx1⟩; have hb1 := bl3h hB0 hx1; have kf1 := hc1.frozen 9; have kc1 := hc1.last_; have hd1 := hc1.setLast v1; have hB1 := lsh hb1 9 (txV v1))
    | (go_at_call 140; (with_reducible refine (HS47.out _ _ _ _ hq1 hd1).mono ?_); rintro e w2 ⟨q2, y2, h2, hq2, rfl, hc2, hx2⟩; have hb2 := bl3h hB1 hx2; have hd2 := hc2; have hB2 := hb2)
    | (go_at_call 139; (with_reducible refine (HT3.out _ _ _ _ hq2 hd2).mono ?_); rintro e w3 ⟨v3, q3, y3, h3, hq3, rfl, hc3, hx3⟩; have hb3 := bl3h hB2 hx3; have kf3 := hc3.frozen 10; have kc3 := hc3.first_; have hd3 := hc3.setFirst v3; have hB3 := lsh hb3 10 (txV v3)))
  go_end0
  exact outR (by unfold rName; simp only [Rd.bind, Rd.pure, h1.out, h2.out, h3.out]) hd3 hq3 hB3.out

set_option maxHeartbeats 4000000 in
theorem rparts_free6 (b : Nat) (s : ByteArray) (p : Nat) (x : ErrS) (w : World) (hs : s.size ≤ maxLen) (hp : p ≤ s.size) (hc : RS w b s p (cmdK 6) x) :
    Calls Tryd.prog 66 #[.pointer (some ⟨b, 0, none⟩)] w (OutR b s w (rFree 6 (toL s) p x)) := by
  have HT5 : RowKit.Hid (∀ q c x W, q ≤ s.size → RS W b s q c x → _) := Lib.hid (rtext_t (b := b) hs 5 (by decide))
  have hB0 := Lib.hid (Below.refl b w)
  have k2 : w.cell? ⟨b, 2, none⟩ = some (.int .i64 6) := hc.kind_
  go_enter Tryd.func66, Tryd.ntmps66
  go_wp2_with (first
    | (go_at_call 139; (with_reducible refine (HT5.out _ _ _ _ hp hc).mono ?_); rintro e w1 ⟨v1, q1, y1, h1, hq1, rfl, hc1, hx1⟩; have hb1 := bl3h hB0 hx1; have kf1 := hc1.frozen 3; have kc1 := hc1.text_; have hd1 := hc1.setText v1; have hB1 := lsh hb1 3 (txV v1)))
  go_end0
  exact outR (by unfold rFree; simp only [Rd.bind, Rd.pure, h1.out]) hd1 hq1 hB1.out

set_option maxHeartbeats 4000000 in
theorem rparts_free9 (b : Nat) (s : ByteArray) (p : Nat) (x : ErrS) (w : World) (hs : s.size ≤ maxLen) (hp : p ≤ s.size) (hc : RS w b s p (cmdK 9) x) :
    Calls Tryd.prog 66 #[.pointer (some ⟨b, 0, none⟩)] w (OutR b s w (rFree 9 (toL s) p x)) := by
  have HT5 : RowKit.Hid (∀ q c x W, q ≤ s.size → RS W b s q c x → _) := Lib.hid (rtext_t (b := b) hs 5 (by decide))
  have hB0 := Lib.hid (Below.refl b w)
  have k2 : w.cell? ⟨b, 2, none⟩ = some (.int .i64 9) := hc.kind_
  go_enter Tryd.func66, Tryd.ntmps66
  go_wp2_with (first
    | (go_at_call 139; (with_reducible refine (HT5.out _ _ _ _ hp hc).mono ?_); rintro e w1 ⟨v1, q1, y1, h1, hq1, rfl, hc1, hx1⟩; have hb1 := bl3h hB0 hx1; have kf1 := hc1.frozen 3; have kc1 := hc1.text_; have hd1 := hc1.setText v1; have hB1 := lsh hb1 3 (txV v1)))
  go_end0
  exact outR (by unfold rFree; simp only [Rd.bind, Rd.pure, h1.out]) hd1 hq1 hB1.out

set_option maxHeartbeats 4000000 in
theorem rparts_free10 (b : Nat) (s : ByteArray) (p : Nat) (x : ErrS) (w : World) (hs : s.size ≤ maxLen) (hp : p ≤ s.size) (hc : RS w b s p (cmdK 10) x) :
    Calls Tryd.prog 66 #[.pointer (some ⟨b, 0, none⟩)] w (OutR b s w (rFree 10 (toL s) p x)) := by
  have HT5 : RowKit.Hid (∀ q c x W, q ≤ s.size → RS W b s q c x → _) := Lib.hid (rtext_t (b := b) hs 5 (by decide))
  have hB0 := Lib.hid (Below.refl b w)
  have k2 : w.cell? ⟨b, 2, none⟩ = some (.int .i64 10) := hc.kind_
  go_enter Tryd.func66, Tryd.ntmps66
  go_wp2_with (first
    | (go_at_call 139; (with_reducible refine (HT5.out _ _ _ _ hp hc).mono ?_); rintro e w1 ⟨v1, q1, y1, h1, hq1, rfl, hc1, hx1⟩; have hb1 := bl3h hB0 hx1; have kf1 := hc1.frozen 3; have kc1 := hc1.text_; have hd1 := hc1.setText v1; have hB1 := lsh hb1 3 (txV v1)))
  go_end0
  exact outR (by unfold rFree; simp only [Rd.bind, Rd.pure, h1.out]) hd1 hq1 hB1.out

set_option maxHeartbeats 4000000 in
theorem rparts_unseat (b : Nat) (s : ByteArray) (p : Nat) (x : ErrS) (w : World) (hs : s.size ≤ maxLen) (hp : p ≤ s.size) (hc : RS w b s p (cmdK 13) x) :
    Calls Tryd.prog 66 #[.pointer (some ⟨b, 0, none⟩)] w (OutR b s w (rUnseat (toL s) p x)) := by
  have HD8 : RowKit.Hid (∀ q c x W, q ≤ s.size → RS W b s q c x → _) := Lib.hid (rdigit_t (b := b) hs 8)
  have HS45 : RowKit.Hid (∀ q c x W, q ≤ s.size → RS W b s q c x → _) := Lib.hid (rsign_t (b := b) hs 45 45 rfl)
  have HD9 : RowKit.Hid (∀ q c x W, q ≤ s.size → RS W b s q c x → _) := Lib.hid (rdigit_t (b := b) hs 9)
  have hB0 := Lib.hid (Below.refl b w)
  have k2 : w.cell? ⟨b, 2, none⟩ = some (.int .i64 13) := hc.kind_
  go_enter Tryd.func66, Tryd.ntmps66
  go_wp2_with (first
    | (go_at_call 142; (with_reducible refine (HD8.out _ _ _ _ hp hc).mono ?_); rintro e w1 ⟨v1, q1, y1, h1, hq1, rfl, hc1, hx1⟩; have hb1 := bl3h hB0 hx1; have kf1 := hc1.frozen 11; have kc1 := hc1.n_; have hd1 := hc1.setN v1; have hB1 := lsh hb1 11 (.int .i64 v1))
    | (go_at_call 140; (with_reducible refine (HS45.out _ _ _ _ hq1 hd1).mono ?_); rintro e w2 ⟨q2, y2, h2, hq2, rfl, hc2, hx2⟩; have hb2 := bl3h hB1 hx2; have hd2 := hc2; have hB2 := hb2)
    | (go_at_call 142; (with_reducible refine (HD9.out _ _ _ _ hq2 hd2).mono ?_); rintro e w3 ⟨v3, q3, y3, h3, hq3, rfl, hc3, hx3⟩; have hb3 := bl3h hB2 hx3; have kf3 := hc3.frozen 12; have kc3 := hc3.pax_; have hd3 := hc3.setPax v3; have hB3 := lsh hb3 12 (.int .i64 v3)))
  go_end0
  exact outR (by unfold rUnseat; simp only [Rd.bind, Rd.pure, h1.out, h2.out, h3.out]) hd3 hq3 hB3.out

set_option maxHeartbeats 4000000 in
theorem rparts_cancel (b : Nat) (s : ByteArray) (p : Nat) (x : ErrS) (w : World) (hs : s.size ≤ maxLen) (hp : p ≤ s.size) (hc : RS w b s p (cmdK 14) x) :
    Calls Tryd.prog 66 #[.pointer (some ⟨b, 0, none⟩)] w (OutR b s w (rCancel (toL s) p x)) := by
  have HD8 : RowKit.Hid (∀ q c x W, q ≤ s.size → RS W b s q c x → _) := Lib.hid (rdigit_t (b := b) hs 8)
  have hB0 := Lib.hid (Below.refl b w)
  have k2 : w.cell? ⟨b, 2, none⟩ = some (.int .i64 14) := hc.kind_
  go_enter Tryd.func66, Tryd.ntmps66
  go_wp2_with (first
    | (go_at_call 142; (with_reducible refine (HD8.out _ _ _ _ hp hc).mono ?_); rintro e w1 ⟨v1, q1, y1, h1, hq1, rfl, hc1, hx1⟩; have hb1 := bl3h hB0 hx1; have kf1 := hc1.frozen 11; have kc1 := hc1.n_; have hd1 := hc1.setN v1; have hB1 := lsh hb1 11 (.int .i64 v1)))
  go_end0
  exact outR (by unfold rCancel; simp only [Rd.bind, Rd.pure, h1.out]) hd1 hq1 hB1.out

set_option maxHeartbeats 4000000 in
theorem rparts_loc (b : Nat) (s : ByteArray) (p : Nat) (x : ErrS) (w : World) (hs : s.size ≤ maxLen) (hp : p ≤ s.size) (hc : RS w b s p (cmdK 16) x) :
    Calls Tryd.prog 66 #[.pointer (some ⟨b, 0, none⟩)] w (OutR b s w (rLoc (toL s) p x)) := by
  have HT4 : RowKit.Hid (∀ q c x W, q ≤ s.size → RS W b s q c x → _) := Lib.hid (rtext_t (b := b) hs 4 (by decide))
  have hB0 := Lib.hid (Below.refl b w)
  have k2 : w.cell? ⟨b, 2, none⟩ = some (.int .i64 16) := hc.kind_
  go_enter Tryd.func66, Tryd.ntmps66
  go_wp2_with (first
    | (go_at_call 139; (with_reducible refine (HT4.out _ _ _ _ hp hc).mono ?_); rintro e w1 ⟨v1, q1, y1, h1, hq1, rfl, hc1, hx1⟩; have hb1 := bl3h hB0 hx1; have kf1 := hc1.frozen 3; have kc1 := hc1.text_; have hd1 := hc1.setText v1; have hB1 := lsh hb1 3 (txV v1)))
  go_end0
  exact outR (by unfold rLoc; simp only [Rd.bind, Rd.pure, h1.out]) hd1 hq1 hB1.out

set_option maxHeartbeats 4000000 in
theorem rparts_num23 (b : Nat) (s : ByteArray) (p : Nat) (x : ErrS) (w : World) (hs : s.size ≤ maxLen) (hp : p ≤ s.size) (hc : RS w b s p (cmdK 23) x) :
    Calls Tryd.prog 66 #[.pointer (some ⟨b, 0, none⟩)] w (OutR b s w (rNum 23 (toL s) p x)) := by
  have HN0 : RowKit.Hid (∀ q c x W, q ≤ s.size → RS W b s q c x → _) := Lib.hid (rnumber_t (b := b) hs 0 (by decide) 0 rfl)
  have hB0 := Lib.hid (Below.refl b w)
  have k2 : w.cell? ⟨b, 2, none⟩ = some (.int .i64 23) := hc.kind_
  go_enter Tryd.func66, Tryd.ntmps66
  go_wp2_with (first
    | (go_at_call 143; (with_reducible refine (HN0.out _ _ _ _ hp hc).mono ?_); rintro e w1 ⟨v1, q1, y1, h1, hq1, rfl, hc1, hx1⟩; have hb1 := bl3h hB0 hx1; have kf1 := hc1.frozen 11; have kc1 := hc1.n_; have hd1 := hc1.setN v1; have hB1 := lsh hb1 11 (.int .i64 v1)))
  go_end0
  exact outR (by unfold rNum; simp only [Rd.bind, Rd.pure, h1.out]) hd1 hq1 hB1.out

set_option maxHeartbeats 4000000 in
theorem rparts_num24 (b : Nat) (s : ByteArray) (p : Nat) (x : ErrS) (w : World) (hs : s.size ≤ maxLen) (hp : p ≤ s.size) (hc : RS w b s p (cmdK 24) x) :
    Calls Tryd.prog 66 #[.pointer (some ⟨b, 0, none⟩)] w (OutR b s w (rNum 24 (toL s) p x)) := by
  have HN0 : RowKit.Hid (∀ q c x W, q ≤ s.size → RS W b s q c x → _) := Lib.hid (rnumber_t (b := b) hs 0 (by decide) 0 rfl)
  have hB0 := Lib.hid (Below.refl b w)
  have k2 : w.cell? ⟨b, 2, none⟩ = some (.int .i64 24) := hc.kind_
  go_enter Tryd.func66, Tryd.ntmps66
  go_wp2_with (first
    | (go_at_call 143; (with_reducible refine (HN0.out _ _ _ _ hp hc).mono ?_); rintro e w1 ⟨v1, q1, y1, h1, hq1, rfl, hc1, hx1⟩; have hb1 := bl3h hB0 hx1; have kf1 := hc1.frozen 11; have kc1 := hc1.n_; have hd1 := hc1.setN v1; have hB1 := lsh hb1 11 (.int .i64 v1)))
  go_end0
  exact outR (by unfold rNum; simp only [Rd.bind, Rd.pure, h1.out]) hd1 hq1 hB1.out

theorem rTx6_one {l : List UInt8} {q : Nat} {x : ErrS} {t : List UInt8} {q' : Nat} {y : ErrS} (h : rText 6 l q x = (t, q', y)) : t.length ≤ 1 := by
  injection h with h1 h2
  rw [← h1]
  exact tk_size l 1 q
set_option maxHeartbeats 4000000 in
theorem rparts_sell (b : Nat) (s : ByteArray) (p : Nat) (x : ErrS) (w : World) (hs : s.size ≤ maxLen) (hp : p ≤ s.size) (hc : RS w b s p (cmdK 4) x) :
    Calls Tryd.prog 66 #[.pointer (some ⟨b, 0, none⟩)] w (OutR b s w (rSell (toL s) p x)) := by
  have HD9 : RowKit.Hid (∀ q c x W, q ≤ s.size → RS W b s q c x → _) := Lib.hid (rdigit_t (b := b) hs 9)
  have HT6 := Lib.hid fun q c x W hq hc => rtext_t (b := b) hs 6 (by decide) q c x W hq hc
  have HN1 : RowKit.Hid (∀ q c x W, q ≤ s.size → RS W b s q c x → _) := Lib.hid (rnumber_t (b := b) hs 1 (by decide) 1 rfl)
  have hB0 := Lib.hid (Below.refl b w)
  have k2 : w.cell? ⟨b, 2, none⟩ = some (.int .i64 4) := hc.kind_
  go_enter Tryd.func66, Tryd.ntmps66
  go_upto_region 11 with (first
    | (go_at_call 142; (with_reducible refine (HD9.out _ _ _ _ hp hc).mono ?_); rintro e w1 ⟨v1, q1, y1, h1, hq1, rfl, hc1, hx1⟩; have hb1 := bl3h hB0 hx1; have kf1 := hc1.frozen 11; have kc1 := hc1.n_; have hd1 := hc1.setN v1; have hB1 := lsh hb1 11 (.int .i64 v1)))
  rcases one_text (tk_size (toL s) 1 q1) with ht | ⟨a, ht⟩
  · have HTX : RowKit.Hid (∀ W, RS W b s q1 { cmdK 4 with n := v1 } y1 → Calls Tryd.prog 139 #[.pointer (some ⟨b, 0, none⟩), .int .i64 6] W fun e w' => ∃ q' y, RowKit.Hid (rText 6 (toL s) q1 y1 = ([], q', y)) ∧ q' ≤ s.size ∧ e = .returned (.string ⟨#[]⟩) ∧ RS w' b s q' { cmdK 4 with n := v1 } y ∧ RowKit.Hid (Below b W w')) := Lib.hid fun W hc => (HT6.out _ _ _ W hq1 hc).mono fun e w' ⟨t, q', y, g1, g2, g3, g4, g5⟩ => by
      have e1 : t = [] := by have := g1.out; injection this with e1 e2; rw [← e1]; exact ht
      subst e1
      exact ⟨q', y, g1, g2, g3, g4, g5⟩
    clear HT6 ht
    go_wp2_with (first
      | (go_at_call 139; (with_reducible refine (HTX.out _ hd1).mono ?_); rintro e w2 ⟨q2, y2, h2, hq2, rfl, hc2, hx2⟩)
      | (go_at_call 143; (with_reducible refine (HN1.out _ _ _ _ hq2 hc2).mono ?_); rintro e w3 ⟨v3, q3, y3, h3, hq3, rfl, hc3, hx3⟩; have kf3 := hc3.frozen 14; have kc3 := hc3.line_; have hd3 := hc3.setLine v3))
    go_end0
    exact outR (by unfold rSell; simp only [Rd.bind, Rd.pure, h1.out, h2.out, h3.out]; rfl) hd3 hq3 (low_set ((bl3 (bl3 hB1.out hx2.out) hx3.out)) _ _)
  · obtain ⟨r2, hr0, hr2, _, hr3⟩ := one_facts a
    have HTX : RowKit.Hid (∀ W, RS W b s q1 { cmdK 4 with n := v1 } y1 → Calls Tryd.prog 139 #[.pointer (some ⟨b, 0, none⟩), .int .i64 6] W fun e w' => ∃ q' y, RowKit.Hid (rText 6 (toL s) q1 y1 = ([a], q', y)) ∧ q' ≤ s.size ∧ e = .returned (.string r2) ∧ RS w' b s q' { cmdK 4 with n := v1 } y ∧ RowKit.Hid (Below b W w')) := Lib.hid fun W hc => (HT6.out _ _ _ W hq1 hc).mono fun e w' ⟨t, q', y, g1, g2, g3, g4, g5⟩ => by
      have e1 : t = [a] := by have := g1.out; injection this with e1 e2; rw [← e1]; exact ht
      subst e1
      exact ⟨q', y, g1, g2, by rw [g3]; show Ending.returned (.string _) = _; rw [hr0], g4, g5⟩
    have hr5 : 0 < r2.size := by omega
    have hr4 := hr3 hr5
    clear HT6 ht hr0
    go_wp2_with (first
      | (go_at_call 139; (with_reducible refine (HTX.out _ hd1).mono ?_); rintro e w2 ⟨q2, y2, h2, hq2, rfl, hc2, hx2⟩; have kf2 := hc2.frozen 13; have kc2 := hc2.cls_; have hd2 := hc2.setCls a)
      | (go_at_call 143; (with_reducible refine (HN1.out _ _ _ _ hq2 hd2).mono ?_); rintro e w3 ⟨v3, q3, y3, h3, hq3, rfl, hc3, hx3⟩; have kf3 := hc3.frozen 14; have kc3 := hc3.line_; have hd3 := hc3.setLine v3))
    go_end0
    exact outR (by unfold rSell; simp only [Rd.bind, Rd.pure, h1.out, h2.out, h3.out]; rfl) hd3 hq3 (low_set (bl3 (low_set (bl3 hB1.out hx2.out) _ _) hx3.out) _ _)

set_option maxHeartbeats 4000000 in
theorem rparts_limit (b : Nat) (s : ByteArray) (p : Nat) (x : ErrS) (w : World) (hs : s.size ≤ maxLen) (hp : p ≤ s.size) (hc : RS w b s p (cmdK 7) x) :
    Calls Tryd.prog 66 #[.pointer (some ⟨b, 0, none⟩)] w (OutR b s w (rLimit (toL s) p x)) := by
  have HDA : RowKit.Hid (∀ q c x W, q ≤ s.size → RS W b s q c x → _) := Lib.hid (rday_t (b := b) hs)
  have HS47 : RowKit.Hid (∀ q c x W, q ≤ s.size → RS W b s q c x → _) := Lib.hid (rsign_t (b := b) hs 47 47 rfl)
  have HTK : RowKit.Hid (∀ q c x W, q ≤ s.size → RS W b s q c x → Calls Tryd.prog 145 #[.pointer (some ⟨b, 0, none⟩), .int .i64 4] W fun e w' => ∃ t, RowKit.Hid (t = tk (toL s) 4 q) ∧ e = .returned (txV t) ∧ RS w' b s (q + t.length) c x ∧ q + t.length ≤ s.size ∧ RowKit.Hid (Below b W w')) := Lib.hid fun q c x W hq hc => (take_m b s q 4 c x W hs hq (by unfold maxLen; omega) hc).mono fun e w' h => ⟨_, Lib.hid rfl, h.1, h.2.1, by simp [tk]; omega, Lib.hid h.2.2⟩
  have HRC : RowKit.Hid (∀ (t : List UInt8) W, Calls Tryd.prog 144 #[txV t] W fun e w' => (∃ z, RowKit.Hid (Da.optI (Da.readC t) = z ∧ (Da.readC t).isSome = true) ∧ e = .returned (.tuple #[.int .i64 z, .bool true]) ∧ RowKit.Hid (Below W.heap.size W w')) ∨ (∃ z, RowKit.Hid (Da.optI (Da.readC t) = z ∧ (Da.readC t).isSome = false) ∧ e = .returned (.tuple #[.int .i64 z, .bool false]) ∧ RowKit.Hid (Below W.heap.size W w'))) := Lib.hid fun t W => by
    have h := Da.rreadClock_any ⟨t.toArray⟩ W
    rw [show (⟨t.toArray⟩ : ByteArray).data.toList = t by simp] at h
    refine h.mono fun e w' h => ?_
    cases hb : (Da.readC t).isSome with
    | true => rw [hb] at h; exact .inl ⟨_, Lib.hid ⟨rfl, rfl⟩, h.1, Lib.hid h.2⟩
    | false => rw [hb] at h; exact .inr ⟨_, Lib.hid ⟨rfl, rfl⟩, h.1, Lib.hid h.2⟩
  have HW : RowKit.Hid (∀ (p q : Nat) c x W, RS W b s q c x → Calls Tryd.prog 67 #[.pointer (some ⟨b, 0, none⟩), .int .i64 45, .int .i64 (p : Int)] W fun e w' => e = .returned (.tuple #[]) ∧ RS w' b s q c (wrongP x 45 p) ∧ RowKit.Hid (Below b W w')) := Lib.hid fun p q c x W h => (wrong_m b s q c x 45 p W h).mono fun _ _ h => ⟨h.1, h.2.1, Lib.hid h.2.2⟩
  have hB0 := Lib.hid (Below.refl b w)
  have k2 : w.cell? ⟨b, 2, none⟩ = some (.int .i64 7) := hc.kind_
  go_enter Tryd.func66, Tryd.ntmps66
  go_wp2_with (first
    | (go_at_call 141; (with_reducible refine (HDA.out _ _ _ _ hp hc).mono ?_); rintro e w1 ⟨v1, q1, y1, h1, hq1, rfl, hc1, hx1⟩; have hb1 := bl3h hB0 hx1; have kf1 := hc1.frozen 5; have kc1 := hc1.day_; have hd1 := hc1.setDay v1; have hB1 := lsh hb1 5 (.int .i64 v1))
    | (go_at_call 140; (with_reducible refine (HS47.out _ _ _ _ hq1 hd1).mono ?_); rintro e w2 ⟨q2, y2, h2, hq2, rfl, hc2, hx2⟩; have hb2 := bl3h hB1 hx2; have k5 := hc2.at_)
    | (go_at_call 145; (with_reducible refine (HTK.out _ _ _ _ hq2 hc2).mono ?_); rintro e w3 ⟨t3, h3, rfl, hc3, hq3, hx3⟩; have hb3 := bl3h hb2 hx3)
    | (go_at_call 144; (with_reducible refine (HRC.out _ _).mono ?_); rintro e w4 (⟨v4, h4, rfl, hx4⟩ | ⟨v4, h4, rfl, hx4⟩) <;> (have hc4 := hc3.mono hx4.out; have hb4 := Lib.hid (bl2 hb3.out hx4.out hc3.lt); have kf4 := hc4.frozen 8; have kc4 := hc4.minute_))
    | (go_at_call 67; (with_reducible refine (HW.out _ _ _ _ _ hc4).mono ?_); rintro e w5 ⟨rfl, hc5, hx5⟩; have hb5 := bl3h hb4 hx5; have kf5 := hc5.frozen 8; have kc5 := hc5.minute_))
  · go_end0
    refine outR ?_ (hc4.setMinute v4) hq3 (low_set hb4.out _ _)
    unfold rLimit
    simp only [Rd.bind, Rd.pure, h1.out, h2.out, rClock, ← h3.out, h4.out.1, h4.out.2]
    rfl
  · go_end0
    refine outR ?_ (hc5.setMinute v4) hq3 (low_set hb5.out _ _)
    unfold rLimit
    simp only [Rd.bind, Rd.pure, h1.out, h2.out, rClock, ← h3.out, h4.out.1, h4.out.2]
    rfl

end Go.Proofs.YtjahkaidinahpaaDoor.En
