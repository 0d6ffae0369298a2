/- PNRs: when they are sound, their bytes, and the PNR of bytes (plain). -/
import Derived.Test.YtofomopmmopflaaGreatDoorMA
import Derived.Test.YtofomopmmopflaaGreatDoorMB
import Derived.Test.YtofomopmmopflaaGreatDoorME
import Derived.Test.YtofomopmmopflaaGreatDoorGA
import Derived.Test.YtofomopmmopflaaGreatDoorRows
import Derived.WalkKit
import Derived.WalkSpells
import Derived.WalkLawsBesides
import Derived.Lib.ConvBytes
import Derived.Lib.Hide
import Derived.Lib.SliceRun
import Derived.IntWalk
import Derived.BigQuiet
import Derived.Deep.QuietTactic
import Derived.Deep.RegionWith
import Derived.Deep.RegionHeld3
import Derived.Deep.LoopGhost
import Derived.Deep.CutRange
import Derived.Deep.CutBlock
import Derived.Deep.MidRow
import Derived.Laws.OwnMore
import Derived.OwnWalk
import Derived.Laws.AppendOwnNone
import Derived.Laws.Rows
import Derived.Laws.MakeOwn
import Derived.Laws.CopyOwn
import Derived.Laws.BitsAllLaws
import Derived.DeepKeys5
import Derived.Maps.OwnOps
import Derived.Handy
import Derived.Lib.AppendStr
import Derived.StillTailTactics
import Derived.Deep.AppendLies
namespace Go.Proofs.YtofomopmmopflaaGreatDoor
open Go.RowKit Go.ChangeMaps
set_option linter.unusedSimpArgs false
set_option linter.unusedVariables false
set_option maxRecDepth 20000

structure NameT where
  last : ByteArray
  first : ByteArray
structure SegT where
  car : ByteArray
  num : Int
  day : Int
  cls : UInt8
  live : Bool
structure PlaceT where
  seg : Int
  pax : Int
  row : Int
  c : UInt8
structure PnrT where
  loc : ByteArray
  off : ByteArray
  names : List NameT
  segs : List SegT
  phones : List ByteArray
  tk : Int
  td : Int
  tm : Int
  recv : ByteArray
  remarks : List ByteArray
  seats : List PlaceT
  queued : Bool

def nameC (x : NameT) : List Value := [.string x.last, .string x.first]
def segC (x : SegT) : List Value := [.string x.car, .int .i64 x.num, .int .i64 x.day, .int .u8 x.cls.toNat, .bool x.live]
def placeC (x : PlaceT) : List Value := [.int .i64 x.seg, .int .i64 x.pax, .int .i64 x.row, .int .u8 x.c.toNat]
theorem nameC_len (x : NameT) : (nameC x).length = 2 := rfl
theorem segC_len (x : SegT) : (segC x).length = 5 := rfl
theorem placeC_len (x : PlaceT) : (placeC x).length = 4 := rfl
theorem nameC_one (x : NameT) : ∀ v ∈ nameC x, v.oneCell' = true := by
  intro v hv
  simp [nameC] at hv
  rcases hv with rfl | rfl <;> rfl
theorem segC_one (x : SegT) : ∀ v ∈ segC x, v.oneCell' = true := by
  intro v hv
  simp [segC] at hv
  rcases hv with rfl | rfl | rfl | rfl | rfl <;> rfl
theorem placeC_one (x : PlaceT) : ∀ v ∈ placeC x, v.oneCell' = true := by
  intro v hv
  simp [placeC] at hv
  rcases hv with rfl | rfl | rfl | rfl <;> rfl

/-- The cells of a PNR. -/
def pnrC (p : PnrT) (vn vs vp vr vx : Value) : List Value := [.string p.loc, .string p.off, vn, vs, vp, .int .i64 p.tk, .int .i64 p.td, .int .i64 p.tm, .string p.recv, vr, vx, .bool p.queued]

/-- All texts are such as memory bears. -/
def fitP (p : PnrT) : Prop := p.loc.size ≤ maxLen ∧ p.off.size ≤ maxLen ∧ (∀ x ∈ p.names, x.last.size ≤ maxLen ∧ x.first.size ≤ maxLen) ∧ (∀ x ∈ p.segs, x.car.size ≤ maxLen) ∧ (∀ s ∈ p.phones, s.size ≤ maxLen) ∧ p.recv.size ≤ maxLen ∧ ∀ s ∈ p.remarks, s.size ≤ maxLen

def nameOk (x : NameT) : Prop := lettersS (toL x.last) 1 16 = true ∧ lettersS (toL x.first) 1 16 = true
def segOk (x : SegT) : Prop := carrierS (toL x.car) = true ∧ (1 ≤ x.num ∧ x.num ≤ 9999) ∧ (0 ≤ x.day ∧ x.day < 366) ∧ bL x.cls = true
def legK (x : SegT) : ByteArray × Int × Int := (x.car, x.num, x.day)
def freeP (s : ByteArray) : Prop := freeS (toL s) = true
def tickOk (tk td tm : Int) (q : Bool) : Prop := (tk = 1 ∧ (0 ≤ td ∧ td < 366) ∧ 0 ≤ tm ∧ tm < 1440) ∨ (q = false ∧ td = 0 ∧ tm = 0 ∧ (tk = 2 ∨ tk = 0))
def liveAt (segs : List SegT) (n : Int) : Prop := 1 ≤ n ∧ ∃ s, segs[(n - 1).toNat]? = some s ∧ s.live = true
def placeOk (segs : List SegT) (nn : Nat) (x : PlaceT) : Prop := liveAt segs x.seg ∧ (1 ≤ x.pax ∧ x.pax ≤ nn) ∧ (1 ≤ x.row ∧ x.row ≤ 99 ∧ bL x.c = true)
def lowP (x y : PlaceT) : Prop := x.seg < y.seg ∨ (x.seg = y.seg ∧ x.pax < y.pax)
def seatK (x : PlaceT) : Int × Int × UInt8 := (x.seg, x.row, x.c)

/-- A PNR is sound. -/
structure SoundP (p : PnrT) : Prop where
  loc : toL p.loc = [] ∨ lettersS (toL p.loc) 6 6 = true
  off : toL p.off = [] ∨ lettersS (toL p.off) 3 3 = true
  names : p.names.length ≤ 9 ∧ ∀ x ∈ p.names, nameOk x
  segs : p.segs.length ≤ 8 ∧ (∀ x ∈ p.segs, segOk x) ∧ ((p.segs.filter (·.live)).map legK).Nodup
  phones : p.phones.length ≤ 4 ∧ ∀ s ∈ p.phones, freeP s
  remarks : p.remarks.length ≤ 10 ∧ ∀ s ∈ p.remarks, freeP s
  recv : toL p.recv = [] ∨ freeP p.recv
  tick : tickOk p.tk p.td p.tm p.queued
  seats : Rise (placeOk p.segs p.names.length) lowP p.seats ∧ (p.seats.map seatK).Nodup

/- Their bytes. -/
def textB (s : ByteArray) : List UInt8 := varL s.size ++ toL s
def nameB (x : NameT) : List UInt8 := textB x.last ++ textB x.first
def segB (x : SegT) : List UInt8 := toL x.car ++ varL x.num.toNat ++ varL (2 * x.day.toNat + if x.live then 1 else 0) ++ [x.cls]
def placeB (x : PlaceT) : List UInt8 := beL ((x.seg - 1).toNat * 65536 + bitsN x.pax x.row x.c) 3
def textsB (l : List ByteArray) : List UInt8 := varL l.length ++ l.flatMap textB
def tickB (p : PnrT) : List UInt8 := UInt8.ofNat (2 * p.tk.toNat + if p.queued then 1 else 0) :: (if p.tk = 1 then varL (p.td * 1440 + p.tm).toNat else [])

def pnrB (p : PnrT) : List UInt8 :=
  80 :: (textB p.loc ++ (textB p.off ++ (varL p.names.length ++ (p.names.flatMap nameB ++ (varL p.segs.length ++ (p.segs.flatMap segB ++ (textsB p.phones ++ (tickB p ++ (textB p.recv ++ (textsB p.remarks ++ (varL p.seats.length ++ p.seats.flatMap placeB)))))))))))

open Classical in
noncomputable def pnrF (p : PnrT) : Option (List UInt8) := if SoundP p then some (pnrB p) else none
theorem pnrF_yes {p : PnrT} (k : SoundP p) : pnrF p = some (pnrB p) := if_pos k
theorem pnrF_no {p : PnrT} (k : ¬ SoundP p) : pnrF p = none := if_neg k

/- The PNR of bytes. -/
def pTake (n : Nat) (l : List UInt8) : Option (List UInt8 × List UInt8) := if n ≤ l.length then some (l.take n, l.drop n) else none
def pText (l : List UInt8) : Option (ByteArray × List UInt8) := bindP (pNum 40 l) fun n r => bindP (pTake n r) fun s r2 => some (⟨s.toArray⟩, r2)
def pName (l : List UInt8) : Option (NameT × List UInt8) := bindP (pText l) fun a r => bindP (pText r) fun b r2 => some (⟨a, b⟩, r2)
def pSeg (l : List UInt8) : Option (SegT × List UInt8) := bindP (pTake 2 l) fun k r => bindP (pNum 9999 r) fun n r2 => bindP (pNum 731 r2) fun d r3 => bindP (pFix 1 r3) fun c r4 => some (⟨⟨k.toArray⟩, (n : Int), ((d / 2 : Nat) : Int), UInt8.ofNat c, d % 2 == 1⟩, r4)
def pPlace (l : List UInt8) : Option (PlaceT × List UInt8) := bindP (pFix 3 l) fun n r => some (⟨((n / 65536 + 1 : Nat) : Int), ((n / 4096 % 16 : Nat) : Int), ((n / 32 % 128 : Nat) : Int), UInt8.ofNat (65 + n % 32)⟩, r)
/-- The stages: what is known, and the rest. -/
def pP9 (loc off : ByteArray) (nm : List NameT) (sg : List SegT) (ph : List ByteArray) (k td tm : Nat) (rc : ByteArray) (rm : List ByteArray) (r : List UInt8) : Option (PnrT × List UInt8) :=
  bindP (pNum 72 r) fun n r => pRun pPlace (fun st r => some (⟨loc, off, nm, sg, ph, ((k / 2 : Nat) : Int), (td : Int), (tm : Int), rc, rm, st, k % 2 == 1⟩, r)) n [] r
def pP8 (loc off : ByteArray) (nm : List NameT) (sg : List SegT) (ph : List ByteArray) (k td tm : Nat) (rc : ByteArray) (r : List UInt8) : Option (PnrT × List UInt8) :=
  bindP (pNum 10 r) fun n r => pRun pText (fun rm r => pP9 loc off nm sg ph k td tm rc rm r) n [] r
def pP7 (loc off : ByteArray) (nm : List NameT) (sg : List SegT) (ph : List ByteArray) (k td tm : Nat) (r : List UInt8) : Option (PnrT × List UInt8) :=
  bindP (pText r) fun rc r => pP8 loc off nm sg ph k td tm rc r
def pTick (k : Nat) (r : List UInt8) : Option ((Nat × Nat) × List UInt8) := if k / 2 = 1 then bindP (pNum 527039 r) fun m r => some ((m / 1440, m % 1440), r) else some ((0, 0), r)
def pP6 (loc off : ByteArray) (nm : List NameT) (sg : List SegT) (ph : List ByteArray) (r : List UInt8) : Option (PnrT × List UInt8) :=
  bindP (pFix 1 r) fun k r => bindP (pTick k r) fun t r => pP7 loc off nm sg ph k t.1 t.2 r
def pP5 (loc off : ByteArray) (nm : List NameT) (sg : List SegT) (r : List UInt8) : Option (PnrT × List UInt8) :=
  bindP (pNum 4 r) fun n r => pRun pText (fun ph r => pP6 loc off nm sg ph r) n [] r
def pP4 (loc off : ByteArray) (nm : List NameT) (r : List UInt8) : Option (PnrT × List UInt8) :=
  bindP (pNum 8 r) fun n r => pRun pSeg (fun sg r => pP5 loc off nm sg r) n [] r
def pP3 (loc off : ByteArray) (r : List UInt8) : Option (PnrT × List UInt8) :=
  bindP (pNum 9 r) fun n r => pRun pName (fun nm r => pP4 loc off nm r) n [] r
def pPnr (b : List UInt8) : Option (PnrT × List UInt8) := bindP (pTag 80 b) fun _ r => bindP (pText r) fun loc r => bindP (pText r) fun off r => pP3 loc off r

open Classical in
noncomputable def readPn (b : List UInt8) : Option PnrT :=
  match pPnr b with
  | some (p, _) => if pnrF p = some b then some p else none
  | none => none
theorem readPn_none {b : List UInt8} (h : pPnr b = none) : readPn b = none := by unfold readPn; rw [h]
theorem readPn_some {b r : List UInt8} {p : PnrT} (k : pPnr b = some (p, r)) (hq : pnrF p = some b) : readPn b = some p := by unfold readPn; rw [k]; exact if_pos hq
theorem readPn_other {b r : List UInt8} {p : PnrT} (k : pPnr b = some (p, r)) (hq : pnrF p ≠ some b) : readPn b = none := by unfold readPn; rw [k]; exact if_neg hq
/- What was written is read. -/
theorem lettersS_len {l : List UInt8} {a b : Int} (h : lettersS l a b = true) : a ≤ (l.length : Int) ∧ (l.length : Int) ≤ b := by
  unfold lettersS at h
  rw [Bool.and_eq_true] at h
  exact of_decide_eq_true h.1

theorem free_len {l : List UInt8} (h : freeS l = true) : 1 ≤ l.length ∧ l.length ≤ 40 := by
  unfold freeS at h
  rw [Bool.and_eq_true] at h
  exact of_decide_eq_true h.1

/-- Places that rise are few. -/
theorem places_few {segs : List SegT} {nn : Nat} {l : List PlaceT} (h : Rise (placeOk segs nn) lowP l) (hs : segs.length ≤ 8) (hn : nn ≤ 9) : l.length ≤ 72 := by
  have key : ∀ (i : Nat) (x : PlaceT), l[i]? = some x → (i : Int) ≤ (x.seg - 1) * 9 + (x.pax - 1) ∧ (x.seg - 1) * 9 + (x.pax - 1) ≤ 71 := by
    intro i
    induction i with
    | zero =>
      intro x hx
      obtain ⟨⟨⟨h1, s, h2, _⟩, ⟨h3, h4⟩, _⟩, _⟩ := h 0 x hx
      have hlt : (x.seg - 1).toNat < segs.length := (List.getElem?_eq_some_iff.1 h2).1
      constructor <;> omega
    | succ i ih =>
      intro x hx
      obtain ⟨⟨⟨h1, s, h2, _⟩, ⟨h3, h4⟩, _⟩, hl⟩ := h (i + 1) x hx
      have hlt : (x.seg - 1).toNat < segs.length := (List.getElem?_eq_some_iff.1 h2).1
      have hil : i < l.length := by
        have := (List.getElem?_eq_some_iff.1 hx).1
        omega
      have hy : l[i]? = some l[i] := List.getElem?_eq_getElem hil
      have hlow := hl l[i] (Nat.succ_pos _) hy
      have hi := (ih l[i] hy).1
      obtain ⟨⟨⟨_, _, _, _⟩, ⟨k3, k4⟩, _⟩, _⟩ := h i l[i] hy
      unfold lowP at hlow
      constructor <;> omega
  rcases Nat.lt_or_ge 72 l.length with hlt | hge
  · obtain ⟨h1, h2⟩ := key 72 l[72] (List.getElem?_eq_getElem hlt)
    omega
  · exact hge

end Go.Proofs.YtofomopmmopflaaGreatDoor
