/- PNRs: when they are sound, their bytes, and the PNR of bytes (plain). -/
import Derived.Test.YtjahkaidinahpaaDoorGA
import Derived.Test.YtjahkaidinahpaaDoorGC
namespace Go.Proofs.YtjahkaidinahpaaDoor
open Go.RowKit Go.ChangeMaps
set_option linter.unusedSimpArgs false
set_option linter.unusedVariables false
set_option maxRecDepth 20000

structure NameT where
  last : ByteArray
  first : ByteArray
structure SegT where
  car : ByteArray
  num : Int
  day : Int
  cls : UInt8
  live : Bool
structure PlaceT where
  seg : Int
  pax : Int
  row : Int
  c : UInt8
structure PnrT where
  loc : ByteArray
  off : ByteArray
  names : List NameT
  segs : List SegT
  phones : List ByteArray
  tk : Int
  td : Int
  tm : Int
  recv : ByteArray
  remarks : List ByteArray
  seats : List PlaceT
  queued : Bool

def nameC (x : NameT) : List Value := [.string x.last, .string x.first]
def segC (x : SegT) : List Value := [.string x.car, .int .i64 x.num, .int .i64 x.day, .int .u8 x.cls.toNat, .bool x.live]
def placeC (x : PlaceT) : List Value := [.int .i64 x.seg, .int .i64 x.pax, .int .i64 x.row, .int .u8 x.c.toNat]
theorem nameC_len (x : NameT) : (nameC x).length = 2 := rfl
theorem segC_len (x : SegT) : (segC x).length = 5 := rfl
theorem placeC_len (x : PlaceT) : (placeC x).length = 4 := rfl
theorem nameC_one (x : NameT) : ∀ v ∈ nameC x, v.oneCell' = true := by
  intro v hv
  simp [nameC] at hv
  rcases hv with rfl | rfl <;> rfl
theorem segC_one (x : SegT) : ∀ v ∈ segC x, v.oneCell' = true := by
  intro v hv
  simp [segC] at hv
  rcases hv with rfl | rfl | rfl | rfl | rfl <;> rfl
theorem placeC_one (x : PlaceT) : ∀ v ∈ placeC x, v.oneCell' = true := by
  intro v hv
  simp [placeC] at hv
  rcases hv with rfl | rfl | rfl | rfl <;> rfl

/-- The cells of a PNR. -/
def pnrC (p : PnrT) (vn vs vp vr vx : Value) : List Value := [.string p.loc, .string p.off, vn, vs, vp, .int .i64 p.tk, .int .i64 p.td, .int .i64 p.tm, .string p.recv, vr, vx, .bool p.queued]

/-- 'v' reads as the PNR p. -/
def HasP (w : World) (v : Value) (p : PnrT) : Prop := ∃ vn vs vp vr vx, v = .agg (pnrC p vn vs vp vr vx).toArray ∧ HasE nameC w vn p.names ∧ HasE segC w vs p.segs ∧ HasL w vp p.phones ∧ HasL w vr p.remarks ∧ HasE placeC w vx p.seats

/-- All texts are such as memory bears. -/
def fitP (p : PnrT) : Prop := p.loc.size ≤ maxLen ∧ p.off.size ≤ maxLen ∧ (∀ x ∈ p.names, x.last.size ≤ maxLen ∧ x.first.size ≤ maxLen) ∧ (∀ x ∈ p.segs, x.car.size ≤ maxLen) ∧ (∀ s ∈ p.phones, s.size ≤ maxLen) ∧ p.recv.size ≤ maxLen ∧ ∀ s ∈ p.remarks, s.size ≤ maxLen

def nameOk (x : NameT) : Prop := lettersS (toL x.last) 1 16 = true ∧ lettersS (toL x.first) 1 16 = true
def segOk (x : SegT) : Prop := carrierS (toL x.car) = true ∧ (1 ≤ x.num ∧ x.num ≤ 9999) ∧ (0 ≤ x.day ∧ x.day < 366) ∧ bL x.cls = true
def legK (x : SegT) : ByteArray × Int × Int := (x.car, x.num, x.day)
def freeP (s : ByteArray) : Prop := freeS (toL s) = true
def tickOk (tk td tm : Int) (q : Bool) : Prop := (tk = 1 ∧ (0 ≤ td ∧ td < 366) ∧ 0 ≤ tm ∧ tm < 1440) ∨ (q = false ∧ td = 0 ∧ tm = 0 ∧ (tk = 2 ∨ tk = 0))
def liveAt (segs : List SegT) (n : Int) : Prop := 1 ≤ n ∧ ∃ s, segs[(n - 1).toNat]? = some s ∧ s.live = true
def placeOk (segs : List SegT) (nn : Nat) (x : PlaceT) : Prop := liveAt segs x.seg ∧ (1 ≤ x.pax ∧ x.pax ≤ nn) ∧ (1 ≤ x.row ∧ x.row ≤ 99 ∧ bL x.c = true)
def lowP (x y : PlaceT) : Prop := x.seg < y.seg ∨ (x.seg = y.seg ∧ x.pax < y.pax)
def seatK (x : PlaceT) : Int × Int × UInt8 := (x.seg, x.row, x.c)

/-- A PNR is sound. -/
structure SoundP (p : PnrT) : Prop where
  loc : toL p.loc = [] ∨ lettersS (toL p.loc) 6 6 = true
  off : toL p.off = [] ∨ lettersS (toL p.off) 3 3 = true
  names : p.names.length ≤ 9 ∧ ∀ x ∈ p.names, nameOk x
  segs : p.segs.length ≤ 8 ∧ (∀ x ∈ p.segs, segOk x) ∧ ((p.segs.filter (·.live)).map legK).Nodup
  phones : p.phones.length ≤ 4 ∧ ∀ s ∈ p.phones, freeP s
  remarks : p.remarks.length ≤ 10 ∧ ∀ s ∈ p.remarks, freeP s
  recv : toL p.recv = [] ∨ freeP p.recv
  tick : tickOk p.tk p.td p.tm p.queued
  seats : Rise (placeOk p.segs p.names.length) lowP p.seats ∧ (p.seats.map seatK).Nodup

/- Their bytes. -/
def textB (s : ByteArray) : List UInt8 := varL s.size ++ toL s
def nameB (x : NameT) : List UInt8 := textB x.last ++ textB x.first
def segB (x : SegT) : List UInt8 := toL x.car ++ varL x.num.toNat ++ varL (2 * x.day.toNat + if x.live then 1 else 0) ++ [x.cls]
def placeB (x : PlaceT) : List UInt8 := beL ((x.seg - 1).toNat * 65536 + bitsN x.pax x.row x.c) 3
def textsB (l : List ByteArray) : List UInt8 := varL l.length ++ l.flatMap textB
def tickB (p : PnrT) : List UInt8 := UInt8.ofNat (2 * p.tk.toNat + if p.queued then 1 else 0) :: (if p.tk = 1 then varL (p.td * 1440 + p.tm).toNat else [])

def pnrB (p : PnrT) : List UInt8 :=
  80 :: (textB p.loc ++ (textB p.off ++ (varL p.names.length ++ (p.names.flatMap nameB ++ (varL p.segs.length ++ (p.segs.flatMap segB ++ (textsB p.phones ++ (tickB p ++ (textB p.recv ++ (textsB p.remarks ++ (varL p.seats.length ++ p.seats.flatMap placeB)))))))))))

open Classical in
noncomputable def pnrF (p : PnrT) : Option (List UInt8) := if SoundP p then some (pnrB p) else none
theorem pnrF_yes {p : PnrT} (k : SoundP p) : pnrF p = some (pnrB p) := if_pos k
theorem pnrF_no {p : PnrT} (k : ¬ SoundP p) : pnrF p = none := if_neg k

/- The PNR of bytes. -/
def pTake (n : Nat) (l : List UInt8) : Option (List UInt8 × List UInt8) := if n ≤ l.length then some (l.take n, l.drop n) else none
def pText (l : List UInt8) : Option (ByteArray × List UInt8) := bindP (pNum 40 l) fun n r => bindP (pTake n r) fun s r2 => some (⟨s.toArray⟩, r2)
def pName (l : List UInt8) : Option (NameT × List UInt8) := bindP (pText l) fun a r => bindP (pText r) fun b r2 => some (⟨a, b⟩, r2)
def pSeg (l : List UInt8) : Option (SegT × List UInt8) := bindP (pTake 2 l) fun k r => bindP (pNum 9999 r) fun n r2 => bindP (pNum 731 r2) fun d r3 => bindP (pFix 1 r3) fun c r4 => some (⟨⟨k.toArray⟩, (n : Int), ((d / 2 : Nat) : Int), UInt8.ofNat c, d % 2 == 1⟩, r4)
def pPlace (l : List UInt8) : Option (PlaceT × List UInt8) := bindP (pFix 3 l) fun n r => some (⟨((n / 65536 + 1 : Nat) : Int), ((n / 4096 % 16 : Nat) : Int), ((n / 32 % 128 : Nat) : Int), UInt8.ofNat (65 + n % 32)⟩, r)
/-- The stages: what is known, and the rest. -/
def pP9 (loc off : ByteArray) (nm : List NameT) (sg : List SegT) (ph : List ByteArray) (k td tm : Nat) (rc : ByteArray) (rm : List ByteArray) (r : List UInt8) : Option (PnrT × List UInt8) :=
  bindP (pNum 72 r) fun n r => pRun pPlace (fun st r => some (⟨loc, off, nm, sg, ph, ((k / 2 : Nat) : Int), (td : Int), (tm : Int), rc, rm, st, k % 2 == 1⟩, r)) n [] r
def pP8 (loc off : ByteArray) (nm : List NameT) (sg : List SegT) (ph : List ByteArray) (k td tm : Nat) (rc : ByteArray) (r : List UInt8) : Option (PnrT × List UInt8) :=
  bindP (pNum 10 r) fun n r => pRun pText (fun rm r => pP9 loc off nm sg ph k td tm rc rm r) n [] r
def pP7 (loc off : ByteArray) (nm : List NameT) (sg : List SegT) (ph : List ByteArray) (k td tm : Nat) (r : List UInt8) : Option (PnrT × List UInt8) :=
  bindP (pText r) fun rc r => pP8 loc off nm sg ph k td tm rc r
def pTick (k : Nat) (r : List UInt8) : Option ((Nat × Nat) × List UInt8) := if k / 2 = 1 then bindP (pNum 527039 r) fun m r => some ((m / 1440, m % 1440), r) else some ((0, 0), r)
def pP6 (loc off : ByteArray) (nm : List NameT) (sg : List SegT) (ph : List ByteArray) (r : List UInt8) : Option (PnrT × List UInt8) :=
  bindP (pFix 1 r) fun k r => bindP (pTick k r) fun t r => pP7 loc off nm sg ph k t.1 t.2 r
def pP5 (loc off : ByteArray) (nm : List NameT) (sg : List SegT) (r : List UInt8) : Option (PnrT × List UInt8) :=
  bindP (pNum 4 r) fun n r => pRun pText (fun ph r => pP6 loc off nm sg ph r) n [] r
def pP4 (loc off : ByteArray) (nm : List NameT) (r : List UInt8) : Option (PnrT × List UInt8) :=
  bindP (pNum 8 r) fun n r => pRun pSeg (fun sg r => pP5 loc off nm sg r) n [] r
def pP3 (loc off : ByteArray) (r : List UInt8) : Option (PnrT × List UInt8) :=
  bindP (pNum 9 r) fun n r => pRun pName (fun nm r => pP4 loc off nm r) n [] r
def pPnr (b : List UInt8) : Option (PnrT × List UInt8) := bindP (pTag 80 b) fun _ r => bindP (pText r) fun loc r => bindP (pText r) fun off r => pP3 loc off r

open Classical in
noncomputable def readPn (b : List UInt8) : Option PnrT :=
  match pPnr b with
  | some (p, _) => if pnrF p = some b then some p else none
  | none => none
theorem readPn_none {b : List UInt8} (h : pPnr b = none) : readPn b = none := by unfold readPn; rw [h]
theorem readPn_some {b r : List UInt8} {p : PnrT} (k : pPnr b = some (p, r)) (hq : pnrF p = some b) : readPn b = some p := by unfold readPn; rw [k]; exact if_pos hq
theorem readPn_other {b r : List UInt8} {p : PnrT} (k : pPnr b = some (p, r)) (hq : pnrF p ≠ some b) : readPn b = none := by unfold readPn; rw [k]; exact if_neg hq
theorem readPn_bytes {b : List UInt8} {p : PnrT} (h : readPn b = some p) : SoundP p ∧ pnrB p = b := by
  unfold readPn at h
  cases hp : pPnr b with
  | none => rw [hp] at h; cases h
  | some x =>
    obtain ⟨q, r⟩ := x
    rw [hp] at h
    simp only at h
    by_cases hq : pnrF q = some b
    · rw [if_pos hq] at h
      injection h with h
      subst h
      by_cases hs : SoundP q
      · rw [pnrF_yes hs] at hq
        injection hq with hq
        exact ⟨hs, hq⟩
      · rw [pnrF_no hs] at hq; cases hq
    · rw [if_neg hq] at h; cases h

/- What was written is read. -/
theorem lettersS_len {l : List UInt8} {a b : Int} (h : lettersS l a b = true) : a ≤ (l.length : Int) ∧ (l.length : Int) ≤ b := by
  unfold lettersS at h
  rw [Bool.and_eq_true] at h
  exact of_decide_eq_true h.1

theorem free_len {l : List UInt8} (h : freeS l = true) : 1 ≤ l.length ∧ l.length ≤ 40 := by
  unfold freeS at h
  rw [Bool.and_eq_true] at h
  exact of_decide_eq_true h.1

theorem pTake_app {n : Nat} {a t : List UInt8} (h : a.length = n) : pTake n (a ++ t) = some (a, t) := by
  unfold pTake
  rw [if_pos (by rw [List.length_append]; omega), List.take_left' h, List.drop_left' h]

theorem pText_back {s : ByteArray} (t : List UInt8) (h : (toL s).length ≤ 40) : pText (textB s ++ t) = some (s, t) := by
  unfold pText textB
  rw [List.append_assoc, bindP_some (pNum_varL _ (by rw [← size_toL]; exact h) (by omega)), bindP_some (pTake_app (size_toL s))]
  have e : (⟨(toL s).toArray⟩ : ByteArray) = s := strA_of s
  rw [e]

theorem pName_back {x : NameT} (h : nameOk x) (t : List UInt8) : pName (nameB x ++ t) = some (x, t) := by
  have h1 := lettersS_len h.1
  have h2 := lettersS_len h.2
  unfold pName nameB
  rw [List.append_assoc, bindP_some (pText_back _ (by omega)), bindP_some (pText_back _ (by omega))]

theorem pSeg_back {x : SegT} (h : segOk x) (t : List UInt8) : pSeg (segB x ++ t) = some (x, t) := by
  obtain ⟨h1, ⟨h2, h3⟩, ⟨h4, h5⟩, h6⟩ := h
  have hc : (toL x.car).length = 2 := by
    by_cases hl : (toL x.car).length = 2
    · exact hl
    · have := carrierS_len _ hl
      rw [this] at h1
      cases h1
  unfold pSeg segB
  rw [List.append_assoc, List.append_assoc, List.append_assoc, bindP_some (pTake_app hc), bindP_some (pNum_varL _ (by omega) (by omega)), bindP_some (pNum_varL _ (by split <;> omega) (by omega)), List.singleton_append, bindP_some pFix_one]
  have e1 : (⟨(toL x.car).toArray⟩ : ByteArray) = x.car := strA_of x.car
  have e2 : ((x.num.toNat : Nat) : Int) = x.num := by omega
  have e3 : (((2 * x.day.toNat + if x.live then 1 else 0) / 2 : Nat) : Int) = x.day := by split <;> omega
  have e4 : ((2 * x.day.toNat + if x.live then 1 else 0) % 2 == 1) = x.live := by cases x.live <;> simp <;> omega
  have e5 : UInt8.ofNat x.cls.toNat = x.cls := by simp
  rw [e1, e2, e3, e4, e5]

theorem pPlace_back {segs : List SegT} {nn : Nat} {x : PlaceT} (h : placeOk segs nn x) (hs : segs.length ≤ 8) (hn : nn ≤ 9) (t : List UInt8) : pPlace (placeB x ++ t) = some (x, t) := by
  obtain ⟨⟨h1, s, h2, _⟩, ⟨h3, h4⟩, h5⟩ := h
  have hlt : (x.seg - 1).toNat < segs.length := (List.getElem?_eq_some_iff.1 h2).1
  obtain ⟨e1, e2, e3⟩ := bits_back h5 h3 (by omega)
  have hb : bitsN x.pax x.row x.c < 65536 := by
    have := bL_lo h5.2.2
    unfold bitsN
    omega
  unfold pPlace placeB
  generalize bitsN x.pax x.row x.c = b at *
  have hn : (x.seg - 1).toNat * 65536 + b < 256 ^ 3 := by
    have : (256 : Nat) ^ 3 = 16777216 := by decide
    omega
  rw [bindP_some (pFix_beL t hn)]
  have g1 : (((x.seg - 1).toNat * 65536 + b) / 65536 + 1 : Nat) = (x.seg.toNat : Nat) := by omega
  have g2 : ((x.seg - 1).toNat * 65536 + b) / 4096 % 16 = b / 4096 := by omega
  have g3 : ((x.seg - 1).toNat * 65536 + b) / 32 % 128 = b / 32 % 128 := by omega
  have g4 : ((x.seg - 1).toNat * 65536 + b) % 32 = b % 32 := by omega
  have g5 : ((x.seg.toNat : Nat) : Int) = x.seg := by omega
  rw [g1, g2, g3, g4, g5, e1, e2, e3]

/-- Places that rise are few. -/
theorem places_few {segs : List SegT} {nn : Nat} {l : List PlaceT} (h : Rise (placeOk segs nn) lowP l) (hs : segs.length ≤ 8) (hn : nn ≤ 9) : l.length ≤ 72 := by
  have key : ∀ (i : Nat) (x : PlaceT), l[i]? = some x → (i : Int) ≤ (x.seg - 1) * 9 + (x.pax - 1) ∧ (x.seg - 1) * 9 + (x.pax - 1) ≤ 71 := by
    intro i
    induction i with
    | zero =>
      intro x hx
      obtain ⟨⟨⟨h1, s, h2, _⟩, ⟨h3, h4⟩, _⟩, _⟩ := h 0 x hx
      have hlt : (x.seg - 1).toNat < segs.length := (List.getElem?_eq_some_iff.1 h2).1
      constructor <;> omega
    | succ i ih =>
      intro x hx
      obtain ⟨⟨⟨h1, s, h2, _⟩, ⟨h3, h4⟩, _⟩, hl⟩ := h (i + 1) x hx
      have hlt : (x.seg - 1).toNat < segs.length := (List.getElem?_eq_some_iff.1 h2).1
      have hil : i < l.length := by
        have := (List.getElem?_eq_some_iff.1 hx).1
        omega
      have hy : l[i]? = some l[i] := List.getElem?_eq_getElem hil
      have hlow := hl l[i] (Nat.succ_pos _) hy
      have hi := (ih l[i] hy).1
      obtain ⟨⟨⟨_, _, _, _⟩, ⟨k3, k4⟩, _⟩, _⟩ := h i l[i] hy
      unfold lowP at hlow
      constructor <;> omega
  rcases Nat.lt_or_ge 72 l.length with hlt | hge
  · obtain ⟨h1, h2⟩ := key 72 l[72] (List.getElem?_eq_getElem hlt)
    omega
  · exact hge

theorem texts_back {most : Nat} {l : List ByteArray} {K : List ByteArray → List UInt8 → Option (PnrT × List UInt8)} (hl : l.length ≤ most) (hm : most ≤ 100) (h : ∀ s ∈ l, freeP s) (t : List UInt8) :
    (bindP (pNum most (textsB l ++ t)) fun n r => pRun pText K n [] r) = K l t := by
  unfold textsB
  rw [List.append_assoc, bindP_some (pNum_varL _ hl (by omega)), pRun_back fun x hx t => pText_back t (by have := free_len (h x hx); omega)]
  rfl

theorem tick_back {p : PnrT} (h : tickOk p.tk p.td p.tm p.queued) (t : List UInt8) {K : Nat → Nat × Nat → List UInt8 → Option (PnrT × List UInt8)} {v : Option (PnrT × List UInt8)}
    (hk : ∀ k td tm : Nat, ((k / 2 : Nat) : Int) = p.tk → (k % 2 == 1) = p.queued → (td : Int) = p.td → (tm : Int) = p.tm → K k (td, tm) t = v) :
    (bindP (pFix 1 (tickB p ++ t)) fun k r => bindP (pTick k r) fun x r => K k x r) = v := by
  unfold tickB
  have hq : ∀ q : Bool, (if q then 1 else 0 : Nat) = if q then 1 else 0 := fun _ => rfl
  have htk : 0 ≤ p.tk ∧ p.tk ≤ 2 := by rcases h with ⟨h, _⟩ | ⟨_, _, _, h | h⟩ <;> omega
  have hk2 : (2 * p.tk.toNat + if p.queued then 1 else 0) < 256 := by split <;> omega
  rw [List.cons_append, bindP_some pFix_one, ofNat_toNat hk2]
  have e1 : (((2 * p.tk.toNat + if p.queued then 1 else 0) / 2 : Nat) : Int) = p.tk := by split <;> omega
  have e2 : ((2 * p.tk.toNat + if p.queued then 1 else 0) % 2 == 1) = p.queued := by cases p.queued <;> simp <;> omega
  generalize (2 * p.tk.toNat + if p.queued then 1 else 0) = k at *
  unfold pTick
  rcases h with ⟨h1, ⟨h2, h3⟩, h4, h5⟩ | ⟨h0, h1, h2, h3⟩
  · rw [if_pos h1, if_pos (by omega), bindP_some (bindP_some (pNum_varL _ (by omega) (by omega)))]
    exact hk _ _ _ e1 e2 (by omega) (by omega)
  · rw [if_neg (by omega), if_neg (by omega), List.nil_append, bindP_some rfl]
    exact hk _ _ _ e1 e2 (by omega) (by omega)

/-- A sound PNR is read back, whatever stands behind. -/
theorem pPnr_back {p : PnrT} (h : SoundP p) (t : List UInt8) : pPnr (pnrB p ++ t) = some (p, t) := by
  have hlo : (toL p.loc).length ≤ 40 := by
    rcases h.loc with h1 | h1
    · rw [h1]; simp
    · have := lettersS_len h1; omega
  have hof : (toL p.off).length ≤ 40 := by
    rcases h.off with h1 | h1
    · rw [h1]; simp
    · have := lettersS_len h1; omega
  have hrc : (toL p.recv).length ≤ 40 := by
    rcases h.recv with h1 | h1
    · rw [h1]; simp
    · have := free_len h1; omega
  unfold pPnr pnrB
  simp only [List.cons_append, List.append_assoc]
  rw [bindP_some (pTag_yes rfl), bindP_some (pText_back _ hlo), bindP_some (pText_back _ hof)]
  unfold pP3
  rw [bindP_some (pNum_varL _ h.names.1 (by omega)), pRun_back fun x hx t => pName_back (h.names.2 x hx) t]
  unfold pP4
  rw [bindP_some (pNum_varL _ h.segs.1 (by omega)), pRun_back fun x hx t => pSeg_back (h.segs.2.1 x hx) t]
  unfold pP5
  rw [texts_back h.phones.1 (by omega) h.phones.2]
  unfold pP6
  refine tick_back h.tick _ fun k td tm e1 e2 e3 e4 => ?_
  unfold pP7
  rw [bindP_some (pText_back _ hrc)]
  unfold pP8
  rw [texts_back h.remarks.1 (by omega) h.remarks.2]
  unfold pP9
  have hfew := places_few h.seats.1 h.segs.1 h.names.1
  rw [bindP_some (pNum_varL _ hfew (by omega)), pRun_back fun x hx t => pPlace_back (h.seats.1.one hx) h.segs.1 h.names.1 t]
  simp only [List.nil_append, e1, e2, e3, e4]

theorem pnr_back {p : PnrT} (h : SoundP p) : readPn (pnrB p) = some p := by
  have := pPnr_back h []
  rw [List.append_nil] at this
  exact readPn_some this (pnrF_yes h)

/-- Unlike PNRs have unlike bytes, neither the beginning of the other. -/
theorem pnr_unlike {p q : PnrT} (hp : SoundP p) (hq : SoundP q) {n : Nat} (hn : n = min (pnrB p).length (pnrB q).length) (h : (pnrB p).take n = (pnrB q).take n) : p = q := by
  subst hn
  rcases Nat.le_total (pnrB p).length (pnrB q).length with hle | hle
  · rw [Nat.min_eq_left hle, List.take_length] at h
    have h1 := pPnr_back hp ((pnrB q).drop (pnrB p).length)
    have e : pnrB p ++ (pnrB q).drop (pnrB p).length = pnrB q := by
      have := List.take_append_drop (pnrB p).length (pnrB q)
      rwa [← h] at this
    rw [e] at h1
    have h2 := pPnr_back hq []
    rw [List.append_nil, h1] at h2
    injection h2 with h2
    injection h2 with h2
  · rw [Nat.min_eq_right hle, List.take_length] at h
    have h1 := pPnr_back hq ((pnrB p).drop (pnrB q).length)
    have e : pnrB q ++ (pnrB p).drop (pnrB q).length = pnrB p := by
      have := List.take_append_drop (pnrB q).length (pnrB p)
      rwa [h] at this
    rw [e] at h1
    have h2 := pPnr_back hp []
    rw [List.append_nil, h1] at h2
    injection h2 with h2
    injection h2 with h2
    exact h2.symm
end Go.Proofs.YtjahkaidinahpaaDoor
