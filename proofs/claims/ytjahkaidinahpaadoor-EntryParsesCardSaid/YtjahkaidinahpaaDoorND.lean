/- Entries: the plain grammar: what an entry is taken apart into; the plain facts of its parts. -/
import Derived.Test.YtjahkaidinahpaaDoorNA
import Derived.Test.YtjahkaidinahpaaDoorNB
import Derived.Test.YtjahkaidinahpaaDoorNC
namespace Go.Proofs.YtjahkaidinahpaaDoor.En
open Go.RowKit
set_option linter.unusedSimpArgs false
set_option linter.unusedVariables false

/-- A command. -/
structure CmdT where
  kind : Int
  text : List UInt8
  office : List UInt8
  day : Int
  src : List UInt8
  dst : List UInt8
  minute : Int
  last : List UInt8
  first : List UInt8
  n : Int
  pax : Int
  cls : UInt8
  line : Int
  row : Int
  c : UInt8

theorem CmdT.same {a b : CmdT} (h1 : a.kind = b.kind) (h2 : a.text = b.text) (h3 : a.office = b.office) (h4 : a.day = b.day) (h5 : a.src = b.src) (h6 : a.dst = b.dst) (h7 : a.minute = b.minute)
    (h8 : a.last = b.last) (h9 : a.first = b.first) (h10 : a.n = b.n) (h11 : a.pax = b.pax) (h12 : a.cls = b.cls) (h13 : a.line = b.line) (h14 : a.row = b.row) (h15 : a.c = b.c) : a = b := by
  cases a; cases b; simp only at *; subst h1 h2 h3 h4 h5 h6 h7 h8 h9 h10 h11 h12 h13 h14 h15; rfl

def cmd0 : CmdT := ⟨0, [], [], 0, [], [], 0, [], [], 0, 0, 0, 0, 0, 0⟩

/-- The bytes of a text as a value. -/
abbrev txV (l : List UInt8) : Value := .string ⟨l.toArray⟩

def cmdC (c : CmdT) : List Value := [.int .i64 c.kind, txV c.text, txV c.office, .int .i64 c.day, txV c.src, txV c.dst, .int .i64 c.minute, txV c.last, txV c.first, .int .i64 c.n, .int .i64 c.pax, .int .u8 c.cls.toNat, .int .i64 c.line, .int .i64 c.row, .int .u8 c.c.toNat]

/-- A fault: its code and its place. -/
abbrev Flt := Int × Nat

/-- What a part comes to: a value and the place behind it, or a fault. -/
abbrev Part (α : Type) := Except Flt (α × Nat)

/-- The next bytes, as many as there are up to n. -/
def tk (l : List UInt8) (n at' : Nat) : List UInt8 := (l.drop at').take n

def city (l : List UInt8) (at' : Nat) : Part (List UInt8) := if lettersS (tk l 3 at') 3 3 then .ok (tk l 3 at', at' + (tk l 3 at').length) else .error (46, at')
def day (l : List UInt8) (at' : Nat) : Part Int := match Da.readS (tk l 5 at') with | some n => .ok ((n : Int), at' + (tk l 5 at').length) | none => .error (44, at')
def clock (l : List UInt8) (at' : Nat) : Part Int := match Da.readC (tk l 4 at') with | some n => .ok ((n : Int), at' + (tk l 4 at').length) | none => .error (45, at')
def digB (most : Int) (t : List UInt8) : Bool := decide (t.length = 1) && decide (49 ≤ (t.getD 0 0).toNat) && decide (((t.getD 0 0).toNat : Int) - 48 ≤ most)
def digit (most : Int) (l : List UInt8) (at' : Nat) : Part Int := if digB most (tk l 1 at') then .ok ((((tk l 1 at').getD 0 0).toNat : Int) - 48, at' + 1) else .error (43, at')
def numB (least : Int) (t : List UInt8) : Bool := numOk t 99 && decide (least ≤ (numV t : Int))
def number (least : Int) (l : List UInt8) (at' : Nat) : Part Int := if numB least (runL 2 (l.drop at')) then .ok ((numV (runL 2 (l.drop at')) : Int), at' + (runL 2 (l.drop at')).length) else .error (43, at')
def person (l : List UInt8) (at' : Nat) : Part (List UInt8) := if lettersS (runL 1 (l.drop at')) 1 16 then .ok (runL 1 (l.drop at'), at' + (runL 1 (l.drop at')).length) else .error (46, at')
def agent (l : List UInt8) (at' : Nat) : Part (List UInt8) := if agentS (runL 3 (l.drop at')) then .ok (runL 3 (l.drop at'), at' + (runL 3 (l.drop at')).length) else .error (46, at')
def sign (q : List UInt8) (l : List UInt8) (at' : Nat) : Part Unit := if isPre q (l.drop at') then .ok ((), at' + q.length) else .error (42, at')
def free (l : List UInt8) (at' : Nat) : Part (List UInt8) := if freeS (l.drop at') then .ok (l.drop at', l.length) else .error (46, at')
def seatTx (l : List UInt8) (at' : Nat) : List UInt8 := runL 2 (l.drop at') ++ tk l 1 (at' + (runL 2 (l.drop at')).length)
def seat (l : List UInt8) (at' : Nat) : Part (Int × UInt8) := match Pl.readL (seatTx l at') with | some x => .ok (x, at' + (seatTx l at').length) | none => .error (46, at')
def clsB (t : List UInt8) : Bool := decide (t.length = 1) && bL (t.getD 0 0)
def cls (l : List UInt8) (at' : Nat) : Part UInt8 := if clsB (tk l 1 at') then .ok ((tk l 1 at').getD 0 0, at' + 1) else .error (46, at')
def loc (l : List UInt8) (at' : Nat) : Part (List UInt8) := if lettersS (tk l 6 at') 6 6 then .ok (tk l 6 at', at' + (tk l 6 at').length) else .error (46, at')

/-- The words with which entries begin, and their kinds: a longer one ahead of those with which it begins. -/
def wordsL : List (List UInt8 × Int) :=
  [([83, 73, 42], 1), ([83, 79], 2), ([65], 3), ([48], 4), ([45], 5), ([57], 6), ([55, 84, 65, 87], 7), ([55, 84], 8), ([54], 9), ([53], 10), ([52, 71, 88], 13), ([52, 71], 11), ([88, 73], 15), ([88], 14), ([42], 16), ([69, 82], 19), ([69], 18), ([73, 82], 21), ([73], 20), ([81, 67], 22), ([81, 78], 25), ([81, 82], 26), ([81, 88], 27), ([81, 80, 47], 23), ([81, 47], 24), ([77, 68], 28), ([77, 85], 29)]

def begin_ (l : List UInt8) : Option (Int × Nat) :=
  if l = [42, 82] then some (17, 2) else (wordsL.find? fun x => isPre x.1 l).map fun x => (x.2, x.1.length)

/-- The command of a kind, so far. -/
def cmdK (k : Int) : CmdT := { cmd0 with kind := k }

def pIn (l : List UInt8) (at' : Nat) : Except Flt (CmdT × Nat) := do
  let (t, p) ← agent l at'
  let (_, p) ← sign [47] l p
  let (o, p) ← city l p
  return ({ cmdK 1 with text := t, office := o }, p)
def pAvail (l : List UInt8) (at' : Nat) : Except Flt (CmdT × Nat) := do
  let (d, p) ← day l at'
  let (a, p) ← city l p
  let (b, p) ← city l p
  return ({ cmdK 3 with day := d, src := a, dst := b }, p)
def pSell (l : List UInt8) (at' : Nat) : Except Flt (CmdT × Nat) := do
  let (n, p) ← digit 9 l at'
  let (a, p) ← cls l p
  let (m, p) ← number 1 l p
  return ({ cmdK 4 with n, cls := a, line := m }, p)
def pName (l : List UInt8) (at' : Nat) : Except Flt (CmdT × Nat) := do
  let (a, p) ← person l at'
  let (_, p) ← sign [47] l p
  let (b, p) ← person l p
  return ({ cmdK 5 with last := a, first := b }, p)
def pFree (k : Int) (l : List UInt8) (at' : Nat) : Except Flt (CmdT × Nat) := do
  let (t, p) ← free l at'
  return ({ cmdK k with text := t }, p)
def pLimit (l : List UInt8) (at' : Nat) : Except Flt (CmdT × Nat) := do
  let (d, p) ← day l at'
  let (_, p) ← sign [47] l p
  let (m, p) ← clock l p
  return ({ cmdK 7 with day := d, minute := m }, p)
def seats (l : List UInt8) (at' : Nat) : Except Flt (CmdT × Nat) := do
  let (n, p) ← digit 8 l at'
  if isPre [42] (l.drop p) then return ({ cmdK 11 with n }, p + 1)
  let (_, p) ← sign [47] l p
  let (x, p) ← seat l p
  let (_, p) ← sign [45] l p
  let (y, p) ← digit 9 l p
  return ({ cmdK 12 with n, row := x.1, c := x.2, pax := y }, p)

def pUnseat (l : List UInt8) (at' : Nat) : Except Flt (CmdT × Nat) := do
  let (n, p) ← digit 8 l at'
  let (_, p) ← sign [45] l p
  let (y, p) ← digit 9 l p
  return ({ cmdK 13 with n, pax := y }, p)
def pCancel (l : List UInt8) (at' : Nat) : Except Flt (CmdT × Nat) := do
  let (n, p) ← digit 8 l at'
  return ({ cmdK 14 with n }, p)
def pLoc (l : List UInt8) (at' : Nat) : Except Flt (CmdT × Nat) := do
  let (t, p) ← loc l at'
  return ({ cmdK 16 with text := t }, p)
def pNum (k : Int) (l : List UInt8) (at' : Nat) : Except Flt (CmdT × Nat) := do
  let (n, p) ← number 0 l at'
  return ({ cmdK k with n }, p)

/-- What stands behind the word. -/
def parts (l : List UInt8) (k : Int) (at' : Nat) : Except Flt (CmdT × Nat) :=
  if k = 1 then pIn l at'
  else if k = 3 then pAvail l at'
  else if k = 4 then pSell l at'
  else if k = 5 then pName l at'
  else if k = 6 ∨ k = 9 ∨ k = 10 then pFree k l at'
  else if k = 7 then pLimit l at'
  else if k = 11 then seats l at'
  else if k = 13 then pUnseat l at'
  else if k = 14 then pCancel l at'
  else if k = 16 then pLoc l at'
  else if k = 23 ∨ k = 24 then pNum k l at'
  else .ok (cmdK k, at')

/-- An entry, taken apart. -/
def parse (l : List UInt8) : Except Flt CmdT :=
  if 255 < l.length then .error (40, 255) else
  match begin_ l with
  | none => .error (41, 0)
  | some (k, p) =>
    match parts l k p with
    | .error f => .error f
    | .ok (c, q) => if q < l.length then .error (47, q) else .ok c
end Go.Proofs.YtjahkaidinahpaaDoor.En
