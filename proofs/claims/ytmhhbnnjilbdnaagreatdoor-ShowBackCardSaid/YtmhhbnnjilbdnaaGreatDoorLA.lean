/- PNRs: when they are sound, their bytes, and the PNR of bytes (plain). check.texts and the reference's texts; check.ticket. Ticketing fields; a segment by itself. Seats' texts: strconv.Itoa and Digits below 100, plan.Text, jetwayref09.Text. Legs: the plain law (their bytes, and the legs of bytes); parsers in stages. Steps of both readers, whatever comes. (codec.Leg).sound. Seats in bits. The writer as a state. The empty PNR is sound. Texts are written; codec.Pnr of the empty PNR. codec.Pnr of the empty PNR. told, long, awake. The law CodecRows. check.segments. What codec.Pnr's walk needs: a text's append in a drawn region, bits, the bytes by stages. The reader's text, names, texts. The reader's segments. The reader's methods: bytes, number, fixed, locator, begin. The reader's methods: fixed, locator, begin. bytes.Equal, again. The reader's steps, whatever comes; codec.ReadQueue. codec.ReadCount. The reference's numbers as bytes: Var, Put, number, one, Number, inverse. The reference's Number, Queue, OfCount. The reference's ReadVar; the cursor. The cursor's num, loc. The reference's ReadQueue, ReadCount. -/
import Derived.Test.YtmhhbnnjilbdnaaGreatDoorKA
import Derived.Test.YtmhhbnnjilbdnaaGreatDoorRows
import Derived.WalkKit
import Derived.WalkSpells
import Derived.WalkLawsBesides
import Derived.Lib.ConvBytes
import Derived.Lib.Hide
import Derived.Lib.SliceRun
import Derived.IntWalk
import Derived.BigQuiet
import Derived.Deep.QuietTactic
import Derived.Deep.RegionWith
import Derived.Deep.RegionHeld3
import Derived.Deep.LoopGhost
import Derived.Deep.CutRange
import Derived.Deep.CutBlock
import Derived.Deep.MidRow
import Derived.Laws.OwnMore
import Derived.OwnWalk
import Derived.Laws.AppendOwnNone
import Derived.Laws.Rows
import Derived.Laws.MakeOwn
import Derived.Laws.CopyOwn
import Derived.Laws.BitsAllLaws
import Derived.DeepKeys5
import Derived.Maps.OwnOps
import Derived.Handy
import Derived.Lib.AppendStr
import Derived.StillTailTactics
import Derived.Deep.AppendLies
import Derived.Test.YtmhhbnnjilbdnaaGreatDoorPlnP
import Derived.WideKeyEntry
import Derived.Test.YtmhhbnnjilbdnaaGreatDoorKB
namespace Go.Proofs.YtmhhbnnjilbdnaaGreatDoor
open Go.RowKit Go.ChangeMaps
set_option linter.unusedSimpArgs false
set_option linter.unusedVariables false
set_option maxRecDepth 20000

theorem nameC_one (x : NameT) : ∀ v ∈ nameC x, v.oneCell' = true := by
  intro v hv
  simp [nameC] at hv
  rcases hv with rfl | rfl <;> rfl
theorem segC_one (x : SegT) : ∀ v ∈ segC x, v.oneCell' = true := by
  intro v hv
  simp [segC] at hv
  rcases hv with rfl | rfl | rfl | rfl | rfl <;> rfl
theorem placeC_one (x : PlaceT) : ∀ v ∈ placeC x, v.oneCell' = true := by
  intro v hv
  simp [placeC] at hv
  rcases hv with rfl | rfl | rfl | rfl <;> rfl

/- Their bytes. -/
/- The PNR of bytes. -/
/- What was written is read. -/
end Go.Proofs.YtmhhbnnjilbdnaaGreatDoor
namespace Go.Proofs.YtmhhbnnjilbdnaaGreatDoor
open Go.RowKit Go.ChangeMaps
set_option linter.unusedSimpArgs false
set_option linter.unusedVariables false
set_option maxRecDepth 20000

/-- Free texts, at most so many. -/
def textsOk (l : List ByteArray) (most : Nat) : Prop := l.length ≤ most ∧ ∀ s ∈ l, freeP s
open Classical in
noncomputable def textsS (l : List ByteArray) (most : Nat) : Bool := decide (textsOk l most)
theorem textsS_yes {l : List ByteArray} {most : Nat} (h : textsOk l most) : textsS l most = true := by unfold textsS; simp [h]
theorem textsS_no {l : List ByteArray} {most : Nat} (h : ¬ textsOk l most) : textsS l most = false := by unfold textsS; simp [h]

end Go.Proofs.YtmhhbnnjilbdnaaGreatDoor
namespace Go.Proofs.YtmhhbnnjilbdnaaGreatDoor
open Go.RowKit Go.ChangeMaps
set_option linter.unusedSimpArgs false
set_option linter.unusedVariables false
set_option maxRecDepth 20000

open Classical in
noncomputable def tickS (tk td tm : Int) (q : Bool) : Bool := decide (tickOk tk td tm q)
theorem tickS_yes {tk td tm : Int} {q : Bool} (h : tickOk tk td tm q) : tickS tk td tm q = true := by unfold tickS; simp [h]
theorem tickS_no {tk td tm : Int} {q : Bool} (h : ¬ tickOk tk td tm q) : tickS tk td tm q = false := by unfold tickS; simp [h]

theorem info_ticket : (Tryz.prog.info? 26).map (·.size) = some 3 := by kernel_rfl
theorem tick3_one {a b c : Int} : ∀ v ∈ ([.int .i64 a, .int .i64 b, .int .i64 c] : List Value), v.oneCell' = true := by
  intro v hv
  simp at hv
  rcases hv with rfl | rfl | rfl <;> rfl

end Go.Proofs.YtmhhbnnjilbdnaaGreatDoor
namespace Go.Proofs.YtmhhbnnjilbdnaaGreatDoor
open Go.RowKit
set_option linter.unusedSimpArgs false
set_option linter.unusedVariables false

theorem digA_size {n : Nat} (h : n < 100) : (digA n).size ≤ 2 := by
  have e : (digA n).size = (digL n).length := rfl
  rw [e, digL_two h]
  unfold two
  split <;> simp

end Go.Proofs.YtmhhbnnjilbdnaaGreatDoor
namespace Go.Proofs.YtmhhbnnjilbdnaaGreatDoor
open Go.RowKit Go.ChangeMaps
set_option linter.unusedSimpArgs false
set_option linter.unusedVariables false
set_option maxRecDepth 20000

/- Parsers in stages. -/
/- Legs. -/
theorem take_at {α : Type} {l : List α} {i j : Nat} (h : j < i) : (l.take i)[j]? = l[j]? := by rw [List.getElem?_take, if_pos h]

theorem Rise.next {α : Type} {one : α → Prop} {low : α → α → Prop} {l : List α} {i : Nat} {x : α} (h : Rise one low (l.take i)) (hx : l[i]? = some x) (h1 : one x) (h2 : ∀ y, 0 < i → l[i - 1]? = some y → low y x) : Rise one low (l.take (i + 1)) := by
  intro j z hz
  have hj : j < i + 1 := by
    rcases Nat.lt_or_ge j (i + 1) with h | h
    · exact h
    · rw [List.getElem?_take, if_neg (by omega)] at hz; cases hz
  rw [take_at hj] at hz
  rcases Nat.lt_or_ge j i with hji | hji
  · obtain ⟨k1, k2⟩ := h j z (by rw [take_at hji]; exact hz)
    refine ⟨k1, fun y hj0 hy => k2 y hj0 ?_⟩
    rw [take_at (by omega)] at hy ⊢
    exact hy
  · have e : j = i := by omega
    subst e
    rw [hx] at hz
    injection hz with hz
    subst hz
    exact ⟨h1, fun y hj0 hy => h2 y hj0 (by rw [take_at (by omega)] at hy; exact hy)⟩

end Go.Proofs.YtmhhbnnjilbdnaaGreatDoor
namespace Go.Proofs.YtmhhbnnjilbdnaaGreatDoor
open Go.RowKit Go.ChangeMaps
set_option linter.unusedSimpArgs false
set_option linter.unusedVariables false
set_option maxRecDepth 20000

end Go.Proofs.YtmhhbnnjilbdnaaGreatDoor
namespace Go.Proofs.YtmhhbnnjilbdnaaGreatDoor
open Go.RowKit Go.ChangeMaps
set_option linter.unusedSimpArgs false
set_option linter.unusedVariables false
set_option maxRecDepth 20000

theorem info_seat2 : (Tryz.prog.info? 46).map (·.size) = some 2 := by kernel_rfl
theorem seatT_empty {r : Int} {c : UInt8} : ((seatT r c).toList == []) = !decide (1 ≤ r ∧ r ≤ 99 ∧ bL c = true) := by
  by_cases h : 1 ≤ r ∧ r ≤ 99 ∧ bL c = true
  · rw [decide_eq_true h]
    unfold seatT
    have h' : 1 ≤ r ∧ r ≤ 99 ∧ isL c.toNat = true := h
    rw [if_pos h', beq_eq_false_iff_ne.2]
    · rfl
    · intro e
      have e2 := congrArg List.length e
      rw [ByteArray.toList_eq] at e2
      have : (digA r.toNat ++ ⟨#[c]⟩ : ByteArray).data.toList.length = (digA r.toNat).data.toList.length + 1 := by simp
      rw [this] at e2
      simp at e2
  · rw [decide_eq_false h]
    rw [seatT_no (show ¬ (1 ≤ r ∧ r ≤ 99 ∧ isL c.toNat = true) from h)]
    rw [ByteArray.toList_eq]
    rfl
end Go.Proofs.YtmhhbnnjilbdnaaGreatDoor
namespace Go.Proofs.YtmhhbnnjilbdnaaGreatDoor
open Go.RowKit Go.ChangeMaps
set_option linter.unusedSimpArgs false
set_option linter.unusedVariables false
set_option maxRecDepth 20000

end Go.Proofs.YtmhhbnnjilbdnaaGreatDoor
namespace Go.Proofs.YtmhhbnnjilbdnaaGreatDoor
open Go.RowKit Go.ChangeMaps
set_option linter.unusedSimpArgs false
set_option linter.unusedVariables false
set_option maxRecDepth 20000

end Go.Proofs.YtmhhbnnjilbdnaaGreatDoor
namespace Go.Proofs.YtmhhbnnjilbdnaaGreatDoor
open Go.RowKit Go.ChangeMaps
set_option linter.unusedSimpArgs false
set_option linter.unusedVariables false
set_option maxRecDepth 20000

/-- The cells of the empty PNR. -/
def zeroC : List Value := [.string ⟨#[]⟩, .string ⟨#[]⟩, .slice none 0 0, .slice none 0 0, .slice none 0 0, .int .i64 0, .int .i64 0, .int .i64 0, .string ⟨#[]⟩, .slice none 0 0, .slice none 0 0, .bool false]

/-- A load whose guard holds. -/
theorem wpList_load_yes {P : Program} {w : World} {ops : Array Oper} {rest : List Oper} {op : Oper} {a : Act} {Q : Exit → Act → World → Prop} (ty : TypeId) (x : Operand) (ho : op.op = .load ty x) (hw : Region.wanted op (yielded ops a.tmps) = true)
    (p : Addr) (hx : a.eval x = .pointer (some p)) (v : Value) (hr : (loadVar ty p).run P w = .ok v w) (h : wpList P ops Q rest (a.put op.dst v) w) : wpList P ops Q (op :: rest) a w := by
  refine wpList_step fun K hK => ?_
  simp only [hw, if_true]
  unfold Oper.wp execOp
  simp only [ho, hx, Instr.loadAt, Instr.sureAddr, Sem.run_bind, Sem.run_pure, Result.andThen_ok, hr]
  exact hK _ _ h

end Go.Proofs.YtmhhbnnjilbdnaaGreatDoor
namespace Go.Proofs.YtmhhbnnjilbdnaaGreatDoor
open Go.RowKit Go.ChangeMaps
set_option linter.unusedSimpArgs false
set_option linter.unusedVariables false
set_option maxRecDepth 20000

end Go.Proofs.YtmhhbnnjilbdnaaGreatDoor
namespace Go.Proofs.YtmhhbnnjilbdnaaGreatDoor
open Go.RowKit Go.ChangeMaps
set_option linter.unusedSimpArgs false
set_option linter.unusedVariables false
set_option maxRecDepth 20000

end Go.Proofs.YtmhhbnnjilbdnaaGreatDoor
namespace Go.Proofs.YtmhhbnnjilbdnaaGreatDoor
open Go.RowKit Go.ChangeMaps
set_option linter.unusedSimpArgs false
set_option linter.unusedVariables false
set_option maxRecDepth 20000

end Go.Proofs.YtmhhbnnjilbdnaaGreatDoor
namespace Go.Proofs.YtmhhbnnjilbdnaaGreatDoor
open Go.RowKit Go.ChangeMaps
set_option linter.unusedSimpArgs false
set_option linter.unusedVariables false
set_option maxRecDepth 20000

/-- Bytes that came in. -/
def Bytes (w : World) (v : Value) (b : List UInt8) : Prop := HasE byteC w v b

end Go.Proofs.YtmhhbnnjilbdnaaGreatDoor
namespace Go.Proofs.YtmhhbnnjilbdnaaGreatDoor
open Go.RowKit Go.ChangeMaps
set_option linter.unusedSimpArgs false
set_option linter.unusedVariables false
set_option maxRecDepth 20000

/-- Segments that are sound. -/
def segsOk (l : List SegT) : Prop := l.length ≤ 8 ∧ (∀ x ∈ l, segOk x) ∧ ((l.filter (·.live)).map legK).Nodup
open Classical in
noncomputable def segsS (l : List SegT) : Bool := decide (segsOk l)
theorem segsS_yes {l : List SegT} (h : segsOk l) : segsS l = true := by unfold segsS; simp [h]
theorem segsS_no {l : List SegT} (h : ¬ segsOk l) : segsS l = false := by unfold segsS; simp [h]

end Go.Proofs.YtmhhbnnjilbdnaaGreatDoor
namespace Go.Proofs.YtmhhbnnjilbdnaaGreatDoor
open Go.RowKit Go.ChangeMaps
set_option linter.unusedSimpArgs false
set_option linter.unusedVariables false
set_option maxRecDepth 20000

/- The bytes by stages. -/
def q11 (p : PnrT) : List UInt8 := q10 p ++ varL p.remarks.length
def q12 (p : PnrT) : List UInt8 := q11 p ++ p.remarks.flatMap textB
def q13 (p : PnrT) : List UInt8 := q12 p ++ varL p.seats.length
end Go.Proofs.YtmhhbnnjilbdnaaGreatDoor
namespace Go.Proofs.YtmhhbnnjilbdnaaGreatDoor
open Go.RowKit Go.ChangeMaps
set_option linter.unusedSimpArgs false
set_option linter.unusedVariables false
set_option maxRecDepth 20000

theorem name_tinfo : ∃ i0 : TypeInfo, Tryz.prog.info? 38 = some i0 ∧ i0.zero = some (.agg #[.string ⟨#[]⟩, .string ⟨#[]⟩]) ∧ i0.size = 2 ∧ i0.bytes = 32 := by
  have hbyte : (Tryz.prog.info? 38).map (fun i => (i.zero, i.size, i.bytes)) = some (some (.agg #[.string ⟨#[]⟩, .string ⟨#[]⟩]), 2, 32) := by kernel_rfl
  rw [Option.map_eq_some_iff] at hbyte
  obtain ⟨i0, h1, h2⟩ := hbyte
  simp only [Prod.mk.injEq] at h2
  exact ⟨i0, h1, h2.1, h2.2.1, h2.2.2⟩

end Go.Proofs.YtmhhbnnjilbdnaaGreatDoor
namespace Go.Proofs.YtmhhbnnjilbdnaaGreatDoor
open Go.RowKit Go.ChangeMaps
set_option linter.unusedSimpArgs false
set_option linter.unusedVariables false
set_option maxRecDepth 20000

theorem seg_tinfo : ∃ i0 : TypeInfo, Tryz.prog.info? 44 = some i0 ∧ i0.zero = some (.agg #[.string ⟨#[]⟩, .int .i64 0, .int .i64 0, .int .u8 0, .bool false]) ∧ i0.size = 5 ∧ i0.bytes = 40 := by
  have hbyte : (Tryz.prog.info? 44).map (fun i => (i.zero, i.size, i.bytes)) = some (some (.agg #[.string ⟨#[]⟩, .int .i64 0, .int .i64 0, .int .u8 0, .bool false]), 5, 40) := by kernel_rfl
  rw [Option.map_eq_some_iff] at hbyte
  obtain ⟨i0, h1, h2⟩ := hbyte
  simp only [Prod.mk.injEq] at h2
  exact ⟨i0, h1, h2.1, h2.2.1, h2.2.2⟩

end Go.Proofs.YtmhhbnnjilbdnaaGreatDoor
namespace Go.Proofs.YtmhhbnnjilbdnaaGreatDoor
open Go.RowKit Go.ChangeMaps
set_option linter.unusedSimpArgs false
set_option linter.unusedVariables false
set_option maxRecDepth 20000

end Go.Proofs.YtmhhbnnjilbdnaaGreatDoor
namespace Go.Proofs.YtmhhbnnjilbdnaaGreatDoor
open Go.RowKit Go.ChangeMaps
set_option linter.unusedSimpArgs false
set_option linter.unusedVariables false
set_option maxRecDepth 20000

end Go.Proofs.YtmhhbnnjilbdnaaGreatDoor
namespace Go.Proofs.YtmhhbnnjilbdnaaGreatDoor
open Go.RowKit Go.ChangeMaps
set_option linter.unusedSimpArgs false
set_option linter.unusedVariables false
set_option maxRecDepth 20000

end Go.Proofs.YtmhhbnnjilbdnaaGreatDoor
namespace Go.Proofs.YtmhhbnnjilbdnaaGreatDoor
open Go.RowKit Go.ChangeMaps
set_option linter.unusedSimpArgs false
set_option linter.unusedVariables false
set_option maxRecDepth 20000

end Go.Proofs.YtmhhbnnjilbdnaaGreatDoor
namespace Go.Proofs.YtmhhbnnjilbdnaaGreatDoor
open Go.RowKit Go.ChangeMaps
set_option linter.unusedSimpArgs false
set_option linter.unusedVariables false
set_option maxRecDepth 20000

/-- A row and a value come back. -/
theorem results_row_tmp {P : Program} {fn : Func} {p q : Tmp} {ty : TypeId} (h : fn.results = #[.cell p ty, .tmp q]) (tmps : Array Value) (w : World) (g : Nat) (t : TypeId) (cs : List Value) (d : TypeDesc)
    (hp : tmps.getD p undef = .pointer (some ⟨g, 0, none⟩)) (hg : Blk w g t cs)
    (hu : P.underlying ty = some d) (hd : (match d with | .struct _ | .array _ _ => true | _ => false) = true) (hi : (P.info? ty).map (·.size) = some cs.length) :
    (results fn tmps).run P w = .ok (.tuple #[.agg cs.toArray, tmps.getD q undef]) w := by
  have hp' : tmps[p]?.getD undef = .pointer (some ⟨g, 0, none⟩) := by simpa using hp
  simp [results, h, hp', asAddr, run_loadVar_row w g t ty cs.toArray (0, 0) d hg hu hd (by simpa using hi)]

end Go.Proofs.YtmhhbnnjilbdnaaGreatDoor
namespace Go.Proofs.YtmhhbnnjilbdnaaGreatDoor
open Go.RowKit Go.ChangeMaps
set_option linter.unusedSimpArgs false
set_option linter.unusedVariables false
set_option maxRecDepth 20000

def strA (l : List UInt8) : ByteArray := ⟨l.toArray⟩
theorem strA_toL (l : List UInt8) : toL (strA l) = l := by unfold toL strA; simp
end Go.Proofs.YtmhhbnnjilbdnaaGreatDoor
namespace Go.Proofs.YtmhhbnnjilbdnaaGreatDoor
open Go.RowKit Go.ChangeMaps
set_option linter.unusedSimpArgs false
set_option linter.unusedVariables false
set_option maxRecDepth 20000

end Go.Proofs.YtmhhbnnjilbdnaaGreatDoor
namespace Go.Proofs.YtmhhbnnjilbdnaaGreatDoor
open Go.RowKit Go.ChangeMaps
set_option linter.unusedSimpArgs false
set_option linter.unusedVariables false
set_option maxRecDepth 20000

end Go.Proofs.YtmhhbnnjilbdnaaGreatDoor
namespace Go.Proofs.YtmhhbnnjilbdnaaGreatDoor
open Go.RowKit Go.ChangeMaps
set_option linter.unusedSimpArgs false
set_option linter.unusedVariables false
set_option maxRecDepth 20000

end Go.Proofs.YtmhhbnnjilbdnaaGreatDoor
namespace Go.Proofs.YtmhhbnnjilbdnaaGreatDoor
open Go.RowKit Go.ChangeMaps
set_option linter.unusedSimpArgs false
set_option linter.unusedVariables false
set_option maxRecDepth 20000

end Go.Proofs.YtmhhbnnjilbdnaaGreatDoor
