/- Small laws: strings, bytes, slices of texts; SameTexts. Letters, cities, persons, locators: the program and the reference. Locators: locator.Text, Number, inverse; the reference Text. Blocks of plain cells; lists in memory (HasE); lists of bytes. Codec: the plain bytes: numbers, fixed numbers, locators, queues, counts, and what is read of bytes. make([]byte, n, c), copy(out, b). Maps with any keys and any values: looked up, put into. word.Var, word.Put. word.ReadVar, word.Get. word.Get from the front; the writer's methods. codec.Queue. codec.OfCount. jetwayref14.SoundLeg. codec.ReadLeg: its state. The reader's methods: bytes, number, fixed, locator, begin. The reader's methods: fixed, locator, begin. bytes.Equal, again. The reader's steps, whatever comes; codec.ReadQueue. codec.ReadCount. The empty PNR is sound. Texts are written; codec.Pnr of the empty PNR. codec.Pnr of the empty PNR. told, long, awake. The law CodecRows. Seats' texts: strconv.Itoa and Digits below 100, plan.Text, jetwayref09.Text. Legs: the plain law (their bytes, and the legs of bytes); parsers in stages. Steps of both readers, whatever comes. (codec.Leg).sound. Seats in bits. The writer as a state. Texts and bytes that came in. Lists of rows that came in; a leg that came in. Carriers, agents, persons, free texts. PNRs: when they are sound, their bytes, and the PNR of bytes (plain). Rows of PNRs at an index; a live segment (the reference). A PNR that lies in memory; when it is sound, as a Bool. What codec.Pnr's walk needs: a text's append in a drawn region, bits, the bytes by stages. The reader's text, names, texts. codec.ReadPnr. PNRs and counts that came in. The law CodecBack: the walk. An edit that writes a text (the reference). An edit that adds a name or a segment (the reference). The scanner over any block whose first two cells are a text and a place: ahead, of, Run, End, Rest, HasPrefix, Word, Bytes, Number; the reference's Place, Word, Bytes, of, Run, Number. -/
import Derived.Test.YtmhhbnnjilbdnaaGreatDoorRows
import Derived.WalkKit
import Derived.WalkSpells
import Derived.WalkLawsBesides
import Derived.Lib.ConvBytes
import Derived.Lib.Hide
import Derived.Lib.SliceRun
import Derived.IntWalk
import Derived.BigQuiet
import Derived.Deep.QuietTactic
import Derived.Deep.RegionWith
import Derived.Deep.RegionHeld3
import Derived.Deep.LoopGhost
import Derived.Deep.CutRange
import Derived.Deep.CutBlock
import Derived.Deep.MidRow
import Derived.Laws.OwnMore
import Derived.OwnWalk
import Derived.Laws.AppendOwnNone
import Derived.Laws.Rows
import Derived.Laws.MakeOwn
import Derived.Laws.CopyOwn
import Derived.Laws.BitsAllLaws
import Derived.DeepKeys5
import Derived.Maps.OwnOps
import Derived.Handy
import Derived.Lib.AppendStr
import Derived.StillTailTactics
import Derived.Deep.AppendLies
import Derived.ProofKit
import Derived.OpenShut
import Derived.SliceStrings
import Derived.Lib.SmallJoins
import Derived.Deep.SlicePairs
import Derived.ChangeSlices
import Derived.WideKeyEntry
namespace Go.Proofs.YtmhhbnnjilbdnaaGreatDoor
open Go.RowKit

theorem ret_bool {a b : Bool} (h : a = b) : Ending.returned (.bool a) = .returned (.bool b) := by rw [h]

theorem ret_int {k : IntKind} {a b : Int} (h : a = b) : Ending.returned (.int k a) = .returned (.int k b) := by rw [h]

theorem ret_str {a b : ByteArray} (h : a.data.toList = b.data.toList) : Ending.returned (.string a) = .returned (.string b) := by
  have : a = b := by
    obtain ⟨⟨a⟩⟩ := a; obtain ⟨⟨b⟩⟩ := b
    simp at h; rw [h]
  rw [this]

theorem byte_hi (b : UInt8) : (b.toNat : Int) ≤ 255 := by have := b.toNat_lt; omega

/-- What the walk knows behind '[]byte(s)'. -/
theorem bytes_conv (s : ByteArray) (w : World) : ∃ w1 : World, ∃ cap : Nat, (convert 9 69 (.string s)).run Tryz.prog w = .ok (.slice (some ⟨w.heap.size, 0, none⟩) s.size cap) w1 ∧
    Below w.heap.size w w1 ∧ w1.heap.size = w.heap.size + 1 ∧ ∀ j, j < s.size → w1.cell? ⟨w.heap.size, j, none⟩ = some (.int .u8 (s.data.toList.getD j 0).toNat) := by
  refine ⟨_, _, Lib.run_convert_string_bytes (P := Tryz.prog) w 9 69 5 s Tryz.underlying9 Tryz.underlying69 Tryz.underlying5, ?_, Lib.bytesWorld_size _ _ _, fun j hj => Lib.bytesWorld_cell _ _ _ _ hj⟩
  exact ⟨rfl, rfl, rfl, by rw [Lib.bytesWorld_size]; omega, fun i hi => Lib.bytesWorld_at_old _ _ _ _ hi⟩

theorem below_drewN {B : Nat} {a w : World} (h : Below B a w) (n : Nat) : Below B a (w.drewN n) := ⟨h.os, h.tape, h.output, h.size, h.block⟩

theorem bel_trans {w w1 w2 : World} (h : Below w.heap.size w w1) (k : Below w1.heap.size w1 w2) : Below w.heap.size w w2 := h.trans (k.mono h.size)

/-- 'string(b)' where b's cells are the bytes l. -/
theorem string_conv (l : List UInt8) (w : World) (b n cap : Nat) (hn : l.length = n) (hc : ∀ j, j < n → w.cell? ⟨b, j, none⟩ = some (.int .u8 ((l.getD j 0).toNat : Int))) :
    (convert 69 9 (.slice (some ⟨b, 0, none⟩) n cap)).run Tryz.prog w = .ok (.string ⟨l.toArray⟩) w := by
  subst hn
  refine run_convert_bytes_back (P := Tryz.prog) w 69 9 5 ⟨b, 0, none⟩ cap l Tryz.underlying69 Tryz.underlying5 Tryz.underlying9 fun j hj => ?_
  have := hc j hj
  simp [List.getD, hj] at this
  have e : (⟨b, 0, none⟩ : Addr).add j = ⟨b, j, none⟩ := by simp [Addr.add]; omega
  rw [e]
  exact this

theorem bytes_inj {a b : ByteArray} (h : a.data.toList = b.data.toList) : a = b := by
  obtain ⟨⟨a⟩⟩ := a; obtain ⟨⟨b⟩⟩ := b
  simp at h; rw [h]

theorem toList_inj {a b : ByteArray} (h : a.toList = b.toList) : a = b := by
  rw [ByteArray.toList_eq, ByteArray.toList_eq] at h
  obtain ⟨⟨a⟩⟩ := a; obtain ⟨⟨b⟩⟩ := b
  simp at h; rw [h]

theorem get_list (s : ByteArray) (k : Nat) (h : k < s.size) : s[k] = s.data.toList.getD k 0 := by
  simp [List.getD, h]; rfl

/-- 'v' reads as the texts l in w. -/
def HasL (w : World) (v : Value) (l : List ByteArray) : Prop :=
  (∃ p c, v = .slice p 0 c ∧ l = [] ∧ (p = none → c = 0)) ∨ ∃ b off c, v = .slice (some ⟨b, off, none⟩) l.length c ∧ l.length ≤ c ∧ c ≤ maxLen ∧ ∀ j, j < l.length → w.cell? ⟨b, off + j, none⟩ = some (.string (l.getD j ByteArray.empty))

/-- The cells of the texts l. -/
def strV (l : List ByteArray) : List Value := l.map Value.string

theorem strV_get {l : List ByteArray} {j : Nat} (h : j < l.length) : (strV l)[j]? = some (.string (l.getD j ByteArray.empty)) := by
  simp [strV, List.getD, h]

theorem HasL.keep {w w' : World} {v : Value} {l : List ByteArray} (h : HasL w v l) (hk : ∀ a u, w.cell? a = some u → w'.cell? a = some u) : HasL w' v l := by
  rcases h with h | ⟨b, off, c, e, h1, h2, h3⟩
  · exact .inl h
  · exact .inr ⟨b, off, c, e, h1, h2, fun j hj => hk _ _ (h3 j hj)⟩

theorem HasL.mono {w w' : World} {v : Value} {l : List ByteArray} (h : HasL w v l) (hb : Below w.heap.size w w') : HasL w' v l :=
  h.keep fun a _ hu => (hb.cell (World.block_lt_of_cell? w a hu)).trans hu

theorem HasL.nil (w : World) : HasL w (.slice none 0 0) [] := .inl ⟨none, 0, rfl, rfl, fun _ => rfl⟩

theorem HasL.own {w : World} {base : Nat} {e : TypeId} {v : Value} {l : List ByteArray} (h : w.ownsRow base e 1 v l.length (strV l)) : HasL w v l := by
  rcases h.2 with ⟨e1, e2⟩ | ⟨g, cap, cur, e1, _, _, h3, h4, _⟩
  · exact .inl ⟨none, 0, e1, List.length_eq_zero_iff.1 e2, fun _ => rfl⟩
  · refine .inr ⟨g, 0, cap, e1, h3, h4, fun j hj => ?_⟩
    have := h.cells (g := g) (by rw [e1]; rfl) j _ (strV_get hj)
    rw [Addr.add_lit] at this
    exact this

/-- What the dump says of 'string' as an element. -/
theorem str_info : ∃ i0 : TypeInfo, Tryz.prog.info? 9 = some i0 ∧ i0.zero = some (.string ⟨#[]⟩) ∧ i0.size = 1 ∧ i0.bytes = 16 := by
  have hbyte : (Tryz.prog.info? 9).map (fun i => (i.zero, i.size, i.bytes)) = some (some (.string ⟨#[]⟩), 1, 16) := by kernel_rfl
  rw [Option.map_eq_some_iff] at hbyte
  obtain ⟨i0, h1, h2⟩ := hbyte
  simp only [Prod.mk.injEq] at h2
  exact ⟨i0, h1, h2.1, h2.2.1, h2.2.2⟩

theorem own_low {w : World} {base base' : Nat} {e : TypeId} {size : Nat} {v : Value} {n : Nat} {xs : List Value} (h : w.ownsRow base e size v n xs) (hb : base' ≤ base) : w.ownsRow base' e size v n xs := by
  refine ⟨h.1, ?_⟩
  rcases h.2 with h2 | ⟨g, cap, cur, e1, e2, r⟩
  · exact .inl h2
  · exact .inr ⟨g, cap, cur, e1, Nat.le_trans hb e2, r⟩

/-- 'v' is a slice of texts in memory from B on, or nil. -/
def OwnL (w : World) (B : Nat) (v : Value) (l : List ByteArray) : Prop := w.ownsRow B 9 1 v l.length (strV l)

theorem OwnL.nil (w : World) (B : Nat) : OwnL w B (.slice none 0 0) [] := World.ownsRow_nil _ _ _ _

theorem OwnL.has {w : World} {B : Nat} {v : Value} {l : List ByteArray} (h : OwnL w B v l) : HasL w v l := HasL.own h

theorem OwnL.low {w : World} {B B' : Nat} {v : Value} {l : List ByteArray} (h : OwnL w B v l) (hb : B' ≤ B) : OwnL w B' v l := own_low h hb

theorem gr_of_below {a w : World} (h : Below a.heap.size a w) (row : Option Nat) : a.grownBy w row := ⟨h.os, h.tape, h.output, h.size, fun i hi _ => h.block i hi⟩

theorem OwnL.mono {w w' : World} {B : Nat} {v : Value} {l : List ByteArray} (h : OwnL w B v l) (hb : Below w.heap.size w w') : OwnL w' B v l := by
  have hg : w.grownBy w' none := gr_of_below hb none
  refine World.ownsRow.kept h hg ?_
  cases hv : v.ownBlock <;> simp

theorem own_len {w : World} {v : Value} {l : List ByteArray} (h : HasL w v l) : ∃ p c, v = .slice p l.length c := by
  rcases h with ⟨_, _, rfl, rfl, _⟩ | ⟨b, off, c, rfl, _⟩
  · exact ⟨_, _, rfl⟩
  · exact ⟨_, _, rfl⟩

theorem cell_bel {w wr : World} {p : Addr} {u : Value} (hb : Below w.heap.size w wr) (h : w.cell? p = some u) : wr.cell? p = some u :=
  (hb.cell (World.block_lt_of_cell? w p h)).trans h

theorem list_eq {a b : List ByteArray} (hl : a.length = b.length) (h : ∀ j, j < a.length → a.getD j ByteArray.empty = b.getD j ByteArray.empty) : a = b := by
  apply List.ext_getElem hl
  intro i h1 h2
  have := h i h1
  simpa [List.getD, h1, h2] using this

set_option maxHeartbeats 4000000 in
theorem same_any (a b : List ByteArray) (va vb : Value) (w : World) (ha : HasL w va a) (hb : HasL w vb b) (hl : a.length ≤ 1000000) (hl2 : b.length ≤ 1000000) :
    Calls Tryz.prog 35 #[va, vb] w fun e w' => e = .returned (.bool (decide (a = b))) ∧ Below w.heap.size w w' := by
  by_cases hlen : a.length = b.length
  · by_cases h0 : a.length = 0
    · obtain rfl : a = [] := List.length_eq_zero_iff.1 h0
      obtain rfl : b = [] := List.length_eq_zero_iff.1 (by rw [← hlen]; rfl)
      obtain ⟨p, c, rfl⟩ := own_len ha
      obtain ⟨p2, c2, rfl⟩ := own_len hb
      clear ha hb hlen h0
      simp only [List.length_nil]
      go_enter Tryz.func35, Tryz.ntmps35
      go_wp2
      refine wp_loop_rounds 1 ?_
      rw [rounds_succ]
      go_wp2
      go_ret
      exact ⟨rfl, Below.refl _ _⟩
    · rcases ha with ⟨_, _, _, rfl, _⟩ | ⟨g, off, c, rfl, a1, a2, a3⟩
      · exact absurd rfl h0
      rcases hb with ⟨_, _, _, rfl, _⟩ | ⟨g2, off2, c2, rfl, b1, b2, b3⟩
      · exact absurd hlen h0
      have A3 := Lib.hid a3
      have B3 := Lib.hid b3
      have HL := Lib.hid hlen
      rw [← hlen] at b1 hl2 ⊢
      clear a3 b3 hlen h0
      generalize hn : a.length = n at *
      have HN := Lib.hid hn
      clear hn
      go_enter Tryz.func35, Tryz.ntmps35
      go_wp2
      go_loopw [5] (fun i wr => ∃ k : Nat, k ≤ n ∧ Below w.heap.size w wr ∧ i = .int .i64 k ∧ ∀ j, j < k → a.getD j ByteArray.empty = b.getD j ByteArray.empty) (fun i _ => n - (intOf i).toNat)
      case atStart => exact ⟨0, Nat.zero_le _, Below.refl _ _, rfl, fun j hj => absurd hj (Nat.not_lt_zero _)⟩
      case round =>
        obtain ⟨k, hk, hb, rfl, hal⟩ := hrel
        have HAL := Lib.hid hal
        clear hal
        by_cases hlt : k < n
        · have c1 := cell_bel hb (A3.out k hlt)
          have c2 := cell_bel hb (B3.out k (by rw [← HL.out]; exact hlt))
          have hki : (k : Int) < (n : Int) := by omega
          have hk0 : (0 : Int) ≤ (k : Int) := by omega
          generalize hx : a.getD k ByteArray.empty = x at c1
          generalize hy : b.getD k ByteArray.empty = y at c2
          by_cases he : x = y
          · have hks : (x.toList == y.toList) = true := by rw [he]; simp
            have hks2 : (x.toList != y.toList) = false := by rw [he]; simp
            have hn2 : RowKit.Hid (a.getD k ByteArray.empty = b.getD k ByteArray.empty) := Lib.hid (by rw [hx, hy]; exact he)
            clear hx hy he
            go_wp2_with fail
            go_quiet (fail)
            go_wp2
            go_roundw
            case rel => exact ⟨k + 1, by omega, below_drewN hb _, by go_num, fun m hm => by (rcases Nat.lt_or_ge m k with h | h); exact HAL.out m h; rw [show m = k by omega]; exact hn2.out⟩
            case measure => simp [intOf]; omega
          · have hks : (x.toList == y.toList) = false := by rw [beq_eq_false_iff_ne]; exact fun h => he (toList_inj h)
            have hks2 : (x.toList != y.toList) = true := by rw [bne_iff_ne]; exact fun h => he (toList_inj h)
            have hn2 : RowKit.Hid (decide (a = b) = false) := Lib.hid (by rw [decide_eq_false_iff_not]; intro h; apply he; rw [← hx, ← hy, h])
            clear hx hy he
            go_wp2_with fail
            go_quiet (fail)
            go_wp2
            go_ret
            exact ⟨ret_bool hn2.out.symm, below_drewN hb _⟩
        · have hfin : RowKit.Hid (decide (a = b) = true) := Lib.hid (by rw [decide_eq_true_eq]; exact list_eq (HN.out.trans HL.out) fun j hj => HAL.out j (by rw [HN.out] at hj; omega))
          go_wp2
          go_ret
          exact ⟨ret_bool hfin.out.symm, hb⟩
  · have hne : decide (a = b) = false := by rw [decide_eq_false_iff_not]; intro h; exact hlen (by rw [h])
    rw [hne]
    obtain ⟨p, c, rfl⟩ := own_len ha
    obtain ⟨p2, c2, rfl⟩ := own_len hb
    have h1 : ((a.length : Int) != (b.length : Int)) = true := by rw [bne_iff_ne]; omega
    have h2 : ((a.length : Int) == (b.length : Int)) = false := by rw [beq_eq_false_iff_ne]; omega
    clear ha hb hne hlen
    go_enter Tryz.func35, Tryz.ntmps35
    go_wp2
    go_ret
    exact ⟨rfl, Below.refl _ _⟩

theorem OwnL.grown {w w' : World} {B : Nat} {v : Value} {l : List ByteArray} {row : Option Nat} (h : OwnL w B v l) (hg : w.grownBy w' row) (hne : v.ownBlock = none ∨ v.ownBlock ≠ row) : OwnL w' B v l := World.ownsRow.kept h hg hne

end Go.Proofs.YtmhhbnnjilbdnaaGreatDoor
namespace Go.Proofs.YtmhhbnnjilbdnaaGreatDoor
open Go.RowKit
set_option linter.unusedSimpArgs false
set_option linter.unusedVariables false
set_option maxRecDepth 20000

/-- Is a byte a great letter? -/
def isL (c : Int) : Bool := decide (65 ≤ c ∧ c ≤ 90)

/-- Is a byte a digit? -/
def isD (c : Int) : Bool := decide (48 ≤ c ∧ c ≤ 57)

/-- The same of a byte. -/
def bL (b : UInt8) : Bool := isL (b.toNat : Int)

def bD (b : UInt8) : Bool := isD (b.toNat : Int)

theorem refLetter_any (c : Int) (w : World) (h0 : 0 ≤ c) (h1 : c ≤ 255) :
    Calls Tryz.prog 51 #[.int .u8 c] w fun e w' => e = .returned (.bool (isL c)) ∧ w = w' := by
  go_enter Tryz.func51, Tryz.ntmps51
  go_wp2
  all_goals
    go_ret
    exact ⟨ret_bool (by unfold isL; first | (symm; apply decide_eq_true; omega) | (symm; apply decide_eq_false; omega) | (apply decide_eq_decide.2; omega)), rfl⟩

def lettersS (l : List UInt8) (least most : Int) : Bool := decide (least ≤ (l.length : Int) ∧ (l.length : Int) ≤ most) && l.all bL

end Go.Proofs.YtmhhbnnjilbdnaaGreatDoor
namespace Go.Proofs.YtmhhbnnjilbdnaaGreatDoor
open Go.RowKit
set_option linter.unusedSimpArgs false
set_option linter.unusedVariables false
set_option maxRecDepth 20000

def chr (k : Nat) : UInt8 := UInt8.ofNat (65 + k % 26)

/-- The six letters of a number. -/
def txt (x : Nat) : List UInt8 := [chr (x / 26 / 26 / 26 / 26 / 26), chr (x / 26 / 26 / 26 / 26), chr (x / 26 / 26 / 26), chr (x / 26 / 26), chr (x / 26), chr x]

end Go.Proofs.YtmhhbnnjilbdnaaGreatDoor
namespace Go.Proofs.YtmhhbnnjilbdnaaGreatDoor
open Go.RowKit
set_option linter.unusedSimpArgs false
set_option linter.unusedVariables false
set_option maxRecDepth 20000

/-- Block b is a row of the cells cs. -/
def Blk (w : World) (b : Nat) (T : TypeId) (cs : List Value) : Prop := w.heap[b]? = some (.cells cs.toArray T (0, 0))

section
variable {w w' : World} {b : Nat} {T : TypeId} {cs ds : List Value}
theorem Blk.lt (h : Blk w b T cs) : b < w.heap.size := by
  rcases Nat.lt_or_ge b w.heap.size with hlt | hge
  · exact hlt
  · unfold Blk at h; rw [Array.getElem?_eq_none hge] at h; cases h
theorem Blk.cell (h : Blk w b T cs) (j : Nat) : w.cell? ⟨b, j, none⟩ = cs[j]? := by
  rw [cell_of_row w b j _ _ _ h]
  simp only [List.getElem?_toArray]
theorem Blk.frozen (h : Blk w b T cs) (j : Nat) : w.frozen? ⟨b, j, none⟩ = false := frozen_of_row w b j _ _ h
theorem Blk.mono (h : Blk w b T cs) (hb : Below w.heap.size w w') : Blk w' b T cs := (hb.block b h.lt).trans h
theorem Blk.keep {B : Nat} (h : Blk w b T cs) (hb : Below B w w') (hB : b < B) : Blk w' b T cs := (hb.block b hB).trans h
theorem Blk.far {row : Option Nat} (h : Blk w b T cs) (hg : w.grownBy w' row) (hne : some b ≠ row) : Blk w' b T cs := (hg.block b h.lt hne).trans h
theorem Blk.alloc (h : Blk w b T cs) (o : Obj) : Blk (w.alloc o) b T cs := (Below.heap_alloc w o b h.lt).trans h
theorem Blk.new (w : World) (T : TypeId) (cs : List Value) : Blk (w.alloc (.cells cs.toArray T)) w.heap.size T cs := heap_alloc_new w _
theorem Blk.set (h : Blk w b T cs) (j : Nat) (v : Value) : Blk (w.setCell ⟨b, j, none⟩ v) b T (cs.set j v) := by
  unfold Blk at h ⊢
  simp [World.setCell, Array.getElem?_modify, h]
theorem Blk.range (h : Blk w b T cs) : w.rangeAt b 0 cs := fun j v hj => by
  rw [Nat.zero_add, h.cell j, hj]
theorem Blk.there (h : Blk w b T cs) (o n : Nat) (hn : o + n ≤ cs.length) : w.there b o n := fun j hj => by
  refine ⟨?_, h.frozen _⟩
  rw [h.cell, List.getElem?_eq_getElem (by omega)]
  rfl

/-- The cells of a list, with some of them written over. -/
def overV : List Value → Nat → List Value → List Value
  | l, _, [] => l
  | l, o, v :: m => overV (l.set o v) (o + 1) m

theorem overV_get : ∀ (m l : List Value) (o j : Nat), (overV l o m)[j]? = if o ≤ j ∧ j < o + m.length ∧ j < l.length then m[j - o]? else l[j]?
  | [], l, o, j => by simp [overV]; omega
  | v :: m, l, o, j => by
    rw [overV, overV_get m]
    simp only [List.length_set, List.length_cons]
    by_cases h1 : o + 1 ≤ j ∧ j < o + 1 + m.length ∧ j < l.length
    · rw [if_pos h1, if_pos (by omega), show j - o = (j - (o + 1)) + 1 by omega, List.getElem?_cons_succ]
    · rw [if_neg h1]
      by_cases h2 : o = j
      · subst h2
        by_cases h3 : o < l.length
        · rw [if_pos (by omega), List.getElem?_set_self h3]; simp
        · rw [if_neg (by omega), List.getElem?_eq_none (by simp; omega), List.getElem?_eq_none (by omega)]
      · rw [if_neg (by omega), List.getElem?_set_ne h2]

theorem overV_whole {l m : List Value} (h : m.length = l.length) : overV l 0 m = m := by
  apply List.ext_getElem?
  intro j
  rw [overV_get]
  by_cases h1 : j < m.length
  · rw [if_pos (by omega)]; rfl
  · rw [if_neg (by omega), List.getElem?_eq_none (by omega), List.getElem?_eq_none (by omega)]

theorem Blk.over : ∀ (m : List Value) (cs : List Value) (o : Nat) (w : World), Blk w b T cs → Blk (w.setCells b o m) b T (overV cs o m)
  | [], _, _, _, h => h
  | v :: m, cs, o, _, h => Blk.over m (cs.set o v) (o + 1) _ (h.set o v)

theorem gr_setCell1 {a : World} (h : a.grownBy w (some b)) (j : Nat) (u : Value) : a.grownBy (w.setCell ⟨b, j, none⟩ u) (some b) := by
  refine ⟨h.os, h.tape, h.output, ?_, ?_⟩
  · have e : (w.setCell ⟨b, j, none⟩ u).heap.size = w.heap.size := by simp [World.setCell]
    rw [e]
    exact h.size
  · intro i hi hne
    rw [← h.block i hi hne]
    have hg' : i ≠ b := fun e => hne (by rw [e])
    simp [World.setCell, Array.getElem?_modify, Ne.symm hg']

theorem gr_setCells1 {a : World} : ∀ (vs : List Value) (o : Nat) (w : World), a.grownBy w (some b) → a.grownBy (w.setCells b o vs) (some b)
  | [], _, _, h => h
  | v :: vs, o, _, h => gr_setCells1 vs (o + 1) _ (gr_setCell1 h o v)

end

theorem bel_setCells {B b : Nat} {a : World} (hb : B ≤ b) : ∀ (vs : List Value) (o : Nat) (w : World), Below B a w → Below B a (w.setCells b o vs)
  | [], _, _, h => h
  | v :: vs, o, _, h => bel_setCells hb vs (o + 1) _ (h.setCell (p := ⟨b, o, none⟩) hb v)

/-- A whole row is stored into a variable that holds one. -/
theorem wpList_store_blk {P : Program} {w : World} {ops : Array Oper} {rest : List Oper} {op : Oper} {a : Act} {Q : Exit → Act → World → Prop} (hgd : op.guard = none) (ty : TypeId) (x y : Operand) (ho : op.op = .store ty x y)
    (b : Nat) (T : TypeId) (l0 l : List Value) (hx : a.eval x = .pointer (some ⟨b, 0, none⟩)) (hy : a.eval y = .agg l.toArray)
    (ha : Blk w b T l0) (hl : l.length = l0.length) (hi : (P.info? ty).map (·.size) = some l.length) (h1 : ∀ v ∈ l, v.oneCell' = true)
    (h : ∀ w', Blk w' b T l → Below b w w' → w.grownBy w' (some b) → wpList P ops Q rest (a.put op.dst undef) w') : wpList P ops Q (op :: rest) a w := by
  have e1 : l.toArray.size = l.length := by simp
  refine wpList_store_mid hgd ty x y ho b 0 l.toArray hx hy (by rw [e1]; exact ha.there 0 _ (by omega)) (by rw [e1]; exact hi) (all_oneCell_toArray h1) (h _ ?_ ?_ ?_)
  · have := Blk.over l l0 0 w ha
    rwa [overV_whole hl] at this
  · exact bel_setCells (Nat.le_refl _) _ _ _ (Below.refl _ _)
  · exact gr_setCells1 _ _ _ (gr_of_below (Below.refl _ _) _)


section
variable {α : Type} {enc : α → List Value} {st : Nat}

theorem cells_len (hst : ∀ a, (enc a).length = st) : ∀ l : List α, (l.flatMap enc).length = l.length * st
  | [] => by simp
  | a :: l => by rw [List.flatMap_cons, List.length_append, hst, cells_len hst l, List.length_cons, Nat.succ_mul]; omega

theorem cells_get (hst : ∀ a, (enc a).length = st) : ∀ {l : List α} {i : Nat} {a : α} (k : Nat), l[i]? = some a → k < st → (l.flatMap enc)[i * st + k]? = (enc a)[k]?
  | [], i, a, k, h, _ => by simp at h
  | x :: l, 0, a, k, h, hk => by
    simp at h
    subst h
    rw [List.flatMap_cons, Nat.zero_mul, Nat.zero_add, List.getElem?_append_left (by rw [hst]; exact hk)]
  | x :: l, i + 1, a, k, h, hk => by
    simp at h
    rw [List.flatMap_cons, List.getElem?_append_right (by rw [hst, Nat.succ_mul]; omega), hst, Nat.succ_mul, show i * st + st + k - st = i * st + k by omega]
    exact cells_get hst k h hk

/-- 'v' reads as the list l. -/
def HasE (enc : α → List Value) (w : World) (v : Value) (l : List α) : Prop :=
  (∃ p c, v = .slice p 0 c ∧ l = [] ∧ (p = none → c = 0)) ∨ ∃ b off c, v = .slice (some ⟨b, off, none⟩) l.length c ∧ l.length ≤ c ∧ c ≤ maxLen ∧ ∀ j u, (l.flatMap enc)[j]? = some u → w.cell? ⟨b, off + j, none⟩ = some u

theorem HasE.keep {w w' : World} {v : Value} {l : List α} (h : HasE enc w v l) (hk : ∀ a u, w.cell? a = some u → w'.cell? a = some u) : HasE enc w' v l := by
  rcases h with h | ⟨b, off, c, e, h1, h2, h3⟩
  · exact .inl h
  · exact .inr ⟨b, off, c, e, h1, h2, fun j u hj => hk _ _ (h3 j u hj)⟩

theorem HasE.mono {w w' : World} {v : Value} {l : List α} (h : HasE enc w v l) (hb : Below w.heap.size w w') : HasE enc w' v l :=
  h.keep fun a _ hu => (hb.cell (World.block_lt_of_cell? w a hu)).trans hu

theorem HasE.nil (w : World) : HasE enc w (.slice none 0 0) [] := .inl ⟨none, 0, rfl, rfl, fun _ => rfl⟩

theorem HasE.own {w : World} {base : Nat} {e : TypeId} {v : Value} {l : List α} (h : w.ownsRow base e st v l.length (l.flatMap enc)) : HasE enc w v l := by
  rcases h.2 with ⟨e1, e2⟩ | ⟨g, cap, cur, e1, _, _, h3, h4, _⟩
  · exact .inl ⟨none, 0, e1, List.length_eq_zero_iff.1 e2, fun _ => rfl⟩
  · refine .inr ⟨g, 0, cap, e1, h3, h4, fun j u hj => ?_⟩
    have := h.cells (g := g) (by rw [e1]; rfl) j _ hj
    rw [Addr.add_lit] at this
    exact this

theorem HasE.len {w : World} {v : Value} {l : List α} (h : HasE enc w v l) : ∃ p c, v = .slice p l.length c := by
  rcases h with ⟨p, c, e, rfl, _⟩ | ⟨b, off, c, e, _⟩
  · exact ⟨p, c, e⟩
  · exact ⟨_, c, e⟩

theorem HasE.max {w : World} {v : Value} {l : List α} (h : HasE enc w v l) : l.length ≤ maxLen := by
  rcases h with ⟨p, c, e, rfl, _⟩ | ⟨b, off, c, e, h1, h2, _⟩
  · exact Nat.zero_le _
  · exact Nat.le_trans h1 h2

/-- One element. -/
theorem HasE.at {w : World} {p : Option Addr} {n c : Nat} {l : List α} (hst : ∀ a, (enc a).length = st) (h : HasE enc w (.slice p n c) l) {i : Nat} {a : α} (hi : l[i]? = some a) :
    ∃ b off, p = some ⟨b, off, none⟩ ∧ ∀ k u, k < st → (enc a)[k]? = some u → w.cell? ⟨b, off + (i * st + k), none⟩ = some u := by
  have hil : i < l.length := (List.getElem?_eq_some_iff.1 hi).1
  rcases h with ⟨p', c', e, rfl, _⟩ | ⟨b, off, c', e, h1, h2, h3⟩
  · simp at hi
  · injection e with e1 e2 e3
    refine ⟨b, off, e1, fun k u hk hu => h3 _ _ ?_⟩
    rw [cells_get hst k hi hk]
    exact hu
end

theorem below_le {B B' : Nat} {w w' : World} (h : Below B w w') (hB : B' ≤ B) : Below B' w w' := ⟨h.os, h.tape, h.output, h.size, fun i hi => h.block i (Nat.lt_of_lt_of_le hi hB)⟩

def byteC (b : UInt8) : List Value := [.int .u8 b.toNat]
theorem flat_byte : ∀ (l : List UInt8), l.flatMap byteC = l.map fun b => .int .u8 b.toNat
  | [] => rfl
  | b :: l => by rw [List.flatMap_cons, flat_byte l]; rfl

end Go.Proofs.YtmhhbnnjilbdnaaGreatDoor
namespace Go.Proofs.YtmhhbnnjilbdnaaGreatDoor
open Go.RowKit
set_option linter.unusedSimpArgs false
set_option linter.unusedVariables false
set_option maxRecDepth 20000

/-- A number in as few bytes as it takes. -/
def varL (n : Nat) : List UInt8 := if n < 128 then [UInt8.ofNat n] else UInt8.ofNat (n % 128 + 128) :: varL (n / 128)
termination_by n
decreasing_by omega

end Go.Proofs.YtmhhbnnjilbdnaaGreatDoor
namespace Go.Proofs.YtmhhbnnjilbdnaaGreatDoor
open Go.RowKit
set_option linter.unusedSimpArgs false
set_option linter.unusedVariables false
set_option maxRecDepth 20000

end Go.Proofs.YtmhhbnnjilbdnaaGreatDoor
namespace Go.Proofs.YtmhhbnnjilbdnaaGreatDoor
open Go.RowKit Go.ChangeMaps
set_option linter.unusedSimpArgs false
set_option linter.unusedVariables false
set_option maxRecDepth 20000


end Go.Proofs.YtmhhbnnjilbdnaaGreatDoor
namespace Go.Proofs.YtmhhbnnjilbdnaaGreatDoor
open Go.RowKit Go.ChangeMaps
set_option linter.unusedSimpArgs false
set_option linter.unusedVariables false
set_option maxRecDepth 20000

end Go.Proofs.YtmhhbnnjilbdnaaGreatDoor
namespace Go.Proofs.YtmhhbnnjilbdnaaGreatDoor
open Go.RowKit Go.ChangeMaps
set_option linter.unusedSimpArgs false
set_option linter.unusedVariables false
set_option maxRecDepth 20000

end Go.Proofs.YtmhhbnnjilbdnaaGreatDoor
namespace Go.Proofs.YtmhhbnnjilbdnaaGreatDoor
open Go.RowKit Go.ChangeMaps
set_option linter.unusedSimpArgs false
set_option linter.unusedVariables false
set_option maxRecDepth 20000

theorem own_ne {w : World} {base k : Nat} {e : TypeId} {size : Nat} {v : Value} {n : Nat} {xs : List Value} (h : w.ownsRow base e size v n xs) (hk : k < base) : v.ownBlock = none ∨ v.ownBlock ≠ some k := by
  refine .inr fun e1 => ?_
  have := (World.ownsRow.lt h k e1).1
  omega

end Go.Proofs.YtmhhbnnjilbdnaaGreatDoor
namespace Go.Proofs.YtmhhbnnjilbdnaaGreatDoor
open Go.RowKit Go.ChangeMaps
set_option linter.unusedSimpArgs false
set_option linter.unusedVariables false
set_option maxRecDepth 20000

def toL (s : ByteArray) : List UInt8 := s.data.toList
theorem toL_inj {a b : ByteArray} (h : toL a = toL b) : a = b := bytes_inj h

theorem below_low {B0 : Nat} {a w w' : World} (h : Below B0 a w) (hB : B0 ≤ w.heap.size) (k : Below w.heap.size w w') : Below B0 a w' := h.trans (k.mono hB)

end Go.Proofs.YtmhhbnnjilbdnaaGreatDoor
namespace Go.Proofs.YtmhhbnnjilbdnaaGreatDoor
open Go.RowKit Go.ChangeMaps
set_option linter.unusedSimpArgs false
set_option linter.unusedVariables false
set_option maxRecDepth 20000

end Go.Proofs.YtmhhbnnjilbdnaaGreatDoor
namespace Go.Proofs.YtmhhbnnjilbdnaaGreatDoor
open Go.RowKit Go.ChangeMaps
set_option linter.unusedSimpArgs false
set_option linter.unusedVariables false
set_option maxRecDepth 20000

theorem below_w {w w1 wr : World} (h1 : Below w.heap.size w w1) (h2 : Below w1.heap.size w1 wr) : Below w.heap.size w wr := h1.trans (h2.mono h1.size)

end Go.Proofs.YtmhhbnnjilbdnaaGreatDoor
namespace Go.Proofs.YtmhhbnnjilbdnaaGreatDoor
open Go.RowKit Go.ChangeMaps
set_option linter.unusedSimpArgs false
set_option linter.unusedVariables false
set_option maxRecDepth 20000

/-- 'append(v, u)' of one element of several cells, which was laid in a new block right ahead. -/
theorem wpList_pushC {P : Program} {wr : World} {ops : Array Oper} {rest : List Oper} {o : Oper} {a : Act} {Q : Exit → Act → World → Prop} (hgd : o.guard = none) (s x : Operand) (t : TypeId)
    (ho : o.op = .call { callee := .builtin .append, args := #[s, x], argTypes := #[t, t] })
    (base : Nat) (e : TypeId) (i : TypeInfo) (z : Value) (st bytes : Nat) (ht : P.underlying t = some (.slice e)) (hi : P.info? e = some i) (hz : i.zero = some z)
    (hsize : i.size = st) (hby : i.bytes = bytes) (hzs : z.cells.size = st) (hst : 0 < st)
    (v : Value) (n : Nat) (xs : List Value) (hs : a.eval s = v) (hown : wr.ownsRow base e st v n xs) (us : List Value) (hus : us.length = st) (hx : a.eval x = .slice (some ⟨wr.heap.size, 0, none⟩) 1 1) (h1 : ∀ u ∈ us, u.oneCell' = true)
    (hm : n + 1 ≤ maxLen) (hbytes : (n + 1) * bytes ≤ 140737488355328) (hbase : base ≤ wr.heap.size)
    (h : ∀ v' w', w'.ownsRow base e st v' (n + 1) (xs ++ us) → Below base wr w' → (wr.alloc (.cells us.toArray e)).grownBy w' v.ownBlock → wpList P ops Q rest (a.put o.dst v') w') :
    wpList P ops Q (o :: rest) a (wr.alloc (.cells us.toArray e)) := by
  refine wpList_append_own _ hgd s x t ho base e i z st bytes ht hi hz hsize hby hzs hst v n xs hs (hown.alloc _) ⟨wr.heap.size, 0, none⟩ 1 1 us hx (by rw [hus, Nat.one_mul]) ?_ h1 hm hbytes (by simp; omega) ?_
  · intro j y hj
    have := (Blk.new wr e us).cell j
    simp only [Addr.add_lit]
    rw [show (0 : Nat) + j = j by omega, this, hj]
  · intro v' w' hown' hg _
    refine h v' w' hown' ?_ hg
    refine ((Below.refl base wr).alloc hbase (.cells us.toArray e)).grown hg (by simp; omega) fun k hk => ?_
    exact (hown.lt k hk).1


end Go.Proofs.YtmhhbnnjilbdnaaGreatDoor
namespace Go.Proofs.YtmhhbnnjilbdnaaGreatDoor
open Go.RowKit Go.ChangeMaps
set_option linter.unusedSimpArgs false
set_option linter.unusedVariables false
set_option maxRecDepth 20000

theorem HasE.drop {w : World} {b off c n : Nat} {l : List UInt8} (h : HasE byteC w (.slice (some ⟨b, off, none⟩) l.length c) l) (hn : n ≤ l.length) (hc : l.length ≤ c) (hm : c ≤ maxLen) : HasE byteC w (.slice (some ⟨b, off + n, none⟩) (l.length - n) (c - n)) (l.drop n) := by
  rcases h with ⟨p, c', e, rfl, _⟩ | ⟨b', off', c', e, h1, h2, h3⟩
  · have : n = 0 := by simpa using hn
    subst this
    exact .inl ⟨_, _, rfl, rfl, fun e => by cases e⟩
  · injection e with e1 e2 e3
    injection e1 with e1
    injection e1 with e1 e4
    subst e1 e3 e4
    refine .inr ⟨b, off + n, c - n, by rw [List.length_drop], by rw [List.length_drop]; omega, by omega, fun j u hj => ?_⟩
    have := h3 (n + j) u (by
      rw [flat_byte] at hj ⊢
      rw [List.map_drop, List.getElem?_drop] at hj
      exact hj)
    rwa [← Nat.add_assoc] at this

theorem HasE.take {w : World} {b off c n : Nat} {l : List UInt8} (h : HasE byteC w (.slice (some ⟨b, off, none⟩) l.length c) l) (hn : n ≤ l.length) (hc : l.length ≤ c) (hm : c ≤ maxLen) : HasE byteC w (.slice (some ⟨b, off, none⟩) n c) (l.take n) := by
  have hl : (l.take n).length = n := by rw [List.length_take]; omega
  rcases h with ⟨p, c', e, rfl, _⟩ | ⟨b', off', c', e, h1, h2, h3⟩
  · have : n = 0 := by simpa using hn
    subst this
    exact .inl ⟨_, _, rfl, rfl, fun e => by cases e⟩
  · injection e with e1 e2 e3
    injection e1 with e1
    injection e1 with e1 e4
    subst e1 e3 e4
    refine .inr ⟨b, off, c, by rw [hl], by rw [hl]; omega, hm, fun j u hj => h3 j u ?_⟩
    rw [flat_byte] at hj ⊢
    rw [List.map_take, List.getElem?_take] at hj
    split at hj
    · exact hj
    · cases hj

end Go.Proofs.YtmhhbnnjilbdnaaGreatDoor
namespace Go.Proofs.YtmhhbnnjilbdnaaGreatDoor
open Go.RowKit Go.ChangeMaps
set_option linter.unusedSimpArgs false
set_option linter.unusedVariables false
set_option maxRecDepth 20000

end Go.Proofs.YtmhhbnnjilbdnaaGreatDoor
namespace Go.Proofs.YtmhhbnnjilbdnaaGreatDoor
open Go.RowKit Go.ChangeMaps
set_option linter.unusedSimpArgs false
set_option linter.unusedVariables false
set_option maxRecDepth 20000

/-- 'string(b)' of a list that may lie anywhere. -/
theorem conv_has {w : World} {v : Value} {l : List UInt8} (h : HasE byteC w v l) : (convert 69 9 v).run Tryz.prog w = .ok (.string ⟨l.toArray⟩) w := by
  rcases h with ⟨p, c, rfl, rfl, hpn⟩ | ⟨b, off, c, rfl, h1, h2, h3⟩
  · cases p with
    | none =>
      have hc := hpn rfl
      subst hc
      simp [convert, run_underlying Tryz.underlying69, run_underlying Tryz.underlying5, run_underlying Tryz.underlying9, Conv.bytesToString, go_sem]
      rfl
    | some ad =>
      exact run_convert_bytes_back (P := Tryz.prog) w 69 9 5 ad c [] Tryz.underlying69 Tryz.underlying5 Tryz.underlying9 fun j hj => absurd hj (Nat.not_lt_zero _)
  · refine run_convert_bytes_back (P := Tryz.prog) w 69 9 5 ⟨b, off, none⟩ c l Tryz.underlying69 Tryz.underlying5 Tryz.underlying9 fun j hj => ?_
    have := h3 j (.int .u8 (l[j]).toNat) (by rw [flat_byte, List.getElem?_map, List.getElem?_eq_getElem hj]; rfl)
    rw [Addr.add_lit]
    exact this

end Go.Proofs.YtmhhbnnjilbdnaaGreatDoor
namespace Go.Proofs.YtmhhbnnjilbdnaaGreatDoor
open Go.RowKit Go.ChangeMaps
set_option linter.unusedSimpArgs false
set_option linter.unusedVariables false
set_option maxRecDepth 20000

end Go.Proofs.YtmhhbnnjilbdnaaGreatDoor
namespace Go.Proofs.YtmhhbnnjilbdnaaGreatDoor
open Go.RowKit Go.ChangeMaps
set_option linter.unusedSimpArgs false
set_option linter.unusedVariables false
set_option maxRecDepth 20000

end Go.Proofs.YtmhhbnnjilbdnaaGreatDoor
namespace Go.Proofs.YtmhhbnnjilbdnaaGreatDoor
open Go.RowKit Go.ChangeMaps
set_option linter.unusedSimpArgs false
set_option linter.unusedVariables false
set_option maxRecDepth 20000

theorem info_pnr : (Tryz.prog.info? 29).map (·.size) = some 12 := by kernel_rfl

theorem pnr_load {w : World} {g : Nat} {cs : List Value} (h : Blk w g 29 cs) (hl : cs.length = 12) : (loadVar 29 ⟨g, 0, none⟩).run Tryz.prog w = .ok (.agg cs.toArray) w :=
  run_loadVar_mid w g 0 29 cs _ h.range Tryz.underlying29 rfl (by rw [hl]; exact info_pnr)

end Go.Proofs.YtmhhbnnjilbdnaaGreatDoor
namespace Go.Proofs.YtmhhbnnjilbdnaaGreatDoor
open Go.RowKit Go.ChangeMaps
set_option linter.unusedSimpArgs false
set_option linter.unusedVariables false
set_option maxRecDepth 20000

end Go.Proofs.YtmhhbnnjilbdnaaGreatDoor
namespace Go.Proofs.YtmhhbnnjilbdnaaGreatDoor
open Go.RowKit Go.ChangeMaps
set_option linter.unusedSimpArgs false
set_option linter.unusedVariables false
set_option maxRecDepth 20000

end Go.Proofs.YtmhhbnnjilbdnaaGreatDoor
namespace Go.Proofs.YtmhhbnnjilbdnaaGreatDoor
open Go.RowKit Go.ChangeMaps
set_option linter.unusedSimpArgs false
set_option linter.unusedVariables false
set_option maxRecDepth 20000

end Go.Proofs.YtmhhbnnjilbdnaaGreatDoor
namespace Go.Proofs.YtmhhbnnjilbdnaaGreatDoor
open Go.RowKit Go.ChangeMaps
set_option linter.unusedSimpArgs false
set_option linter.unusedVariables false
set_option maxRecDepth 20000

/-- Texts that came in. -/
def Texts (w : World) (v : Value) (l : List ByteArray) : Prop := HasL w v l ∧ l.length ≤ maxLen ∧ ∀ s ∈ l, s.size ≤ maxLen
end Go.Proofs.YtmhhbnnjilbdnaaGreatDoor
namespace Go.Proofs.YtmhhbnnjilbdnaaGreatDoor
open Go.RowKit
set_option linter.unusedSimpArgs false
set_option linter.unusedVariables false

def dch (n : Nat) : UInt8 := UInt8.ofNat (48 + n % 10)

theorem dch_toNat (n : Nat) : (dch n).toNat = 48 + n % 10 := by unfold dch; rw [UInt8.toNat_ofNat']; omega

def digL (n : Nat) : List UInt8 := if _h : n < 10 then [dch n] else digL (n / 10) ++ [dch n]
termination_by n
decreasing_by omega

theorem digL_lt {n : Nat} (h : n < 10) : digL n = [dch n] := by rw [digL, dif_pos h]

theorem digL_ge {n : Nat} (h : ¬ n < 10) : digL n = digL (n / 10) ++ [dch n] := by rw [digL, dif_neg h]

def digA (n : Nat) : ByteArray := ⟨(digL n).toArray⟩

theorem digA_list (n : Nat) : (digA n).data.toList = digL n := by simp [digA]

theorem dch_conv (n : Nat) (v : Int) (w : World) (h : v = 48 + (n : Int) % 10) :
    (convert 69 9 (.slice (some ⟨w.heap.size, 0, none⟩) 1 1)).run Tryz.prog (w.alloc (.cells #[.int .u8 v] 5)) = .ok (.string ⟨#[dch n]⟩) (w.alloc (.cells #[.int .u8 v] 5)) := by
  refine string_conv [dch n] _ w.heap.size 1 1 rfl fun j hj => ?_
  rw [World.cell?_alloc_new]
  match j, hj with
  | 0, _ => show some (Value.int .u8 _) = some (Value.int .u8 ((dch _).toNat : Int)); rw [dch_toNat, h]; congr 2

def catA (n : Nat) (t : ByteArray) : ByteArray := ⟨(digL n ++ t.data.toList).toArray⟩

theorem catA_start (n : Nat) : catA n ⟨#[]⟩ = digA n := by unfold catA digA; simp

theorem catA_step {n : Nat} (h : ¬ n < 10) (t : ByteArray) : catA (n / 10) (⟨#[dch n]⟩ ++ t) = catA n t := by
  apply bytes_inj
  unfold catA
  rw [digL_ge h]
  simp

theorem catA_end {n : Nat} (h : n < 10) (t : ByteArray) : ⟨#[dch n]⟩ ++ t = catA n t := by
  apply bytes_inj
  unfold catA
  rw [digL_lt h]
  simp

set_option maxRecDepth 20000 in
theorem digits_any (N : Nat) (w : World) (hN : N ≤ 1000000000) :
    Calls Tryz.prog 75 #[.int .i64 N] w fun e w' => e = .returned (.string (digA N)) ∧ Below w.heap.size w w' := by
  go_enter Tryz.func75, Tryz.ntmps75
  go_wp2
  go_loopw [0, 3] (fun x t wr => ∃ (n : Nat) (s : ByteArray), x = .int .i64 n ∧ t = .string s ∧ s.size + n ≤ N ∧ catA n s = digA N ∧ Below w.heap.size w wr) (fun x _ _ => (intOf x).toNat)
  case atStart => exact ⟨N, ⟨#[]⟩, rfl, rfl, by show 0 + N ≤ N; omega, catA_start N, Below.refl _ _⟩
  case round =>
    obtain ⟨n, s, rfl, rfl, hsz, hcat, hb⟩ := hrel
    have HC := Lib.hid hcat
    clear hcat
    by_cases h : n < 10
    · have hc := dch_conv n (48 + (n : Int)) wr (by omega)
      have h9 : (n : Int) ≤ 9 := by omega
      go_wp2
      go_ret
      exact ⟨by rw [← HC.out, ← catA_end h]; rfl, hb.alloc hb.size _⟩
    · have hc := dch_conv n (48 + (n : Int) % 10) wr rfl
      have h9 : 9 < (n : Int) := by omega
      have HS := Lib.hid (catA_step h s)
      go_wp2
      refine ⟨⟨n / 10, ⟨#[dch n]⟩ ++ s, by go_num, rfl, ?_, by rw [HS.out]; exact HC.out, hb.alloc hb.size _⟩, by simp [intOf]; omega⟩
      rw [ByteArray.size_append]
      show 1 + s.size + n / 10 ≤ N
      omega

/-- The digits of a number below 100. -/
def two (n : Nat) : List UInt8 := if n < 10 then [dch n] else [dch (n / 10), dch n]

theorem digL_two {n : Nat} (h : n < 100) : digL n = two n := by
  unfold two
  split
  · exact digL_lt (by assumption)
  · rw [digL_ge (by assumption), digL_lt (by omega)]; rfl

theorem small_one : ∀ i : Fin 10, ((⟨#[48, 49, 50, 51, 52, 53, 54, 55, 56, 57, 97, 98, 99, 100, 101, 102, 103, 104, 105, 106, 107, 108, 109, 110, 111, 112, 113, 114, 115, 116, 117, 118, 119, 120, 121, 122]⟩ : ByteArray).extract i.val (i.val + 1)).data.toList = two i.val := by decide +kernel

theorem small_two : ∀ i : Fin 100, 10 ≤ i.val → ((⟨#[48, 48, 48, 49, 48, 50, 48, 51, 48, 52, 48, 53, 48, 54, 48, 55, 48, 56, 48, 57, 49, 48, 49, 49, 49, 50, 49, 51, 49, 52, 49, 53, 49, 54, 49, 55, 49, 56, 49, 57, 50, 48, 50, 49, 50, 50, 50, 51, 50, 52, 50, 53, 50, 54, 50, 55, 50, 56, 50, 57, 51, 48, 51, 49, 51, 50, 51, 51, 51, 52, 51, 53, 51, 54, 51, 55, 51, 56, 51, 57, 52, 48, 52, 49, 52, 50, 52, 51, 52, 52, 52, 53, 52, 54, 52, 55, 52, 56, 52, 57, 53, 48, 53, 49, 53, 50, 53, 51, 53, 52, 53, 53, 53, 54, 53, 55, 53, 56, 53, 57, 54, 48, 54, 49, 54, 50, 54, 51, 54, 52, 54, 53, 54, 54, 54, 55, 54, 56, 54, 57, 55, 48, 55, 49, 55, 50, 55, 51, 55, 52, 55, 53, 55, 54, 55, 55, 55, 56, 55, 57, 56, 48, 56, 49, 56, 50, 56, 51, 56, 52, 56, 53, 56, 54, 56, 55, 56, 56, 56, 57, 57, 48, 57, 49, 57, 50, 57, 51, 57, 52, 57, 53, 57, 54, 57, 55, 57, 56, 57, 57]⟩ : ByteArray).extract (i.val * 2) (i.val * 2 + 2)).data.toList = two i.val := by decide +kernel

set_option maxRecDepth 100000 in
theorem small_any (n : Nat) (w : World) (hn : n < 100) :
    Calls Tryz.prog 90 #[.int .i64 n] w fun e w' => e = .returned (.string (digA n)) ∧ w = w' := by
  have hd := digL_two hn
  by_cases h : n < 10
  · have h1 : (n : Int) < 10 := by omega
    have h2 := small_one ⟨n, h⟩
    have HS := Lib.hid h2
    have HD := Lib.hid hd
    clear h2 hd
    go_enter Tryz.func90, Tryz.ntmps90
    go_wp2
    go_ret
    exact ⟨ret_str (by rw [digA_list, HD.out]; exact HS.out), rfl⟩
  · have h1 : ¬ (n : Int) < 10 := by omega
    have h2 := small_two ⟨n, hn⟩ (by simp; omega)
    have HS := Lib.hid h2
    have HD := Lib.hid hd
    clear h2 hd
    go_enter Tryz.func90, Tryz.ntmps90
    go_wp2
    go_ret
    exact ⟨ret_str (by rw [digA_list, HD.out]; exact HS.out), rfl⟩

theorem format_any (n : Nat) (w : World) (hn : n < 100) :
    Calls Tryz.prog 76 #[.int .i64 n, .int .i64 10] w fun e w' => e = .returned (.string (digA n)) ∧ w = w' := by
  have h1 : (n : Int) < 100 := by omega
  have h0 : (0 : Int) ≤ (n : Int) := by omega
  have C := small_any n w hn
  go_enter Tryz.func76, Tryz.ntmps76
  go_wp2_with (go_at_call 90; refine C.mono ?_; rintro e w' ⟨rfl, rfl⟩)
  go_ret
  exact ⟨rfl, rfl⟩

theorem itoa2_any (n : Nat) (w : World) (hn : n < 100) :
    Calls Tryz.prog 55 #[.int .i64 n] w fun e w' => e = .returned (.string (digA n)) ∧ w = w' := by
  have C := format_any n w hn
  go_enter Tryz.func55, Tryz.ntmps55
  go_wp2_with (go_at_call 76; refine C.mono ?_; rintro e w' ⟨rfl, rfl⟩)
  go_ret
  exact ⟨rfl, rfl⟩

theorem itoa_any (n : Nat) (w : World) (hn : n < 100) :
    Calls Tryz.prog 28 #[.int .i64 n] w fun e w' => e = .returned (.string (digA n)) ∧ w = w' := by
  have C := itoa2_any n w hn
  go_enter Tryz.func28, Tryz.ntmps28
  go_wp2_with (go_at_call 55; refine C.mono ?_; rintro e w' ⟨rfl, rfl⟩)
  go_ret
  exact ⟨rfl, rfl⟩

/-- A seat as a value. -/
def seatV (r : Int) (c : UInt8) : Value := .agg #[.int .i64 r, .int .u8 c.toNat]

/-- The text of a seat. -/
def seatT (r : Int) (c : UInt8) : ByteArray := if 1 ≤ r ∧ r ≤ 99 ∧ isL c.toNat = true then digA r.toNat ++ ⟨#[c]⟩ else ⟨#[]⟩

theorem seatT_no {r : Int} {c : UInt8} (h : ¬ (1 ≤ r ∧ r ≤ 99 ∧ isL c.toNat = true)) : seatT r c = ⟨#[]⟩ := if_neg h

theorem digA_small {n : Nat} (h : n < 100) : (digA n).size ≤ 2 := by
  show (digL n).length ≤ 2
  rw [digL_two h]
  unfold two
  split <;> simp

theorem one_conv (c : UInt8) (w : World) : (convert 69 9 (.slice (some ⟨w.heap.size, 0, none⟩) 1 1)).run Tryz.prog (w.alloc (.cells #[.int .u8 c.toNat] 5)).drew = .ok (.string ⟨#[c]⟩) (w.alloc (.cells #[.int .u8 c.toNat] 5)).drew := by
  refine string_conv [c] _ w.heap.size 1 1 rfl fun j hj => ?_
  show (w.alloc _).cell? _ = _
  rw [World.cell?_alloc_new]
  match j, hj with
  | 0, _ => rfl

theorem one_conv0 (c : UInt8) (w : World) : (convert 69 9 (.slice (some ⟨w.heap.size, 0, none⟩) 1 1)).run Tryz.prog (w.alloc (.cells #[.int .u8 c.toNat] 5)) = .ok (.string ⟨#[c]⟩) (w.alloc (.cells #[.int .u8 c.toNat] 5)) := by
  refine string_conv [c] _ w.heap.size 1 1 rfl fun j hj => ?_
  rw [World.cell?_alloc_new]
  match j, hj with
  | 0, _ => rfl

theorem one_conv_at (c : UInt8) (w : World) (b : Nat) (h : w.cell? ⟨b, 0, none⟩ = some (.int .u8 c.toNat)) : (convert 69 9 (.slice (some ⟨b, 0, none⟩) 1 1)).run Tryz.prog w = .ok (.string ⟨#[c]⟩) w := by
  refine string_conv [c] _ b 1 1 rfl fun j hj => ?_
  match j, hj with
  | 0, _ => exact h

theorem held2_drew {w W : World} {a a' : Addr} {x y : Value} (h : W.drew.cell? a = some x ∧ W.drew.cell? a' = some y ∧ Below w.heap.size w W.drew) (o : Obj) : (W.alloc o).drew.cell? a = some x ∧ (W.alloc o).drew.cell? a' = some y ∧ Below w.heap.size w (W.alloc o).drew := by
  have hb := (Below.refl W.heap.size W).alloc (Nat.le_refl _) o
  exact ⟨cell_bel (wr := W.alloc o) hb h.1, cell_bel (wr := W.alloc o) hb h.2.1, h.2.2.alloc h.2.2.size o⟩

theorem held2_bel {w W W' : World} {a a' : Addr} {x y : Value} (h : W.cell? a = some x ∧ W.cell? a' = some y ∧ Below w.heap.size w W) (hb : Below W.heap.size W W') : W'.cell? a = some x ∧ W'.cell? a' = some y ∧ Below w.heap.size w W' :=
  ⟨cell_bel hb h.1, cell_bel hb h.2.1, bel_trans h.2.2 hb⟩

/-- A boxed seat. -/
theorem seat_boxed (w : World) (r : Int) (c : UInt8) : ∃ w1, w.alloc (.cells #[.int .i64 r, .int .u8 c.toNat] 46) = w1 ∧ w1.cell? ⟨w.heap.size, 0, none⟩ = some (.int .i64 r) ∧ w1.cell? ⟨w.heap.size, 1, none⟩ = some (.int .u8 c.toNat) ∧ Below w.heap.size w w1 ∧ w1.heap.size = w.heap.size + 1 :=
  ⟨_, rfl, World.cell?_alloc_new _ _ _ _, World.cell?_alloc_new _ _ _ _, (Below.refl _ _).alloc (Nat.le_refl _) _, by simp⟩

set_option maxRecDepth 20000 in
theorem text_any (r : Int) (c : UInt8) (w : World) :
    Calls Tryz.prog 32 #[.agg #[.int .i64 r, .int .u8 c.toNat]] w fun e w' => e = .returned (.string (seatT r c)) ∧ Below w.heap.size w w' := by
  have hc0 : (0 : Int) ≤ (c.toNat : Int) := by omega
  have hc1 := byte_hi c
  by_cases h1 : r < 1
  · have HF : RowKit.Hid (seatT r c = ⟨#[]⟩) := Lib.hid (seatT_no (by omega))
    go_enter Tryz.func32, Tryz.ntmps32
    go_wp2
    go_ret
    exact ⟨ret_str (by rw [HF.out]), (Below.refl _ _).alloc (Nat.le_refl _) _⟩
  · by_cases h2 : 99 < r
    · have HF : RowKit.Hid (seatT r c = ⟨#[]⟩) := Lib.hid (seatT_no (by omega))
      go_enter Tryz.func32, Tryz.ntmps32
      go_wp2
      go_ret
      exact ⟨ret_str (by rw [HF.out]), (Below.refl _ _).alloc (Nat.le_refl _) _⟩
    · have g1 : (1 : Int) ≤ r := by omega
      have g2 : r ≤ 99 := by omega
      by_cases h3 : isL c.toNat = true
      · obtain ⟨n, rfl⟩ := Int.eq_ofNat_of_zero_le (show (0 : Int) ≤ r by omega)
        have HF : RowKit.Hid (seatT n c = digA n ++ ⟨#[c]⟩) := Lib.hid (if_pos ⟨g1, g2, h3⟩)
        unfold isL at h3
        have hd := of_decide_eq_true h3
        have hw1 : IntKind.u8.wrap ((c.toNat : Int) - 65) = (c.toNat : Int) - 65 := by simp [IntKind.wrap, IntKind.bits, IntKind.signed] ; omega
        have CI : ∀ W, _ := fun W => itoa_any n W (by omega)
        have HI := Lib.hid CI
        have hsz := digA_small (n := n) (by omega)
        clear h3 CI
        have hs1 : ¬ 9223372036854775807 < (digA n).size + 1 := by omega
        have hcv := one_conv c
        obtain ⟨w1, e1, k1, k2, kb, ks⟩ := seat_boxed w n c
        clear ks
        go_enter Tryz.func32, Tryz.ntmps32
        go_wp2
        generalize digA n = D at *
        clear e1
        refine wp_region_noPanic ?_
        refine wp_region_held_drew (S := fun W => W.cell? ⟨w.heap.size, 0, none⟩ = some (.int .i64 n) ∧ W.cell? ⟨w.heap.size, 1, none⟩ = some (.int .u8 c.toNat) ∧ Below w.heap.size w W) (by kernel_rfl) ⟨k1, k2, kb.drew⟩ (fun hHeld => ?_)
        refine wpAnyH_take (i := 0) (oi := _) (v := ?_) rfl (by kernel_rfl) (by kernel_rfl) (by kernel_rfl) (fun _ _ _ h => h) (Or.inl ⟨by rfl, ?_⟩) (by assumption) ?_
        rotate_left
        · intro w hSw
          (try dsimp only at hSw)
          go_simp
          (try with_reducible rfl)
        try simp only [Act.put, List.getElem_toArray, List.getElem_cons_succ, List.getElem_cons_zero, List.setIfInBounds_toArray, List.set_cons_zero, List.set_cons_succ]
        refine wpAnyH_take (i := 1) (oi := _) (v := ?_) rfl (by kernel_rfl) (by kernel_rfl) (by kernel_rfl) (fun _ _ _ h => h) (Or.inl ⟨by rfl, ?_⟩) (by assumption) ?_
        rotate_left
        · intro w hSw
          (try dsimp only at hSw)
          go_simp
          (try with_reducible rfl)
        try simp only [Act.put, List.getElem_toArray, List.getElem_cons_succ, List.getElem_cons_zero, List.setIfInBounds_toArray, List.set_cons_zero, List.set_cons_succ]
        refine wpAnyH_take (i := 3) (oi := _) (v := ?_) rfl (by kernel_rfl) (by kernel_rfl) (by kernel_rfl) (fun _ _ _ h => h) (Or.inl ⟨by rfl, ?_⟩) (by assumption) ?_
        rotate_left
        · intro w hSw
          (try dsimp only at hSw)
          go_simp
          (try with_reducible rfl)
        try simp only [Act.put, List.getElem_toArray, List.getElem_cons_succ, List.getElem_cons_zero, List.setIfInBounds_toArray, List.set_cons_zero, List.set_cons_succ]
        refine wpAnyH_take (i := 4) (oi := _) (v := ?_) rfl (by kernel_rfl) (by kernel_rfl) (by kernel_rfl) (fun _ _ _ h => h) (Or.inl ⟨by rfl, ?_⟩) (by assumption) ?_
        rotate_left
        · intro w hSw
          (try dsimp only at hSw)
          go_simp
          (try with_reducible rfl)
        try simp only [Act.put, List.getElem_toArray, List.getElem_cons_succ, List.getElem_cons_zero, List.setIfInBounds_toArray, List.set_cons_zero, List.set_cons_succ]
        refine wpAnyH_ready (rs := [2, 5]) (by kernel_rfl) (by simp) ?_
        refine (AllReadyH.cons (o := _) rfl (fun K hK => ?_) (AllReadyH.cons (o := _) rfl (fun K hK => ?_) AllReadyH.nil))
        · go_simp
          go_at_call 28
          (with_reducible refine (HI.out _).mono ?_)
          rintro e w3 ⟨rfl, rfl⟩
          go_simp
          refine hK.out _ _ hHeld (fun hHeld => ?_)
          clear hK K
          try simp only [Act.put, List.getElem_toArray, List.getElem_cons_succ, List.getElem_cons_zero, List.setIfInBounds_toArray, List.set_cons_zero, List.set_cons_succ]
          refine wpAnyH_ready (rs := [5]) (by kernel_rfl) (by simp) ?_
          refine AllReadyH.cons (o := _) rfl (fun K hK => ?_) AllReadyH.nil
          go_simp
          refine hK.out _ _ (held2_drew hHeld _) (fun hHeld => ?_)
          clear hK K
          try simp only [Act.put, List.getElem_toArray, List.getElem_cons_succ, List.getElem_cons_zero, List.setIfInBounds_toArray, List.set_cons_zero, List.set_cons_succ]
          refine wpAnyH_ready (rs := [6]) (by kernel_rfl) (by simp) ?_
          refine AllReadyH.cons (o := _) rfl (fun K hK => ?_) AllReadyH.nil
          go_simp
          refine hK.out _ _ hHeld (fun hHeld => ?_)
          clear hK K
          try simp only [Act.put, List.getElem_toArray, List.getElem_cons_succ, List.getElem_cons_zero, List.setIfInBounds_toArray, List.set_cons_zero, List.set_cons_succ]
          refine wpAnyH_take (i := 7) (oi := _) (v := ?_) rfl (by kernel_rfl) (by kernel_rfl) (by kernel_rfl) (fun _ _ _ h => h) (Or.inl ⟨by rfl, ?_⟩) (by assumption) ?_
          rotate_left
          · intro w hSw
            (try dsimp only at hSw)
            go_simp
            (try with_reducible rfl)
          try simp only [Act.put, List.getElem_toArray, List.getElem_cons_succ, List.getElem_cons_zero, List.setIfInBounds_toArray, List.set_cons_zero, List.set_cons_succ]
          refine wpAnyH_take (i := 8) (oi := _) (v := ?_) rfl (by kernel_rfl) (by kernel_rfl) (by kernel_rfl) (fun _ _ _ h => h) (Or.inl ⟨by rfl, ?_⟩) (by assumption) ?_
          rotate_left
          · intro w hSw
            (try dsimp only at hSw)
            go_simp
            (try with_reducible rfl)
          try simp only [Act.put, List.getElem_toArray, List.getElem_cons_succ, List.getElem_cons_zero, List.setIfInBounds_toArray, List.set_cons_zero, List.set_cons_succ]
          refine wpAnyH_done (by kernel_rfl) ?_ _
          refine NoPanic.normal ?_
          go_wp2
          go_ret
          exact ⟨ret_str (by rw [HF.out]), hHeld.2.2⟩
        · go_simp
          refine hK.out _ _ (held2_drew hHeld _) (fun hHeld => ?_)
          clear hK K
          try simp only [Act.put, List.getElem_toArray, List.getElem_cons_succ, List.getElem_cons_zero, List.setIfInBounds_toArray, List.set_cons_zero, List.set_cons_succ]
          refine wpAnyH_ready (rs := [2, 6]) (by kernel_rfl) (by simp) ?_
          refine (AllReadyH.cons (o := _) rfl (fun K hK => ?_) (AllReadyH.cons (o := _) rfl (fun K hK => ?_) AllReadyH.nil))
          · go_simp
            go_at_call 28
            (with_reducible refine (HI.out _).mono ?_)
            rintro e w3 ⟨rfl, rfl⟩
            go_simp
            refine hK.out _ _ hHeld (fun hHeld => ?_)
            clear hK K
            try simp only [Act.put, List.getElem_toArray, List.getElem_cons_succ, List.getElem_cons_zero, List.setIfInBounds_toArray, List.set_cons_zero, List.set_cons_succ]
            refine wpAnyH_ready (rs := [6]) (by kernel_rfl) (by simp) ?_
            refine AllReadyH.cons (o := _) rfl (fun K hK => ?_) AllReadyH.nil
            go_simp
            refine hK.out _ _ hHeld (fun hHeld => ?_)
            clear hK K
            try simp only [Act.put, List.getElem_toArray, List.getElem_cons_succ, List.getElem_cons_zero, List.setIfInBounds_toArray, List.set_cons_zero, List.set_cons_succ]
            refine wpAnyH_take (i := 7) (oi := _) (v := ?_) rfl (by kernel_rfl) (by kernel_rfl) (by kernel_rfl) (fun _ _ _ h => h) (Or.inl ⟨by rfl, ?_⟩) (by assumption) ?_
            rotate_left
            · intro w hSw
              (try dsimp only at hSw)
              go_simp
              (try with_reducible rfl)
            try simp only [Act.put, List.getElem_toArray, List.getElem_cons_succ, List.getElem_cons_zero, List.setIfInBounds_toArray, List.set_cons_zero, List.set_cons_succ]
            refine wpAnyH_take (i := 8) (oi := _) (v := ?_) rfl (by kernel_rfl) (by kernel_rfl) (by kernel_rfl) (fun _ _ _ h => h) (Or.inl ⟨by rfl, ?_⟩) (by assumption) ?_
            rotate_left
            · intro w hSw
              (try dsimp only at hSw)
              go_simp
              (try with_reducible rfl)
            try simp only [Act.put, List.getElem_toArray, List.getElem_cons_succ, List.getElem_cons_zero, List.setIfInBounds_toArray, List.set_cons_zero, List.set_cons_succ]
            refine wpAnyH_done (by kernel_rfl) ?_ _
            refine NoPanic.normal ?_
            go_wp2
            go_ret
            exact ⟨ret_str (by rw [HF.out]), hHeld.2.2⟩
          · go_simp
            refine hK.out _ _ hHeld (fun hHeld => ?_)
            clear hK K
            try simp only [Act.put, List.getElem_toArray, List.getElem_cons_succ, List.getElem_cons_zero, List.setIfInBounds_toArray, List.set_cons_zero, List.set_cons_succ]
            refine wpAnyH_ready (rs := [2]) (by kernel_rfl) (by simp) ?_
            refine AllReadyH.cons (o := _) rfl (fun K hK => ?_) AllReadyH.nil
            go_simp
            go_at_call 28
            (with_reducible refine (HI.out _).mono ?_)
            rintro e w3 ⟨rfl, rfl⟩
            go_simp
            refine hK.out _ _ hHeld (fun hHeld => ?_)
            clear hK K
            try simp only [Act.put, List.getElem_toArray, List.getElem_cons_succ, List.getElem_cons_zero, List.setIfInBounds_toArray, List.set_cons_zero, List.set_cons_succ]
            refine wpAnyH_take (i := 7) (oi := _) (v := ?_) rfl (by kernel_rfl) (by kernel_rfl) (by kernel_rfl) (fun _ _ _ h => h) (Or.inl ⟨by rfl, ?_⟩) (by assumption) ?_
            rotate_left
            · intro w hSw
              (try dsimp only at hSw)
              go_simp
              (try with_reducible rfl)
            try simp only [Act.put, List.getElem_toArray, List.getElem_cons_succ, List.getElem_cons_zero, List.setIfInBounds_toArray, List.set_cons_zero, List.set_cons_succ]
            refine wpAnyH_take (i := 8) (oi := _) (v := ?_) rfl (by kernel_rfl) (by kernel_rfl) (by kernel_rfl) (fun _ _ _ h => h) (Or.inl ⟨by rfl, ?_⟩) (by assumption) ?_
            rotate_left
            · intro w hSw
              (try dsimp only at hSw)
              go_simp
              (try with_reducible rfl)
            try simp only [Act.put, List.getElem_toArray, List.getElem_cons_succ, List.getElem_cons_zero, List.setIfInBounds_toArray, List.set_cons_zero, List.set_cons_succ]
            refine wpAnyH_done (by kernel_rfl) ?_ _
            refine NoPanic.normal ?_
            go_wp2
            go_ret
            exact ⟨ret_str (by rw [HF.out]), hHeld.2.2⟩
      · have HF : RowKit.Hid (seatT r c = ⟨#[]⟩) := Lib.hid (seatT_no (by simp [h3]))
        have hn : ¬ (65 ≤ (c.toNat : Int) ∧ (c.toNat : Int) ≤ 90) := fun h => h3 (by unfold isL; exact decide_eq_true h)
        clear h3
        go_enter Tryz.func32, Tryz.ntmps32
        go_wp2
        go_ret
        exact ⟨ret_str (by rw [HF.out]), (Below.refl _ _).alloc (Nat.le_refl _) _⟩

set_option maxRecDepth 20000 in
theorem refText_any (r : Int) (c : UInt8) (w : World) :
    Calls Tryz.prog 54 #[.agg #[.int .i64 r, .int .u8 c.toNat]] w fun e w' => e = .returned (.string (seatT r c)) ∧ Below w.heap.size w w' := by
  have hc0 : (0 : Int) ≤ (c.toNat : Int) := by omega
  have hc1 := byte_hi c
  have CL : ∀ W, _ := fun W => refLetter_any (c.toNat : Int) W hc0 hc1
  by_cases h1 : r < 1
  · have HF : RowKit.Hid (seatT r c = ⟨#[]⟩) := Lib.hid (seatT_no (by omega))
    go_enter Tryz.func54, Tryz.ntmps54
    go_wp2
    go_ret
    exact ⟨ret_str (by rw [HF.out]), (Below.refl _ _).alloc (Nat.le_refl _) _⟩
  · by_cases h2 : 99 < r
    · have HF : RowKit.Hid (seatT r c = ⟨#[]⟩) := Lib.hid (seatT_no (by omega))
      go_enter Tryz.func54, Tryz.ntmps54
      go_wp2
      go_ret
      exact ⟨ret_str (by rw [HF.out]), (Below.refl _ _).alloc (Nat.le_refl _) _⟩
    · have g1 : (1 : Int) ≤ r := by omega
      have g2 : r ≤ 99 := by omega
      obtain ⟨w1, e1, k1, k2, kb, ks⟩ := seat_boxed w r c
      clear ks
      cases h3 : isL c.toNat
      · have HF : RowKit.Hid (seatT r c = ⟨#[]⟩) := Lib.hid (seatT_no (by rw [h3]; simp))
        rw [h3] at CL
        have HL := Lib.hid CL
        clear CL
        go_enter Tryz.func54, Tryz.ntmps54
        go_wp2_with (first | (go_at_call 51; (with_reducible refine (HL.out _).mono ?_); rintro e w3 ⟨rfl, rfl⟩))
        go_ret
        exact ⟨ret_str (by rw [HF.out]), kb⟩
      · obtain ⟨n, rfl⟩ := Int.eq_ofNat_of_zero_le (show (0 : Int) ≤ r by omega)
        have HF : RowKit.Hid (seatT n c = digA n ++ ⟨#[c]⟩) := Lib.hid (if_pos ⟨g1, g2, h3⟩)
        rw [h3] at CL
        have HL := Lib.hid CL
        have CI : ∀ W, _ := fun W => digits_any n W (by omega)
        have HI := Lib.hid CI
        have hsz := digA_small (n := n) (by omega)
        clear CI CL
        have hs1 : ¬ 9223372036854775807 < (digA n).size + 1 := by omega
        have hcv := one_conv c
        have hcv0 := one_conv0 c
        go_enter Tryz.func54, Tryz.ntmps54
        go_wp2_with (first | (go_at_call 51; (with_reducible refine (HL.out _).mono ?_); rintro e w3 ⟨rfl, rfl⟩))
        generalize digA n = D at *
        clear e1
        refine wp_region_noPanic ?_
        refine wp_region_held_drew (S := fun W => W.cell? ⟨w.heap.size, 0, none⟩ = some (.int .i64 n) ∧ W.cell? ⟨w.heap.size, 1, none⟩ = some (.int .u8 c.toNat) ∧ Below w.heap.size w W) (by kernel_rfl) ⟨k1, k2, kb.drew⟩ (fun hHeld => ?_)
        refine wpAnyH_take (i := 0) (oi := _) (v := ?_) rfl (by kernel_rfl) (by kernel_rfl) (by kernel_rfl) (fun _ _ _ h => h) (Or.inl ⟨by rfl, ?_⟩) (by assumption) ?_
        rotate_left
        · intro w hSw
          (try dsimp only at hSw)
          go_simp
          (try with_reducible rfl)
        try simp only [Act.put, List.getElem_toArray, List.getElem_cons_succ, List.getElem_cons_zero, List.setIfInBounds_toArray, List.set_cons_zero, List.set_cons_succ]
        refine wpAnyH_take (i := 1) (oi := _) (v := ?_) rfl (by kernel_rfl) (by kernel_rfl) (by kernel_rfl) (fun _ _ _ h => h) (Or.inl ⟨by rfl, ?_⟩) (by assumption) ?_
        rotate_left
        · intro w hSw
          (try dsimp only at hSw)
          go_simp
          (try with_reducible rfl)
        try simp only [Act.put, List.getElem_toArray, List.getElem_cons_succ, List.getElem_cons_zero, List.setIfInBounds_toArray, List.set_cons_zero, List.set_cons_succ]
        refine wpAnyH_take (i := 3) (oi := _) (v := ?_) rfl (by kernel_rfl) (by kernel_rfl) (by kernel_rfl) (fun _ _ _ h => h) (Or.inl ⟨by rfl, ?_⟩) (by assumption) ?_
        rotate_left
        · intro w hSw
          (try dsimp only at hSw)
          go_simp
          (try with_reducible rfl)
        try simp only [Act.put, List.getElem_toArray, List.getElem_cons_succ, List.getElem_cons_zero, List.setIfInBounds_toArray, List.set_cons_zero, List.set_cons_succ]
        refine wpAnyH_take (i := 4) (oi := _) (v := ?_) rfl (by kernel_rfl) (by kernel_rfl) (by kernel_rfl) (fun _ _ _ h => h) (Or.inl ⟨by rfl, ?_⟩) (by assumption) ?_
        rotate_left
        · intro w hSw
          (try dsimp only at hSw)
          go_simp
          (try with_reducible rfl)
        try simp only [Act.put, List.getElem_toArray, List.getElem_cons_succ, List.getElem_cons_zero, List.setIfInBounds_toArray, List.set_cons_zero, List.set_cons_succ]
        refine wpAnyH_ready (rs := [2, 5]) (by kernel_rfl) (by simp) ?_
        refine (AllReadyH.cons (o := _) rfl (fun K hK => ?_) (AllReadyH.cons (o := _) rfl (fun K hK => ?_) AllReadyH.nil))
        · go_simp
          go_at_call 75
          (with_reducible refine (HI.out _).mono ?_)
          rintro e w3 ⟨rfl, hb3⟩
          go_simp
          refine hK.out _ _ (held2_bel hHeld hb3) (fun hHeld => ?_)
          clear hK K
          try simp only [Act.put, List.getElem_toArray, List.getElem_cons_succ, List.getElem_cons_zero, List.setIfInBounds_toArray, List.set_cons_zero, List.set_cons_succ]
          refine wpAnyH_ready (rs := [5]) (by kernel_rfl) (by simp) ?_
          refine AllReadyH.cons (o := _) rfl (fun K hK => ?_) AllReadyH.nil
          go_simp
          refine hK.out _ _ (held2_bel hHeld ((Below.refl _ _).alloc (Nat.le_refl _) _)) (fun hHeld => ?_)
          clear hK K
          try simp only [Act.put, List.getElem_toArray, List.getElem_cons_succ, List.getElem_cons_zero, List.setIfInBounds_toArray, List.set_cons_zero, List.set_cons_succ]
          refine wpAnyH_ready (rs := [6]) (by kernel_rfl) (by simp) ?_
          refine AllReadyH.cons (o := _) rfl (fun K hK => ?_) AllReadyH.nil
          go_simp
          refine hK.out _ _ hHeld (fun hHeld => ?_)
          clear hK K
          try simp only [Act.put, List.getElem_toArray, List.getElem_cons_succ, List.getElem_cons_zero, List.setIfInBounds_toArray, List.set_cons_zero, List.set_cons_succ]
          refine wpAnyH_take (i := 7) (oi := _) (v := ?_) rfl (by kernel_rfl) (by kernel_rfl) (by kernel_rfl) (fun _ _ _ h => h) (Or.inl ⟨by rfl, ?_⟩) (by assumption) ?_
          rotate_left
          · intro w hSw
            (try dsimp only at hSw)
            go_simp
            (try with_reducible rfl)
          try simp only [Act.put, List.getElem_toArray, List.getElem_cons_succ, List.getElem_cons_zero, List.setIfInBounds_toArray, List.set_cons_zero, List.set_cons_succ]
          refine wpAnyH_take (i := 8) (oi := _) (v := ?_) rfl (by kernel_rfl) (by kernel_rfl) (by kernel_rfl) (fun _ _ _ h => h) (Or.inl ⟨by rfl, ?_⟩) (by assumption) ?_
          rotate_left
          · intro w hSw
            (try dsimp only at hSw)
            go_simp
            (try with_reducible rfl)
          try simp only [Act.put, List.getElem_toArray, List.getElem_cons_succ, List.getElem_cons_zero, List.setIfInBounds_toArray, List.set_cons_zero, List.set_cons_succ]
          refine wpAnyH_done (by kernel_rfl) ?_ _
          refine NoPanic.normal ?_
          go_wp2
          go_ret
          exact ⟨ret_str (by rw [HF.out]), hHeld.2.2⟩
        · go_simp
          refine hK.out _ _ (held2_drew hHeld _) (fun hHeld => ?_)
          clear hK K
          try simp only [Act.put, List.getElem_toArray, List.getElem_cons_succ, List.getElem_cons_zero, List.setIfInBounds_toArray, List.set_cons_zero, List.set_cons_succ]
          refine wpAnyH_ready (rs := [2, 6]) (by kernel_rfl) (by simp) ?_
          refine (AllReadyH.cons (o := _) rfl (fun K hK => ?_) (AllReadyH.cons (o := _) rfl (fun K hK => ?_) AllReadyH.nil))
          · go_simp
            go_at_call 75
            (with_reducible refine (HI.out _).mono ?_)
            rintro e w3 ⟨rfl, hb3⟩
            have hcx := one_conv_at c w3 w1.heap.size (cell_bel hb3 (World.cell?_alloc_new w1 _ _ _))
            go_simp
            refine hK.out _ _ (held2_bel hHeld hb3) (fun hHeld => ?_)
            clear hK K
            try simp only [Act.put, List.getElem_toArray, List.getElem_cons_succ, List.getElem_cons_zero, List.setIfInBounds_toArray, List.set_cons_zero, List.set_cons_succ]
            refine wpAnyH_ready (rs := [6]) (by kernel_rfl) (by simp) ?_
            refine AllReadyH.cons (o := _) rfl (fun K hK => ?_) AllReadyH.nil
            go_simp
            refine hK.out _ _ hHeld (fun hHeld => ?_)
            clear hK K
            try simp only [Act.put, List.getElem_toArray, List.getElem_cons_succ, List.getElem_cons_zero, List.setIfInBounds_toArray, List.set_cons_zero, List.set_cons_succ]
            refine wpAnyH_take (i := 7) (oi := _) (v := ?_) rfl (by kernel_rfl) (by kernel_rfl) (by kernel_rfl) (fun _ _ _ h => h) (Or.inl ⟨by rfl, ?_⟩) (by assumption) ?_
            rotate_left
            · intro w hSw
              (try dsimp only at hSw)
              go_simp
              (try with_reducible rfl)
            try simp only [Act.put, List.getElem_toArray, List.getElem_cons_succ, List.getElem_cons_zero, List.setIfInBounds_toArray, List.set_cons_zero, List.set_cons_succ]
            refine wpAnyH_take (i := 8) (oi := _) (v := ?_) rfl (by kernel_rfl) (by kernel_rfl) (by kernel_rfl) (fun _ _ _ h => h) (Or.inl ⟨by rfl, ?_⟩) (by assumption) ?_
            rotate_left
            · intro w hSw
              (try dsimp only at hSw)
              go_simp
              (try with_reducible rfl)
            try simp only [Act.put, List.getElem_toArray, List.getElem_cons_succ, List.getElem_cons_zero, List.setIfInBounds_toArray, List.set_cons_zero, List.set_cons_succ]
            refine wpAnyH_done (by kernel_rfl) ?_ _
            refine NoPanic.normal ?_
            go_wp2
            go_ret
            exact ⟨ret_str (by rw [HF.out]), hHeld.2.2⟩
          · go_simp
            refine hK.out _ _ hHeld (fun hHeld => ?_)
            clear hK K
            try simp only [Act.put, List.getElem_toArray, List.getElem_cons_succ, List.getElem_cons_zero, List.setIfInBounds_toArray, List.set_cons_zero, List.set_cons_succ]
            refine wpAnyH_ready (rs := [2]) (by kernel_rfl) (by simp) ?_
            refine AllReadyH.cons (o := _) rfl (fun K hK => ?_) AllReadyH.nil
            go_simp
            go_at_call 75
            (with_reducible refine (HI.out _).mono ?_)
            rintro e w3 ⟨rfl, hb3⟩
            go_simp
            refine hK.out _ _ (held2_bel hHeld hb3) (fun hHeld => ?_)
            clear hK K
            try simp only [Act.put, List.getElem_toArray, List.getElem_cons_succ, List.getElem_cons_zero, List.setIfInBounds_toArray, List.set_cons_zero, List.set_cons_succ]
            refine wpAnyH_take (i := 7) (oi := _) (v := ?_) rfl (by kernel_rfl) (by kernel_rfl) (by kernel_rfl) (fun _ _ _ h => h) (Or.inl ⟨by rfl, ?_⟩) (by assumption) ?_
            rotate_left
            · intro w hSw
              (try dsimp only at hSw)
              go_simp
              (try with_reducible rfl)
            try simp only [Act.put, List.getElem_toArray, List.getElem_cons_succ, List.getElem_cons_zero, List.setIfInBounds_toArray, List.set_cons_zero, List.set_cons_succ]
            refine wpAnyH_take (i := 8) (oi := _) (v := ?_) rfl (by kernel_rfl) (by kernel_rfl) (by kernel_rfl) (fun _ _ _ h => h) (Or.inl ⟨by rfl, ?_⟩) (by assumption) ?_
            rotate_left
            · intro w hSw
              (try dsimp only at hSw)
              go_simp
              (try with_reducible rfl)
            try simp only [Act.put, List.getElem_toArray, List.getElem_cons_succ, List.getElem_cons_zero, List.setIfInBounds_toArray, List.set_cons_zero, List.set_cons_succ]
            refine wpAnyH_done (by kernel_rfl) ?_ _
            refine NoPanic.normal ?_
            go_wp2
            go_ret
            exact ⟨ret_str (by rw [HF.out]), hHeld.2.2⟩

end Go.Proofs.YtmhhbnnjilbdnaaGreatDoor
namespace Go.Proofs.YtmhhbnnjilbdnaaGreatDoor
open Go.RowKit Go.ChangeMaps
set_option linter.unusedSimpArgs false
set_option linter.unusedVariables false
set_option maxRecDepth 20000

/- Parsers in stages. -/
/- Legs. -/
structure SoldT where
  c : UInt8
  n : Int
structure HeldT where
  row : Int
  c : UInt8
  loc : ByteArray
  pax : Int

/-- Each is right, and lower than the next one. -/
def Rise {α : Type} (one : α → Prop) (low : α → α → Prop) (l : List α) : Prop := ∀ i x, l[i]? = some x → one x ∧ ∀ y, 0 < i → l[i - 1]? = some y → low y x

theorem Rise.nil {α : Type} {one : α → Prop} {low : α → α → Prop} {l : List α} : Rise one low (l.take 0) := by
  intro i x h
  simp at h

end Go.Proofs.YtmhhbnnjilbdnaaGreatDoor
namespace Go.Proofs.YtmhhbnnjilbdnaaGreatDoor
open Go.RowKit Go.ChangeMaps
set_option linter.unusedSimpArgs false
set_option linter.unusedVariables false
set_option maxRecDepth 20000

end Go.Proofs.YtmhhbnnjilbdnaaGreatDoor
namespace Go.Proofs.YtmhhbnnjilbdnaaGreatDoor
open Go.RowKit Go.ChangeMaps
set_option linter.unusedSimpArgs false
set_option linter.unusedVariables false
set_option maxRecDepth 20000

def s0 : SoldT := ⟨0, 0⟩
def h0 : HeldT := ⟨0, 0, ⟨#[]⟩, 0⟩

theorem getD_at {α : Type} {l : List α} {i : Nat} (d : α) (hi : i < l.length) : l[i]? = some (l.getD i d) := by rw [List.getD_eq_getElem?_getD, List.getElem?_eq_getElem hi]; rfl

end Go.Proofs.YtmhhbnnjilbdnaaGreatDoor
namespace Go.Proofs.YtmhhbnnjilbdnaaGreatDoor
open Go.RowKit Go.ChangeMaps
set_option linter.unusedSimpArgs false
set_option linter.unusedVariables false
set_option maxRecDepth 20000

end Go.Proofs.YtmhhbnnjilbdnaaGreatDoor
namespace Go.Proofs.YtmhhbnnjilbdnaaGreatDoor
open Go.RowKit Go.ChangeMaps
set_option linter.unusedSimpArgs false
set_option linter.unusedVariables false
set_option maxRecDepth 20000

end Go.Proofs.YtmhhbnnjilbdnaaGreatDoor
namespace Go.Proofs.YtmhhbnnjilbdnaaGreatDoor
open Go.RowKit Go.ChangeShapes Go.WideShapes Go.ChangeAt Go.Joins Go.Deep
set_option linter.unusedSimpArgs false
set_option linter.unusedVariables false

theorem wf_byte {n : Int} (h : (Lit.int .u8 n).wf = true) : ∃ c : UInt8, n = (c.toNat : Int) ∧ UInt8.ofNat n.toNat = c := by
  have hh : 0 ≤ n ∧ n < 256 := by
    simp [Lit.wf, IntKind.min, IntKind.max, IntKind.signed, IntKind.bits] at h
    omega
  obtain ⟨k, rfl⟩ := Int.eq_ofNat_of_zero_le hh.1
  exact ⟨UInt8.ofNat k, by simp; omega, by simp⟩

end Go.Proofs.YtmhhbnnjilbdnaaGreatDoor
namespace Go.Proofs.YtmhhbnnjilbdnaaGreatDoor
open Go.RowKit Go.ChangeShapes Go.WideShapes Go.ChangeAt Go.Joins Go.Deep
set_option linter.unusedSimpArgs false
set_option linter.unusedVariables false

section
variable {H : Type} {enc : TypeId × Value → H} {W : World}

theorem seat_each {fuel : Nat} {v0 v1 : Value} {x : DataW H × List MemPlace} (h : DataW.trod enc Tryz.prog W 0 (fun _ => true) true fuel 46 [v0, v1] = some x) : ∃ (r : Int) (c : UInt8), v0 = .int .i64 r ∧ v1 = .int .u8 c.toNat ∧ (Lit.int .i64 r).wf = true := by
  have he : ∃ f0 f1 : Field, Tryz.prog.underlying 46 = some (.struct #[f0, f1]) ∧ f0.offset = 0 ∧ f1.offset = 1 ∧ f0.type = 3 ∧ f1.type = 5 := ⟨_, _, Tryz.underlying46, rfl, rfl, rfl, rfl⟩
  obtain ⟨f0, f1, he, o0, o1, t0, t1⟩ := he
  obtain ⟨y0, y1, n, _, _, g0, g1⟩ := trod_struct2 he h
  rw [t0, o0, show Tryz.prog.cellsOf 3 = 1 by kernel_rfl] at g0
  rw [t1, o1, show Tryz.prog.cellsOf 5 = 1 by kernel_rfl] at g1
  obtain ⟨k, e1, _, h1⟩ := DataW.trod_int Tryz.underlying3 g0
  obtain ⟨s, e2, _, h2⟩ := DataW.trod_int Tryz.underlying5 g1
  simp at e1 e2
  obtain ⟨c, hc, _⟩ := wf_byte h2
  exact ⟨k, c, e1, by rw [e2, hc], h1⟩

end
end Go.Proofs.YtmhhbnnjilbdnaaGreatDoor
namespace Go.Proofs.YtmhhbnnjilbdnaaGreatDoor
open Go.RowKit
set_option linter.unusedSimpArgs false
set_option linter.unusedVariables false

def carrierS : List UInt8 → Bool
  | [a, b] => bL a && (bL b || bD b) || bD a && bL b
  | _ => false

/-- A byte of a free text that is no blank. -/
def bF (c : UInt8) : Bool := bL c || bD c || c.toNat == 46 || c.toNat == 45 || c.toNat == 47

def freeGo : Bool → List UInt8 → Bool
  | b, [] => !b
  | b, c :: t => if bF c then freeGo false t else if c.toNat == 32 && !b then freeGo true t else false

def freeS (l : List UInt8) : Bool := decide (1 ≤ l.length ∧ l.length ≤ 40) && freeGo true l

/-- What the reference asks of each byte. -/
def okAt (l : List UInt8) (k : Nat) : Bool := !((l.getD k 0).toNat == 32 && (l.getD (k - 1) 0).toNat == 32) && (bF (l.getD k 0) || (l.getD k 0).toNat == 32)

def refFreeS (l : List UInt8) : Bool := decide (1 ≤ l.length ∧ l.length ≤ 40) && !((l.getD 0 0).toNat == 32) && !((l.getD (l.length - 1) 0).toNat == 32) && (List.range l.length).all (okAt l)

def refGo : UInt8 → List UInt8 → Bool
  | p, [] => !(p.toNat == 32)
  | p, c :: t => (bF c || c.toNat == 32) && !(c.toNat == 32 && p.toNat == 32) && refGo c t

theorem bF_32 {c : UInt8} (h : bF c = true) : (c.toNat == 32) = false := by
  by_cases h2 : c.toNat = 32
  · simp [bF, bL, bD, isL, isD, h2] at h
  · exact beq_eq_false_iff_ne.2 h2

theorem freeGo_eq (l : List UInt8) : ∀ p : UInt8, freeGo (p.toNat == 32) l = refGo p l := by
  induction l with
  | nil => intro p; rfl
  | cons c t ih =>
    intro p
    rw [refGo, freeGo, ← ih c]
    cases hf : bF c
    · cases hc : (c.toNat == 32) <;> cases hp : (p.toNat == 32) <;> simp
    · rw [bF_32 hf]; simp

def okAt2 (p : UInt8) (l : List UInt8) (k : Nat) : Bool := (bF (l.getD k 0) || (l.getD k 0).toNat == 32) && !((l.getD k 0).toNat == 32 && (if k = 0 then p else l.getD (k - 1) 0).toNat == 32)

theorem okAt2_succ (p c : UInt8) (t : List UInt8) (k : Nat) : okAt2 p (c :: t) (k + 1) = okAt2 c t k := by
  unfold okAt2
  cases k <;> simp

theorem refGo_range (l : List UInt8) : ∀ p : UInt8, refGo p l = (!(((p :: l).getLastD 0).toNat == 32) && (List.range l.length).all (okAt2 p l)) := by
  induction l with
  | nil => intro p; simp [refGo]
  | cons c t ih =>
    intro p
    rw [refGo, ih c, List.length_cons, List.range_succ_eq_map, List.all_cons, List.all_map]
    have e : (okAt2 p (c :: t) ∘ Nat.succ) = okAt2 c t := funext fun k => okAt2_succ p c t k
    rw [e]
    have e2 : okAt2 p (c :: t) 0 = ((bF c || c.toNat == 32) && !(c.toNat == 32 && p.toNat == 32)) := rfl
    have e3 : (p :: c :: t).getLastD 0 = (c :: t).getLastD 0 := by simp
    rw [e2, e3]
    cases (bF c || c.toNat == 32) && !(c.toNat == 32 && p.toNat == 32) <;> simp

theorem free_eq (l : List UInt8) : freeS l = refFreeS l := by
  unfold freeS refFreeS
  cases hd : decide (1 ≤ l.length ∧ l.length ≤ 40)
  · rfl
  · have h32 : freeGo true l = refGo 32 l := freeGo_eq l 32
    rw [h32, refGo_range, Bool.true_and, Bool.true_and]
    cases l with
    | nil => simp at hd
    | cons c t =>
      have e1 : ((32 : UInt8) :: c :: t).getLastD 0 = (c :: t).getD ((c :: t).length - 1) 0 := by
        rw [List.getLastD_cons, List.getLastD_eq_getLast?, List.getLast?_eq_getElem?]
        simp [List.getD]
      rw [e1, List.length_cons, List.range_succ_eq_map, List.all_cons, List.all_cons]
      have e2 : okAt2 32 (c :: t) 0 = ((bF c || c.toNat == 32) && !(c.toNat == 32)) := by simp [okAt2]
      have e3 : okAt (c :: t) 0 = (!(c.toNat == 32) && (bF c || c.toNat == 32)) := by simp [okAt]
      have e4 : ∀ k, okAt2 32 (c :: t) (k + 1) = okAt (c :: t) (k + 1) := by intro k; simp [okAt2, okAt, Bool.and_comm]
      have e5 : ((List.range t.length).map Nat.succ).all (okAt2 32 (c :: t)) = ((List.range t.length).map Nat.succ).all (okAt (c :: t)) := by
        rw [List.all_map, List.all_map]
        congr 1
        funext k
        exact e4 k
      rw [e2, e3, e5]
      have e6 : (c :: t).getD 0 0 = c := rfl
      rw [e6]
      cases (c.toNat == 32) <;> cases bF c <;> simp

end Go.Proofs.YtmhhbnnjilbdnaaGreatDoor
namespace Go.Proofs.YtmhhbnnjilbdnaaGreatDoor
open Go.RowKit Go.ChangeMaps
set_option linter.unusedSimpArgs false
set_option linter.unusedVariables false
set_option maxRecDepth 20000

structure NameT where
  last : ByteArray
  first : ByteArray
structure SegT where
  car : ByteArray
  num : Int
  day : Int
  cls : UInt8
  live : Bool
structure PlaceT where
  seg : Int
  pax : Int
  row : Int
  c : UInt8
structure PnrT where
  loc : ByteArray
  off : ByteArray
  names : List NameT
  segs : List SegT
  phones : List ByteArray
  tk : Int
  td : Int
  tm : Int
  recv : ByteArray
  remarks : List ByteArray
  seats : List PlaceT
  queued : Bool

def nameC (x : NameT) : List Value := [.string x.last, .string x.first]
def segC (x : SegT) : List Value := [.string x.car, .int .i64 x.num, .int .i64 x.day, .int .u8 x.cls.toNat, .bool x.live]
def placeC (x : PlaceT) : List Value := [.int .i64 x.seg, .int .i64 x.pax, .int .i64 x.row, .int .u8 x.c.toNat]
theorem nameC_len (x : NameT) : (nameC x).length = 2 := rfl
theorem segC_len (x : SegT) : (segC x).length = 5 := rfl
theorem placeC_len (x : PlaceT) : (placeC x).length = 4 := rfl
/-- The cells of a PNR. -/
def pnrC (p : PnrT) (vn vs vp vr vx : Value) : List Value := [.string p.loc, .string p.off, vn, vs, vp, .int .i64 p.tk, .int .i64 p.td, .int .i64 p.tm, .string p.recv, vr, vx, .bool p.queued]

/-- All texts are such as memory bears. -/
def fitP (p : PnrT) : Prop := p.loc.size ≤ maxLen ∧ p.off.size ≤ maxLen ∧ (∀ x ∈ p.names, x.last.size ≤ maxLen ∧ x.first.size ≤ maxLen) ∧ (∀ x ∈ p.segs, x.car.size ≤ maxLen) ∧ (∀ s ∈ p.phones, s.size ≤ maxLen) ∧ p.recv.size ≤ maxLen ∧ ∀ s ∈ p.remarks, s.size ≤ maxLen

def nameOk (x : NameT) : Prop := lettersS (toL x.last) 1 16 = true ∧ lettersS (toL x.first) 1 16 = true
def segOk (x : SegT) : Prop := carrierS (toL x.car) = true ∧ (1 ≤ x.num ∧ x.num ≤ 9999) ∧ (0 ≤ x.day ∧ x.day < 366) ∧ bL x.cls = true
def legK (x : SegT) : ByteArray × Int × Int := (x.car, x.num, x.day)
def freeP (s : ByteArray) : Prop := freeS (toL s) = true
def tickOk (tk td tm : Int) (q : Bool) : Prop := (tk = 1 ∧ (0 ≤ td ∧ td < 366) ∧ 0 ≤ tm ∧ tm < 1440) ∨ (q = false ∧ td = 0 ∧ tm = 0 ∧ (tk = 2 ∨ tk = 0))
def liveAt (segs : List SegT) (n : Int) : Prop := 1 ≤ n ∧ ∃ s, segs[(n - 1).toNat]? = some s ∧ s.live = true
def placeOk (segs : List SegT) (nn : Nat) (x : PlaceT) : Prop := liveAt segs x.seg ∧ (1 ≤ x.pax ∧ x.pax ≤ nn) ∧ (1 ≤ x.row ∧ x.row ≤ 99 ∧ bL x.c = true)
def lowP (x y : PlaceT) : Prop := x.seg < y.seg ∨ (x.seg = y.seg ∧ x.pax < y.pax)
def seatK (x : PlaceT) : Int × Int × UInt8 := (x.seg, x.row, x.c)

/-- A PNR is sound. -/
structure SoundP (p : PnrT) : Prop where
  loc : toL p.loc = [] ∨ lettersS (toL p.loc) 6 6 = true
  off : toL p.off = [] ∨ lettersS (toL p.off) 3 3 = true
  names : p.names.length ≤ 9 ∧ ∀ x ∈ p.names, nameOk x
  segs : p.segs.length ≤ 8 ∧ (∀ x ∈ p.segs, segOk x) ∧ ((p.segs.filter (·.live)).map legK).Nodup
  phones : p.phones.length ≤ 4 ∧ ∀ s ∈ p.phones, freeP s
  remarks : p.remarks.length ≤ 10 ∧ ∀ s ∈ p.remarks, freeP s
  recv : toL p.recv = [] ∨ freeP p.recv
  tick : tickOk p.tk p.td p.tm p.queued
  seats : Rise (placeOk p.segs p.names.length) lowP p.seats ∧ (p.seats.map seatK).Nodup

/- Their bytes. -/
def textB (s : ByteArray) : List UInt8 := varL s.size ++ toL s
def nameB (x : NameT) : List UInt8 := textB x.last ++ textB x.first
def segB (x : SegT) : List UInt8 := toL x.car ++ varL x.num.toNat ++ varL (2 * x.day.toNat + if x.live then 1 else 0) ++ [x.cls]
def tickB (p : PnrT) : List UInt8 := UInt8.ofNat (2 * p.tk.toNat + if p.queued then 1 else 0) :: (if p.tk = 1 then varL (p.td * 1440 + p.tm).toNat else [])

/- The PNR of bytes. -/
/- What was written is read. -/
end Go.Proofs.YtmhhbnnjilbdnaaGreatDoor
namespace Go.Proofs.YtmhhbnnjilbdnaaGreatDoor
open Go.RowKit Go.ChangeMaps
set_option linter.unusedSimpArgs false
set_option linter.unusedVariables false
set_option maxRecDepth 20000

def nm0 : NameT := ⟨⟨#[]⟩, ⟨#[]⟩⟩
def sg0 : SegT := ⟨⟨#[]⟩, 0, 0, 0, false⟩
def pl0 : PlaceT := ⟨0, 0, 0, 0⟩
theorem row_at {α : Type} {en : α → List Value} {st : Nat} (hst : ∀ a, (en a).length = st) {w : World} {p : Option Addr} {n c : Nat} {l : List α} (d : α) (h : HasE en w (.slice p n c) l) {i : Nat} (hi : i < l.length) : ∃ b off, p = some ⟨b, off, none⟩ ∧ w.rangeAt b (off + i * st) (en (l.getD i d)) := by
  obtain ⟨b, off, h1, h2⟩ := h.at hst (getD_at d hi)
  refine ⟨b, off, h1, fun j u hj => ?_⟩
  have hjl : j < st := by
    rcases Nat.lt_or_ge j st with h | h
    · exact h
    · rw [List.getElem?_eq_none (by rw [hst]; exact h)] at hj; cases hj
  rw [Nat.add_assoc]
  exact h2 j u hjl hj

theorem name_at {w : World} {p : Option Addr} {n c : Nat} {l : List NameT} (h : HasE nameC w (.slice p n c) l) {i : Nat} (hi : i < l.length) : ∃ b off, p = some ⟨b, off, none⟩ ∧ w.rangeAt b (off + i * 2) (nameC (l.getD i nm0)) ∧ w.cell? ⟨b, off + i * 2, none⟩ = some (.string (l.getD i nm0).last) ∧ w.cell? ⟨b, off + i * 2 + 1, none⟩ = some (.string (l.getD i nm0).first) := by
  obtain ⟨b, off, h1, h2⟩ := row_at nameC_len nm0 h hi
  exact ⟨b, off, h1, h2, h2 0 _ rfl, h2 1 _ rfl⟩

theorem seg_at {w : World} {p : Option Addr} {n c : Nat} {l : List SegT} (h : HasE segC w (.slice p n c) l) {i : Nat} (hi : i < l.length) : ∃ b off, p = some ⟨b, off, none⟩ ∧ w.rangeAt b (off + i * 5) (segC (l.getD i sg0)) ∧ w.cell? ⟨b, off + i * 5, none⟩ = some (.string (l.getD i sg0).car) ∧ w.cell? ⟨b, off + i * 5 + 1, none⟩ = some (.int .i64 (l.getD i sg0).num) ∧ w.cell? ⟨b, off + i * 5 + 2, none⟩ = some (.int .i64 (l.getD i sg0).day) ∧ w.cell? ⟨b, off + i * 5 + 3, none⟩ = some (.int .u8 (l.getD i sg0).cls.toNat) ∧ w.cell? ⟨b, off + i * 5 + 4, none⟩ = some (.bool (l.getD i sg0).live) := by
  obtain ⟨b, off, h1, h2⟩ := row_at segC_len sg0 h hi
  exact ⟨b, off, h1, h2, h2 0 _ rfl, h2 1 _ rfl, h2 2 _ rfl, h2 3 _ rfl, h2 4 _ rfl⟩

theorem place_at {w : World} {p : Option Addr} {n c : Nat} {l : List PlaceT} (h : HasE placeC w (.slice p n c) l) {i : Nat} (hi : i < l.length) : ∃ b off, p = some ⟨b, off, none⟩ ∧ w.rangeAt b (off + i * 4) (placeC (l.getD i pl0)) ∧ w.cell? ⟨b, off + i * 4, none⟩ = some (.int .i64 (l.getD i pl0).seg) ∧ w.cell? ⟨b, off + i * 4 + 1, none⟩ = some (.int .i64 (l.getD i pl0).pax) ∧ w.cell? ⟨b, off + i * 4 + 2, none⟩ = some (.int .i64 (l.getD i pl0).row) ∧ w.cell? ⟨b, off + i * 4 + 3, none⟩ = some (.int .u8 (l.getD i pl0).c.toNat) := by
  obtain ⟨b, off, h1, h2⟩ := row_at placeC_len pl0 h hi
  exact ⟨b, off, h1, h2, h2 0 _ rfl, h2 1 _ rfl, h2 2 _ rfl, h2 3 _ rfl⟩

end Go.Proofs.YtmhhbnnjilbdnaaGreatDoor
namespace Go.Proofs.YtmhhbnnjilbdnaaGreatDoor
open Go.RowKit Go.ChangeMaps
set_option linter.unusedSimpArgs false
set_option linter.unusedVariables false
set_option maxRecDepth 20000

/-- A PNR that lies in memory. -/
structure PIn (w : World) (p : PnrT) (vn vs vp vr vx : Value) : Prop where
  n : HasE nameC w vn p.names
  s : HasE segC w vs p.segs
  ph : HasL w vp p.phones
  rm : HasL w vr p.remarks
  x : HasE placeC w vx p.seats
  fit : fitP p
  wf : ∀ x ∈ p.seats, (Lit.int .i64 x.seg).wf = true
  few : p.names.length ≤ 1000 ∧ p.segs.length ≤ 1000 ∧ p.phones.length ≤ 1000 ∧ p.remarks.length ≤ 1000 ∧ p.seats.length ≤ 1000

theorem PIn.mono {w w' : World} {p : PnrT} {vn vs vp vr vx : Value} (h : PIn w p vn vs vp vr vx) (hb : Below w.heap.size w w') : PIn w' p vn vs vp vr vx :=
  ⟨h.n.mono hb, h.s.mono hb, h.ph.mono hb, h.rm.mono hb, h.x.mono hb, h.fit, h.wf, h.few⟩

end Go.Proofs.YtmhhbnnjilbdnaaGreatDoor
namespace Go.Proofs.YtmhhbnnjilbdnaaGreatDoor
open Go.RowKit Go.ChangeMaps
set_option linter.unusedSimpArgs false
set_option linter.unusedVariables false
set_option maxRecDepth 20000

/- The bytes by stages. -/
def q1 (p : PnrT) : List UInt8 := [80] ++ textB p.loc
def q2 (p : PnrT) : List UInt8 := q1 p ++ textB p.off
def q3 (p : PnrT) : List UInt8 := q2 p ++ varL p.names.length
def q4 (p : PnrT) : List UInt8 := q3 p ++ p.names.flatMap nameB
def q5 (p : PnrT) : List UInt8 := q4 p ++ varL p.segs.length
def q6 (p : PnrT) : List UInt8 := q5 p ++ p.segs.flatMap segB
def q7 (p : PnrT) : List UInt8 := q6 p ++ varL p.phones.length
def q8 (p : PnrT) : List UInt8 := q7 p ++ p.phones.flatMap textB
def q9 (p : PnrT) : List UInt8 := q8 p ++ tickB p
def q10 (p : PnrT) : List UInt8 := q9 p ++ textB p.recv
end Go.Proofs.YtmhhbnnjilbdnaaGreatDoor
namespace Go.Proofs.YtmhhbnnjilbdnaaGreatDoor
open Go.RowKit Go.ChangeMaps
set_option linter.unusedSimpArgs false
set_option linter.unusedVariables false
set_option maxRecDepth 20000

theorem own_slice {w : World} {B : Nat} {e : TypeId} {st n : Nat} {v : Value} {xs : List Value} (h : w.ownsRow B e st v n xs) : ∃ p n' c, v = .slice p n' c := by
  rcases h.2 with ⟨e, _⟩ | ⟨gg, cap, cur, e, _⟩
  · exact ⟨_, _, _, e⟩
  · exact ⟨_, _, _, e⟩

end Go.Proofs.YtmhhbnnjilbdnaaGreatDoor
namespace Go.Proofs.YtmhhbnnjilbdnaaGreatDoor
open Go.RowKit Go.ChangeMaps
set_option linter.unusedSimpArgs false
set_option linter.unusedVariables false
set_option maxRecDepth 20000

theorem own_mono {W W' : World} {B : Nat} {e : TypeId} {st n : Nat} {v : Value} {xs : List Value} (h : W.ownsRow B e st v n xs) (hb : Below W.heap.size W W') : W'.ownsRow B e st v n xs :=
  World.ownsRow.kept h (gr_of_below hb none) (by cases hv : v.ownBlock <;> simp)

end Go.Proofs.YtmhhbnnjilbdnaaGreatDoor
namespace Go.Proofs.YtmhhbnnjilbdnaaGreatDoor
open Go.RowKit Go.ChangeShapes Go.WideShapes Go.ChangeAt Go.Joins Go.Deep
set_option linter.unusedSimpArgs false
set_option linter.unusedVariables false
set_option maxRecDepth 100000

/-- A PNR that came in. -/
structure PIn0 (w : World) (p : PnrT) (vn vs vp vr vx : Value) : Prop where
  n : HasE nameC w vn p.names
  s : HasE segC w vs p.segs
  ph : HasL w vp p.phones
  rm : HasL w vr p.remarks
  x : HasE placeC w vx p.seats
  fit : fitP p
  wf : ∀ x ∈ p.seats, (Lit.int .i64 x.seg).wf = true

theorem PIn.of0 {w : World} {p : PnrT} {vn vs vp vr vx : Value} (h : PIn0 w p vn vs vp vr vx) (hf : p.names.length ≤ 1000 ∧ p.segs.length ≤ 1000 ∧ p.phones.length ≤ 1000 ∧ p.remarks.length ≤ 1000 ∧ p.seats.length ≤ 1000) : PIn w p vn vs vp vr vx :=
  ⟨h.n, h.s, h.ph, h.rm, h.x, h.fit, h.wf, hf⟩

section
variable {H : Type} {enc : TypeId × Value → H} {W : World}

/-- A PNR's value that came in. -/
def PnrIn (w : World) (v : Value) (p : PnrT) : Prop := ∃ vn vs vp vr vx, v = .agg (pnrC p vn vs vp vr vx).toArray ∧ PIn0 w p vn vs vp vr vx

end
end Go.Proofs.YtmhhbnnjilbdnaaGreatDoor
namespace Go.Proofs.YtmhhbnnjilbdnaaGreatDoor
open Go.RowKit Go.ChangeMaps
set_option linter.unusedSimpArgs false
set_option linter.unusedVariables false
set_option maxRecDepth 20000

def smallB (p : PnrT) : Bool := decide (p.names.length ≤ 60 ∧ p.segs.length ≤ 60 ∧ p.phones.length ≤ 60 ∧ p.remarks.length ≤ 60 ∧ p.seats.length ≤ 200)

set_option maxHeartbeats 8000000 in
theorem smallP_any (p : PnrT) (vn vs vp vr vx : Value) (w : World) (h : PIn0 w p vn vs vp vr vx) :
    Calls Tryz.prog 6 #[.agg (pnrC p vn vs vp vr vx).toArray] w fun e w' => e = .returned (.bool (smallB p)) ∧ Below w.heap.size w w' := by
  have hbk := Blk.new w 29 (pnrC p vn vs vp vr vx)
  have hb1 : Below w.heap.size w (w.alloc (.cells (pnrC p vn vs vp vr vx).toArray 29)) := (Below.refl _ _).alloc (Nat.le_refl _) _
  have HYES : RowKit.Hid (p.names.length ≤ 60 ∧ p.segs.length ≤ 60 ∧ p.phones.length ≤ 60 ∧ p.remarks.length ≤ 60 ∧ p.seats.length ≤ 200 → smallB p = true) := Lib.hid fun h => decide_eq_true h
  have HNO : RowKit.Hid (¬ (p.names.length ≤ 60 ∧ p.segs.length ≤ 60 ∧ p.phones.length ≤ 60 ∧ p.remarks.length ≤ 60 ∧ p.seats.length ≤ 200) → smallB p = false) := Lib.hid fun h => decide_eq_false h
  generalize smallB p = sb at *
  obtain ⟨pn, cn, rfl⟩ := h.n.len
  obtain ⟨ps, cs, rfl⟩ := h.s.len
  obtain ⟨pp, cp, rfl⟩ := own_len h.ph
  obtain ⟨pr, cr, rfl⟩ := own_len h.rm
  obtain ⟨px, cx, rfl⟩ := h.x.len
  unfold pnrC at hbk hb1 ⊢
  have HB := Lib.hid hb1
  have HBK := Lib.hid hbk
  clear h hbk hb1
  generalize p.names.length = a1 at *
  generalize p.segs.length = a2 at *
  generalize p.phones.length = a3 at *
  generalize p.remarks.length = a4 at *
  generalize p.seats.length = a5 at *
  go_enter Tryz.func6, Tryz.ntmps6
  go_upto_region 1 with fail
  generalize w.alloc (.cells #[.string p.loc, .string p.off, .slice pn a1 cn, .slice ps a2 cs, .slice pp a3 cp, .int .i64 p.tk, .int .i64 p.td, .int .i64 p.tm, .string p.recv, .slice pr a4 cr, .slice px a5 cx, .bool p.queued] 29) = w1 at *
  have c2 : w1.cell? ⟨w.heap.size, 2, none⟩ = some (.slice pn a1 cn) := (HBK.out.cell 2).trans rfl
  have c3 : w1.cell? ⟨w.heap.size, 3, none⟩ = some (.slice ps a2 cs) := (HBK.out.cell 3).trans rfl
  have c4 : w1.cell? ⟨w.heap.size, 4, none⟩ = some (.slice pp a3 cp) := (HBK.out.cell 4).trans rfl
  have c9 : w1.cell? ⟨w.heap.size, 9, none⟩ = some (.slice pr a4 cr) := (HBK.out.cell 9).trans rfl
  have c10 : w1.cell? ⟨w.heap.size, 10, none⟩ = some (.slice px a5 cx) := (HBK.out.cell 10).trans rfl
  by_cases h1 : a1 ≤ 60
  rotate_left
  · have hf := Lib.hid (HNO.out fun k => h1 k.1)
    have hi : ¬ (a1 : Int) ≤ 60 := by omega
    go_wp2
    go_ret
    exact ⟨ret_bool (by rw [hf.out]; try simp), HB.out⟩
  have i1 : (a1 : Int) ≤ 60 := by omega
  by_cases h2 : a2 ≤ 60
  rotate_left
  · have hf := Lib.hid (HNO.out fun k => h2 k.2.1)
    have hi : ¬ (a2 : Int) ≤ 60 := by omega
    go_wp2
    go_ret
    exact ⟨ret_bool (by rw [hf.out]; try simp), HB.out⟩
  have i2 : (a2 : Int) ≤ 60 := by omega
  by_cases h3 : a3 ≤ 60
  rotate_left
  · have hf := Lib.hid (HNO.out fun k => h3 k.2.2.1)
    have hi : ¬ (a3 : Int) ≤ 60 := by omega
    go_wp2
    go_ret
    exact ⟨ret_bool (by rw [hf.out]; try simp), HB.out⟩
  have i3 : (a3 : Int) ≤ 60 := by omega
  by_cases h4 : a4 ≤ 60
  rotate_left
  · have hf := Lib.hid (HNO.out fun k => h4 k.2.2.2.1)
    have hi : ¬ (a4 : Int) ≤ 60 := by omega
    go_wp2
    go_ret
    exact ⟨ret_bool (by rw [hf.out]; try simp), HB.out⟩
  have i4 : (a4 : Int) ≤ 60 := by omega
  by_cases h5 : a5 ≤ 200
  · have ht := Lib.hid (HYES.out ⟨h1, h2, h3, h4, h5⟩)
    have i5 : (a5 : Int) ≤ 200 := by omega
    go_wp2
    go_ret
    exact ⟨ret_bool (by rw [ht.out]; try simp [h5]), HB.out⟩
  · have hf := Lib.hid (HNO.out fun k => h5 k.2.2.2.2)
    have hi : ¬ (a5 : Int) ≤ 200 := by omega
    go_wp2
    go_ret
    exact ⟨ret_bool (by rw [hf.out]; try simp [h5]), HB.out⟩
end Go.Proofs.YtmhhbnnjilbdnaaGreatDoor
namespace Go.Proofs.YtmhhbnnjilbdnaaGreatDoor
open Go.RowKit Go.ChangeMaps
set_option linter.unusedSimpArgs false
set_option linter.unusedVariables false
set_option maxRecDepth 20000

theorem PIn.keep {w w' : World} {p : PnrT} {vn vs vp vr vx : Value} (h : PIn w p vn vs vp vr vx) (hk : ∀ a u, w.cell? a = some u → w'.cell? a = some u) : PIn w' p vn vs vp vr vx :=
  ⟨h.n.keep hk, h.s.keep hk, h.ph.keep hk, h.rm.keep hk, h.x.keep hk, h.fit, h.wf, h.few⟩

end Go.Proofs.YtmhhbnnjilbdnaaGreatDoor
namespace Go.Proofs.YtmhhbnnjilbdnaaGreatDoor
open Go.RowKit Go.ChangeMaps
set_option linter.unusedSimpArgs false
set_option linter.unusedVariables false
set_option maxRecDepth 20000

theorem Blk.sub {w : World} {b : Nat} {T : TypeId} {cs : List Value} (h : Blk w b T cs) (o : Nat) (xs : List Value) (hx : ∀ j u, xs[j]? = some u → cs[o + j]? = some u) : w.rangeAt b o xs := fun j u hj => by
  have h1 := h.cell (o + j)
  rw [hx j u hj] at h1
  exact h1

end Go.Proofs.YtmhhbnnjilbdnaaGreatDoor
namespace Go.Proofs.YtmhhbnnjilbdnaaGreatDoor.En
open Go.RowKit
set_option linter.unusedSimpArgs false
set_option linter.unusedVariables false
set_option maxRecDepth 20000


variable {T : TypeId} {xs : List Value}

/-- A place brought into a text. -/
def place (n : Nat) (p : Int) : Int := if p < 0 then 0 else if (n : Int) < p then n else p

/-- Is a byte of kind k? -/
def kOk (k : Int) (c : UInt8) : Bool := (decide (k = 1 ∨ k = 3) && bL c) || (decide (k = 2 ∨ k = 3) && bD c)

def runL (k : Int) (l : List UInt8) : List UInt8 := l.takeWhile (kOk k)

def numV (l : List UInt8) : Nat := l.foldl (fun n c => n * 10 + (c.toNat - 48)) 0

/-- Is a row of digits a number of one to nine digits, the first of several not 0, not above the bound? -/
def numOk (l : List UInt8) (most : Int) : Bool := decide (1 ≤ l.length ∧ l.length ≤ 9) && !(decide (1 < l.length) && ((l.getD 0 0).toNat == 48)) && decide ((numV l : Int) ≤ most)

end Go.Proofs.YtmhhbnnjilbdnaaGreatDoor.En
