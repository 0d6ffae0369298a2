/- Small laws: strings, bytes, slices of texts; SameTexts. Letters, cities, persons, locators: the program and the reference. Locators: locator.Text, Number, inverse; the reference Text. Blocks of plain cells; lists in memory (HasE); lists of bytes. Codec: the plain bytes: numbers, fixed numbers, locators, queues, counts, and what is read of bytes. make([]byte, n, c), copy(out, b). Maps with any keys and any values: looked up, put into. word.Var, word.Put. word.ReadVar, word.Get. word.Get from the front; the writer's methods. codec.Queue. codec.OfCount. -/
import Derived.Test.YtofomopmmopflaaGreatDoorRows
import Derived.WalkKit
import Derived.WalkSpells
import Derived.WalkLawsBesides
import Derived.Lib.ConvBytes
import Derived.Lib.Hide
import Derived.Lib.SliceRun
import Derived.IntWalk
import Derived.BigQuiet
import Derived.Deep.QuietTactic
import Derived.Deep.RegionWith
import Derived.Deep.RegionHeld3
import Derived.Deep.LoopGhost
import Derived.Deep.CutRange
import Derived.Deep.CutBlock
import Derived.Deep.MidRow
import Derived.Laws.OwnMore
import Derived.OwnWalk
import Derived.Laws.AppendOwnNone
import Derived.Laws.Rows
import Derived.Laws.MakeOwn
import Derived.Laws.CopyOwn
import Derived.Laws.BitsAllLaws
import Derived.DeepKeys5
import Derived.Maps.OwnOps
import Derived.Handy
namespace Go.Proofs.YtofomopmmopflaaGreatDoor
open Go.RowKit

theorem ret_bool {a b : Bool} (h : a = b) : Ending.returned (.bool a) = .returned (.bool b) := by rw [h]

theorem ret_int {k : IntKind} {a b : Int} (h : a = b) : Ending.returned (.int k a) = .returned (.int k b) := by rw [h]

theorem ret_str {a b : ByteArray} (h : a.data.toList = b.data.toList) : Ending.returned (.string a) = .returned (.string b) := by
  have : a = b := by
    obtain ⟨⟨a⟩⟩ := a; obtain ⟨⟨b⟩⟩ := b
    simp at h; rw [h]
  rw [this]

theorem byte_hi (b : UInt8) : (b.toNat : Int) ≤ 255 := by have := b.toNat_lt; omega

/-- What the walk knows behind '[]byte(s)'. -/
theorem bytes_conv (s : ByteArray) (w : World) : ∃ w1 : World, ∃ cap : Nat, (convert 9 30 (.string s)).run Tryz.prog w = .ok (.slice (some ⟨w.heap.size, 0, none⟩) s.size cap) w1 ∧
    Below w.heap.size w w1 ∧ w1.heap.size = w.heap.size + 1 ∧ ∀ j, j < s.size → w1.cell? ⟨w.heap.size, j, none⟩ = some (.int .u8 (s.data.toList.getD j 0).toNat) := by
  refine ⟨_, _, Lib.run_convert_string_bytes (P := Tryz.prog) w 9 30 5 s Tryz.underlying9 Tryz.underlying30 Tryz.underlying5, ?_, Lib.bytesWorld_size _ _ _, fun j hj => Lib.bytesWorld_cell _ _ _ _ hj⟩
  exact ⟨rfl, rfl, rfl, by rw [Lib.bytesWorld_size]; omega, fun i hi => Lib.bytesWorld_at_old _ _ _ _ hi⟩

theorem below_drewN {B : Nat} {a w : World} (h : Below B a w) (n : Nat) : Below B a (w.drewN n) := ⟨h.os, h.tape, h.output, h.size, h.block⟩

theorem bel_trans {w w1 w2 : World} (h : Below w.heap.size w w1) (k : Below w1.heap.size w1 w2) : Below w.heap.size w w2 := h.trans (k.mono h.size)

theorem drop_cons (l : List UInt8) (k : Nat) (h : k < l.length) : l.drop k = l.getD k 0 :: l.drop (k + 1) := by
  rw [List.drop_eq_getElem_cons h]; simp [List.getD, h]

/-- 'string(b)' where b's cells are the bytes l. -/
theorem string_conv (l : List UInt8) (w : World) (b n cap : Nat) (hn : l.length = n) (hc : ∀ j, j < n → w.cell? ⟨b, j, none⟩ = some (.int .u8 ((l.getD j 0).toNat : Int))) :
    (convert 30 9 (.slice (some ⟨b, 0, none⟩) n cap)).run Tryz.prog w = .ok (.string ⟨l.toArray⟩) w := by
  subst hn
  refine run_convert_bytes_back (P := Tryz.prog) w 30 9 5 ⟨b, 0, none⟩ cap l Tryz.underlying30 Tryz.underlying5 Tryz.underlying9 fun j hj => ?_
  have := hc j hj
  simp [List.getD, hj] at this
  have e : (⟨b, 0, none⟩ : Addr).add j = ⟨b, j, none⟩ := by simp [Addr.add]; omega
  rw [e]
  exact this

theorem bytes_inj {a b : ByteArray} (h : a.data.toList = b.data.toList) : a = b := by
  obtain ⟨⟨a⟩⟩ := a; obtain ⟨⟨b⟩⟩ := b
  simp at h; rw [h]

theorem toList_inj {a b : ByteArray} (h : a.toList = b.toList) : a = b := by
  rw [ByteArray.toList_eq, ByteArray.toList_eq] at h
  obtain ⟨⟨a⟩⟩ := a; obtain ⟨⟨b⟩⟩ := b
  simp at h; rw [h]

theorem get_list (s : ByteArray) (k : Nat) (h : k < s.size) : s[k] = s.data.toList.getD k 0 := by
  simp [List.getD, h]; rfl

/-- 'append(v, u)' of one element of one cell, which was laid in a new block right ahead. -/
theorem wpList_push {P : Program} {wr : World} {ops : Array Oper} {rest : List Oper} {o : Oper} {a : Act} {Q : Exit → Act → World → Prop} (hgd : o.guard = none) (s x : Operand) (t : TypeId)
    (ho : o.op = .call { callee := .builtin .append, args := #[s, x], argTypes := #[t, t] })
    (base : Nat) (e : TypeId) (i : TypeInfo) (z : Value) (bytes : Nat) (ht : P.underlying t = some (.slice e)) (hi : P.info? e = some i) (hz : i.zero = some z)
    (hsize : i.size = 1) (hby : i.bytes = bytes) (hzs : z.cells.size = 1)
    (v : Value) (n : Nat) (xs : List Value) (hs : a.eval s = v) (hown : wr.ownsRow base e 1 v n xs) (u : Value) (hx : a.eval x = .slice (some ⟨wr.heap.size, 0, none⟩) 1 1) (h1 : u.oneCell' = true)
    (hm : n + 1 ≤ maxLen) (hbytes : (n + 1) * bytes ≤ 140737488355328) (hbase : base ≤ wr.heap.size)
    (h : ∀ v' w', w'.ownsRow base e 1 v' (n + 1) (xs ++ [u]) → Below base wr w' → (wr.alloc (.cells #[u] e)).grownBy w' v.ownBlock → wpList P ops Q rest (a.put o.dst v') w') :
    wpList P ops Q (o :: rest) a (wr.alloc (.cells #[u] e)) := by
  refine wpList_append_own _ hgd s x t ho base e i z 1 bytes ht hi hz hsize hby hzs (by decide) v n xs hs (hown.alloc _) ⟨wr.heap.size, 0, none⟩ 1 1 [u] hx rfl ?_ ?_ hm hbytes (by simp; omega) ?_
  · intro j y hj
    match j, hj with
    | 0, hj =>
      simp at hj; subst hj
      simp [Addr.add]
  · intro y hy
    simp at hy; subst hy; exact h1
  · intro v' w' hown' hg _
    refine h v' w' hown' ?_ hg
    refine ((Below.refl base wr).alloc hbase (.cells #[u] e)).grown hg (by simp; omega) fun k hk => ?_
    exact (hown.lt k hk).1

/-- 'v' reads as the texts l in w. -/
def HasL (w : World) (v : Value) (l : List ByteArray) : Prop :=
  (∃ p c, v = .slice p 0 c ∧ l = [] ∧ (p = none → c = 0)) ∨ ∃ b off c, v = .slice (some ⟨b, off, none⟩) l.length c ∧ l.length ≤ c ∧ c ≤ maxLen ∧ ∀ j, j < l.length → w.cell? ⟨b, off + j, none⟩ = some (.string (l.getD j ByteArray.empty))

/-- The cells of the texts l. -/
def strV (l : List ByteArray) : List Value := l.map Value.string

theorem strV_get {l : List ByteArray} {j : Nat} (h : j < l.length) : (strV l)[j]? = some (.string (l.getD j ByteArray.empty)) := by
  simp [strV, List.getD, h]

theorem HasL.keep {w w' : World} {v : Value} {l : List ByteArray} (h : HasL w v l) (hk : ∀ a u, w.cell? a = some u → w'.cell? a = some u) : HasL w' v l := by
  rcases h with h | ⟨b, off, c, e, h1, h2, h3⟩
  · exact .inl h
  · exact .inr ⟨b, off, c, e, h1, h2, fun j hj => hk _ _ (h3 j hj)⟩

theorem HasL.mono {w w' : World} {v : Value} {l : List ByteArray} (h : HasL w v l) (hb : Below w.heap.size w w') : HasL w' v l :=
  h.keep fun a _ hu => (hb.cell (World.block_lt_of_cell? w a hu)).trans hu

theorem HasL.nil (w : World) : HasL w (.slice none 0 0) [] := .inl ⟨none, 0, rfl, rfl, fun _ => rfl⟩

theorem HasL.own {w : World} {base : Nat} {e : TypeId} {v : Value} {l : List ByteArray} (h : w.ownsRow base e 1 v l.length (strV l)) : HasL w v l := by
  rcases h.2 with ⟨e1, e2⟩ | ⟨g, cap, cur, e1, _, _, h3, h4, _⟩
  · exact .inl ⟨none, 0, e1, List.length_eq_zero_iff.1 e2, fun _ => rfl⟩
  · refine .inr ⟨g, 0, cap, e1, h3, h4, fun j hj => ?_⟩
    have := h.cells (g := g) (by rw [e1]; rfl) j _ (strV_get hj)
    rw [Addr.add_lit] at this
    exact this

/-- What the dump says of 'string' as an element. -/
theorem str_info : ∃ i0 : TypeInfo, Tryz.prog.info? 9 = some i0 ∧ i0.zero = some (.string ⟨#[]⟩) ∧ i0.size = 1 ∧ i0.bytes = 16 := by
  have hbyte : (Tryz.prog.info? 9).map (fun i => (i.zero, i.size, i.bytes)) = some (some (.string ⟨#[]⟩), 1, 16) := by kernel_rfl
  rw [Option.map_eq_some_iff] at hbyte
  obtain ⟨i0, h1, h2⟩ := hbyte
  simp only [Prod.mk.injEq] at h2
  exact ⟨i0, h1, h2.1, h2.2.1, h2.2.2⟩

theorem own_low {w : World} {base base' : Nat} {e : TypeId} {size : Nat} {v : Value} {n : Nat} {xs : List Value} (h : w.ownsRow base e size v n xs) (hb : base' ≤ base) : w.ownsRow base' e size v n xs := by
  refine ⟨h.1, ?_⟩
  rcases h.2 with h2 | ⟨g, cap, cur, e1, e2, r⟩
  · exact .inl h2
  · exact .inr ⟨g, cap, cur, e1, Nat.le_trans hb e2, r⟩

/-- 'v' is a slice of texts in memory from B on, or nil. -/
def OwnL (w : World) (B : Nat) (v : Value) (l : List ByteArray) : Prop := w.ownsRow B 9 1 v l.length (strV l)

theorem OwnL.nil (w : World) (B : Nat) : OwnL w B (.slice none 0 0) [] := World.ownsRow_nil _ _ _ _

theorem OwnL.has {w : World} {B : Nat} {v : Value} {l : List ByteArray} (h : OwnL w B v l) : HasL w v l := HasL.own h

theorem OwnL.low {w : World} {B B' : Nat} {v : Value} {l : List ByteArray} (h : OwnL w B v l) (hb : B' ≤ B) : OwnL w B' v l := own_low h hb

theorem gr_of_below {a w : World} (h : Below a.heap.size a w) (row : Option Nat) : a.grownBy w row := ⟨h.os, h.tape, h.output, h.size, fun i hi _ => h.block i hi⟩

theorem OwnL.mono {w w' : World} {B : Nat} {v : Value} {l : List ByteArray} (h : OwnL w B v l) (hb : Below w.heap.size w w') : OwnL w' B v l := by
  have hg : w.grownBy w' none := gr_of_below hb none
  refine World.ownsRow.kept h hg ?_
  cases hv : v.ownBlock <;> simp

theorem own_len {w : World} {v : Value} {l : List ByteArray} (h : HasL w v l) : ∃ p c, v = .slice p l.length c := by
  rcases h with ⟨_, _, rfl, rfl, _⟩ | ⟨b, off, c, rfl, _⟩
  · exact ⟨_, _, rfl⟩
  · exact ⟨_, _, rfl⟩

theorem cell_bel {w wr : World} {p : Addr} {u : Value} (hb : Below w.heap.size w wr) (h : w.cell? p = some u) : wr.cell? p = some u :=
  (hb.cell (World.block_lt_of_cell? w p h)).trans h

theorem list_eq {a b : List ByteArray} (hl : a.length = b.length) (h : ∀ j, j < a.length → a.getD j ByteArray.empty = b.getD j ByteArray.empty) : a = b := by
  apply List.ext_getElem hl
  intro i h1 h2
  have := h i h1
  simpa [List.getD, h1, h2] using this

set_option maxHeartbeats 4000000 in
theorem same_any (a b : List ByteArray) (va vb : Value) (w : World) (ha : HasL w va a) (hb : HasL w vb b) (hl : a.length ≤ 1000000) (hl2 : b.length ≤ 1000000) :
    Calls Tryz.prog 32 #[va, vb] w fun e w' => e = .returned (.bool (decide (a = b))) ∧ Below w.heap.size w w' := by
  by_cases hlen : a.length = b.length
  · by_cases h0 : a.length = 0
    · obtain rfl : a = [] := List.length_eq_zero_iff.1 h0
      obtain rfl : b = [] := List.length_eq_zero_iff.1 (by rw [← hlen]; rfl)
      obtain ⟨p, c, rfl⟩ := own_len ha
      obtain ⟨p2, c2, rfl⟩ := own_len hb
      clear ha hb hlen h0
      simp only [List.length_nil]
      go_enter Tryz.func32, Tryz.ntmps32
      go_wp2
      refine wp_loop_rounds 1 ?_
      rw [rounds_succ]
      go_wp2
      go_ret
      exact ⟨rfl, Below.refl _ _⟩
    · rcases ha with ⟨_, _, _, rfl, _⟩ | ⟨g, off, c, rfl, a1, a2, a3⟩
      · exact absurd rfl h0
      rcases hb with ⟨_, _, _, rfl, _⟩ | ⟨g2, off2, c2, rfl, b1, b2, b3⟩
      · exact absurd hlen h0
      have A3 := Lib.hid a3
      have B3 := Lib.hid b3
      have HL := Lib.hid hlen
      rw [← hlen] at b1 hl2 ⊢
      clear a3 b3 hlen h0
      generalize hn : a.length = n at *
      have HN := Lib.hid hn
      clear hn
      go_enter Tryz.func32, Tryz.ntmps32
      go_wp2
      go_loopw [5] (fun i wr => ∃ k : Nat, k ≤ n ∧ Below w.heap.size w wr ∧ i = .int .i64 k ∧ ∀ j, j < k → a.getD j ByteArray.empty = b.getD j ByteArray.empty) (fun i _ => n - (intOf i).toNat)
      case atStart => exact ⟨0, Nat.zero_le _, Below.refl _ _, rfl, fun j hj => absurd hj (Nat.not_lt_zero _)⟩
      case round =>
        obtain ⟨k, hk, hb, rfl, hal⟩ := hrel
        have HAL := Lib.hid hal
        clear hal
        by_cases hlt : k < n
        · have c1 := cell_bel hb (A3.out k hlt)
          have c2 := cell_bel hb (B3.out k (by rw [← HL.out]; exact hlt))
          have hki : (k : Int) < (n : Int) := by omega
          have hk0 : (0 : Int) ≤ (k : Int) := by omega
          generalize hx : a.getD k ByteArray.empty = x at c1
          generalize hy : b.getD k ByteArray.empty = y at c2
          by_cases he : x = y
          · have hks : (x.toList == y.toList) = true := by rw [he]; simp
            have hks2 : (x.toList != y.toList) = false := by rw [he]; simp
            have hn2 : RowKit.Hid (a.getD k ByteArray.empty = b.getD k ByteArray.empty) := Lib.hid (by rw [hx, hy]; exact he)
            clear hx hy he
            go_wp2_with fail
            go_quiet (fail)
            go_wp2
            go_roundw
            case rel => exact ⟨k + 1, by omega, below_drewN hb _, by go_num, fun m hm => by (rcases Nat.lt_or_ge m k with h | h); exact HAL.out m h; rw [show m = k by omega]; exact hn2.out⟩
            case measure => simp [intOf]; omega
          · have hks : (x.toList == y.toList) = false := by rw [beq_eq_false_iff_ne]; exact fun h => he (toList_inj h)
            have hks2 : (x.toList != y.toList) = true := by rw [bne_iff_ne]; exact fun h => he (toList_inj h)
            have hn2 : RowKit.Hid (decide (a = b) = false) := Lib.hid (by rw [decide_eq_false_iff_not]; intro h; apply he; rw [← hx, ← hy, h])
            clear hx hy he
            go_wp2_with fail
            go_quiet (fail)
            go_wp2
            go_ret
            exact ⟨ret_bool hn2.out.symm, below_drewN hb _⟩
        · have hfin : RowKit.Hid (decide (a = b) = true) := Lib.hid (by rw [decide_eq_true_eq]; exact list_eq (HN.out.trans HL.out) fun j hj => HAL.out j (by rw [HN.out] at hj; omega))
          go_wp2
          go_ret
          exact ⟨ret_bool hfin.out.symm, hb⟩
  · have hne : decide (a = b) = false := by rw [decide_eq_false_iff_not]; intro h; exact hlen (by rw [h])
    rw [hne]
    obtain ⟨p, c, rfl⟩ := own_len ha
    obtain ⟨p2, c2, rfl⟩ := own_len hb
    have h1 : ((a.length : Int) != (b.length : Int)) = true := by rw [bne_iff_ne]; omega
    have h2 : ((a.length : Int) == (b.length : Int)) = false := by rw [beq_eq_false_iff_ne]; omega
    clear ha hb hne hlen
    go_enter Tryz.func32, Tryz.ntmps32
    go_wp2
    go_ret
    exact ⟨rfl, Below.refl _ _⟩

theorem OwnL.grown {w w' : World} {B : Nat} {v : Value} {l : List ByteArray} {row : Option Nat} (h : OwnL w B v l) (hg : w.grownBy w' row) (hne : v.ownBlock = none ∨ v.ownBlock ≠ row) : OwnL w' B v l := World.ownsRow.kept h hg hne

theorem gby_trans {a b c : World} {row : Option Nat} (h : a.grownBy b row) (k : b.grownBy c row) : a.grownBy c row := by
  obtain ⟨h1, h2, h3, h4, h5⟩ := h
  obtain ⟨k1, k2, k3, k4, k5⟩ := k
  exact ⟨k1.trans h1, k2.trans h2, k3.trans h3, Nat.le_trans h4 k4, fun j hj hr => (k5 j (Nat.lt_of_lt_of_le hj h4) hr).trans (h5 j hj hr)⟩

end Go.Proofs.YtofomopmmopflaaGreatDoor
namespace Go.Proofs.YtofomopmmopflaaGreatDoor
open Go.RowKit
set_option linter.unusedSimpArgs false
set_option linter.unusedVariables false
set_option maxRecDepth 20000

/-- Is a byte a great letter? -/
def isL (c : Int) : Bool := decide (65 ≤ c ∧ c ≤ 90)

/-- Is a byte a digit? -/
def isD (c : Int) : Bool := decide (48 ≤ c ∧ c ≤ 57)

/-- The same of a byte. -/
def bL (b : UInt8) : Bool := isL (b.toNat : Int)

def bD (b : UInt8) : Bool := isD (b.toNat : Int)

theorem letter_any (c : Int) (w : World) (h0 : 0 ≤ c) (h1 : c ≤ 255) :
    Calls Tryz.prog 82 #[.int .u8 c] w fun e w' => e = .returned (.bool (isL c)) ∧ w = w' := by
  go_enter Tryz.func82, Tryz.ntmps82
  go_wp2
  go_ret
  exact ⟨ret_bool (by unfold isL; apply decide_eq_decide.2; omega), rfl⟩

theorem digit_any (c : Int) (w : World) (h0 : 0 ≤ c) (h1 : c ≤ 255) :
    Calls Tryz.prog 83 #[.int .u8 c] w fun e w' => e = .returned (.bool (isD c)) ∧ w = w' := by
  go_enter Tryz.func83, Tryz.ntmps83
  go_wp2
  go_ret
  exact ⟨ret_bool (by unfold isD; apply decide_eq_decide.2; omega), rfl⟩

theorem class_any (c : Int) (w : World) (h0 : 0 ≤ c) (h1 : c ≤ 255) :
    Calls Tryz.prog 81 #[.int .u8 c] w fun e w' => e = .returned (.bool (isL c)) ∧ w = w' := by
  go_enter Tryz.func81, Tryz.ntmps81
  go_wp2_with (go_at_call 82; refine (letter_any _ _ h0 h1).mono ?_; rintro e w' ⟨rfl, rfl⟩)
  go_ret
  exact ⟨rfl, rfl⟩

theorem refLetter_any (c : Int) (w : World) (h0 : 0 ≤ c) (h1 : c ≤ 255) :
    Calls Tryz.prog 90 #[.int .u8 c] w fun e w' => e = .returned (.bool (isL c)) ∧ w = w' := by
  go_enter Tryz.func90, Tryz.ntmps90
  go_wp2
  all_goals
    go_ret
    exact ⟨ret_bool (by unfold isL; first | (symm; apply decide_eq_true; omega) | (symm; apply decide_eq_false; omega) | (apply decide_eq_decide.2; omega)), rfl⟩

theorem refDigit_any (c : Int) (w : World) (h0 : 0 ≤ c) (h1 : c ≤ 255) :
    Calls Tryz.prog 91 #[.int .u8 c] w fun e w' => e = .returned (.bool (isD c)) ∧ w = w' := by
  go_enter Tryz.func91, Tryz.ntmps91
  go_wp2
  all_goals
    go_ret
    exact ⟨ret_bool (by unfold isD; first | (symm; apply decide_eq_true; omega) | (symm; apply decide_eq_false; omega) | (apply decide_eq_decide.2; omega)), rfl⟩

def lettersS (l : List UInt8) (least most : Int) : Bool := decide (least ≤ (l.length : Int) ∧ (l.length : Int) ≤ most) && l.all bL

theorem all_take_succ (p : UInt8 → Bool) (l : List UInt8) (k : Nat) (h : k < l.length) : (l.take (k + 1)).all p = ((l.take k).all p && p (l.getD k 0)) := by
  rw [List.take_succ_eq_append_getElem h, List.all_append]
  simp [List.getD, h]

theorem all_false_of (p : UInt8 → Bool) (l : List UInt8) (k : Nat) (h : k < l.length) (hp : p (l.getD k 0) = false) : l.all p = false := by
  rw [List.all_eq_false]
  refine ⟨l.getD k 0, ?_, by rw [hp]; decide⟩
  simp [List.getD, h]

theorem letters_any (s : ByteArray) (least most : Int) (w : World) (hs : s.size ≤ maxLen) :
    Calls Tryz.prog 76 #[.string s, .int .i64 least, .int .i64 most] w fun e w' => e = .returned (.bool (lettersS s.data.toList least most)) ∧ Below w.heap.size w w' := by
  unfold maxLen at hs
  obtain ⟨w1, cap, hcv, hb, hz, hcell⟩ := bytes_conv s w
  have hlen : s.data.toList.length = s.size := by simp
  by_cases h1 : (s.size : Int) < least
  · go_enter Tryz.func76, Tryz.ntmps76
    go_wp2
    go_ret
    exact ⟨ret_bool (by unfold lettersS; rw [hlen, decide_eq_false (by omega)]; rfl), Below.refl _ _⟩
  by_cases h2 : most < (s.size : Int)
  · go_enter Tryz.func76, Tryz.ntmps76
    go_wp2
    go_ret
    exact ⟨ret_bool (by unfold lettersS; rw [hlen, decide_eq_false (by omega)]; rfl), Below.refl _ _⟩
  have hd : decide (least ≤ (s.data.toList.length : Int) ∧ (s.data.toList.length : Int) ≤ most) = true := by rw [hlen]; exact decide_eq_true (by omega)
  have HD := Lib.hid hd
  clear hd
  have HL := Lib.hid hlen
  clear hlen
  go_enter Tryz.func76, Tryz.ntmps76
  go_wp2
  go_loop [22] (fun i => ∃ k : Nat, k ≤ s.size ∧ i = .int .i64 k ∧ (s.data.toList.take k).all bL = true) (fun i => s.size - (intOf i).toNat)
  case atStart => exact ⟨0, Nat.zero_le _, rfl, rfl⟩
  case round =>
    obtain ⟨k, hk, rfl, hall⟩ := hrel
    have HA := Lib.hid hall
    clear hall
    by_cases hlt : k < s.size
    · have hc := hcell k hlt
      have hbb := byte_hi (s.data.toList.getD k 0)
      generalize hg : s.data.toList.getD k 0 = b at hc hbb
      have HG := Lib.hid hg
      clear hg hcell
      have hb0 : (0 : Int) ≤ (b.toNat : Int) := by omega
      cases hB : isL (b.toNat : Int)
      · go_wp2_with (go_at_call 82; refine (letter_any _ _ hb0 hbb).mono ?_; rintro e w' ⟨rfl, rfl⟩)
        go_ret
        exact ⟨ret_bool (by unfold lettersS; rw [HD.out, all_false_of bL _ k (by rw [HL.out]; exact hlt) (by rw [HG.out]; exact hB)]; rfl), hb⟩
      · go_wp2_with (go_at_call 82; refine (letter_any _ _ hb0 hbb).mono ?_; rintro e w' ⟨rfl, rfl⟩)
        go_round
        case rel => exact ⟨k + 1, by omega, by go_num, by rw [all_take_succ _ _ _ (by rw [HL.out]; exact hlt), HA.out, HG.out]; exact hB⟩
        case measure => simp [intOf]; omega
    · go_wp2
      go_ret
      exact ⟨ret_bool (by unfold lettersS; rw [HD.out]; have := HA.out; rw [List.take_of_length_le (by rw [HL.out]; omega)] at this; rw [this]; rfl), hb⟩

theorem city_any (s : ByteArray) (w : World) (hs : s.size ≤ maxLen) :
    Calls Tryz.prog 48 #[.string s] w fun e w' => e = .returned (.bool (lettersS s.data.toList 3 3)) ∧ Below w.heap.size w w' := by
  go_enter Tryz.func48, Tryz.ntmps48
  go_wp2_with (go_at_call 76; refine (letters_any s 3 3 _ hs).mono ?_; rintro e w1 ⟨rfl, hb⟩)
  go_ret
  exact ⟨rfl, hb⟩

theorem person_any (s : ByteArray) (w : World) (hs : s.size ≤ maxLen) :
    Calls Tryz.prog 49 #[.string s] w fun e w' => e = .returned (.bool (lettersS s.data.toList 1 16)) ∧ Below w.heap.size w w' := by
  go_enter Tryz.func49, Tryz.ntmps49
  go_wp2_with (go_at_call 76; refine (letters_any s 1 16 _ hs).mono ?_; rintro e w1 ⟨rfl, hb⟩)
  go_ret
  exact ⟨rfl, hb⟩

theorem locator_any (s : ByteArray) (w : World) (hs : s.size ≤ maxLen) :
    Calls Tryz.prog 45 #[.string s] w fun e w' => e = .returned (.bool (lettersS s.data.toList 6 6)) ∧ Below w.heap.size w w' := by
  go_enter Tryz.func45, Tryz.ntmps45
  go_wp2_with (go_at_call 76; refine (letters_any s 6 6 _ hs).mono ?_; rintro e w1 ⟨rfl, hb⟩)
  go_ret
  exact ⟨rfl, hb⟩

def cntL (l : List UInt8) : Nat := (l.filter bL).length

theorem cntL_le (l : List UInt8) : cntL l ≤ l.length := List.length_filter_le _ _

theorem cntL_take (l : List UInt8) (k : Nat) (h : k < l.length) : cntL (l.take (k + 1)) = cntL (l.take k) + if bL (l.getD k 0) then 1 else 0 := by
  unfold cntL
  rw [List.take_succ_eq_append_getElem h, List.filter_append, List.length_append]
  simp only [List.getD, List.getElem?_eq_getElem h, Option.getD_some, List.filter_cons]
  split <;> simp

theorem refLetters_any (s : ByteArray) (w : World) (hs : s.size ≤ maxLen) :
    Calls Tryz.prog 85 #[.string s] w fun e w' => e = .returned (.int .i64 (cntL s.data.toList)) ∧ w = w' := by
  unfold maxLen at hs
  have hlen : s.data.toList.length = s.size := by simp
  have HL := Lib.hid hlen
  clear hlen
  go_enter Tryz.func85, Tryz.ntmps85
  go_wp2
  go_loop [3, 4] (fun n i => ∃ k : Nat, k ≤ s.size ∧ i = .int .i64 k ∧ n = .int .i64 (cntL (s.data.toList.take k))) (fun _ i => s.size - (intOf i).toNat)
  case atStart => exact ⟨0, Nat.zero_le _, rfl, rfl⟩
  case round =>
    obtain ⟨k, hk, rfl, rfl⟩ := hrel
    by_cases hlt : k < s.size
    · have hix := get_list s k hlt
      have hst := cntL_take s.data.toList k (by rw [HL.out]; exact hlt)
      have hle := cntL_le (s.data.toList.take k)
      rw [List.length_take] at hle
      have hbb := byte_hi (s.data.toList.getD k 0)
      generalize s.data.toList.getD k 0 = b at hix hst hbb
      have HS := Lib.hid hst
      clear hst
      generalize cntL (s.data.toList.take k) = c at HS hle
      have hc : c ≤ k := by omega
      clear hle
      have hb0 : (0 : Int) ≤ (b.toNat : Int) := by omega
      cases hB : isL (b.toNat : Int)
      all_goals
        go_wp2_with (go_at_call 90; refine (refLetter_any _ _ hb0 hbb).mono ?_; rintro e w' ⟨rfl, rfl⟩)
        go_round
        case rel => exact ⟨k + 1, by omega, by go_num, by rw [HS.out]; simp [bL, hB]⟩
        case measure => simp [intOf]; omega
    · go_wp2
      go_ret
      exact ⟨ret_int (by rw [List.take_of_length_le (by rw [HL.out]; omega)]), rfl⟩

theorem cntL_all (l : List UInt8) : (cntL l = l.length) ↔ l.all bL = true := by
  unfold cntL
  constructor
  · intro h
    have h2 := List.filter_sublist (p := bL) (l := l) |>.eq_of_length h
    rw [List.all_eq_true]
    intro x hx
    have := List.filter_eq_self.1 h2 x hx
    simpa using this
  · intro h
    rw [List.filter_eq_self.2 (by simpa using h)]

theorem refCity_any (s : ByteArray) (w : World) (hs : s.size ≤ maxLen) :
    Calls Tryz.prog 58 #[.string s] w fun e w' => e = .returned (.bool (lettersS s.data.toList 3 3)) ∧ w = w' := by
  have hlen : s.data.toList.length = s.size := by simp
  by_cases h : s.size = 3
  · have h3 : ((s.size : Int) == 3) = true := by rw [h]; rfl
    have e : lettersS s.data.toList 3 3 = ((cntL s.data.toList : Int) == 3) := by
      unfold lettersS
      rw [hlen, decide_eq_true (by omega), Bool.true_and, Bool.eq_iff_iff, ← cntL_all, hlen, h]
      simp; omega
    have HE := Lib.hid e
    clear h e hlen
    go_enter Tryz.func58, Tryz.ntmps58
    go_wp2_with (go_at_call 85; refine (refLetters_any _ _ hs).mono ?_; rintro e w' ⟨rfl, rfl⟩)
    go_ret
    exact ⟨ret_bool HE.out.symm, rfl⟩
  · have h3 : ((s.size : Int) == 3) = false := by simp; omega
    go_enter Tryz.func58, Tryz.ntmps58
    go_wp2
    go_ret
    exact ⟨ret_bool (by unfold lettersS; rw [hlen, decide_eq_false (by omega)]; rfl), rfl⟩

theorem refLocator_any (s : ByteArray) (w : World) (hs : s.size ≤ maxLen) :
    Calls Tryz.prog 57 #[.string s] w fun e w' => e = .returned (.bool (lettersS s.data.toList 6 6)) ∧ w = w' := by
  have hlen : s.data.toList.length = s.size := by simp
  by_cases h : s.size = 6
  · have h3 : ((s.size : Int) == 6) = true := by rw [h]; rfl
    have e : lettersS s.data.toList 6 6 = ((cntL s.data.toList : Int) == 6) := by
      unfold lettersS
      rw [hlen, decide_eq_true (by omega), Bool.true_and, Bool.eq_iff_iff, ← cntL_all, hlen, h]
      simp; omega
    have HE := Lib.hid e
    clear h e hlen
    go_enter Tryz.func57, Tryz.ntmps57
    go_wp2_with (go_at_call 85; refine (refLetters_any _ _ hs).mono ?_; rintro e w' ⟨rfl, rfl⟩)
    go_ret
    exact ⟨ret_bool HE.out.symm, rfl⟩
  · have h3 : ((s.size : Int) == 6) = false := by simp; omega
    go_enter Tryz.func57, Tryz.ntmps57
    go_wp2
    go_ret
    exact ⟨ret_bool (by unfold lettersS; rw [hlen, decide_eq_false (by omega)]; rfl), rfl⟩

end Go.Proofs.YtofomopmmopflaaGreatDoor
namespace Go.Proofs.YtofomopmmopflaaGreatDoor
open Go.RowKit
set_option linter.unusedSimpArgs false
set_option linter.unusedVariables false
set_option maxRecDepth 20000

def chr (k : Nat) : UInt8 := UInt8.ofNat (65 + k % 26)

theorem chr_toNat (k : Nat) : (chr k).toNat = 65 + k % 26 := by
  unfold chr
  rw [UInt8.toNat_ofNat']
  omega

/-- The six letters of a number. -/
def txt (x : Nat) : List UInt8 := [chr (x / 26 / 26 / 26 / 26 / 26), chr (x / 26 / 26 / 26 / 26), chr (x / 26 / 26 / 26), chr (x / 26 / 26), chr (x / 26), chr x]

/-- The number of letters. -/
def valL (l : List UInt8) : Nat := l.foldl (fun x c => x * 26 + (c.toNat - 65)) 0

/-- What a number is turned to. -/
def turnN (n : Nat) : Nat := (n * 123456789 + 98765432) % 308915776

theorem turn_lt (n : Nat) : turnN n < 308915776 := Nat.mod_lt _ (by decide)

theorem chr_back {c : UInt8} (h : bL c = true) (y : Nat) : chr (y * 26 + (c.toNat - 65)) = c := by
  unfold bL isL at h
  rw [decide_eq_true_eq] at h
  apply UInt8.toNat_inj.1
  rw [chr_toNat]
  omega

theorem val_step {c : UInt8} (h : bL c = true) (y : Nat) : (y * 26 + (c.toNat - 65)) / 26 = y := by
  unfold bL isL at h
  rw [decide_eq_true_eq] at h
  omega

theorem val_hi {c : UInt8} (h : bL c = true) : c.toNat - 65 < 26 := by
  unfold bL isL at h
  rw [decide_eq_true_eq] at h
  omega

theorem letters_len {l : List UInt8} {n : Nat} (h : lettersS l n n = true) : l.length = n := by
  unfold lettersS at h
  rw [Bool.and_eq_true, decide_eq_true_eq] at h
  omega

theorem txt_val (l : List UInt8) (h : lettersS l 6 6 = true) : txt (valL l) = l ∧ valL l < 308915776 := by
  have hl := letters_len (n := 6) h
  unfold lettersS at h
  rw [Bool.and_eq_true] at h
  match l, hl with
  | [a, b, c, d, e, f], _ =>
    have h2 := h.2
    simp only [List.all_cons, List.all_nil, Bool.and_true, Bool.and_eq_true] at h2
    obtain ⟨ha, hb, hc, hd, he, hf⟩ := h2
    constructor
    · simp only [valL, List.foldl, txt, val_step hb, val_step hc, val_step hd, val_step he, val_step hf, chr_back ha, chr_back hb, chr_back hc, chr_back hd, chr_back he, chr_back hf]
    · have := val_hi ha; have := val_hi hb; have := val_hi hc; have := val_hi hd; have := val_hi he; have := val_hi hf
      simp only [valL, List.foldl]
      omega

theorem chr_int (k : Nat) : ((chr k).toNat : Int) = 65 + (k : Int) % 26 := by rw [chr_toNat]; omega

theorem txt_conv (x : Nat) (w : World) :
    (convert 30 9 (.slice (some ⟨w.heap.size, 0, none⟩) 6 6)).run Tryz.prog (w.alloc (.cells #[.int .u8 (65 + (x : Int) / 26 / 26 / 26 / 26 / 26 % 26), .int .u8 (65 + (x : Int) / 26 / 26 / 26 / 26 % 26),
      .int .u8 (65 + (x : Int) / 26 / 26 / 26 % 26), .int .u8 (65 + (x : Int) / 26 / 26 % 26), .int .u8 (65 + (x : Int) / 26 % 26), .int .u8 (65 + (x : Int) % 26)] 140)) =
    .ok (.string ⟨(txt x).toArray⟩) (w.alloc (.cells #[.int .u8 (65 + (x : Int) / 26 / 26 / 26 / 26 / 26 % 26), .int .u8 (65 + (x : Int) / 26 / 26 / 26 / 26 % 26),
      .int .u8 (65 + (x : Int) / 26 / 26 / 26 % 26), .int .u8 (65 + (x : Int) / 26 / 26 % 26), .int .u8 (65 + (x : Int) / 26 % 26), .int .u8 (65 + (x : Int) % 26)] 140)) := by
  refine string_conv (txt x) _ w.heap.size 6 6 rfl fun j hj => ?_
  rw [World.cell?_alloc_new]
  match j, hj with
  | 0, _ => show some (Value.int .u8 _) = some (Value.int .u8 ((chr _).toNat : Int)); rw [chr_int]; congr 2
  | 1, _ => show some (Value.int .u8 _) = some (Value.int .u8 ((chr _).toNat : Int)); rw [chr_int]; congr 2
  | 2, _ => show some (Value.int .u8 _) = some (Value.int .u8 ((chr _).toNat : Int)); rw [chr_int]; congr 2
  | 3, _ => show some (Value.int .u8 _) = some (Value.int .u8 ((chr _).toNat : Int)); rw [chr_int]; congr 2
  | 4, _ => show some (Value.int .u8 _) = some (Value.int .u8 ((chr _).toNat : Int)); rw [chr_int]; congr 2
  | 5, _ => show some (Value.int .u8 _) = some (Value.int .u8 ((chr _).toNat : Int)); rw [chr_int]

theorem ltext_yes (n : Nat) (w : World) (h : n < 308915776) :
    Calls Tryz.prog 78 #[.int .i64 n] w fun e w' => e = .returned (.tuple #[.string ⟨(txt (turnN n)).toArray⟩, .int .i64 0]) ∧ Below w.heap.size w w' := by
  have hx : ((n : Int) * 123456789 + 98765432) % 308915776 = (turnN n : Int) := by unfold turnN; omega
  have hlt := turn_lt n
  generalize turnN n = x at hx hlt
  have hcv := txt_conv x w
  go_enter Tryz.func78, Tryz.ntmps78
  go_wp2
  refine wp_loop_rounds 7 ?_
  iterate 7 (rw [rounds_succ]; go_wp2)
  go_ret2
  exact ⟨rfl, (Below.refl _ _).alloc (Nat.le_refl _) _⟩

theorem ltext_no (n : Int) (w : World) (h : n < 0 ∨ 308915776 ≤ n) :
    Calls Tryz.prog 78 #[.int .i64 n] w fun e w' => e = .returned (.tuple #[.string ⟨#[]⟩, .int .i64 1]) ∧ Below w.heap.size w w' := by
  rcases h with h | h
  · go_enter Tryz.func78, Tryz.ntmps78
    go_wp2
    go_ret2
    exact ⟨rfl, Below.refl _ _⟩
  · have h2 : ¬ n < 0 := by omega
    go_enter Tryz.func78, Tryz.ntmps78
    go_wp2
    go_ret2
    exact ⟨rfl, Below.refl _ _⟩

theorem inverse_any (w : World) : Calls Tryz.prog 96 #[] w fun e w' => e = .returned (.int .u64 76133565) ∧ w = w' := by
  go_enter Tryz.func96, Tryz.ntmps96
  go_wp2
  refine wp_loop_rounds 17 ?_
  iterate 17 (rw [rounds_succ]; go_wp2)
  go_ret
  exact ⟨rfl, rfl⟩

def numN (x : Nat) : Nat := (x + 308915776 - 98765432) % 308915776 * 76133565 % 308915776

theorem valL_take (l : List UInt8) (k : Nat) (h : k < l.length) : valL (l.take (k + 1)) = valL (l.take k) * 26 + ((l.getD k 0).toNat - 65) := by
  unfold valL
  rw [List.take_succ_eq_append_getElem h, List.foldl_append]
  simp [List.getD, h]

theorem foldl_ge (l : List UInt8) : ∀ x, x ≤ l.foldl (fun x c => x * 26 + (c.toNat - 65)) x := by
  induction l with
  | nil => intro x; exact Nat.le_refl _
  | cons c t ih => intro x; rw [List.foldl_cons]; exact Nat.le_trans (by omega) (ih _)

theorem valL_take_le (l : List UInt8) (k : Nat) : valL (l.take k) ≤ valL l := by
  have h : l.take k ++ l.drop k = l := List.take_append_drop k l
  have : valL l = (l.drop k).foldl (fun x c => x * 26 + (c.toNat - 65)) (valL (l.take k)) := by
    unfold valL
    rw [← List.foldl_append, h]
  rw [this]
  exact foldl_ge _ _

theorem letter_at {l : List UInt8} (h : l.all bL = true) (k : Nat) (hk : k < l.length) : 65 ≤ (l.getD k 0).toNat ∧ (l.getD k 0).toNat ≤ 90 := by
  rw [List.all_eq_true] at h
  have := h (l.getD k 0) (by simp [List.getD, hk])
  unfold bL isL at this
  rw [decide_eq_true_eq] at this
  omega

theorem numN_int (x : Nat) : ((x : Int) + 308915776 - 98765432) % 308915776 * 76133565 % 308915776 = (numN x : Int) := by
  unfold numN
  rw [Int.natCast_emod, Int.natCast_mul, Int.natCast_emod]
  have e : ((x + 308915776 - 98765432 : Nat) : Int) = (x : Int) + 308915776 - 98765432 := by omega
  rw [e]
  rfl

theorem ret_num {a b : Int} (h : a = b) : Ending.returned (.tuple #[.int .i64 a, .bool true]) = .returned (.tuple #[.int .i64 (if true = true then b else 0), .bool true]) := by rw [if_pos rfl, h]

theorem lnum_any (s : ByteArray) (w : World) (hs : s.size ≤ maxLen) :
    Calls Tryz.prog 77 #[.string s] w fun e w' =>
      e = .returned (.tuple #[.int .i64 (if lettersS s.data.toList 6 6 then (numN (valL s.data.toList) : Int) else 0), .bool (lettersS s.data.toList 6 6)]) ∧ Below w.heap.size w w' := by
  cases hl : lettersS s.data.toList 6 6
  · have HL := Lib.hid hl
    have hc := fun W => locator_any s W hs
    rw [hl] at hc
    have HC := Lib.hid hc
    clear hl hc
    go_enter Tryz.func77, Tryz.ntmps77
    go_wp2_with (go_at_call 45; refine (HC.out _).mono ?_; rintro e w1 ⟨rfl, hb⟩)
    go_ret2
    exact ⟨rfl, hb⟩
  · have hc := fun W => locator_any s W hs
    rw [hl] at hc
    have HC := Lib.hid hc
    have hx := (txt_val _ hl).2
    have hlen := letters_len (n := 6) hl
    have hall : s.data.toList.all bL = true := by unfold lettersS at hl; rw [Bool.and_eq_true] at hl; exact hl.2
    have HL := Lib.hid hl
    have hsz : s.size = 6 := by simpa using hlen
    have HLEN := Lib.hid hlen
    have HALL := Lib.hid hall
    have HSZ := Lib.hid hsz
    have hs6 : s.size ≤ 6 := by omega
    have hs7 : 6 ≤ s.size := by omega
    clear hl hc hlen hall hsz
    go_enter Tryz.func77, Tryz.ntmps77
    go_wp2_with (go_at_call 45; refine (HC.out _).mono ?_; rintro e w1 ⟨rfl, hb1⟩; obtain ⟨w2, cap, hcv, hb2, hz, hcell⟩ := bytes_conv s w1)
    have hb := bel_trans hb1 hb2
    go_loop [4, 13] (fun x i => ∃ k : Nat, k ≤ s.size ∧ i = .int .i64 k ∧ x = .int .u64 (valL (s.data.toList.take k) : Nat)) (fun _ i => s.size - (intOf i).toNat)
    case atStart => exact ⟨0, Nat.zero_le _, rfl, rfl⟩
    case round =>
      obtain ⟨k, hk, rfl, rfl⟩ := hrel
      by_cases hlt : k < s.size
      · have hc := hcell k hlt
        have hkl : k < s.data.toList.length := by rw [HLEN.out]; omega
        have hst := valL_take s.data.toList k hkl
        have hle := valL_take_le s.data.toList k
        have hla := letter_at HALL.out k hkl
        generalize s.data.toList.getD k 0 = b at hc hst hla
        generalize valL (s.data.toList.take k) = x at hst hle ⊢
        have HST := Lib.hid hst
        clear hst hkl hcell
        obtain ⟨hl1, hl2⟩ := hla
        have hb1 : (65 : Int) ≤ (b.toNat : Int) := by omega
        have hb2 : (b.toNat : Int) ≤ 90 := by omega
        clear hl1 hl2
        go_wp2
        go_round
        case rel => exact ⟨k + 1, by omega, by go_num, by rw [HST.out]; go_num⟩
        case measure => simp [intOf]; omega
      · have hk6 : s.data.toList.take k = s.data.toList := List.take_of_length_le (by rw [HLEN.out]; omega)
        rw [hk6]
        clear hk6
        generalize hv : valL s.data.toList = x at hx ⊢
        have HV := Lib.hid hv
        clear hv
        go_wp2_with (go_at_call 96; refine (inverse_any _).mono ?_; rintro e w3 ⟨rfl, rfl⟩)
        go_ret2
        exact ⟨by rw [HV.out]; exact ret_num (numN_int x), hb⟩

end Go.Proofs.YtofomopmmopflaaGreatDoor
namespace Go.Proofs.YtofomopmmopflaaGreatDoor
open Go.RowKit
set_option linter.unusedSimpArgs false
set_option linter.unusedVariables false
set_option maxRecDepth 20000

/-- Block b is a row of the cells cs. -/
def Blk (w : World) (b : Nat) (T : TypeId) (cs : List Value) : Prop := w.heap[b]? = some (.cells cs.toArray T (0, 0))

section
variable {w w' : World} {b : Nat} {T : TypeId} {cs ds : List Value}
theorem Blk.lt (h : Blk w b T cs) : b < w.heap.size := by
  rcases Nat.lt_or_ge b w.heap.size with hlt | hge
  · exact hlt
  · unfold Blk at h; rw [Array.getElem?_eq_none hge] at h; cases h
theorem Blk.cell (h : Blk w b T cs) (j : Nat) : w.cell? ⟨b, j, none⟩ = cs[j]? := by
  rw [cell_of_row w b j _ _ _ h]
  simp only [List.getElem?_toArray]
theorem Blk.frozen (h : Blk w b T cs) (j : Nat) : w.frozen? ⟨b, j, none⟩ = false := frozen_of_row w b j _ _ h
theorem Blk.mono (h : Blk w b T cs) (hb : Below w.heap.size w w') : Blk w' b T cs := (hb.block b h.lt).trans h
theorem Blk.keep {B : Nat} (h : Blk w b T cs) (hb : Below B w w') (hB : b < B) : Blk w' b T cs := (hb.block b hB).trans h
theorem Blk.far {row : Option Nat} (h : Blk w b T cs) (hg : w.grownBy w' row) (hne : some b ≠ row) : Blk w' b T cs := (hg.block b h.lt hne).trans h
theorem Blk.alloc (h : Blk w b T cs) (o : Obj) : Blk (w.alloc o) b T cs := (Below.heap_alloc w o b h.lt).trans h
theorem Blk.new (w : World) (T : TypeId) (cs : List Value) : Blk (w.alloc (.cells cs.toArray T)) w.heap.size T cs := heap_alloc_new w _
theorem Blk.set (h : Blk w b T cs) (j : Nat) (v : Value) : Blk (w.setCell ⟨b, j, none⟩ v) b T (cs.set j v) := by
  unfold Blk at h ⊢
  simp [World.setCell, Array.getElem?_modify, h]
theorem Blk.range (h : Blk w b T cs) : w.rangeAt b 0 cs := fun j v hj => by
  rw [Nat.zero_add, h.cell j, hj]
theorem Blk.there (h : Blk w b T cs) (o n : Nat) (hn : o + n ≤ cs.length) : w.there b o n := fun j hj => by
  refine ⟨?_, h.frozen _⟩
  rw [h.cell, List.getElem?_eq_getElem (by omega)]
  rfl

/-- The cells of a list, with some of them written over. -/
def overV : List Value → Nat → List Value → List Value
  | l, _, [] => l
  | l, o, v :: m => overV (l.set o v) (o + 1) m

theorem overV_get : ∀ (m l : List Value) (o j : Nat), (overV l o m)[j]? = if o ≤ j ∧ j < o + m.length ∧ j < l.length then m[j - o]? else l[j]?
  | [], l, o, j => by simp [overV]; omega
  | v :: m, l, o, j => by
    rw [overV, overV_get m]
    simp only [List.length_set, List.length_cons]
    by_cases h1 : o + 1 ≤ j ∧ j < o + 1 + m.length ∧ j < l.length
    · rw [if_pos h1, if_pos (by omega), show j - o = (j - (o + 1)) + 1 by omega, List.getElem?_cons_succ]
    · rw [if_neg h1]
      by_cases h2 : o = j
      · subst h2
        by_cases h3 : o < l.length
        · rw [if_pos (by omega), List.getElem?_set_self h3]; simp
        · rw [if_neg (by omega), List.getElem?_eq_none (by simp; omega), List.getElem?_eq_none (by omega)]
      · rw [if_neg (by omega), List.getElem?_set_ne h2]

theorem overV_whole {l m : List Value} (h : m.length = l.length) : overV l 0 m = m := by
  apply List.ext_getElem?
  intro j
  rw [overV_get]
  by_cases h1 : j < m.length
  · rw [if_pos (by omega)]; rfl
  · rw [if_neg (by omega), List.getElem?_eq_none (by omega), List.getElem?_eq_none (by omega)]

theorem Blk.over : ∀ (m : List Value) (cs : List Value) (o : Nat) (w : World), Blk w b T cs → Blk (w.setCells b o m) b T (overV cs o m)
  | [], _, _, _, h => h
  | v :: m, cs, o, _, h => Blk.over m (cs.set o v) (o + 1) _ (h.set o v)

theorem gr_setCell1 {a : World} (h : a.grownBy w (some b)) (j : Nat) (u : Value) : a.grownBy (w.setCell ⟨b, j, none⟩ u) (some b) := by
  refine ⟨h.os, h.tape, h.output, ?_, ?_⟩
  · have e : (w.setCell ⟨b, j, none⟩ u).heap.size = w.heap.size := by simp [World.setCell]
    rw [e]
    exact h.size
  · intro i hi hne
    rw [← h.block i hi hne]
    have hg' : i ≠ b := fun e => hne (by rw [e])
    simp [World.setCell, Array.getElem?_modify, Ne.symm hg']

theorem gr_setCells1 {a : World} : ∀ (vs : List Value) (o : Nat) (w : World), a.grownBy w (some b) → a.grownBy (w.setCells b o vs) (some b)
  | [], _, _, h => h
  | v :: vs, o, _, h => gr_setCells1 vs (o + 1) _ (gr_setCell1 h o v)

end

theorem bel_setCells {B b : Nat} {a : World} (hb : B ≤ b) : ∀ (vs : List Value) (o : Nat) (w : World), Below B a w → Below B a (w.setCells b o vs)
  | [], _, _, h => h
  | v :: vs, o, _, h => bel_setCells hb vs (o + 1) _ (h.setCell (p := ⟨b, o, none⟩) hb v)

/-- A whole row is stored into a variable that holds one. -/
theorem wpList_store_blk {P : Program} {w : World} {ops : Array Oper} {rest : List Oper} {op : Oper} {a : Act} {Q : Exit → Act → World → Prop} (hgd : op.guard = none) (ty : TypeId) (x y : Operand) (ho : op.op = .store ty x y)
    (b : Nat) (T : TypeId) (l0 l : List Value) (hx : a.eval x = .pointer (some ⟨b, 0, none⟩)) (hy : a.eval y = .agg l.toArray)
    (ha : Blk w b T l0) (hl : l.length = l0.length) (hi : (P.info? ty).map (·.size) = some l.length) (h1 : ∀ v ∈ l, v.oneCell' = true)
    (h : ∀ w', Blk w' b T l → Below b w w' → w.grownBy w' (some b) → wpList P ops Q rest (a.put op.dst undef) w') : wpList P ops Q (op :: rest) a w := by
  have e1 : l.toArray.size = l.length := by simp
  refine wpList_store_mid hgd ty x y ho b 0 l.toArray hx hy (by rw [e1]; exact ha.there 0 _ (by omega)) (by rw [e1]; exact hi) (all_oneCell_toArray h1) (h _ ?_ ?_ ?_)
  · have := Blk.over l l0 0 w ha
    rwa [overV_whole hl] at this
  · exact bel_setCells (Nat.le_refl _) _ _ _ (Below.refl _ _)
  · exact gr_setCells1 _ _ _ (gr_of_below (Below.refl _ _) _)


section
variable {α : Type} {enc : α → List Value} {st : Nat}

theorem cells_len (hst : ∀ a, (enc a).length = st) : ∀ l : List α, (l.flatMap enc).length = l.length * st
  | [] => by simp
  | a :: l => by rw [List.flatMap_cons, List.length_append, hst, cells_len hst l, List.length_cons, Nat.succ_mul]; omega

theorem cells_get (hst : ∀ a, (enc a).length = st) : ∀ {l : List α} {i : Nat} {a : α} (k : Nat), l[i]? = some a → k < st → (l.flatMap enc)[i * st + k]? = (enc a)[k]?
  | [], i, a, k, h, _ => by simp at h
  | x :: l, 0, a, k, h, hk => by
    simp at h
    subst h
    rw [List.flatMap_cons, Nat.zero_mul, Nat.zero_add, List.getElem?_append_left (by rw [hst]; exact hk)]
  | x :: l, i + 1, a, k, h, hk => by
    simp at h
    rw [List.flatMap_cons, List.getElem?_append_right (by rw [hst, Nat.succ_mul]; omega), hst, Nat.succ_mul, show i * st + st + k - st = i * st + k by omega]
    exact cells_get hst k h hk

/-- 'v' reads as the list l. -/
def HasE (enc : α → List Value) (w : World) (v : Value) (l : List α) : Prop :=
  (∃ p c, v = .slice p 0 c ∧ l = [] ∧ (p = none → c = 0)) ∨ ∃ b off c, v = .slice (some ⟨b, off, none⟩) l.length c ∧ l.length ≤ c ∧ c ≤ maxLen ∧ ∀ j u, (l.flatMap enc)[j]? = some u → w.cell? ⟨b, off + j, none⟩ = some u

theorem HasE.keep {w w' : World} {v : Value} {l : List α} (h : HasE enc w v l) (hk : ∀ a u, w.cell? a = some u → w'.cell? a = some u) : HasE enc w' v l := by
  rcases h with h | ⟨b, off, c, e, h1, h2, h3⟩
  · exact .inl h
  · exact .inr ⟨b, off, c, e, h1, h2, fun j u hj => hk _ _ (h3 j u hj)⟩

theorem HasE.mono {w w' : World} {v : Value} {l : List α} (h : HasE enc w v l) (hb : Below w.heap.size w w') : HasE enc w' v l :=
  h.keep fun a _ hu => (hb.cell (World.block_lt_of_cell? w a hu)).trans hu

theorem HasE.nil (w : World) : HasE enc w (.slice none 0 0) [] := .inl ⟨none, 0, rfl, rfl, fun _ => rfl⟩

theorem HasE.own {w : World} {base : Nat} {e : TypeId} {v : Value} {l : List α} (h : w.ownsRow base e st v l.length (l.flatMap enc)) : HasE enc w v l := by
  rcases h.2 with ⟨e1, e2⟩ | ⟨g, cap, cur, e1, _, _, h3, h4, _⟩
  · exact .inl ⟨none, 0, e1, List.length_eq_zero_iff.1 e2, fun _ => rfl⟩
  · refine .inr ⟨g, 0, cap, e1, h3, h4, fun j u hj => ?_⟩
    have := h.cells (g := g) (by rw [e1]; rfl) j _ hj
    rw [Addr.add_lit] at this
    exact this

theorem HasE.len {w : World} {v : Value} {l : List α} (h : HasE enc w v l) : ∃ p c, v = .slice p l.length c := by
  rcases h with ⟨p, c, e, rfl, _⟩ | ⟨b, off, c, e, _⟩
  · exact ⟨p, c, e⟩
  · exact ⟨_, c, e⟩

theorem HasE.max {w : World} {v : Value} {l : List α} (h : HasE enc w v l) : l.length ≤ maxLen := by
  rcases h with ⟨p, c, e, rfl, _⟩ | ⟨b, off, c, e, h1, h2, _⟩
  · exact Nat.zero_le _
  · exact Nat.le_trans h1 h2

/-- One element. -/
theorem HasE.at {w : World} {p : Option Addr} {n c : Nat} {l : List α} (hst : ∀ a, (enc a).length = st) (h : HasE enc w (.slice p n c) l) {i : Nat} {a : α} (hi : l[i]? = some a) :
    ∃ b off, p = some ⟨b, off, none⟩ ∧ ∀ k u, k < st → (enc a)[k]? = some u → w.cell? ⟨b, off + (i * st + k), none⟩ = some u := by
  have hil : i < l.length := (List.getElem?_eq_some_iff.1 hi).1
  rcases h with ⟨p', c', e, rfl, _⟩ | ⟨b, off, c', e, h1, h2, h3⟩
  · simp at hi
  · injection e with e1 e2 e3
    refine ⟨b, off, e1, fun k u hk hu => h3 _ _ ?_⟩
    rw [cells_get hst k hi hk]
    exact hu
end

theorem below_le {B B' : Nat} {w w' : World} (h : Below B w w') (hB : B' ≤ B) : Below B' w w' := ⟨h.os, h.tape, h.output, h.size, fun i hi => h.block i (Nat.lt_of_lt_of_le hi hB)⟩

def byteC (b : UInt8) : List Value := [.int .u8 b.toNat]
theorem byteC_len (b : UInt8) : (byteC b).length = 1 := rfl
theorem byteC_one (b : UInt8) : ∀ v ∈ byteC b, v.oneCell' = true := by
  intro v hv
  simp [byteC] at hv
  subst hv
  rfl

theorem flat_byte : ∀ (l : List UInt8), l.flatMap byteC = l.map fun b => .int .u8 b.toNat
  | [] => rfl
  | b :: l => by rw [List.flatMap_cons, flat_byte l]; rfl

theorem byte_at {w : World} {p : Option Addr} {n c : Nat} {l : List UInt8} (h : HasE byteC w (.slice p n c) l) {i : Nat} (hi : i < l.length) : ∃ b off, p = some ⟨b, off, none⟩ ∧ w.cell? ⟨b, off + i, none⟩ = some (.int .u8 (l.getD i 0).toNat) := by
  have e : l[i]? = some (l.getD i 0) := by rw [List.getD_eq_getElem?_getD, List.getElem?_eq_getElem hi]; rfl
  obtain ⟨b, off, h1, h2⟩ := h.at byteC_len e
  refine ⟨b, off, h1, ?_⟩
  have := h2 0 _ (by decide) rfl
  rwa [Nat.mul_one, Nat.add_zero] at this

/-- A list of bytes in memory from B on, or nil. -/
def OwnB (w : World) (B : Nat) (v : Value) (l : List UInt8) : Prop := w.ownsRow B 5 1 v l.length (l.flatMap byteC)

theorem OwnB.has {w : World} {B : Nat} {v : Value} {l : List UInt8} (h : OwnB w B v l) : HasE byteC w v l := HasE.own h
theorem OwnB.nil (w : World) (B : Nat) : OwnB w B (.slice none 0 0) [] := World.ownsRow_nil _ _ _ _
theorem OwnB.mono {w w' : World} {B : Nat} {v : Value} {l : List UInt8} (h : OwnB w B v l) (hb : Below w.heap.size w w') : OwnB w' B v l :=
  World.ownsRow.kept h (gr_of_below hb none) (by cases hv : v.ownBlock <;> simp)
theorem OwnB.low {w : World} {B B' : Nat} {v : Value} {l : List UInt8} (h : OwnB w B v l) (hb : B' ≤ B) : OwnB w B' v l := own_low h hb

theorem byte_info : ∃ i0 : TypeInfo, Tryz.prog.info? 5 = some i0 ∧ i0.zero = some (.int .u8 0) ∧ i0.size = 1 ∧ i0.bytes = 1 := by
  have hbyte : (Tryz.prog.info? 5).map (fun i => (i.zero, i.size, i.bytes)) = some (some (.int .u8 0), 1, 1) := by kernel_rfl
  rw [Option.map_eq_some_iff] at hbyte
  obtain ⟨i0, h1, h2⟩ := hbyte
  simp only [Prod.mk.injEq] at h2
  exact ⟨i0, h1, h2.1, h2.2.1, h2.2.2⟩

/-- 'append(v, c)' of one byte. -/
theorem wpList_push_byte {wr : World} {ops : Array Oper} {rest : List Oper} {o : Oper} {a : Act} {Q : Exit → Act → World → Prop} (hgd : o.guard = none) (x y : Operand)
    (ho : o.op = .call { callee := .builtin .append, args := #[x, y], argTypes := #[30, 30] })
    (base : Nat) (v : Value) (l : List UInt8) (c : UInt8) {ci : Int} (hci : ci = (c.toNat : Int)) (hs : a.eval x = v) (hown : OwnB wr base v l) (hx : a.eval y = .slice (some ⟨wr.heap.size, 0, none⟩) 1 1)
    (hm : l.length + 1 ≤ 100000000) (hbase : base ≤ wr.heap.size)
    (h : ∀ v' w', OwnB w' base v' (l ++ [c]) → Below base wr w' → (wr.alloc (.cells #[.int .u8 ci] 5)).grownBy w' v.ownBlock → wpList Tryz.prog ops Q rest (a.put o.dst v') w') :
    wpList Tryz.prog ops Q (o :: rest) a (wr.alloc (.cells #[.int .u8 ci] 5)) := by
  subst hci
  obtain ⟨i0, hi, hz, hsz, hby⟩ := byte_info
  refine wpList_push hgd x y 30 ho base 5 i0 _ 1 Tryz.underlying30 hi hz hsz hby rfl v l.length (l.flatMap byteC) hs hown (.int .u8 c.toNat) hx rfl (by unfold maxLen; omega) (by omega) hbase ?_
  intro v' w' hown' hb hg
  refine h v' w' ?_ hb hg
  unfold OwnB
  rw [List.flatMap_append, List.length_append]
  exact hown'
end Go.Proofs.YtofomopmmopflaaGreatDoor
namespace Go.Proofs.YtofomopmmopflaaGreatDoor
open Go.RowKit
set_option linter.unusedSimpArgs false
set_option linter.unusedVariables false
set_option maxRecDepth 20000

/-- A number in as few bytes as it takes. -/
def varL (n : Nat) : List UInt8 := if n < 128 then [UInt8.ofNat n] else UInt8.ofNat (n % 128 + 128) :: varL (n / 128)
termination_by n
decreasing_by omega

/-- A number in so many bytes, the great end first. -/
def beL (n : Nat) : Nat → List UInt8
  | 0 => []
  | k + 1 => beL (n / 256) k ++ [UInt8.ofNat (n % 256)]

theorem beL_len (n k : Nat) : (beL n k).length = k := by
  induction k generalizing n with
  | zero => rfl
  | succ k ih => rw [beL, List.length_append, ih]; rfl

/-- The number of bytes. -/
def valB (l : List UInt8) : Nat := l.foldl (fun x c => x * 256 + c.toNat) 0

/-- The number with which bytes begin, and how many it takes. -/
def rvL (i acc : Nat) : List UInt8 → Option (Nat × Nat)
  | [] => none
  | x :: t => if (i = 9 ∧ 1 < x.toNat) ∨ (0 < i ∧ x.toNat = 0) then none else
      if x.toNat < 128 then some (acc + x.toNat % 128 * 2 ^ (7 * i), i + 1) else rvL (i + 1) (acc + x.toNat % 128 * 2 ^ (7 * i)) t

theorem rvL_lt : ∀ (l : List UInt8) (i acc n k : Nat), i ≤ 9 → acc < 2 ^ (7 * i) → rvL i acc l = some (n, k) → n < 2 ^ 64 ∧ i < k ∧ k ≤ i + l.length ∧ k ≤ 10
  | [], i, acc, n, k, _, _, h => by cases h
  | x :: t, i, acc, n, k, hi, ha, h => by
    rw [rvL] at h
    split at h
    · cases h
    · rename_i h1
      have hx : x.toNat < 256 := x.toNat_lt
      split at h
      · injection h with h
        injection h with h2 h3
        subst h2 h3
        refine ⟨?_, by omega, by rw [List.length_cons]; omega, by omega⟩
        rcases Nat.lt_or_ge i 9 with h9 | h9
        · have hp : 2 ^ (7 * i) ≤ 2 ^ 56 := Nat.pow_le_pow_right (by omega) (by omega)
          have hm : x.toNat % 128 * 2 ^ (7 * i) ≤ 127 * 2 ^ 56 := Nat.mul_le_mul (by omega) hp
          have e1 : (2 : Nat) ^ 56 = 72057594037927936 := by decide
          have e2 : (2 : Nat) ^ 64 = 18446744073709551616 := by decide
          rw [e1] at hm hp
          rw [e2]
          omega
        · have hi9 : i = 9 := by omega
          subst hi9
          have hx1 : x.toNat ≤ 1 := by
            rcases Nat.lt_or_ge 1 x.toNat with h4 | h4
            · exact absurd (.inl ⟨rfl, h4⟩) h1
            · exact h4
          have e1 : (2 : Nat) ^ (7 * 9) = 9223372036854775808 := by decide
          have e2 : (2 : Nat) ^ 64 = 18446744073709551616 := by decide
          rw [e1] at ha ⊢
          rw [e2]
          have : x.toNat % 128 * 9223372036854775808 ≤ 1 * 9223372036854775808 := Nat.mul_le_mul (by omega) (Nat.le_refl _)
          omega
      · rename_i h2
        have hi8 : i + 1 ≤ 9 := by
          rcases Nat.lt_or_ge i 9 with h9 | h9
          · omega
          · exact absurd (.inl ⟨by omega, by omega⟩) h1
        have ha2 : acc + x.toNat % 128 * 2 ^ (7 * i) < 2 ^ (7 * (i + 1)) := by
          have e : (2 : Nat) ^ (7 * (i + 1)) = 2 ^ (7 * i) * 128 := by rw [Nat.mul_succ, Nat.pow_add]
          rw [e]
          have : x.toNat % 128 * 2 ^ (7 * i) ≤ 127 * 2 ^ (7 * i) := Nat.mul_le_mul (by omega) (Nat.le_refl _)
          omega
        obtain ⟨g1, g2, g3, g4⟩ := rvL_lt t (i + 1) _ n k hi8 ha2 h
        exact ⟨g1, by omega, by rw [List.length_cons]; omega, g4⟩

/-- What is read: a number at most so great. -/
def pNum (most : Nat) (l : List UInt8) : Option (Nat × List UInt8) :=
  match rvL 0 0 l with
  | some (n, k) => if n ≤ most then some (n, l.drop k) else none
  | none => none

/-- .. so many bytes as a number. -/
def pFix (size : Nat) (l : List UInt8) : Option (Nat × List UInt8) :=
  if size ≤ l.length then some (valB (l.take size), l.drop size) else none

/-- .. a locator. -/
def pLoc (l : List UInt8) : Option (List UInt8 × List UInt8) :=
  match pFix 4 l with
  | some (n, r) => if n < 308915776 then some (txt (turnN n), r) else none
  | none => none

/-- .. so many locators. -/
def pLocs : Nat → List UInt8 → Option (List (List UInt8) × List UInt8)
  | 0, l => some ([], l)
  | n + 1, l => match pLocs n l with
    | some (o, r) => (match pLoc r with | some (s, r') => some (o ++ [s], r') | none => none)
    | none => none

/-- The bytes of a queue. -/
def queueF (l : List (List UInt8)) : Option (List UInt8) :=
  if l.length ≤ 40 ∧ (l.all fun s => lettersS s 6 6) = true ∧ l.Nodup then some (81 :: varL l.length ++ l.flatMap fun s => beL (numN (valL s)) 4) else none

/-- The bytes of a count. -/
def countF (next now : Int) : Option (List UInt8) :=
  if 0 ≤ next ∧ next ≤ 308915776 ∧ 0 ≤ now ∧ now < 527040 then some (67 :: varL next.toNat ++ varL now.toNat) else none

/-- The queue of bytes. -/
def pQueue (b : List UInt8) : Option (List (List UInt8)) :=
  match b with
  | 81 :: r => (match pNum 40 r with | some (n, r') => (pLocs n r').map (·.1) | none => none)
  | _ => none

def readQ (b : List UInt8) : Option (List (List UInt8)) :=
  match pQueue b with
  | some l => if queueF l = some b then some l else none
  | none => none

theorem varL_small {n : Nat} (h : n < 128) : varL n = [UInt8.ofNat n] := by rw [varL, if_pos h]
theorem varL_big {n : Nat} (h : ¬ n < 128) : varL n = UInt8.ofNat (n % 128 + 128) :: varL (n / 128) := by rw [varL, if_neg h]

theorem varL_len : ∀ (k n : Nat), n < 2 ^ (7 * (k + 1)) → (varL n).length ≤ k + 1
  | 0, n, h => by
    rw [varL_small (by simpa using h)]
    exact Nat.le_refl _
  | k + 1, n, h => by
    by_cases h1 : n < 128
    · rw [varL_small h1]
      show 1 ≤ _
      omega
    · rw [varL_big h1, List.length_cons]
      have : n / 128 < 2 ^ (7 * (k + 1)) := by
        rw [Nat.div_lt_iff_lt_mul (by omega)]
        have e : (2 : Nat) ^ (7 * (k + 1 + 1)) = 2 ^ (7 * (k + 1)) * 128 := by rw [Nat.mul_succ, Nat.pow_add]
        rw [← e]
        exact h
      have := varL_len k (n / 128) this
      omega

theorem awake_queue : queueF [[73, 73, 68, 73, 83, 77], [83, 83, 72, 78, 67, 78]] = some [81, 2, 0, 0, 0, 0, 0, 0, 0, 1] := by
  unfold queueF
  rw [if_pos (by decide)]
  rw [varL_small (by decide)]
  decide

theorem awake_count : countF 300 5 = some [67, 172, 2, 5] := by
  unfold countF
  rw [if_pos (by omega)]
  rw [varL_small (n := Int.toNat 5) (by decide), varL_big (n := Int.toNat 300) (by decide), varL_small (n := Int.toNat 300 / 128) (by decide)]
  decide

theorem awake_read : readQ [81, 2, 0, 0, 0, 0, 0, 0, 0, 1] = some [[73, 73, 68, 73, 83, 77], [83, 83, 72, 78, 67, 78]] := by
  have h : pQueue [81, 2, 0, 0, 0, 0, 0, 0, 0, 1] = some [[73, 73, 68, 73, 83, 77], [83, 83, 72, 78, 67, 78]] := by decide
  unfold readQ
  rw [h]
  show (if queueF _ = some _ then some _ else none) = _
  rw [awake_queue, if_pos rfl]
end Go.Proofs.YtofomopmmopflaaGreatDoor
namespace Go.Proofs.YtofomopmmopflaaGreatDoor
open Go.RowKit
set_option linter.unusedSimpArgs false
set_option linter.unusedVariables false
set_option maxRecDepth 20000

def zerosV (n : Nat) : List Value := List.replicate n (.int .u8 0)

theorem made_bytes (n : Nat) : madeCells #[.int .u8 0] n = (zerosV n).toArray := by
  apply Array.ext'
  simp only [madeCells, zerosV]
  apply List.ext_getElem?
  intro i
  by_cases hi : i < n
  · simp [List.getElem?_replicate, hi, Nat.mod_one]
  · simp [List.getElem?_replicate, hi]

/-- 'make([]byte, n, c)'. -/
theorem wpList_make_bytes {w : World} {ops : Array Oper} {rest : List Oper} {o : Oper} {a : Act} {Q : Exit → Act → World → Prop} (hgd : o.guard = none) (x y : Operand) (ho : o.op = .makeSlice 30 x y)
    (n c : Nat) {z z' : Int} (hx : a.eval x = .int .i64 z) (hy : a.eval y = .int .i64 z') (hzn : z = n) (hzc : z' = c) (hnc : n ≤ c) (hc : c ≤ 100000000)
    (h : ∀ w', Blk w' w.heap.size 5 (zerosV c) → Below w.heap.size w w' → w'.heap.size = w.heap.size + 1 → wpList Tryz.prog ops Q rest (a.put o.dst (.slice (some ⟨w.heap.size, 0, none⟩) n c)) w') :
    wpList Tryz.prog ops Q (o :: rest) a w := by
  subst hzn hzc
  obtain ⟨i0, hi, hz, hsz, hby⟩ := byte_info
  refine wpList_plain hgd fun K' hK' => ?_
  have hr := run_make (P := Tryz.prog) w 30 5 i0 _ Tryz.underlying30 hi hz .i64 .i64 (n : Int) (c : Int) (by omega) (by omega) (by rw [hby]; omega) (by omega)
  rw [hsz, Nat.mul_one] at hr
  simp only [Int.toNat_natCast] at hr
  unfold Oper.wp
  simp only [execOp, ho, hx, hy, hr, Sem.run_bind, Sem.run_pure, Result.andThen_ok, Sem.run_map]
  refine hK' _ _ (h _ ?_ ((Below.refl _ _).alloc (Nat.le_refl _) _) (by simp))
  have := Blk.new w 5 (zerosV c)
  rw [← made_bytes] at this
  exact this

theorem OwnB.of_blk {w : World} {B g c : Nat} {l : List UInt8} {t : List Value} (h : Blk w g 5 (l.flatMap byteC ++ t)) (hB : B ≤ g) (hc : l.length + t.length = c) (hm : c ≤ maxLen) : OwnB w B (.slice (some ⟨g, 0, none⟩) l.length c) l := by
  have hl : (l.flatMap byteC).length = l.length := by rw [cells_len byteC_len, Nat.mul_one]
  refine ⟨by rw [hl, Nat.mul_one], .inr ⟨g, c, _, rfl, hB, h, by omega, hm, by simp [hl]; omega, ?_⟩⟩
  rw [Nat.mul_one]
  simp [← hl]

/-- 'copy(out, b)' into a row that was made. -/
theorem wpList_copy_bytes {w : World} {ops : Array Oper} {rest : List Oper} {o : Oper} {a : Act} {Q : Exit → Act → World → Prop} (hgd : o.guard = none) (d s : Operand)
    (ho : o.op = .call { callee := .builtin .copy, args := #[d, s], argTypes := #[30, 30] })
    (g c : Nat) (vs : Value) (l : List UInt8) (hd : a.eval d = .slice (some ⟨g, 0, none⟩) l.length c) (hs : a.eval s = vs) (hlc : l.length ≤ c) (hc : c ≤ maxLen)
    (hg : Blk w g 5 (zerosV c)) (hh : HasE byteC w vs l) (B : Nat) (hB : B ≤ g)
    (h : ∀ w', OwnB w' B (.slice (some ⟨g, 0, none⟩) l.length c) l → Below B w w' → wpList Tryz.prog ops Q rest (a.put o.dst (.int .i64 (l.length : Nat))) w') :
    wpList Tryz.prog ops Q (o :: rest) a w := by
  have hl : (l.flatMap byteC).length = l.length := by rw [cells_len byteC_len, Nat.mul_one]
  obtain ⟨sp, sc, rfl⟩ := hh.len
  have hz : (zerosV c).length = c := by simp [zerosV]
  refine wpList_copy_splice hgd d s 30 30 ho 5 Tryz.underlying30 (by kernel_rfl) _ sp l.length c l.length sc hd hs g 0 (zerosV c) 5 hg (l.flatMap byteC) (by rw [hl]; exact (Nat.min_self _).symm) ?_ (by rw [hl, hz]; omega) ?_ B w (Below.refl _ _) hB ?_
  · intro hpos
    refine ⟨rfl, ?_⟩
    rcases hh with ⟨p, c', e, rfl, _⟩ | ⟨b, off, c', e, h1, h2, h3⟩
    · simp at hpos
    · injection e with e1 e2 e3
      refine ⟨_, e1, fun j v hj => ?_⟩
      rw [Addr.add_lit]
      exact h3 j v hj
  · intro v hv
    obtain ⟨b, _, hb⟩ := List.mem_flatMap.1 hv
    exact byteC_one b v hb
  · intro w' hid hb
    rw [hl]
    refine h w' ?_ hb
    have e : splice (zerosV c) 0 (l.flatMap byteC) = l.flatMap byteC ++ List.replicate (c - l.length) (.int .u8 0) := by
      simp [splice, zerosV, hl]
    have hid2 := hid.out
    rw [e] at hid2
    refine OwnB.of_blk hid2 hB ?_ hc
    simp
    omega
end Go.Proofs.YtofomopmmopflaaGreatDoor
namespace Go.Proofs.YtofomopmmopflaaGreatDoor
open Go.RowKit Go.ChangeMaps
set_option linter.unusedSimpArgs false
set_option linter.unusedVariables false
set_option maxRecDepth 20000

/-- What is asked of keys. -/
structure KeyK {α : Type} (K : α → Value) (kt : TypeId) (ok : α → Prop) : Prop where
  keyed : Maps.Keyed Tryz.prog kt
  key : ∀ s, ok s → ∃ l, keyOf Tryz.prog kt (K s) = some l
  inj : ∀ a b, K a = K b → a = b

section
variable {α β : Type} {K : α → Value} {V : β → Value} {kt vt mt : TypeId} {ok : α → Prop}

/-- Block b is a map with just the keys pl, and f of them. -/
def MapG (K : α → Value) (V : β → Value) (ok : α → Prop) (w : World) (b : Nat) (pl : List α) (f : α → β) : Prop :=
  (∃ es clock, w.heap[b]? = some (.map es clock) ∧ es.toList.map (fun e => (e.key, e.val)) = pl.map fun s => (K s, V (f s))) ∧ pl.Nodup ∧ ∀ s ∈ pl, ok s

variable {w w' : World} {b : Nat} {pl : List α} {f : α → β}

theorem MapG.lt (h : MapG K V ok w b pl f) : b < w.heap.size := by
  obtain ⟨⟨es, clock, hb, _⟩, _⟩ := h
  exact (Array.getElem?_eq_some_iff.1 hb).1

theorem MapG.kept {row : Option Nat} (h : MapG K V ok w b pl f) (hg : w.grownBy w' row) (hne : some b ≠ row) : MapG K V ok w' b pl f := by
  have hlt := h.lt
  obtain ⟨⟨es, clock, hb, hm⟩, h2⟩ := h
  exact ⟨⟨es, clock, (hg.block b hlt hne).trans hb, hm⟩, h2⟩

theorem MapG.keep {B : Nat} (h : MapG K V ok w b pl f) (hb : Below B w w') (hB : b < B) : MapG K V ok w' b pl f := by
  obtain ⟨⟨es, clock, hb1, hm⟩, h2⟩ := h
  exact ⟨⟨es, clock, (hb.block b hB).trans hb1, hm⟩, h2⟩

theorem MapG.mono (h : MapG K V ok w b pl f) (hb : Below w.heap.size w w') : MapG K V ok w' b pl f := h.keep hb h.lt

theorem MapG.made (w : World) (f : α → β) : MapG K V ok (w.alloc (.map #[] 0)) w.heap.size [] f :=
  ⟨⟨#[], 0, (MapKept.heap_alloc w _).1, rfl⟩, List.nodup_nil, fun _ h => nomatch h⟩

theorem entG_get {es : Array MapEntry} (hm : es.toList.map (fun e => (e.key, e.val)) = pl.map fun s => (K s, V (f s))) {j : Nat} {e : MapEntry} (h : es.toList[j]? = some e) :
    ∃ s, pl[j]? = some s ∧ e.key = K s ∧ e.val = V (f s) := by
  have h1 : (es.toList.map (fun e => (e.key, e.val)))[j]? = some (e.key, e.val) := by rw [List.getElem?_map, h]; rfl
  rw [hm, List.getElem?_map] at h1
  cases h2 : pl[j]? with
  | none => rw [h2] at h1; cases h1
  | some s =>
    rw [h2] at h1
    simp at h1
    exact ⟨s, rfl, h1.1.symm, h1.2.symm⟩

theorem MapG.find (hk : KeyK K kt ok) (h : MapG K V ok w b pl f) (s : α) (hs : ok s) :
    ∃ es clock, w.heap[b]? = some (.map es clock) ∧ es.toList.map (fun e => (e.key, e.val)) = (pl.map fun s => (K s, V (f s))) ∧
      ((s ∉ pl ∧ (Instr.findKey kt (K s) es.toList).run Tryz.prog w = .ok none w) ∨ ∃ j e, pl[j]? = some s ∧ es[j]? = some e ∧ e.key = K s ∧ (Instr.findKey kt (K s) es.toList).run Tryz.prog w = .ok (some (j, V (f s))) w) := by
  obtain ⟨⟨es, clock, hb, hm⟩, hn, hok⟩ := h
  refine ⟨es, clock, hb, hm, ?_⟩
  obtain ⟨l, hl⟩ := hk.key s hs
  have hes : ∀ e ∈ es.toList, ∃ l, keyOf Tryz.prog kt e.key = some l := by
    intro e he
    obtain ⟨j, hj⟩ := List.mem_iff_getElem?.1 he
    obtain ⟨s', h1, h2, _⟩ := entG_get hm hj
    rw [h2]
    exact hk.key s' (hok s' (List.mem_of_getElem? h1))
  rcases hk.keyed.find w hl es.toList hes with ⟨h1, h2⟩ | ⟨j, e, h1, h2, h3⟩
  · refine .inl ⟨fun hmem => ?_, h1⟩
    obtain ⟨j, hj⟩ := List.mem_iff_getElem?.1 hmem
    have h3 : (es.toList.map (fun e => (e.key, e.val)))[j]? = some (K s, V (f s)) := by rw [hm, List.getElem?_map, hj]; rfl
    rw [List.getElem?_map] at h3
    cases h4 : es.toList[j]? with
    | none => rw [h4] at h3; cases h3
    | some e =>
      rw [h4] at h3
      simp at h3
      exact h2 e (List.mem_of_getElem? h4) h3.1
  · obtain ⟨s', k1, k2, k3⟩ := entG_get hm h2
    have : s' = s := hk.inj _ _ (k2.symm.trans h3)
    subst this
    refine .inr ⟨j, e, k1, by simpa using h2, h3, ?_⟩
    rw [h1, k3]

theorem MapG.look (hk : KeyK K kt ok) (ht : Tryz.prog.underlying mt = some (.map kt vt)) {z : Value} (hz : (zeroValue vt).run Tryz.prog w = .ok z w) (h : MapG K V ok w b pl f) (c : Bool) (s : α) (hs : ok s) :
    (s ∈ pl ∧ (Instr.lookup mt (.map (some b)) (K s) c).run Tryz.prog w = .ok (if c then .tuple #[V (f s), .bool true] else V (f s)) w) ∨
    (s ∉ pl ∧ (Instr.lookup mt (.map (some b)) (K s) c).run Tryz.prog w = .ok (if c then .tuple #[z, .bool false] else z) w) := by
  obtain ⟨l, hl⟩ := hk.key s hs
  obtain ⟨es, clock, hb, hm, h1⟩ := h.find hk s hs
  rcases h1 with ⟨h1, h2⟩ | ⟨j, e, h1, h2, h3, h4⟩
  · exact .inr ⟨h1, by simp [Instr.lookup, run_underlying ht, MapKept.run_getObj_map hb, hk.keyed.check w _ hl, h2, hz, Result.andThen]⟩
  · exact .inl ⟨List.mem_of_getElem? h1, by simp [Instr.lookup, run_underlying ht, MapKept.run_getObj_map hb, hk.keyed.check w _ hl, h4, Result.andThen]⟩

def setG [DecidableEq α] (f : α → β) (s : α) (m : β) : α → β := fun x => if x = s then m else f x

theorem run_put_newG {P : Program} {k t e : TypeId} {w : World} {b : Nat} {es : Array MapEntry} {clock : Nat} (K : Maps.Keyed P k) (ht : P.underlying t = some (.map k e)) (hb : w.heap[b]? = some (.map es clock)) {key val : Value} {l : Lit} (hl : keyOf P k key = some l)
    (h2 : (Instr.findKey k key es.toList).run P w = .ok none w) : (Instr.mapUpdate t (.map (some b)) key val).run P w = .ok () (setBlock w b (.map (es.push ⟨key, val, clock⟩) (clock + 1))) := by
  have hs := MapKept.run_setObj_map (P := P) (.map (es.push ⟨key, val, clock⟩) (clock + 1)) hb
  simp only [Instr.mapUpdate, Sem.run_bind, run_underlying ht, Result.andThen_ok, MapKept.run_getObj_map hb, K.check w false hl, h2]
  exact hs

theorem MapG.add [DecidableEq α] (hk : KeyK K kt ok) (ht : Tryz.prog.underlying mt = some (.map kt vt)) (h : MapG K V ok w b pl f) (s : α) (m : β) (hs : ok s) (hn : s ∉ pl) :
    ∃ w', (Instr.mapUpdate mt (.map (some b)) (K s) (V m)).run Tryz.prog w = .ok () w' ∧ MapG K V ok w' b (pl ++ [s]) (setG f s m) ∧ w.grownBy w' (some b) ∧ w'.heap.size = w.heap.size := by
  obtain ⟨l, hl⟩ := hk.key s hs
  obtain ⟨es, clock, hb, hm, h1⟩ := h.find hk s hs
  obtain ⟨_, hnd, hok⟩ := h
  rcases h1 with ⟨h1, h2⟩ | ⟨j, e, h1, h2, h3, h4⟩
  · refine ⟨setBlock w b (.map (es.push ⟨K s, V m, clock⟩) (clock + 1)), ?_, ⟨⟨_, _, heap_setBlock_same hb _, ?_⟩, ?_, ?_⟩, ⟨rfl, rfl, rfl, by simp [setBlock], fun i _ hi => heap_setBlock_other hb _ (fun e => hi (by rw [e]))⟩, by simp [setBlock]⟩
    · exact run_put_newG hk.keyed ht hb hl h2
    · have e1 : pl.map (fun x => (K x, V (setG f s m x))) = pl.map fun x => (K x, V (f x)) := by
        refine List.map_congr_left fun x hx => ?_
        unfold setG
        rw [if_neg (fun e : x = s => hn (e ▸ hx))]
      have e2 : setG f s m s = m := if_pos rfl
      rw [Array.toList_push, List.map_append, hm, List.map_append, e1, List.map_singleton, List.map_singleton, e2]
    · exact List.nodup_append.2 ⟨hnd, by simp, fun a ha b' hb' e => by simp at hb'; subst hb'; exact hn (e ▸ ha)⟩
    · intro x hx
      rcases List.mem_append.1 hx with hx | hx
      · exact hok x hx
      · simp at hx; rw [hx]; exact hs
  · exact absurd (List.mem_of_getElem? h1) hn

theorem setG_map [DecidableEq α] {pl : List α} (hn : pl.Nodup) {f : α → β} {s : α} {m : β} : ∀ {j : Nat}, pl[j]? = some s → (pl.map fun s => (K s, V (f s))).set j (K s, V m) = pl.map fun x => (K x, V (setG f s m x)) := by
  induction pl with
  | nil => intro j h; simp at h
  | cons a t ih =>
    intro j h
    obtain ⟨h1, h2⟩ := List.nodup_cons.1 hn
    cases j with
    | zero =>
      simp at h
      subst h
      simp only [List.map_cons, List.set_cons_zero]
      congr 1
      · simp [setG]
      · refine List.map_congr_left fun x hx => ?_
        unfold setG
        rw [if_neg (fun e : x = a => h1 (e ▸ hx))]
    | succ j =>
      simp at h
      simp only [List.map_cons, List.set_cons_succ, ih h2 h]
      congr 1
      unfold setG
      rw [if_neg (fun e : a = s => h1 (by rw [e]; exact List.mem_of_getElem? h))]

theorem MapG.set [DecidableEq α] (hk : KeyK K kt ok) (ht : Tryz.prog.underlying mt = some (.map kt vt)) (h : MapG K V ok w b pl f) (s : α) (m : β) (hs : s ∈ pl) :
    ∃ w', (Instr.mapUpdate mt (.map (some b)) (K s) (V m)).run Tryz.prog w = .ok () w' ∧ MapG K V ok w' b pl (setG f s m) ∧ w.grownBy w' (some b) ∧ w'.heap.size = w.heap.size := by
  have hr := h.2.2 s hs
  obtain ⟨l, hl⟩ := hk.key s hr
  obtain ⟨es, clock, hb, hm, h1⟩ := h.find hk s hr
  obtain ⟨_, hnd, hok⟩ := h
  rcases h1 with ⟨h1, h2⟩ | ⟨j, e, h1, h2, h3, h4⟩
  · exact absurd hs h1
  · have h2' : es.toList[j]? = some e := by simpa using h2
    refine ⟨setBlock w b (.map (es.modify j (fun e' => { e' with key := K s, val := V m })) clock), ?_, ⟨⟨_, _, heap_setBlock_same hb _, ?_⟩, hnd, hok⟩, ⟨rfl, rfl, rfl, by simp [setBlock], fun i _ hi => heap_setBlock_other hb _ (fun e => hi (by rw [e]))⟩, by simp [setBlock]⟩
    · simp [Instr.mapUpdate, run_underlying ht, MapKept.run_getObj_map hb, hk.keyed.check w false hl, h4, h2, h3, hk.keyed.stays w hl, MapKept.run_setObj_map _ hb, Result.andThen, setBlock]
    · rw [Array.toList_modify, ChangeMaps.modify_eq_set _ _ _ _ h2', List.map_set, hm]
      exact setG_map hnd h1

/-- One step: a value is put in. -/
theorem wpList_putG {ops : Array Oper} {rest : List Oper} {o : Oper} {a : Act} {Q : Exit → Act → World → Prop}
    (hg : o.guard = none) (m x v : Operand) (hop : o.op = Op.mapUpdate mt m x v) (k u : Value)
    (hm : a.eval m = .map (some b)) (hx : a.eval x = k) (hv : a.eval v = u) {R : World → Prop}
    (hrun : ∃ w', (Instr.mapUpdate mt (.map (some b)) k u).run Tryz.prog w = .ok () w' ∧ R w')
    (hK : ∀ w', R w' → wpList Tryz.prog ops Q rest (a.put o.dst undef) w') :
    wpList Tryz.prog ops Q (o :: rest) a w := by
  refine wpList_plain hg fun K' hK' => ?_
  obtain ⟨w', hrun, r1⟩ := hrun
  unfold Oper.wp
  simp [execOp, hop, hm, hx, hv, hrun, Result.andThen]
  exact hK' _ _ (hK w' r1)
end

/-- Texts as keys. -/
def txtK (s : ByteArray) : Value := .string s

theorem txt_keyK : KeyK txtK 9 (fun s => s.size ≤ maxLen) where
  keyed := Maps.string_keyed Tryz.underlying9
  key := fun s hs => by
    unfold keyOf
    simp only [Tryz.underlying9, txtK, mapKey]
    rw [if_pos hs]
    exact ⟨_, rfl⟩
  inj := fun a b h => by
    injection h
end Go.Proofs.YtofomopmmopflaaGreatDoor
namespace Go.Proofs.YtofomopmmopflaaGreatDoor
open Go.RowKit Go.ChangeMaps
set_option linter.unusedSimpArgs false
set_option linter.unusedVariables false
set_option maxRecDepth 20000

theorem or128 (n : Nat) : bits .or .u8 ((n % 256 : Nat) : Int) 128 = ((n % 128 + 128 : Nat) : Int) := by
  have key : ∀ x, x < 256 → (x ||| 128) = x % 128 + 128 := by decide +kernel
  rw [show (128 : Int) = ((128 : Nat) : Int) from rfl, u8_or_nat _ _ (by omega) (by omega), key _ (by omega)]
  congr 2
  omega

theorem byte_nat {n : Nat} (h : n < 256) : ((UInt8.ofNat n).toNat : Int) = (n : Int) := by
  rw [UInt8.toNat_ofNat']
  omega

set_option maxHeartbeats 8000000 in
theorem var_any (bs : List UInt8) (vb : Value) (n : Nat) (w : World) (hb : HasE byteC w vb bs) (hn : n < 18446744073709551616) (hl : bs.length ≤ 1000000) :
    Calls Tryz.prog 55 #[vb, .int .u64 n] w fun e w' => ∃ v, e = .returned v ∧ OwnB w' w.heap.size v (bs ++ varL n) ∧ Below w.heap.size w w' := by
  obtain ⟨p, c, rfl⟩ := hb.len
  have HB := Lib.hid hb
  have hvl : (varL n).length ≤ 10 := varL_len 9 n (by omega)
  have HVL := Lib.hid hvl
  have hbl : (bs.length : Int) + 10 = ((bs.length + 10 : Nat) : Int) := by omega
  have HBL := Lib.hid hbl
  generalize hN : bs.length = N at *
  have HN := Lib.hid hN
  clear hb hvl hbl hN
  go_enter Tryz.func55, Tryz.ntmps55
  go_wp2_with (first
    | (at_make; refine wpList_make_bytes rfl _ _ rfl N (N + 10) rfl rfl rfl HBL.out (by omega) (by omega) ?_; intro w1 hbk hb1 hz1)
    | (refine wpList_copy_bytes rfl (.tmp 12) (.tmp 13) rfl w.heap.size (N + 10) (.slice p N c) bs (by rw [HN.out]; rfl) rfl (by rw [HN.out]; omega) (by unfold maxLen; omega) hbk (HB.out.mono hb1) w.heap.size (Nat.le_refl _) ?_; intro w2 ho2 hb2))
  have hw2 : Below w.heap.size w w2 := hb1.trans hb2
  have ho3 : OwnB w2 w.heap.size (.slice (some ⟨w.heap.size, 0, none⟩) N (N + 10)) bs := by have h := ho2; rw [HN.out] at h; exact h
  have hsz2 : w.heap.size ≤ w2.heap.size := hw2.size
  clear hbk hb1 hz1 ho2 hb2
  simp only [Act.put, List.setIfInBounds_toArray, List.set_cons_zero, List.set_cons_succ]
  go_loopg [1, 5] (n + 1) (fun g0 s1 s5 wr => ∃ (m : Nat) (cur : List UInt8), m ≤ n ∧ g0 = m + 1 ∧ s1 = .int .u64 (m : Int) ∧ OwnB wr w.heap.size s5 cur ∧ cur ++ varL m = bs ++ varL n ∧ Below w.heap.size w wr)
  case atStart => exact ⟨n, bs, Nat.le_refl _, rfl, rfl, ho3, rfl, hw2⟩
  case round =>
    obtain ⟨m, cur, hm, rfl, rfl, ho, he, hbw⟩ := hrel
    have HO := Lib.hid ho
    have HE := Lib.hid he
    have hcl : cur.length + (varL m).length ≤ N + 10 := by
      have := congrArg List.length he
      rw [List.length_append, List.length_append, HN.out] at this
      have := HVL.out
      omega
    have hbase := hbw.size
    clear ho he
    by_cases h1 : m < 128
    · have h1i : ¬ (127 : Int) < (m : Int) := by omega
      have HV := Lib.hid (varL_small h1)
      have hc1 : cur.length + 1 ≤ 100000000 := by omega
      have hw8 : IntKind.u8.wrap (m : Int) = ((UInt8.ofNat m).toNat : Int) := by rw [byte_nat (by omega)]; simp [IntKind.wrap, IntKind.bits, IntKind.signed]; omega
      go_wp2_with (first
        | (at_builtin; refine wpList_push_byte rfl _ _ rfl w.heap.size u5 cur (UInt8.ofNat m) rfl rfl HO.out rfl hc1 hbase ?_; intro v4 w4 ho4 hb4 _))
      go_ret
      exact ⟨_, rfl, by rw [← HE.out, HV.out]; exact ho4, hbw.trans hb4⟩
    · have h1i : (127 : Int) < (m : Int) := by omega
      have HV := Lib.hid (varL_big h1)
      have hc1 : cur.length + 1 ≤ 100000000 := by omega
      have hmod : IntKind.u8.wrap (m : Int) = ((m % 256 : Nat) : Int) := by simp [IntKind.wrap, IntKind.bits, IntKind.signed]
      have hor := or128 m
      have hcb : ((UInt8.ofNat (m % 128 + 128)).toNat : Int) = ((m % 128 + 128 : Nat) : Int) := byte_nat (by omega)
      have hdiv : (m : Int) / 128 = ((m / 128 : Nat) : Int) := by omega
      have hdm : m / 128 < m := by omega
      generalize hq : m / 128 = q at *
      generalize hr : m % 128 + 128 = r at *
      generalize m % 256 = r2 at *
      generalize UInt8.ofNat r = c1 at *
      clear hq hr
      rw [← hcb] at hor
      clear hcb
      go_wp2_with (first
        | (at_builtin; refine wpList_push_byte rfl _ _ rfl w.heap.size u5 cur c1 rfl rfl HO.out rfl hc1 hbase ?_; intro v4 w4 ho4 hb4 _))
      go_roundg (q + 1)
      case measure => omega
      case rel => exact ⟨q, cur ++ [c1], by omega, rfl, by go_num, ho4, by rw [← HE.out, HV.out, List.append_assoc]; rfl, hbw.trans hb4⟩

theorem beL_get : ∀ (k n j : Nat), j < k → (beL n k)[j]? = some (UInt8.ofNat (n / 256 ^ (k - 1 - j) % 256))
  | 0, n, j, h => absurd h (Nat.not_lt_zero _)
  | k + 1, n, j, h => by
    rw [beL]
    by_cases hj : j < k
    · rw [List.getElem?_append_left (by rw [beL_len]; exact hj), beL_get k (n / 256) j hj, Nat.div_div_eq_div_mul]
      congr 3
      rw [show k + 1 - 1 - j = (k - 1 - j) + 1 by omega, Nat.pow_succ, Nat.mul_comm]
    · have hjk : j = k := by omega
      subst hjk
      rw [List.getElem?_append_right (by rw [beL_len]; exact Nat.le_refl _), beL_len, Nat.sub_self, show j + 1 - 1 - j = 0 by omega, Nat.pow_zero, Nat.div_one]
      rfl

theorem beL_take {k n e : Nat} (h : e + 1 ≤ k) : (beL n k).take (k - e) = (beL n k).take (k - (e + 1)) ++ [UInt8.ofNat (n / 2 ^ (8 * e) % 256)] := by
  have h1 := beL_get k n (k - (e + 1)) (by omega)
  have h2 : k - e = (k - (e + 1)) + 1 := by omega
  rw [h2, List.take_add_one, h1, show k - 1 - (k - (e + 1)) = e by omega, Nat.pow_mul]
  rfl

set_option maxHeartbeats 8000000 in
theorem put_any (bs : List UInt8) (vb : Value) (n k : Nat) (w : World) (hb : HasE byteC w vb bs) (hn : n < 18446744073709551616) (hl : bs.length ≤ 1000000) (hk : k ≤ 8) :
    Calls Tryz.prog 56 #[vb, .int .u64 n, .int .i64 k] w fun e w' => ∃ v, e = .returned v ∧ OwnB w' w.heap.size v (bs ++ beL n k) ∧ Below w.heap.size w w' := by
  obtain ⟨p, c, rfl⟩ := hb.len
  have HB := Lib.hid hb
  have hbl : (bs.length : Int) + 8 = ((bs.length + 8 : Nat) : Int) := by omega
  have HBL := Lib.hid hbl
  generalize hN : bs.length = N at *
  have HN := Lib.hid hN
  have hk0 : ¬ (k : Int) < 0 := by omega
  have hk8 : (k : Int) ≤ 8 := by omega
  have HTK : RowKit.Hid (∀ e, e + 1 ≤ k → (beL n k).take (k - e) = (beL n k).take (k - (e + 1)) ++ [UInt8.ofNat (n / 2 ^ (8 * e) % 256)]) := Lib.hid fun e h => beL_take h
  have HT0 : RowKit.Hid ((beL n k).take (k - k) = []) := Lib.hid (by rw [Nat.sub_self]; rfl)
  have HTE : RowKit.Hid ((beL n k).take (k - 0) = beL n k) := Lib.hid (List.take_of_length_le (by rw [beL_len]; omega))
  have HLE : RowKit.Hid (∀ j, ((beL n k).take j).length ≤ 8) := Lib.hid fun j => by rw [List.length_take, beL_len]; omega
  generalize beL n k = X at *
  clear hb hbl hN
  go_enter Tryz.func56, Tryz.ntmps56
  go_wp2_with (first
    | (at_make; refine wpList_make_bytes rfl _ _ rfl N (N + 8) rfl rfl rfl HBL.out (by omega) (by omega) ?_; intro w1 hbk hb1 hz1)
    | (refine wpList_copy_bytes rfl (.tmp 15) (.tmp 16) rfl w.heap.size (N + 8) (.slice p N c) bs (by rw [HN.out]; rfl) rfl (by rw [HN.out]; omega) (by unfold maxLen; omega) hbk (HB.out.mono hb1) w.heap.size (Nat.le_refl _) ?_; intro w2 ho2 hb2))
  have hw2 : Below w.heap.size w w2 := hb1.trans hb2
  have ho3 : OwnB w2 w.heap.size (.slice (some ⟨w.heap.size, 0, none⟩) N (N + 8)) bs := by have h := ho2; rw [HN.out] at h; exact h
  clear hbk hb1 hz1 ho2 hb2
  go_loopg [7, 8] (k + 1) (fun g0 s7 s8 wr => ∃ (e : Nat) (i : Int), e ≤ k ∧ g0 = e + 1 ∧ i = (e : Int) - 1 ∧ s8 = .int .i64 i ∧ OwnB wr w.heap.size s7 (bs ++ X.take (k - e)) ∧ Below w.heap.size w wr)
  case atStart => exact ⟨k, _, Nat.le_refl _, rfl, rfl, rfl, by rw [HT0.out, List.append_nil]; exact ho3, hw2⟩
  case round =>
    obtain ⟨e, i, he, rfl, hi, rfl, ho, hbw⟩ := hrel
    have HO := Lib.hid ho
    have hbase := hbw.size
    clear ho
    cases e with
    | zero =>
      have hi2 : i = -1 := by omega
      subst hi2
      clear hi
      go_wp2
      go_ret
      exact ⟨_, rfl, by rw [← HTE.out]; exact HO.out, hbw⟩
    | succ e =>
      have hi2 : i = (e : Int) := by omega
      subst hi2
      have HT := Lib.hid (HTK.out e he)
      have hle := HLE.out (k - (e + 1))
      have hc1 : (bs ++ X.take (k - (e + 1))).length + 1 ≤ 100000000 := by rw [List.length_append, HN.out]; omega
      have hei : (0 : Int) ≤ (e : Int) := by omega
      have he8 : (8 : Int) * (e : Int) < 64 := by omega
      have hcb : ((UInt8.ofNat (n / 2 ^ (8 * e) % 256)).toNat : Int) = ((n / 2 ^ (8 * e) % 256 : Nat) : Int) := byte_nat (by omega)
      generalize UInt8.ofNat (n / 2 ^ (8 * e) % 256) = c1 at *
      have HCI : RowKit.Hid ((n : Int) / 2 ^ (8 * e) % 256 = (c1.toNat : Int)) := Lib.hid (by rw [hcb, Int.natCast_emod, Int.natCast_ediv, Int.natCast_pow]; rfl)
      clear hi hcb
      go_wp2_with (first
        | (at_builtin; refine wpList_push_byte rfl _ _ rfl w.heap.size u7 (bs ++ X.take (k - (e + 1))) c1 HCI.out rfl HO.out rfl hc1 hbase ?_; intro v4 w4 ho4 hb4 _))
      go_roundg (e + 1)
      case measure => omega
      case rel => exact ⟨e, (e : Int) - 1, by omega, rfl, rfl, by go_num, by rw [HT.out, ← List.append_assoc]; exact ho4, hbw.trans hb4⟩
end Go.Proofs.YtofomopmmopflaaGreatDoor
namespace Go.Proofs.YtofomopmmopflaaGreatDoor
open Go.RowKit Go.ChangeMaps
set_option linter.unusedSimpArgs false
set_option linter.unusedVariables false
set_option maxRecDepth 20000

theorem or_add {acc y m : Nat} (h : acc < 2 ^ m) : acc ||| y * 2 ^ m = acc + y * 2 ^ m := by
  have := Nat.two_pow_add_eq_or_of_lt h y
  rw [Nat.or_comm, Nat.mul_comm, ← this, Nat.add_comm]

theorem part_lt {y i : Nat} (hi : i ≤ 9) (h9 : i = 9 → y ≤ 1) (hy : y < 128) : y * 2 ^ (7 * i) < 18446744073709551616 ∧ 2 ^ (7 * i) ≤ 9223372036854775808 := by
  rcases Nat.lt_or_ge i 9 with h | h
  · have hp : 2 ^ (7 * i) ≤ 2 ^ 56 := Nat.pow_le_pow_right (by omega) (by omega)
    have hm : y * 2 ^ (7 * i) ≤ 127 * 2 ^ 56 := Nat.mul_le_mul (by omega) hp
    have e1 : (2 : Nat) ^ 56 = 72057594037927936 := by decide
    rw [e1] at hp hm
    omega
  · have : i = 9 := by omega
    subst this
    have := h9 rfl
    have e1 : (2 : Nat) ^ (7 * 9) = 9223372036854775808 := by decide
    rw [e1]
    have hm : y * 9223372036854775808 ≤ 1 * 9223372036854775808 := Nat.mul_le_mul this (Nat.le_refl _)
    omega

theorem shl_or {acc y i : Nat} (hi : i ≤ 9) (h9 : i = 9 → y ≤ 1) (hy : y < 128) (ha : acc < 2 ^ (7 * i)) :
    bits .or .u64 (acc : Int) (IntKind.u64.wrap ((y : Int) * 2 ^ (7 * i))) = ((acc + y * 2 ^ (7 * i) : Nat) : Int) := by
  obtain ⟨h1, h2⟩ := part_lt hi h9 hy
  have e1 : IntKind.u64.wrap ((y : Int) * 2 ^ (7 * i)) = ((y * 2 ^ (7 * i) : Nat) : Int) := by
    rw [IntKind.wrap_u64, Int.natCast_mul, Int.natCast_pow]
    have e : ((y : Int) * ((2 : Nat) : Int) ^ (7 * i)) = ((y * 2 ^ (7 * i) : Nat) : Int) := by rw [Int.natCast_mul, Int.natCast_pow]
    rw [show ((y : Int) * 2 ^ (7 * i)) = ((y : Int) * ((2 : Nat) : Int) ^ (7 * i)) from rfl, e]
    generalize y * 2 ^ (7 * i) = z at *
    omega
  rw [e1, u64_or_nat _ _ (by omega) h1, or_add ha]

theorem and127 (x : Nat) (h : x < 256) : bits .and .u8 (x : Int) 127 = ((x % 128 : Nat) : Int) := by
  rw [show (127 : Int) = ((127 : Nat) : Int) from rfl, u8_and_nat _ _ h (by omega)]
  congr 1
  exact Nat.and_two_pow_sub_one_eq_mod x 7

/-- What ReadVar tells. -/
def rvP (l : List UInt8) (e : Ending) : Prop :=
  (∃ n k : Nat, rvL 0 0 l = some (n, k) ∧ e = .returned (.tuple #[.int .u64 n, .int .i64 k, .int .i64 0])) ∨ (rvL 0 0 l = none ∧ ∃ z : Int, z ≠ 0 ∧ e = .returned (.tuple #[.int .u64 0, .int .i64 0, .int .i64 z]))

theorem rvL_bad {i acc : Nat} {x : UInt8} {t : List UInt8} (h : (i = 9 ∧ 1 < x.toNat) ∨ (0 < i ∧ x.toNat = 0)) : rvL i acc (x :: t) = none := by
  rw [rvL, if_pos h]
theorem rvL_end {i acc : Nat} {x : UInt8} {t : List UInt8} (h : ¬ ((i = 9 ∧ 1 < x.toNat) ∨ (0 < i ∧ x.toNat = 0))) (hx : x.toNat < 128) : rvL i acc (x :: t) = some (acc + x.toNat % 128 * 2 ^ (7 * i), i + 1) := by
  rw [rvL, if_neg h, if_pos hx]
theorem rvL_on {i acc : Nat} {x : UInt8} {t : List UInt8} (h : ¬ ((i = 9 ∧ 1 < x.toNat) ∨ (0 < i ∧ x.toNat = 0))) (hx : ¬ x.toNat < 128) : rvL i acc (x :: t) = rvL (i + 1) (acc + x.toNat % 128 * 2 ^ (7 * i)) t := by
  rw [rvL, if_neg h, if_neg hx]
theorem next_lt {acc y i : Nat} (ha : acc < 2 ^ (7 * i)) (hy : y < 128) : acc + y * 2 ^ (7 * i) < 2 ^ (7 * (i + 1)) := by
  have e : (2 : Nat) ^ (7 * (i + 1)) = 2 ^ (7 * i) * 128 := by rw [Nat.mul_succ, Nat.pow_add]
  rw [e]
  have : y * 2 ^ (7 * i) ≤ 127 * 2 ^ (7 * i) := Nat.mul_le_mul (by omega) (Nat.le_refl _)
  omega

set_option maxHeartbeats 8000000 in
theorem readVar_any (l : List UInt8) (v : Value) (w : World) (hv : HasE byteC w v l) (hl : l.length ≤ 1000000) :
    Calls Tryz.prog 67 #[v] w fun e w' => rvP l e ∧ w = w' := by
  obtain ⟨p, c, rfl⟩ := hv.len
  have HV := Lib.hid hv
  generalize hN : l.length = N at *
  have HN := Lib.hid hN
  clear hv hN
  go_enter Tryz.func67, Tryz.ntmps67
  go_wp2
  go_loopg [2, 9] N (fun g0 s2 s9 wr => ∃ i acc : Nat, i ≤ N ∧ i ≤ 9 ∧ g0 = N - i ∧ s2 = .int .u64 (acc : Int) ∧ s9 = .int .i64 (i : Int) ∧ acc < 2 ^ (7 * i) ∧ rvL 0 0 l = rvL i acc (l.drop i) ∧ w = wr)
  case atStart => exact ⟨0, 0, Nat.zero_le _, by omega, rfl, rfl, rfl, by decide, rfl, rfl⟩
  case round =>
    obtain ⟨i, acc, hi, hi9, rfl, rfl, rfl, hacc, hrv, rfl⟩ := hrel
    have HRV := Lib.hid hrv
    have HAC := Lib.hid hacc
    clear hrv hacc
    by_cases hlt : i < N
    · have hki : (i : Int) < (N : Int) := by omega
      have hk0 : (0 : Int) ≤ (i : Int) := by omega
      obtain ⟨b, off, rfl, c0⟩ := byte_at HV.out (i := i) (by rw [HN.out]; exact hlt)
      have hdr : l.drop i = l.getD i 0 :: l.drop (i + 1) := drop_cons l i (by rw [HN.out]; exact hlt)
      rw [hdr] at HRV
      have hx256 : (l.getD i 0).toNat < 256 := (l.getD i 0).toNat_lt
      have HBAD := Lib.hid fun h => HRV.out.trans (rvL_bad (i := i) (acc := acc) (x := l.getD i 0) (t := l.drop (i + 1)) h)
      have HEND := Lib.hid fun h h2 => HRV.out.trans (rvL_end (i := i) (acc := acc) (x := l.getD i 0) (t := l.drop (i + 1)) h h2)
      have HON := Lib.hid fun h h2 => HRV.out.trans (rvL_on (i := i) (acc := acc) (x := l.getD i 0) (t := l.drop (i + 1)) h h2)
      clear hdr HRV
      generalize l.getD i 0 = x at *
      have hand := and127 x.toNat hx256
      by_cases hbad : (i = 9 ∧ 1 < x.toNat) ∨ (0 < i ∧ x.toNat = 0)
      · have HF := Lib.hid (HBAD.out hbad)
        by_cases h9 : i = 9 ∧ 1 < x.toNat
        · have hb9 : ((i : Int) == 9) = true := by rw [beq_iff_eq]; omega
          have hx1 : (1 : Int) < (x.toNat : Int) := by omega
          clear hbad h9
          go_wp2
          go_ret3
          exact ⟨.inr ⟨HF.out, 4, by decide, rfl⟩, rfl⟩
        · have h0 : 0 < i ∧ x.toNat = 0 := by omega
          have hb9 : ((i : Int) == 9) = false ∨ ((i : Int) == 9) = true ∧ ¬ (1 : Int) < (x.toNat : Int) := by
            by_cases h : i = 9
            · right; exact ⟨by rw [beq_iff_eq]; omega, by omega⟩
            · left; rw [beq_eq_false_iff_ne]; omega
          have hi0 : (0 : Int) < (i : Int) := by omega
          have hx0 : ((x.toNat : Int) == 0) = true := by rw [beq_iff_eq]; omega
          clear hbad h9 h0
          rcases hb9 with hb9 | ⟨hb9, hx1⟩
          · go_wp2
            go_ret3
            exact ⟨.inr ⟨HF.out, 4, by decide, rfl⟩, rfl⟩
          · go_wp2
            go_ret3
            exact ⟨.inr ⟨HF.out, 4, by decide, rfl⟩, rfl⟩
      · have h9y : i = 9 → x.toNat % 128 ≤ 1 := fun h => by omega
        have HOR := Lib.hid (shl_or (y := x.toNat % 128) hi9 h9y (by omega) HAC.out)
        have hNB : (((i : Int) == 9) = false ∧ ¬ (0 : Int) < (i : Int)) ∨ (((i : Int) == 9) = false ∧ (0 : Int) < (i : Int) ∧ ((x.toNat : Int) == 0) = false) ∨ (((i : Int) == 9) = true ∧ ¬ (1 : Int) < (x.toNat : Int) ∧ (0 : Int) < (i : Int) ∧ ((x.toNat : Int) == 0) = false) := by
          by_cases h : i = 9
          · exact .inr (.inr ⟨by rw [beq_iff_eq]; omega, by omega, by omega, by rw [beq_eq_false_iff_ne]; omega⟩)
          · by_cases h0 : 0 < i
            · exact .inr (.inl ⟨by rw [beq_eq_false_iff_ne]; omega, by omega, by rw [beq_eq_false_iff_ne]; omega⟩)
            · exact .inl ⟨by rw [beq_eq_false_iff_ne]; omega, by omega⟩
        by_cases hx : x.toNat < 128
        · have hxi : (x.toNat : Int) < 128 := by omega
          have HF := Lib.hid (HEND.out hbad hx)
          have hor := HOR.out
          generalize acc + x.toNat % 128 * 2 ^ (7 * i) = res at *
          generalize hm : x.toNat % 128 = y at *
          have hy : y < 128 := by omega
          clear hbad h9y hx hm
          rcases hNB with ⟨hb9, hb0⟩ | ⟨hb9, hb0, hx0⟩ | ⟨hb9, hx1, hb0, hx0⟩
          all_goals
            go_wp2
            go_ret3
            exact ⟨.inl ⟨res, i + 1, HF.out, by rfl⟩, rfl⟩
        · have hxi : ¬ (x.toNat : Int) < 128 := by omega
          have HF := Lib.hid (HON.out hbad hx)
          have hi8 : i + 1 ≤ 9 := by omega
          have HNX := Lib.hid (next_lt (acc := acc) (y := x.toNat % 128) (i := i) HAC.out (by omega))
          have hor := HOR.out
          generalize acc + x.toNat % 128 * 2 ^ (7 * i) = res at *
          generalize hm : x.toNat % 128 = y at *
          have hy : y < 128 := by omega
          clear hbad h9y hx hm
          rcases hNB with ⟨hb9, hb0⟩ | ⟨hb9, hb0, hx0⟩ | ⟨hb9, hx1, hb0, hx0⟩
          · go_wp2
            go_roundg (N - (i + 1))
            case measure => omega
            case rel => exact ⟨i + 1, res, by omega, hi8, rfl, by rfl, by go_num, HNX.out, HF.out, rfl⟩
          · go_wp2
            go_roundg (N - (i + 1))
            case measure => omega
            case rel => exact ⟨i + 1, res, by omega, hi8, rfl, by rfl, by go_num, HNX.out, HF.out, rfl⟩
          · exfalso
            rw [beq_iff_eq] at hb9
            omega
    · have hie : i = N := by omega
      subst hie
      have hki : ¬ (i : Int) < (i : Int) := by omega
      have hd0 : l.drop i = [] := List.drop_eq_nil_of_le (by rw [HN.out]; omega)
      rw [hd0] at HRV
      have HF : RowKit.Hid (rvL 0 0 l = none) := Lib.hid HRV.out
      go_wp2
      go_ret3
      exact ⟨.inr ⟨HF.out, 5, by decide, rfl⟩, rfl⟩
end Go.Proofs.YtofomopmmopflaaGreatDoor
namespace Go.Proofs.YtofomopmmopflaaGreatDoor
open Go.RowKit Go.ChangeMaps
set_option linter.unusedSimpArgs false
set_option linter.unusedVariables false
set_option maxRecDepth 20000

theorem valB_take {l : List UInt8} {k : Nat} (h : k < l.length) : valB (l.take (k + 1)) = valB (l.take k) * 256 + (l.getD k 0).toNat := by
  unfold valB
  rw [List.take_succ_eq_append_getElem h, List.foldl_append]
  simp [List.getD, h]

theorem valB_lt : ∀ (l : List UInt8), valB l < 256 ^ l.length := by
  intro l
  have key : ∀ (l : List UInt8) (x m : Nat), x < 256 ^ m → l.foldl (fun x c => x * 256 + c.toNat) x < 256 ^ (m + l.length) := by
    intro l
    induction l with
    | nil => intro x m h; simpa using h
    | cons c t ih =>
      intro x m h
      rw [List.foldl_cons, List.length_cons, show m + (t.length + 1) = (m + 1) + t.length by omega]
      refine ih _ _ ?_
      have := c.toNat_lt
      rw [Nat.pow_succ]
      have h2 : x + 1 ≤ 256 ^ m := h
      have h3 : (x + 1) * 256 ≤ 256 ^ m * 256 := Nat.mul_le_mul h2 (Nat.le_refl _)
      omega
  have := key l 0 0 (by decide)
  rwa [Nat.zero_add] at this

theorem shl8_or {n x : Nat} (hn : n < 72057594037927936) (hx : x < 256) : bits .or .u64 (IntKind.u64.wrap ((n : Int) * 256)) (x : Int) = ((n * 256 + x : Nat) : Int) := by
  have e1 : IntKind.u64.wrap ((n : Int) * 256) = ((n * 256 : Nat) : Int) := by rw [IntKind.wrap_u64]; omega
  have h := or_add (acc := x) (y := n) (m := 8) hx
  rw [e1, u64_or_nat _ _ (by omega) (by omega), Nat.or_comm, show n * 256 = n * 2 ^ 8 from rfl, h]
  congr 1
  omega

set_option maxHeartbeats 8000000 in
theorem get_any (l : List UInt8) (v : Value) (k : Nat) (w : World) (hv : HasE byteC w v l) (hlk : l.length = k) (hk1 : 1 ≤ k) (hk4 : k ≤ 4) :
    Calls Tryz.prog 94 #[v, .int .i64 0, .int .i64 k] w fun e w' => e = .returned (.tuple #[.int .u64 (valB l : Nat), .int .i64 0]) ∧ w = w' := by
  have HV := Lib.hid hv
  rcases hv with ⟨p, c, rfl, rfl, _⟩ | ⟨b, off, c, rfl, h1, h2, _⟩
  · simp at hlk; omega
  have hki1 : ¬ (k : Int) < 1 := by omega
  have hki8 : ¬ (8 : Int) < (k : Int) := by omega
  have hkl : ¬ (k : Int) < (k : Int) := by omega
  have hk0 : (0 : Int) ≤ (k : Int) := by omega
  have hkc : (k : Int) ≤ (c : Int) := by omega
  have hb0 : ¬ (k : Int) - (k : Int) < 0 := by omega
  have HLK := Lib.hid hlk
  have HVB : RowKit.Hid (∀ j, valB (l.take j) < 72057594037927936) := Lib.hid fun j => by
    have h3 := valB_lt (l.take j)
    have h4 : (l.take j).length ≤ 4 := by rw [List.length_take]; omega
    have h5 : 256 ^ (l.take j).length ≤ 256 ^ 4 := Nat.pow_le_pow_right (by omega) h4
    have e : (256 : Nat) ^ 4 = 4294967296 := by decide
    omega
  rw [hlk]
  clear hlk
  go_enter Tryz.func94, Tryz.ntmps94
  go_wp2
  go_loopg [8, 40] k (fun g0 s8 s40 wr => ∃ j : Nat, j ≤ k ∧ g0 = k - j ∧ s8 = .int .u64 (valB (l.take j) : Nat) ∧ s40 = .int .i64 (j : Int) ∧ w = wr)
  case atStart => exact ⟨0, Nat.zero_le _, rfl, rfl, rfl, rfl⟩
  case round =>
    obtain ⟨j, hj, rfl, rfl, rfl, rfl⟩ := hrel
    by_cases hlt : j < k
    · have hji : (j : Int) < (k : Int) := by omega
      have hj0 : (0 : Int) ≤ (j : Int) := by omega
      obtain ⟨b', off', eb, c0⟩ := byte_at HV.out (i := j) (by rw [HLK.out]; exact hlt)
      simp at eb
      obtain ⟨rfl, rfl⟩ := eb
      have hx := (l.getD j 0).toNat_lt
      have HT := Lib.hid (valB_take (l := l) (k := j) (by rw [HLK.out]; exact hlt))
      have hor := shl8_or (HVB.out j) hx
      generalize l.getD j 0 = x at *
      generalize valB (l.take j) = n at *
      generalize hr : n * 256 + x.toNat = r at *
      have HR := Lib.hid hr
      clear hr
      go_wp2
      go_roundg (k - (j + 1))
      case measure => omega
      case rel => exact ⟨j + 1, by omega, rfl, by rw [HT.out], by go_num, rfl⟩
    · have hje : j = k := by omega
      subst hje
      have hji : ¬ (j : Int) < (j : Int) := by omega
      have HE : RowKit.Hid (valB (l.take j) = valB l) := Lib.hid (by rw [List.take_of_length_le (by rw [HLK.out]; exact Nat.le_refl _)])
      go_wp2
      go_ret2
      exact ⟨by rw [HE.out]; rfl, rfl⟩

theorem own_ne {w : World} {base k : Nat} {e : TypeId} {size : Nat} {v : Value} {n : Nat} {xs : List Value} (h : w.ownsRow base e size v n xs) (hk : k < base) : v.ownBlock = none ∨ v.ownBlock ≠ some k := by
  refine .inr fun e1 => ?_
  have := (World.ownsRow.lt h k e1).1
  omega

theorem ws_store {w w1 : World} {g : Nat} {v0 v1 : Value} {X : List UInt8} (hg : Blk w g 55 [v0]) (hb1 : Below w.heap.size w w1) (ho1 : OwnB w1 w.heap.size v1 X) :
    (∃ v', Blk (w1.setCell ⟨g, 0, none⟩ v1) g 55 [v'] ∧ OwnB (w1.setCell ⟨g, 0, none⟩ v1) w.heap.size v' X) ∧ w.grownBy (w1.setCell ⟨g, 0, none⟩ v1) (some g) :=
  ⟨⟨v1, (hg.mono hb1).set 0 v1, World.ownsRow.kept ho1 (gr_setCell1 (World.grownBy.refl _ _) 0 v1) (own_ne ho1 hg.lt)⟩, gr_setCell1 (gr_of_below hb1 _) 0 v1⟩

/-- What writing a number does. -/
theorem wnum_any (g : Nat) (v : Value) (bs : List UInt8) (n : Int) (w : World) (hg : Blk w g 55 [v]) (hv : HasE byteC w v bs) (hl : bs.length ≤ 1000000) (h0 : 0 ≤ n) (hn : n < 9223372036854775808) :
    Calls Tryz.prog 19 #[.pointer (some ⟨g, 0, none⟩), .int .i64 n] w fun e w' => e = .returned (.tuple #[]) ∧ (∃ v', Blk w' g 55 [v'] ∧ OwnB w' w.heap.size v' (bs ++ varL n.toNat)) ∧ w.grownBy w' (some g) := by
  obtain ⟨m, rfl⟩ := Int.eq_ofNat_of_zero_le h0
  have HC : RowKit.Hid (∀ W, HasE byteC W v bs → Calls Tryz.prog 55 #[v, .int .u64 (m : Int)] W fun e w' => ∃ v', e = .returned v' ∧ OwnB w' W.heap.size v' (bs ++ varL m) ∧ Below W.heap.size W w') := Lib.hid fun W h => var_any bs v m W h (by omega) hl
  have c0 : w.cell? ⟨g, 0, none⟩ = some v := (hg.cell 0).trans rfl
  have HG := Lib.hid hg
  have HV := Lib.hid hv
  have hgl := hg.lt
  obtain ⟨p, c, rfl⟩ := hv.len
  have hw : IntKind.u64.wrap (m : Int) = (m : Int) := by rw [IntKind.wrap_u64]; omega
  rw [Int.toNat_natCast]
  clear hv hn hl h0
  generalize bs ++ varL m = X at *
  go_enter Tryz.func19, Tryz.ntmps19
  go_wp2_with (first
    | (go_at_call 55; (with_reducible refine (HC.out _ HV.out).mono ?_); rintro e w1 ⟨v1, rfl, ho1, hb1⟩; obtain ⟨p1, c1, rfl⟩ := ho1.has.len; generalize X.length = nX at ho1 ⊢; have HO1 := Lib.hid ho1; clear ho1; have hc1 := cell_bel hb1 c0; have hfz := (HG.out.mono hb1).frozen 0))
  go_returns
  exact ⟨rfl, ws_store HG.out hb1 HO1.out⟩

theorem wbytes_any (g : Nat) (v : Value) (bs : List UInt8) (n : Int) (k : Nat) (w : World) (hg : Blk w g 55 [v]) (hv : HasE byteC w v bs) (hl : bs.length ≤ 1000000) (h0 : 0 ≤ n) (hn : n < 9223372036854775808) (hk : k ≤ 8) :
    Calls Tryz.prog 22 #[.pointer (some ⟨g, 0, none⟩), .int .i64 n, .int .i64 k] w fun e w' => e = .returned (.tuple #[]) ∧ (∃ v', Blk w' g 55 [v'] ∧ OwnB w' w.heap.size v' (bs ++ beL n.toNat k)) ∧ w.grownBy w' (some g) := by
  obtain ⟨m, rfl⟩ := Int.eq_ofNat_of_zero_le h0
  have HC : RowKit.Hid (∀ W, HasE byteC W v bs → Calls Tryz.prog 56 #[v, .int .u64 (m : Int), .int .i64 k] W fun e w' => ∃ v', e = .returned v' ∧ OwnB w' W.heap.size v' (bs ++ beL m k) ∧ Below W.heap.size W w') := Lib.hid fun W h => put_any bs v m k W h (by omega) hl hk
  have c0 : w.cell? ⟨g, 0, none⟩ = some v := (hg.cell 0).trans rfl
  have HG := Lib.hid hg
  have HV := Lib.hid hv
  have hgl := hg.lt
  obtain ⟨p, c, rfl⟩ := hv.len
  have hw : IntKind.u64.wrap (m : Int) = (m : Int) := by rw [IntKind.wrap_u64]; omega
  rw [Int.toNat_natCast]
  clear hv hn hl h0
  generalize bs ++ beL m k = X at *
  go_enter Tryz.func22, Tryz.ntmps22
  go_wp2_with (first
    | (go_at_call 56; (with_reducible refine (HC.out _ HV.out).mono ?_); rintro e w1 ⟨v1, rfl, ho1, hb1⟩; obtain ⟨p1, c1, rfl⟩ := ho1.has.len; generalize X.length = nX at ho1 ⊢; have HO1 := Lib.hid ho1; clear ho1; have hc1 := cell_bel hb1 c0; have hfz := (HG.out.mono hb1).frozen 0))
  go_returns
  exact ⟨rfl, ws_store HG.out hb1 HO1.out⟩

theorem numN_lt (x : Nat) : numN x < 308915776 := Nat.mod_lt _ (by decide)

theorem wloc_any (g : Nat) (v : Value) (bs : List UInt8) (s : ByteArray) (w : World) (hg : Blk w g 55 [v]) (hv : HasE byteC w v bs) (hl : bs.length ≤ 1000000) (hs : s.size ≤ maxLen) (hls : lettersS s.data.toList 6 6 = true) :
    Calls Tryz.prog 46 #[.pointer (some ⟨g, 0, none⟩), .string s] w fun e w' => e = .returned (.tuple #[]) ∧ (∃ v', Blk w' g 55 [v'] ∧ OwnB w' w.heap.size v' (bs ++ beL (numN (valL s.data.toList)) 4)) ∧ w.grownBy w' (some g) := by
  have HN : RowKit.Hid (∀ W, Calls Tryz.prog 77 #[.string s] W fun e w' => e = .returned (.tuple #[.int .i64 (numN (valL s.data.toList) : Nat), .bool true]) ∧ Below W.heap.size W w') := Lib.hid fun W => by
    have := lnum_any s W hs
    rw [hls, if_pos rfl] at this
    exact this
  have hlt := numN_lt (valL s.data.toList)
  generalize numN (valL s.data.toList) = m at *
  have HB : RowKit.Hid (∀ W, Blk W g 55 [v] → HasE byteC W v bs → Calls Tryz.prog 22 #[.pointer (some ⟨g, 0, none⟩), .int .i64 (m : Int), .int .i64 4] W fun e w' => e = .returned (.tuple #[]) ∧ (∃ v', Blk w' g 55 [v'] ∧ OwnB w' W.heap.size v' (bs ++ beL m 4)) ∧ W.grownBy w' (some g)) := Lib.hid fun W h1 h2 => by
    have := wbytes_any g v bs m 4 W h1 h2 hl (by omega) (by omega) (by omega)
    rw [Int.toNat_natCast] at this
    exact this
  have HG := Lib.hid hg
  have HV := Lib.hid hv
  have hgl := hg.lt
  clear hg hv hl hlt hls
  go_enter Tryz.func46, Tryz.ntmps46
  go_wp2_with (first
    | (go_at_call 77; (with_reducible refine (HN.out _).mono ?_); rintro e w1 ⟨rfl, hb1⟩)
    | (go_at_call 22; (with_reducible refine (HB.out _ (HG.out.mono hb1) (HV.out.mono hb1)).mono ?_); rintro e w2 ⟨rfl, ⟨v2, hg2, ho2⟩, hgr⟩))
  go_returns
  exact ⟨rfl, ⟨v2, hg2, ho2.low hb1.size⟩, gby_trans (gr_of_below hb1 _) hgr⟩
end Go.Proofs.YtofomopmmopflaaGreatDoor
namespace Go.Proofs.YtofomopmmopflaaGreatDoor
open Go.RowKit Go.ChangeMaps
set_option linter.unusedSimpArgs false
set_option linter.unusedVariables false
set_option maxRecDepth 20000

def toL (s : ByteArray) : List UInt8 := s.data.toList
theorem toL_inj {a b : ByteArray} (h : toL a = toL b) : a = b := bytes_inj h

/-- The bytes of a queue of texts. -/
def queueB (l : List ByteArray) : Option (List UInt8) := queueF (l.map toL)

/-- What is written of locators. -/
def locsB (l : List ByteArray) : List UInt8 := l.flatMap fun s => beL (numN (valL (toL s))) 4

theorem locsB_len : ∀ (l : List ByteArray), (locsB l).length = l.length * 4
  | [] => rfl
  | s :: l => by
    have ih := locsB_len l
    unfold locsB at ih ⊢
    rw [List.flatMap_cons, List.length_append, ih, beL_len, List.length_cons]
    omega

theorem nodup_toL {l : List ByteArray} : (l.map toL).Nodup ↔ l.Nodup := by
  constructor
  · intro h
    rw [List.nodup_iff_pairwise_ne] at h ⊢
    rw [List.pairwise_map] at h
    exact h.imp fun hab e => hab (by rw [e])
  · intro h
    rw [List.nodup_iff_pairwise_ne] at h ⊢
    rw [List.pairwise_map]
    exact h.imp fun hab e => hab (toL_inj e)

theorem queueB_yes {l : List ByteArray} (h1 : l.length ≤ 40) (h2 : ∀ s ∈ l, lettersS (toL s) 6 6 = true) (h3 : l.Nodup) : queueB l = some (81 :: varL l.length ++ locsB l) := by
  unfold queueB queueF
  rw [if_pos ⟨by rw [List.length_map]; exact h1, by rw [List.all_eq_true]; intro s hs; obtain ⟨t, ht, rfl⟩ := List.mem_map.1 hs; exact h2 t ht, nodup_toL.2 h3⟩]
  unfold locsB
  rw [List.length_map, List.flatMap_map]

theorem queueB_long {l : List ByteArray} (h : 40 < l.length) : queueB l = none := by
  unfold queueB queueF
  rw [if_neg (fun hh => by have := hh.1; rw [List.length_map] at this; omega)]

theorem queueB_bad {l : List ByteArray} {s : ByteArray} (hs : s ∈ l) (h : lettersS (toL s) 6 6 = false) : queueB l = none := by
  unfold queueB queueF
  rw [if_neg (fun hh => by
    have h2 := List.all_eq_true.1 hh.2.1 (toL s) (List.mem_map.2 ⟨s, hs, rfl⟩)
    rw [h] at h2
    cases h2)]

theorem queueB_twice {l : List ByteArray} (h : ¬ l.Nodup) : queueB l = none := by
  unfold queueB queueF
  rw [if_neg (fun hh => h (nodup_toL.1 hh.2.2))]

/-- Bytes, or ErrForm. -/
def byP (B : Nat) (o : Option (List UInt8)) (e : Ending) (w : World) : Prop :=
  (∃ bs v, o = some bs ∧ e = .returned (.tuple #[v, .int .i64 0]) ∧ OwnB w B v bs) ∨ (o = none ∧ e = .returned (.tuple #[.slice none 0 0, .int .i64 4]))

theorem own_map_ne {α β : Type} {K : α → Value} {V : β → Value} {ok : α → Prop} {w : World} {base m : Nat} {e : TypeId} {size n : Nat} {v : Value} {xs : List Value} {pl : List α} {f : α → β} (h : w.ownsRow base e size v n xs) (hm : MapG K V ok w m pl f) : v.ownBlock = none ∨ v.ownBlock ≠ some m := by
  refine .inr fun e1 => ?_
  obtain ⟨⟨es, clock, hb, _⟩, _⟩ := hm
  rcases h.2 with ⟨e2, _⟩ | ⟨gg, cap, cur, e2, _, h2, _⟩
  · rw [e2] at e1; cases e1
  · rw [e2] at e1
    injection e1 with e1
    have e3 : gg = m := e1
    rw [e3, hb] at h2
    cases h2

theorem lit_has (w : World) (c : UInt8) : HasE byteC (w.alloc (.cells #[.int .u8 c.toNat] 5)) (.slice (some ⟨w.heap.size, 0, none⟩) 1 1) [c] :=
  HasE.own (World.ownsRow_lit (size := 1) w #[.int .u8 c.toNat] 1 (Nat.zero_le _) (by decide) rfl)

theorem str_at {w : World} {p : Option Addr} {n c : Nat} {l : List ByteArray} (h : HasL w (.slice p n c) l) {i : Nat} (hi : i < l.length) : ∃ b off, p = some ⟨b, off, none⟩ ∧ w.cell? ⟨b, off + i, none⟩ = some (.string (l.getD i ByteArray.empty)) := by
  rcases h with ⟨p', c', e, rfl, _⟩ | ⟨b, off, c', e, _, _, h3⟩
  · simp at hi
  · injection e with e1 e2 e3
    exact ⟨b, off, e1, h3 i hi⟩

theorem nodup_take {l : List ByteArray} {i : Nat} (hi : i < l.length) (h : (l.take i).Nodup) (hn : l.getD i ByteArray.empty ∉ l.take i) : (l.take (i + 1)).Nodup := by
  have hg : l[i]? = some (l.getD i ByteArray.empty) := by rw [List.getD_eq_getElem?_getD, List.getElem?_eq_getElem hi]; rfl
  rw [List.take_add_one, hg]
  exact List.nodup_append.2 ⟨h, List.pairwise_singleton _ _, fun a ha b hb e => hn (by
    have : b = l.getD i ByteArray.empty := by simpa using hb
    rw [← this, ← e]; exact ha)⟩

theorem twice_take {l : List ByteArray} {i : Nat} (hi : i < l.length) (h : l.getD i ByteArray.empty ∈ l.take i) : ¬ l.Nodup := by
  intro hn
  have hg : l[i]? = some (l.getD i ByteArray.empty) := by rw [List.getD_eq_getElem?_getD, List.getElem?_eq_getElem hi]; rfl
  obtain ⟨j, hj, e⟩ := List.getElem_of_mem h
  rw [List.length_take] at hj
  have hj2 : l[j]? = some (l.getD i ByteArray.empty) := by
    rw [List.getElem?_eq_getElem (by omega)]
    rw [List.getElem_take] at e
    rw [e]
  have := (List.getElem?_inj (by omega : i < l.length) hn).1 (hg.trans hj2.symm)
  omega

theorem below_low {B0 : Nat} {a w w' : World} (h : Below B0 a w) (hB : B0 ≤ w.heap.size) (k : Below w.heap.size w w') : Below B0 a w' := h.trans (k.mono hB)

/-- A writer that was made, and a number into it. -/
theorem wnew_any (w : World) (c : UInt8) (ci : Int) (hci : ci = (c.toNat : Int)) (n : Int) (h0 : 0 ≤ n) (hn : n < 9223372036854775808) :
    Calls Tryz.prog 19 #[.pointer (some ⟨w.heap.size + 1, 0, none⟩), .int .i64 n] ((w.alloc (.cells #[.int .u8 ci] 5)).alloc (.cells #[.slice (some ⟨w.heap.size, 0, none⟩) 1 1] 55)) fun e w' =>
      e = .returned (.tuple #[]) ∧ ∃ v', Blk w' (w.heap.size + 1) 55 [v'] ∧ OwnB w' (w.heap.size + 2) v' (c :: varL n.toNat) ∧ Below w.heap.size w w' ∧ w.heap.size + 2 ≤ w'.heap.size := by
  subst hci
  have hz : (w.alloc (.cells #[.int .u8 c.toNat] 5)).heap.size = w.heap.size + 1 := by simp
  have hz2 : ((w.alloc (.cells #[.int .u8 c.toNat] 5)).alloc (.cells #[.slice (some ⟨w.heap.size, 0, none⟩) 1 1] 55)).heap.size = w.heap.size + 2 := by simp
  have hb2 : Below w.heap.size w ((w.alloc (.cells #[.int .u8 c.toNat] 5)).alloc (.cells #[.slice (some ⟨w.heap.size, 0, none⟩) 1 1] 55)) := ((Below.refl _ _).alloc (Nat.le_refl _) _).alloc (by simp) _
  have hg := Blk.new (w.alloc (.cells #[.int .u8 c.toNat] 5)) 55 [.slice (some ⟨w.heap.size, 0, none⟩) 1 1]
  rw [hz] at hg
  have hh := (lit_has w c).mono ((Below.refl _ _).alloc (Nat.le_refl _) (.cells #[.slice (some ⟨w.heap.size, 0, none⟩) 1 1] 55))
  refine (wnum_any (w.heap.size + 1) _ [c] n _ hg hh (by simp) h0 hn).mono ?_
  rintro e w' ⟨rfl, ⟨v', h1, h2⟩, h3⟩
  rw [hz2] at h2
  refine ⟨rfl, v', h1, h2, (hb2.grown h3 (by omega) fun k hk => by injection hk with hk; omega), by have := h3.size; omega⟩

set_option maxHeartbeats 16000000 in
theorem queue_any (v : Value) (l : List ByteArray) (w : World) (hv : HasL w v l) (hs : ∀ s ∈ l, s.size ≤ maxLen) :
    Calls Tryz.prog 14 #[v] w fun e w' => byP w.heap.size (queueB l) e w' ∧ Below w.heap.size w w' := by
  obtain ⟨p, c, rfl⟩ := own_len hv
  by_cases hlong : 40 < l.length
  · have hi : (40 : Int) < (l.length : Int) := by omega
    have HF := Lib.hid (queueB_long hlong)
    clear hv hlong
    go_enter Tryz.func14, Tryz.ntmps14
    go_wp2
    go_ret2
    exact ⟨.inr ⟨HF.out, rfl⟩, Below.refl _ _⟩
  have hi : ¬ (40 : Int) < (l.length : Int) := by omega
  have HV := Lib.hid hv
  have HS := Lib.hid hs
  have HYES : RowKit.Hid ((∀ s ∈ l, lettersS (toL s) 6 6 = true) → l.Nodup → queueB l = some (81 :: varL l.length ++ locsB l)) := Lib.hid fun h2 h3 => queueB_yes (by omega) h2 h3
  have HBAD : RowKit.Hid (∀ s ∈ l, lettersS (toL s) 6 6 = false → queueB l = none) := Lib.hid fun s h1 h2 => queueB_bad h1 h2
  have HTW : RowKit.Hid (¬ l.Nodup → queueB l = none) := Lib.hid queueB_twice
  have hvl : (varL l.length).length ≤ 1 := by rw [varL_small (by omega)]; exact Nat.le_refl _
  have HVL := Lib.hid hvl
  generalize queueB l = qb at *
  have hn40 : l.length ≤ 40 := by omega
  generalize hN : l.length = N at *
  have HN := Lib.hid hN
  have HNEW : RowKit.Hid (Calls Tryz.prog 19 #[.pointer (some ⟨w.heap.size + 1, 0, none⟩), .int .i64 N] ((w.alloc (.cells #[.int .u8 81] 5)).alloc (.cells #[.slice (some ⟨w.heap.size, 0, none⟩) 1 1] 55)) fun e w' =>
      e = .returned (.tuple #[]) ∧ ∃ v', Blk w' (w.heap.size + 1) 55 [v'] ∧ OwnB w' (w.heap.size + 2) v' (81 :: varL N) ∧ Below w.heap.size w w' ∧ w.heap.size + 2 ≤ w'.heap.size) := Lib.hid (by
    have := wnew_any w 81 81 rfl (N : Int) (by omega) (by omega)
    rw [Int.toNat_natCast] at this
    exact this)
  clear hv hs hlong hvl hN
  go_enter Tryz.func14, Tryz.ntmps14
  go_upto_region 5 with (first
    | (go_at_call 19; (with_reducible refine HNEW.out.mono ?_); rintro e w2 ⟨rfl, v2, hg2, ho2, hb2, hz2⟩))
  have HMAP : RowKit.Hid (MapG txtK (fun n : Int => .int .i64 n) (fun s => s.size ≤ maxLen) (w2.alloc (.map #[] 0)) w2.heap.size (l.take 0) (fun _ => (1 : Int))) := Lib.hid (MapG.made w2 _)
  have hgr0 : w2.grownBy (w2.alloc (.map #[] 0)) none := World.grownBy_alloc w2 _ none
  have hgA := hg2.alloc (.map #[] 0)
  have hoA : OwnB (w2.alloc (.map #[] 0)) (w.heap.size + 2) v2 (81 :: varL N ++ locsB (l.take 0)) := by
    have : (81 :: varL N ++ locsB (l.take 0)) = 81 :: varL N := by simp [locsB]
    rw [this]
    exact World.ownsRow.alloc ho2 _
  have hbA : Below w.heap.size w (w2.alloc (.map #[] 0)) := hb2.alloc hb2.size _
  have hzA : w.heap.size + 2 ≤ (w2.alloc (.map #[] 0)).heap.size := by simp; omega
  clear hgr0 ho2 hg2 hb2
  have hmk : ∀ W, (Instr.makeMap 101 none).run Tryz.prog W = .ok (.map (some W.heap.size)) (W.alloc (.map #[] 0)) := fun W => run_makeMap _ W
  have hzero : ∀ W, (zeroValue 3).run Tryz.prog W = .ok (.int .i64 0) W := fun W => by kernel_rfl
  have HZERO := Lib.hid hzero
  clear hzero
  go_wp2
  generalize w2.alloc (.map #[] 0) = wA at *
  have hmz : w.heap.size + 2 ≤ w2.heap.size := hz2
  generalize w2.heap.size = m at *
  clear hmk
  go_loopg [21] N (fun g0 s21 wr => ∃ (i : Nat) (v' : Value), i ≤ N ∧ g0 = N - i ∧ s21 = .int .i64 (i : Int) ∧ Blk wr (w.heap.size + 1) 55 [v'] ∧ OwnB wr (w.heap.size + 2) v' (81 :: varL N ++ locsB (l.take i)) ∧ MapG txtK (fun n : Int => .int .i64 n) (fun s => s.size ≤ maxLen) wr m (l.take i) (fun _ => (1 : Int)) ∧ (∀ s ∈ l.take i, lettersS (toL s) 6 6 = true) ∧ (l.take i).Nodup ∧ Below w.heap.size w wr ∧ w.heap.size + 2 ≤ wr.heap.size)
  case atStart => exact ⟨0, v2, Nat.zero_le _, rfl, rfl, hgA, hoA, HMAP.out, (fun s h => by cases h), List.nodup_nil, hbA, hzA⟩
  case round =>
    obtain ⟨i, v', hiN, rfl, rfl, hg, ho, hmap, hall, hnd, hbw, hz⟩ := hrel
    have HG := Lib.hid hg
    have HO := Lib.hid ho
    have HM := Lib.hid hmap
    have HALL := Lib.hid hall
    have HND := Lib.hid hnd
    clear hg ho hmap hall hnd
    by_cases hlt : i < N
    · have hii : (i : Int) < (N : Int) := by omega
      have hi0 : (0 : Int) ≤ (i : Int) := by omega
      have hlN : i < l.length := by rw [HN.out]; exact hlt
      obtain ⟨bb, off, rfl, c0⟩ := str_at (HV.out.mono hbw) hlN
      have hmem : l.getD i ByteArray.empty ∈ l := List.mem_of_getElem? (by rw [List.getD_eq_getElem?_getD, List.getElem?_eq_getElem hlN]; rfl : l[i]? = some (l.getD i ByteArray.empty))
      have hsz := HS.out _ hmem
      have HTWk := Lib.hid fun h => HTW.out (twice_take hlN h)
      have HBADk := Lib.hid (HBAD.out _ hmem)
      have HNDk := Lib.hid fun h => nodup_take hlN HND.out h
      have HTK : RowKit.Hid (l.take (i + 1) = l.take i ++ [l.getD i ByteArray.empty]) := Lib.hid (by
        have hg : l[i]? = some (l.getD i ByteArray.empty) := by rw [List.getD_eq_getElem?_getD, List.getElem?_eq_getElem hlN]; rfl
        rw [List.take_add_one, hg]; rfl)
      clear hmem
      generalize l.getD i ByteArray.empty = s at *
      have HLOC : RowKit.Hid (∀ W, Calls Tryz.prog 45 #[.string s] W fun e w' => e = .returned (.bool (lettersS (toL s) 6 6)) ∧ Below W.heap.size W w') := Lib.hid fun W => locator_any s W hsz
      by_cases hin : s ∈ l.take i
      · have HF := Lib.hid (HTWk.out hin)
        have hlk : (Instr.lookup 101 (.map (some m)) (.string s) false).run Tryz.prog wr = .ok (.int .i64 1) wr := by
          rcases HM.out.look txt_keyK Tryz.underlying101 (HZERO.out wr) false s hsz with ⟨_, h2⟩ | ⟨h1, _⟩
          · exact h2
          · exact absurd hin h1
        have HIN := Lib.hid hin
        have HPUT := Lib.hid (HM.out.set txt_keyK Tryz.underlying101 s (2 : Int) hin)
        clear hin
        go_upto_region 10 with (first
          | (refine wpList_putG rfl (.tmp 25) (.tmp 26) (.tmp 28) rfl (.string s) (.int .i64 2) rfl rfl rfl HPUT.out ?_; intro w9 ⟨hm9, hg9, hz9⟩))
        have hb9 : Below w.heap.size w w9 := hbw.grown hg9 (by omega) fun k hk => by injection hk with hk; omega
        have HLK : RowKit.Hid (∀ W, Below w9.heap.size w9 W → (Instr.lookup 101 (.map (some m)) (.string s) false).run Tryz.prog W = .ok (.int .i64 2) W) := Lib.hid fun W h => by
          rcases (hm9.mono h).look txt_keyK Tryz.underlying101 (HZERO.out W) false s hsz with ⟨_, h2⟩ | ⟨h1, _⟩
          · rw [show setG (fun _ => (1 : Int)) s 2 s = 2 from if_pos rfl] at h2
            exact h2
          · exact absurd HIN.out h1
        clear hlk hm9
        cases hL : lettersS (toL s) 6 6 with
        | false =>
          rw [hL] at HLOC
          go_wp2_with (first
            | (go_at_call 45; (with_reducible refine (HLOC.out _).mono ?_); rintro e w10 ⟨rfl, hb10⟩))
          go_ret2
          exact ⟨.inr ⟨HF.out, rfl⟩, below_low hb9 hb9.size hb10⟩
        | true =>
          rw [hL] at HLOC
          go_wp2_with (first
            | (go_at_call 45; (with_reducible refine (HLOC.out _).mono ?_); rintro e w10 ⟨rfl, hb10⟩; have hl2 := HLK.out w10 hb10))
          go_ret2
          exact ⟨.inr ⟨HF.out, rfl⟩, below_low hb9 hb9.size hb10⟩
      · have hlk : (Instr.lookup 101 (.map (some m)) (.string s) false).run Tryz.prog wr = .ok (.int .i64 0) wr := by
          rcases HM.out.look txt_keyK Tryz.underlying101 (HZERO.out wr) false s hsz with ⟨h1, _⟩ | ⟨_, h2⟩
          · exact absurd h1 hin
          · exact h2
        have HPUT := Lib.hid (HM.out.add txt_keyK Tryz.underlying101 s (1 : Int) hsz hin)
        have HND2 := Lib.hid (HNDk.out hin)
        clear hin
        go_upto_region 10 with (first
          | (refine wpList_putG rfl (.tmp 25) (.tmp 26) (.tmp 28) rfl (.string s) (.int .i64 1) rfl rfl rfl HPUT.out ?_; intro w9 ⟨hm9, hg9, hz9⟩))
        have hb9 : Below w.heap.size w w9 := hbw.grown hg9 (by omega) fun k hk => by injection hk with hk; omega
        have hfe : setG (fun _ => (1 : Int)) s 1 = fun _ => (1 : Int) := funext fun x => by unfold setG; split <;> rfl
        rw [hfe, ← HTK.out] at hm9
        have HM9 := Lib.hid hm9
        have HG9 := Lib.hid (HG.out.far hg9 (fun e => by injection e with e; omega))
        have HO9 : RowKit.Hid (OwnB w9 (w.heap.size + 2) v' (81 :: varL N ++ locsB (l.take i))) := Lib.hid (World.ownsRow.kept HO.out hg9 (own_map_ne HO.out HM.out))
        have HLK : RowKit.Hid (∀ W, Below w9.heap.size w9 W → (Instr.lookup 101 (.map (some m)) (.string s) false).run Tryz.prog W = .ok (.int .i64 1) W) := Lib.hid fun W h => by
          rcases (HM9.out.mono h).look txt_keyK Tryz.underlying101 (HZERO.out W) false s hsz with ⟨_, h2⟩ | ⟨h1, _⟩
          · exact h2
          · exact absurd (by rw [HTK.out]; simp) h1
        clear hlk hm9 hfe
        cases hL : lettersS (toL s) 6 6 with
        | false =>
          have HF := Lib.hid (HBADk.out hL)
          rw [hL] at HLOC
          go_wp2_with (first
            | (go_at_call 45; (with_reducible refine (HLOC.out _).mono ?_); rintro e w10 ⟨rfl, hb10⟩))
          go_ret2
          exact ⟨.inr ⟨HF.out, rfl⟩, below_low hb9 hb9.size hb10⟩
        | true =>
          rw [hL] at HLOC
          have HXL : RowKit.Hid ((81 :: varL N ++ locsB (l.take i)).length ≤ 1000000) := Lib.hid (by
            have h1 := locsB_len (l.take i)
            rw [List.length_append, List.length_cons, h1, List.length_take]
            have := HVL.out
            omega)
          have HWL : RowKit.Hid (∀ W, Below w9.heap.size w9 W → Calls Tryz.prog 46 #[.pointer (some ⟨w.heap.size + 1, 0, none⟩), .string s] W fun e w' => e = .returned (.tuple #[]) ∧ (∃ v', Blk w' (w.heap.size + 1) 55 [v'] ∧ OwnB w' W.heap.size v' (81 :: varL N ++ locsB (l.take (i + 1)))) ∧ W.grownBy w' (some (w.heap.size + 1))) := Lib.hid fun W h => by
            have := wloc_any (w.heap.size + 1) v' _ s W (HG9.out.mono h) (HO9.out.has.mono h) HXL.out hsz hL
            rw [HTK.out]
            unfold locsB at this ⊢
            rw [List.flatMap_append, ← List.append_assoc]
            have e : [s].flatMap (fun s => beL (numN (valL (toL s))) 4) = beL (numN (valL s.data.toList)) 4 := by simp [toL]
            rw [e]
            exact this
          have HL2 := Lib.hid hL
          clear hL
          go_wp2_with (first
            | (go_at_call 45; (with_reducible refine (HLOC.out _).mono ?_); rintro e w10 ⟨rfl, hb10⟩; have hl2 := HLK.out w10 hb10)
            | (go_at_call 46; (with_reducible refine (HWL.out _ hb10).mono ?_); rintro e w11 ⟨rfl, ⟨v11, hg11, ho11⟩, hgr11⟩))
          have hb1 := below_low hb9 hb9.size hb10
          have hs10 := hb10.size
          have hs11 := hgr11.size
          have hm11 := (HM9.out.mono hb10).kept hgr11 (fun e => by injection e with e; omega)
          go_roundg (N - (i + 1))
          case measure => omega
          case rel => exact ⟨i + 1, v11, by omega, rfl, by go_num, hg11, ho11.low (by omega), hm11, (fun t ht => by
            rw [HTK.out] at ht
            rcases List.mem_append.1 ht with h1 | h1
            · exact HALL.out t h1
            · rw [List.mem_singleton.1 h1]; exact HL2.out), HND2.out, hb1.grown hgr11 hb1.size (fun k hk => by injection hk with hk; omega), by omega⟩
    · have hie : i = N := by omega
      subst hie
      have hii : ¬ (i : Int) < (i : Int) := by omega
      have htk : l.take i = l := List.take_of_length_le (by rw [HN.out]; exact Nat.le_refl _)
      rw [htk] at HO HALL HND
      have HF := Lib.hid (HYES.out HALL.out HND.out)
      have c0 : wr.cell? ⟨w.heap.size + 1, 0, none⟩ = some v' := (HG.out.cell 0).trans rfl
      clear htk
      obtain ⟨p9, c9, e9⟩ := HO.out.has.len
      subst e9
      generalize (81 :: varL i ++ locsB l).length = nX at HO HG c0 ⊢
      go_wp2
      go_ret2
      exact ⟨.inl ⟨_, _, HF.out, rfl, HO.out.low (by omega)⟩, hbw⟩
end Go.Proofs.YtofomopmmopflaaGreatDoor
namespace Go.Proofs.YtofomopmmopflaaGreatDoor
open Go.RowKit Go.ChangeMaps
set_option linter.unusedSimpArgs false
set_option linter.unusedVariables false
set_option maxRecDepth 20000

theorem split_yes (n : Int) (w : World) (h1 : 0 ≤ n) (h2 : n < 527040) :
    Calls Tryz.prog 39 #[.int .i64 n] w fun e w' => e = .returned (.tuple #[.int .i64 (n / 1440), .int .i64 (n % 1440), .int .i64 0]) ∧ w = w' := by
  go_enter Tryz.func39, Tryz.ntmps39
  go_wp2
  go_ret3
  exact ⟨rfl, rfl⟩

theorem split_no (n : Int) (w : World) (h : n < 0 ∨ 527040 ≤ n) :
    Calls Tryz.prog 39 #[.int .i64 n] w fun e w' => e = .returned (.tuple #[.int .i64 0, .int .i64 0, .int .i64 1]) ∧ w = w' := by
  rcases h with h | h
  · go_enter Tryz.func39, Tryz.ntmps39; go_wp2; go_ret3; exact ⟨rfl, rfl⟩
  · have h2 : ¬ n < 0 := by omega
    go_enter Tryz.func39, Tryz.ntmps39; go_wp2; go_ret3; exact ⟨rfl, rfl⟩

theorem count_boxed (w : World) (a b : Int) : ∃ w1, w.alloc (.cells #[.int .i64 a, .int .i64 b] 50) = w1 ∧ w1.cell? ⟨w.heap.size, 0, none⟩ = some (.int .i64 a) ∧ w1.cell? ⟨w.heap.size, 1, none⟩ = some (.int .i64 b) ∧ Below w.heap.size w w1 ∧ w1.heap.size = w.heap.size + 1 :=
  ⟨_, rfl, World.cell?_alloc_new _ _ _ _, World.cell?_alloc_new _ _ _ _, (Below.refl _ _).alloc (Nat.le_refl _) _, by simp⟩

theorem countF_yes {a b : Int} (h : 0 ≤ a ∧ a ≤ 308915776 ∧ 0 ≤ b ∧ b < 527040) : countF a b = some (67 :: varL a.toNat ++ varL b.toNat) := if_pos h
theorem countF_no {a b : Int} (h : ¬ (0 ≤ a ∧ a ≤ 308915776 ∧ 0 ≤ b ∧ b < 527040)) : countF a b = none := if_neg h

set_option maxHeartbeats 8000000 in
theorem ofCount_any (a b : Int) (w : World) :
    Calls Tryz.prog 15 #[.agg #[.int .i64 a, .int .i64 b]] w fun e w' => byP w.heap.size (countF a b) e w' ∧ Below w.heap.size w w' := by
  obtain ⟨w1, e1, k0, k1, kb, kz⟩ := count_boxed w a b
  have HB := Lib.hid kb
  by_cases hb : b < 0 ∨ 527040 ≤ b
  · have HF := Lib.hid (countF_no (a := a) (b := b) (by omega))
    have HS := Lib.hid fun W => split_no b W hb
    clear hb kb kz
    go_enter Tryz.func15, Tryz.ntmps15
    go_wp2_with (first
      | (go_at_call 39; (with_reducible refine (HS.out _).mono ?_); rintro e w2 ⟨rfl, rfl⟩))
    go_ret2
    exact ⟨.inr ⟨HF.out, rfl⟩, HB.out⟩
  · have hb0 : 0 ≤ b := by omega
    have hb1 : b < 527040 := by omega
    have HS := Lib.hid fun W => split_yes b W hb0 hb1
    by_cases ha0 : a < 0
    · have HF := Lib.hid (countF_no (a := a) (b := b) (by omega))
      clear hb kb kz hb0 hb1
      go_enter Tryz.func15, Tryz.ntmps15
      go_wp2_with (first
        | (go_at_call 39; (with_reducible refine (HS.out _).mono ?_); rintro e w2 ⟨rfl, rfl⟩))
      go_ret2
      exact ⟨.inr ⟨HF.out, rfl⟩, HB.out⟩
    · by_cases ha1 : 308915776 < a
      · have HF := Lib.hid (countF_no (a := a) (b := b) (by omega))
        clear hb kb kz hb0 hb1
        go_enter Tryz.func15, Tryz.ntmps15
        go_wp2_with (first
          | (go_at_call 39; (with_reducible refine (HS.out _).mono ?_); rintro e w2 ⟨rfl, rfl⟩))
        go_ret2
        exact ⟨.inr ⟨HF.out, rfl⟩, HB.out⟩
      · have HF := Lib.hid (countF_yes (a := a) (b := b) ⟨by omega, by omega, hb0, hb1⟩)
        have HNEW : RowKit.Hid (Calls Tryz.prog 19 #[.pointer (some ⟨w1.heap.size + 1, 0, none⟩), .int .i64 a] ((w1.alloc (.cells #[.int .u8 67] 5)).alloc (.cells #[.slice (some ⟨w1.heap.size, 0, none⟩) 1 1] 55)) fun e w' =>
            e = .returned (.tuple #[]) ∧ ∃ v', Blk w' (w1.heap.size + 1) 55 [v'] ∧ OwnB w' (w1.heap.size + 2) v' (67 :: varL a.toNat) ∧ Below w1.heap.size w1 w' ∧ w1.heap.size + 2 ≤ w'.heap.size) := Lib.hid (wnew_any w1 67 67 rfl a (by omega) (by omega))
        have hvl : (varL a.toNat).length ≤ 10 := varL_len 9 _ (by omega)
        have HN2 : RowKit.Hid (∀ W v', Blk W (w1.heap.size + 1) 55 [v'] → HasE byteC W v' (67 :: varL a.toNat) → Calls Tryz.prog 19 #[.pointer (some ⟨w1.heap.size + 1, 0, none⟩), .int .i64 b] W fun e w' => e = .returned (.tuple #[]) ∧ (∃ v', Blk w' (w1.heap.size + 1) 55 [v'] ∧ OwnB w' W.heap.size v' (67 :: varL a.toNat ++ varL b.toNat)) ∧ W.grownBy w' (some (w1.heap.size + 1))) := Lib.hid fun W v' h1 h2 => wnum_any (w1.heap.size + 1) v' _ b W h1 h2 (by rw [List.length_cons]; omega) hb0 (by omega)
        have k02 : ((w1.alloc (.cells #[.int .u8 67] 5)).alloc (.cells #[.slice (some ⟨w1.heap.size, 0, none⟩) 1 1] 55)).cell? ⟨w.heap.size, 0, none⟩ = some (.int .i64 a) := cell_bel (((Below.refl _ _).alloc (Nat.le_refl _) _).alloc (by simp) _) k0
        generalize varL a.toNat = va at *
        generalize 67 :: va ++ varL b.toNat = X at *
        generalize va.length = la at *
        have HKZ := Lib.hid kz
        clear hb kb hb0 hb1 hvl kz
        go_enter Tryz.func15, Tryz.ntmps15
        go_wp2_with (first
          | (go_at_call 39; (with_reducible refine (HS.out _).mono ?_); rintro e w2 ⟨rfl, rfl⟩)
          | (go_at_call 19; (with_reducible refine HNEW.out.mono ?_); rintro e w3 ⟨rfl, v3, hg3, ho3, hb3, hz3⟩; have k13 := cell_bel hb3 k1)
          | (go_at_call 19; (with_reducible refine (HN2.out _ _ hg3 ho3.has).mono ?_); rintro e w4 ⟨rfl, ⟨v4, hg4, ho4⟩, hgr4⟩; have k4 := (hg4.cell 0).trans rfl; obtain ⟨p4, c4, rfl⟩ := ho4.has.len; generalize X.length = nX at ho4 hg4 k4 ⊢))
        go_ret2
        refine ⟨.inl ⟨_, _, HF.out, rfl, ho4.low ?_⟩, ?_⟩
        · have := hb3.size; have := HKZ.out; omega
        · have h1 := bel_trans HB.out hb3
          refine h1.grown hgr4 h1.size fun k hk => ?_
          injection hk with hk
          have := HKZ.out
          omega
end Go.Proofs.YtofomopmmopflaaGreatDoor
