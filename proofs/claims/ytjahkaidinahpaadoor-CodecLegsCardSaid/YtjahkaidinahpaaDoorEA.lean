/- Small laws: strings, bytes, slices of texts; SameTexts. -/
import Derived.Test.YtjahkaidinahpaaDoorRows
import Derived.WalkKit
import Derived.WalkSpells
import Derived.WalkLawsBesides
import Derived.Lib.ConvBytes
import Derived.Lib.Hide
import Derived.Lib.SliceRun
import Derived.IntWalk
import Derived.BigQuiet
import Derived.Deep.QuietTactic
import Derived.Deep.RegionWith
import Derived.Deep.RegionHeld3
import Derived.Deep.LoopGhost
import Derived.Deep.CutRange
import Derived.Deep.CutBlock
import Derived.Deep.MidRow
import Derived.Laws.OwnMore
import Derived.OwnWalk
import Derived.Laws.AppendOwnNone
namespace Go.Proofs.YtjahkaidinahpaaDoor
open Go.RowKit

theorem ret_bool {a b : Bool} (h : a = b) : Ending.returned (.bool a) = .returned (.bool b) := by rw [h]

theorem ret_int {k : IntKind} {a b : Int} (h : a = b) : Ending.returned (.int k a) = .returned (.int k b) := by rw [h]

theorem ret_str {a b : ByteArray} (h : a.data.toList = b.data.toList) : Ending.returned (.string a) = .returned (.string b) := by
  have : a = b := by
    obtain ⟨⟨a⟩⟩ := a; obtain ⟨⟨b⟩⟩ := b
    simp at h; rw [h]
  rw [this]

theorem byte_hi (b : UInt8) : (b.toNat : Int) ≤ 255 := by have := b.toNat_lt; omega

/-- What the walk knows behind '[]byte(s)'. -/
theorem bytes_conv (s : ByteArray) (w : World) : ∃ w1 : World, ∃ cap : Nat, (convert 9 48 (.string s)).run Tryd.prog w = .ok (.slice (some ⟨w.heap.size, 0, none⟩) s.size cap) w1 ∧
    Below w.heap.size w w1 ∧ w1.heap.size = w.heap.size + 1 ∧ ∀ j, j < s.size → w1.cell? ⟨w.heap.size, j, none⟩ = some (.int .u8 (s.data.toList.getD j 0).toNat) := by
  refine ⟨_, _, Lib.run_convert_string_bytes (P := Tryd.prog) w 9 48 5 s Tryd.underlying9 Tryd.underlying48 Tryd.underlying5, ?_, Lib.bytesWorld_size _ _ _, fun j hj => Lib.bytesWorld_cell _ _ _ _ hj⟩
  exact ⟨rfl, rfl, rfl, by rw [Lib.bytesWorld_size]; omega, fun i hi => Lib.bytesWorld_at_old _ _ _ _ hi⟩

theorem below_drewN {B : Nat} {a w : World} (h : Below B a w) (n : Nat) : Below B a (w.drewN n) := ⟨h.os, h.tape, h.output, h.size, h.block⟩

theorem bel_trans {w w1 w2 : World} (h : Below w.heap.size w w1) (k : Below w1.heap.size w1 w2) : Below w.heap.size w w2 := h.trans (k.mono h.size)

theorem drop_cons (l : List UInt8) (k : Nat) (h : k < l.length) : l.drop k = l.getD k 0 :: l.drop (k + 1) := by
  rw [List.drop_eq_getElem_cons h]; simp [List.getD, h]

/-- 'string(b)' where b's cells are the bytes l. -/
theorem string_conv (l : List UInt8) (w : World) (b n cap : Nat) (hn : l.length = n) (hc : ∀ j, j < n → w.cell? ⟨b, j, none⟩ = some (.int .u8 ((l.getD j 0).toNat : Int))) :
    (convert 48 9 (.slice (some ⟨b, 0, none⟩) n cap)).run Tryd.prog w = .ok (.string ⟨l.toArray⟩) w := by
  subst hn
  refine run_convert_bytes_back (P := Tryd.prog) w 48 9 5 ⟨b, 0, none⟩ cap l Tryd.underlying48 Tryd.underlying5 Tryd.underlying9 fun j hj => ?_
  have := hc j hj
  simp [List.getD, hj] at this
  have e : (⟨b, 0, none⟩ : Addr).add j = ⟨b, j, none⟩ := by simp [Addr.add]; omega
  rw [e]
  exact this

theorem bytes_inj {a b : ByteArray} (h : a.data.toList = b.data.toList) : a = b := by
  obtain ⟨⟨a⟩⟩ := a; obtain ⟨⟨b⟩⟩ := b
  simp at h; rw [h]

theorem toList_inj {a b : ByteArray} (h : a.toList = b.toList) : a = b := by
  rw [ByteArray.toList_eq, ByteArray.toList_eq] at h
  obtain ⟨⟨a⟩⟩ := a; obtain ⟨⟨b⟩⟩ := b
  simp at h; rw [h]

theorem get_list (s : ByteArray) (k : Nat) (h : k < s.size) : s[k] = s.data.toList.getD k 0 := by
  simp [List.getD, h]; rfl

/-- 'append(v, u)' of one element of one cell, which was laid in a new block right ahead. -/
theorem wpList_push {P : Program} {wr : World} {ops : Array Oper} {rest : List Oper} {o : Oper} {a : Act} {Q : Exit → Act → World → Prop} (hgd : o.guard = none) (s x : Operand) (t : TypeId)
    (ho : o.op = .call { callee := .builtin .append, args := #[s, x], argTypes := #[t, t] })
    (base : Nat) (e : TypeId) (i : TypeInfo) (z : Value) (bytes : Nat) (ht : P.underlying t = some (.slice e)) (hi : P.info? e = some i) (hz : i.zero = some z)
    (hsize : i.size = 1) (hby : i.bytes = bytes) (hzs : z.cells.size = 1)
    (v : Value) (n : Nat) (xs : List Value) (hs : a.eval s = v) (hown : wr.ownsRow base e 1 v n xs) (u : Value) (hx : a.eval x = .slice (some ⟨wr.heap.size, 0, none⟩) 1 1) (h1 : u.oneCell' = true)
    (hm : n + 1 ≤ maxLen) (hbytes : (n + 1) * bytes ≤ 140737488355328) (hbase : base ≤ wr.heap.size)
    (h : ∀ v' w', w'.ownsRow base e 1 v' (n + 1) (xs ++ [u]) → Below base wr w' → (wr.alloc (.cells #[u] e)).grownBy w' v.ownBlock → wpList P ops Q rest (a.put o.dst v') w') :
    wpList P ops Q (o :: rest) a (wr.alloc (.cells #[u] e)) := by
  refine wpList_append_own _ hgd s x t ho base e i z 1 bytes ht hi hz hsize hby hzs (by decide) v n xs hs (hown.alloc _) ⟨wr.heap.size, 0, none⟩ 1 1 [u] hx rfl ?_ ?_ hm hbytes (by simp; omega) ?_
  · intro j y hj
    match j, hj with
    | 0, hj =>
      simp at hj; subst hj
      simp [Addr.add]
  · intro y hy
    simp at hy; subst hy; exact h1
  · intro v' w' hown' hg _
    refine h v' w' hown' ?_ hg
    refine ((Below.refl base wr).alloc hbase (.cells #[u] e)).grown hg (by simp; omega) fun k hk => ?_
    exact (hown.lt k hk).1

/-- 'v' reads as the texts l in w. -/
def HasL (w : World) (v : Value) (l : List ByteArray) : Prop :=
  (∃ p c, v = .slice p 0 c ∧ l = [] ∧ (p = none → c = 0)) ∨ ∃ b off c, v = .slice (some ⟨b, off, none⟩) l.length c ∧ l.length ≤ c ∧ c ≤ maxLen ∧ ∀ j, j < l.length → w.cell? ⟨b, off + j, none⟩ = some (.string (l.getD j ByteArray.empty))

/-- The cells of the texts l. -/
def strV (l : List ByteArray) : List Value := l.map Value.string

theorem strV_len (l : List ByteArray) : (strV l).length = l.length := by simp [strV]

theorem strV_get {l : List ByteArray} {j : Nat} (h : j < l.length) : (strV l)[j]? = some (.string (l.getD j ByteArray.empty)) := by
  simp [strV, List.getD, h]

theorem strV_one {l : List ByteArray} : ∀ u ∈ strV l, u.oneCell' = true := by
  intro u hu
  simp only [strV, List.mem_map] at hu
  obtain ⟨s, _, rfl⟩ := hu
  rfl

theorem HasL.keep {w w' : World} {v : Value} {l : List ByteArray} (h : HasL w v l) (hk : ∀ a u, w.cell? a = some u → w'.cell? a = some u) : HasL w' v l := by
  rcases h with h | ⟨b, off, c, e, h1, h2, h3⟩
  · exact .inl h
  · exact .inr ⟨b, off, c, e, h1, h2, fun j hj => hk _ _ (h3 j hj)⟩

theorem HasL.mono {w w' : World} {v : Value} {l : List ByteArray} (h : HasL w v l) (hb : Below w.heap.size w w') : HasL w' v l :=
  h.keep fun a _ hu => (hb.cell (World.block_lt_of_cell? w a hu)).trans hu

theorem HasL.nil (w : World) : HasL w (.slice none 0 0) [] := .inl ⟨none, 0, rfl, rfl, fun _ => rfl⟩

theorem HasL.own {w : World} {base : Nat} {e : TypeId} {v : Value} {l : List ByteArray} (h : w.ownsRow base e 1 v l.length (strV l)) : HasL w v l := by
  rcases h.2 with ⟨e1, e2⟩ | ⟨g, cap, cur, e1, _, _, h3, h4, _⟩
  · exact .inl ⟨none, 0, e1, List.length_eq_zero_iff.1 e2, fun _ => rfl⟩
  · refine .inr ⟨g, 0, cap, e1, h3, h4, fun j hj => ?_⟩
    have := h.cells (g := g) (by rw [e1]; rfl) j _ (strV_get hj)
    rw [Addr.add_lit] at this
    exact this

/-- What the dump says of 'string' as an element. -/
theorem str_info : ∃ i0 : TypeInfo, Tryd.prog.info? 9 = some i0 ∧ i0.zero = some (.string ⟨#[]⟩) ∧ i0.size = 1 ∧ i0.bytes = 16 := by
  have hbyte : (Tryd.prog.info? 9).map (fun i => (i.zero, i.size, i.bytes)) = some (some (.string ⟨#[]⟩), 1, 16) := by kernel_rfl
  rw [Option.map_eq_some_iff] at hbyte
  obtain ⟨i0, h1, h2⟩ := hbyte
  simp only [Prod.mk.injEq] at h2
  exact ⟨i0, h1, h2.1, h2.2.1, h2.2.2⟩

theorem own_low {w : World} {base base' : Nat} {e : TypeId} {size : Nat} {v : Value} {n : Nat} {xs : List Value} (h : w.ownsRow base e size v n xs) (hb : base' ≤ base) : w.ownsRow base' e size v n xs := by
  refine ⟨h.1, ?_⟩
  rcases h.2 with h2 | ⟨g, cap, cur, e1, e2, r⟩
  · exact .inl h2
  · exact .inr ⟨g, cap, cur, e1, Nat.le_trans hb e2, r⟩

/-- 'v' is a slice of texts in memory from B on, or nil. -/
def OwnL (w : World) (B : Nat) (v : Value) (l : List ByteArray) : Prop := w.ownsRow B 9 1 v l.length (strV l)

theorem OwnL.nil (w : World) (B : Nat) : OwnL w B (.slice none 0 0) [] := World.ownsRow_nil _ _ _ _

theorem OwnL.has {w : World} {B : Nat} {v : Value} {l : List ByteArray} (h : OwnL w B v l) : HasL w v l := HasL.own h

theorem OwnL.low {w : World} {B B' : Nat} {v : Value} {l : List ByteArray} (h : OwnL w B v l) (hb : B' ≤ B) : OwnL w B' v l := own_low h hb

theorem gr_of_below {a w : World} (h : Below a.heap.size a w) (row : Option Nat) : a.grownBy w row := ⟨h.os, h.tape, h.output, h.size, fun i hi _ => h.block i hi⟩

theorem OwnL.mono {w w' : World} {B : Nat} {v : Value} {l : List ByteArray} (h : OwnL w B v l) (hb : Below w.heap.size w w') : OwnL w' B v l := by
  have hg : w.grownBy w' none := gr_of_below hb none
  refine World.ownsRow.kept h hg ?_
  cases hv : v.ownBlock <;> simp

theorem own_len {w : World} {v : Value} {l : List ByteArray} (h : HasL w v l) : ∃ p c, v = .slice p l.length c := by
  rcases h with ⟨_, _, rfl, rfl, _⟩ | ⟨b, off, c, rfl, _⟩
  · exact ⟨_, _, rfl⟩
  · exact ⟨_, _, rfl⟩

theorem cell_bel {w wr : World} {p : Addr} {u : Value} (hb : Below w.heap.size w wr) (h : w.cell? p = some u) : wr.cell? p = some u :=
  (hb.cell (World.block_lt_of_cell? w p h)).trans h

theorem list_eq {a b : List ByteArray} (hl : a.length = b.length) (h : ∀ j, j < a.length → a.getD j ByteArray.empty = b.getD j ByteArray.empty) : a = b := by
  apply List.ext_getElem hl
  intro i h1 h2
  have := h i h1
  simpa [List.getD, h1, h2] using this

set_option maxHeartbeats 4000000 in
theorem same_any (a b : List ByteArray) (va vb : Value) (w : World) (ha : HasL w va a) (hb : HasL w vb b) (hl : a.length ≤ 1000000) (hl2 : b.length ≤ 1000000) :
    Calls Tryd.prog 25 #[va, vb] w fun e w' => e = .returned (.bool (decide (a = b))) ∧ Below w.heap.size w w' := by
  by_cases hlen : a.length = b.length
  · by_cases h0 : a.length = 0
    · obtain rfl : a = [] := List.length_eq_zero_iff.1 h0
      obtain rfl : b = [] := List.length_eq_zero_iff.1 (by rw [← hlen]; rfl)
      obtain ⟨p, c, rfl⟩ := own_len ha
      obtain ⟨p2, c2, rfl⟩ := own_len hb
      clear ha hb hlen h0
      simp only [List.length_nil]
      go_enter Tryd.func25, Tryd.ntmps25
      go_wp2
      refine wp_loop_rounds 1 ?_
      rw [rounds_succ]
      go_wp2
      go_ret
      exact ⟨rfl, Below.refl _ _⟩
    · rcases ha with ⟨_, _, _, rfl, _⟩ | ⟨g, off, c, rfl, a1, a2, a3⟩
      · exact absurd rfl h0
      rcases hb with ⟨_, _, _, rfl, _⟩ | ⟨g2, off2, c2, rfl, b1, b2, b3⟩
      · exact absurd hlen h0
      have A3 := Lib.hid a3
      have B3 := Lib.hid b3
      have HL := Lib.hid hlen
      rw [← hlen] at b1 hl2 ⊢
      clear a3 b3 hlen h0
      generalize hn : a.length = n at *
      have HN := Lib.hid hn
      clear hn
      go_enter Tryd.func25, Tryd.ntmps25
      go_wp2
      go_loopw [5] (fun i wr => ∃ k : Nat, k ≤ n ∧ Below w.heap.size w wr ∧ i = .int .i64 k ∧ ∀ j, j < k → a.getD j ByteArray.empty = b.getD j ByteArray.empty) (fun i _ => n - (intOf i).toNat)
      case atStart => exact ⟨0, Nat.zero_le _, Below.refl _ _, rfl, fun j hj => absurd hj (Nat.not_lt_zero _)⟩
      case round =>
        obtain ⟨k, hk, hb, rfl, hal⟩ := hrel
        have HAL := Lib.hid hal
        clear hal
        by_cases hlt : k < n
        · have c1 := cell_bel hb (A3.out k hlt)
          have c2 := cell_bel hb (B3.out k (by rw [← HL.out]; exact hlt))
          have hki : (k : Int) < (n : Int) := by omega
          have hk0 : (0 : Int) ≤ (k : Int) := by omega
          generalize hx : a.getD k ByteArray.empty = x at c1
          generalize hy : b.getD k ByteArray.empty = y at c2
          by_cases he : x = y
          · have hks : (x.toList == y.toList) = true := by rw [he]; simp
            have hks2 : (x.toList != y.toList) = false := by rw [he]; simp
            have hn2 : RowKit.Hid (a.getD k ByteArray.empty = b.getD k ByteArray.empty) := Lib.hid (by rw [hx, hy]; exact he)
            clear hx hy he
            go_wp2_with fail
            go_quiet (fail)
            go_wp2
            go_roundw
            case rel => exact ⟨k + 1, by omega, below_drewN hb _, by go_num, fun m hm => by (rcases Nat.lt_or_ge m k with h | h); exact HAL.out m h; rw [show m = k by omega]; exact hn2.out⟩
            case measure => simp [intOf]; omega
          · have hks : (x.toList == y.toList) = false := by rw [beq_eq_false_iff_ne]; exact fun h => he (toList_inj h)
            have hks2 : (x.toList != y.toList) = true := by rw [bne_iff_ne]; exact fun h => he (toList_inj h)
            have hn2 : RowKit.Hid (decide (a = b) = false) := Lib.hid (by rw [decide_eq_false_iff_not]; intro h; apply he; rw [← hx, ← hy, h])
            clear hx hy he
            go_wp2_with fail
            go_quiet (fail)
            go_wp2
            go_ret
            exact ⟨ret_bool hn2.out.symm, below_drewN hb _⟩
        · have hfin : RowKit.Hid (decide (a = b) = true) := Lib.hid (by rw [decide_eq_true_eq]; exact list_eq (HN.out.trans HL.out) fun j hj => HAL.out j (by rw [HN.out] at hj; omega))
          go_wp2
          go_ret
          exact ⟨ret_bool hfin.out.symm, hb⟩
  · have hne : decide (a = b) = false := by rw [decide_eq_false_iff_not]; intro h; exact hlen (by rw [h])
    rw [hne]
    obtain ⟨p, c, rfl⟩ := own_len ha
    obtain ⟨p2, c2, rfl⟩ := own_len hb
    have h1 : ((a.length : Int) != (b.length : Int)) = true := by rw [bne_iff_ne]; omega
    have h2 : ((a.length : Int) == (b.length : Int)) = false := by rw [beq_eq_false_iff_ne]; omega
    clear ha hb hne hlen
    go_enter Tryd.func25, Tryd.ntmps25
    go_wp2
    go_ret
    exact ⟨rfl, Below.refl _ _⟩

theorem own_apart {wr w1 : World} {B : Nat} {e e' : TypeId} {v v' : Value} {n n' : Nat} {xs xs' : List Value} (h : wr.ownsRow B e 1 v n xs) (h' : w1.ownsRow wr.heap.size e' 1 v' n' xs') : v'.ownBlock = none ∨ v'.ownBlock ≠ v.ownBlock := by
  cases hv : v'.ownBlock with
  | none => exact .inl rfl
  | some k =>
    right
    intro hk
    have h1 := (h.lt k hk.symm).2
    have h2 := (h'.lt k hv).1
    omega

theorem OwnL.grown {w w' : World} {B : Nat} {v : Value} {l : List ByteArray} {row : Option Nat} (h : OwnL w B v l) (hg : w.grownBy w' row) (hne : v.ownBlock = none ∨ v.ownBlock ≠ row) : OwnL w' B v l := World.ownsRow.kept h hg hne

/-- Two texts that a list is read from are the same list: SameTexts is true. -/
theorem same_true (a : List ByteArray) (va vb : Value) (w : World) (ha : HasL w va a) (hb : HasL w vb a) (hl : a.length ≤ 1000000) :
    Calls Tryd.prog 25 #[va, vb] w fun e w' => e = .returned (.bool true) ∧ Below w.heap.size w w' := by
  have h := same_any a a va vb w ha hb hl hl
  simpa using h

theorem gby_trans {a b c : World} {row : Option Nat} (h : a.grownBy b row) (k : b.grownBy c row) : a.grownBy c row := by
  obtain ⟨h1, h2, h3, h4, h5⟩ := h
  obtain ⟨k1, k2, k3, k4, k5⟩ := k
  exact ⟨k1.trans h1, k2.trans h2, k3.trans h3, Nat.le_trans h4 k4, fun j hj hr => (k5 j (Nat.lt_of_lt_of_le hj h4) hr).trans (h5 j hj hr)⟩

theorem strV_cells {w : World} {b off : Nat} {l : List ByteArray} (h : ∀ j, j < l.length → w.cell? ⟨b, off + j, none⟩ = some (.string (l.getD j ByteArray.empty))) :
    ∀ (j : Nat) (u : Value), (strV l)[j]? = some u → w.cell? (Addr.add ⟨b, off, none⟩ j) = some u := by
  intro j u hj
  have hjl : j < l.length := by
    have := (List.getElem?_eq_some_iff.1 hj).1
    rwa [strV_len] at this
  rw [strV_get hjl] at hj
  injection hj with hj
  subst hj
  rw [Addr.add_lit]
  exact h j hjl

end Go.Proofs.YtjahkaidinahpaaDoor
