/- Small laws; the contracts of the functions of package code and of its reference that the queue's laws reach. -/
import Derived.Test.YtpfgmmmeofnkoaaRows
import Derived.WalkKit
import Derived.WalkSpells
import Derived.WalkLawsBesides
import Derived.Lib.ConvBytes
import Derived.Lib.Hide
import Derived.IntWalk
import Derived.BigQuiet
import Derived.Deep.QuietTactic
import Derived.Deep.RegionWith
import Derived.Deep.RegionHeld3
namespace Go.Proofs.Ytpfgmmmeofnkoaa
open Go.RowKit

theorem ret_bool {a b : Bool} (h : a = b) : Ending.returned (.bool a) = .returned (.bool b) := by rw [h]

theorem ret_int {k : IntKind} {a b : Int} (h : a = b) : Ending.returned (.int k a) = .returned (.int k b) := by rw [h]

theorem ret_str {a b : ByteArray} (h : a.data.toList = b.data.toList) : Ending.returned (.string a) = .returned (.string b) := by
  have : a = b := by
    obtain ⟨⟨a⟩⟩ := a; obtain ⟨⟨b⟩⟩ := b
    simp at h; rw [h]
  rw [this]

theorem byte_hi (b : UInt8) : (b.toNat : Int) ≤ 255 := by have := b.toNat_lt; omega

/-- Is a byte a great letter? -/
def isL (c : Int) : Bool := decide (65 ≤ c ∧ c ≤ 90)

/-- Is a byte a digit? -/
def isD (c : Int) : Bool := decide (48 ≤ c ∧ c ≤ 57)

/-- The same of a byte. -/
def bL (b : UInt8) : Bool := isL (b.toNat : Int)

def bD (b : UInt8) : Bool := isD (b.toNat : Int)

theorem letter_any (c : Int) (w : World) (h0 : 0 ≤ c) (h1 : c ≤ 255) :
    Calls Try.prog 33 #[.int .u8 c] w fun e w' => e = .returned (.bool (isL c)) ∧ w = w' := by
  go_enter Try.func33, Try.ntmps33
  go_wp2
  go_ret
  exact ⟨ret_bool (by unfold isL; apply decide_eq_decide.2; omega), rfl⟩

theorem refLetter_any (c : Int) (w : World) (h0 : 0 ≤ c) (h1 : c ≤ 255) :
    Calls Try.prog 34 #[.int .u8 c] w fun e w' => e = .returned (.bool (isL c)) ∧ w = w' := by
  go_enter Try.func34, Try.ntmps34
  go_wp2
  all_goals
    go_ret
    exact ⟨ret_bool (by unfold isL; first | (symm; apply decide_eq_true; omega) | (symm; apply decide_eq_false; omega) | (apply decide_eq_decide.2; omega)), rfl⟩

/-- What the walk knows behind '[]byte(s)'. -/
theorem bytes_conv (s : ByteArray) (w : World) : ∃ w1 : World, ∃ cap : Nat, (convert 9 46 (.string s)).run Try.prog w = .ok (.slice (some ⟨w.heap.size, 0, none⟩) s.size cap) w1 ∧
    Below w.heap.size w w1 ∧ w1.heap.size = w.heap.size + 1 ∧ ∀ j, j < s.size → w1.cell? ⟨w.heap.size, j, none⟩ = some (.int .u8 (s.data.toList.getD j 0).toNat) := by
  refine ⟨_, _, Lib.run_convert_string_bytes (P := Try.prog) w 9 46 5 s Try.underlying9 Try.underlying46 Try.underlying5, ?_, Lib.bytesWorld_size _ _ _, fun j hj => Lib.bytesWorld_cell _ _ _ _ hj⟩
  exact ⟨rfl, rfl, rfl, by rw [Lib.bytesWorld_size]; omega, fun i hi => Lib.bytesWorld_at_old _ _ _ _ hi⟩

def lettersS (l : List UInt8) (least most : Int) : Bool := decide (least ≤ (l.length : Int) ∧ (l.length : Int) ≤ most) && l.all bL

theorem all_take_succ (p : UInt8 → Bool) (l : List UInt8) (k : Nat) (h : k < l.length) : (l.take (k + 1)).all p = ((l.take k).all p && p (l.getD k 0)) := by
  rw [List.take_succ_eq_append_getElem h, List.all_append]
  simp [List.getD, h]

theorem all_false_of (p : UInt8 → Bool) (l : List UInt8) (k : Nat) (h : k < l.length) (hp : p (l.getD k 0) = false) : l.all p = false := by
  rw [List.all_eq_false]
  refine ⟨l.getD k 0, ?_, by rw [hp]; decide⟩
  simp [List.getD, h]

theorem letters_any (s : ByteArray) (least most : Int) (w : World) (hs : s.size ≤ maxLen) :
    Calls Try.prog 31 #[.string s, .int .i64 least, .int .i64 most] w fun e w' => e = .returned (.bool (lettersS s.data.toList least most)) ∧ Below w.heap.size w w' := by
  unfold maxLen at hs
  obtain ⟨w1, cap, hcv, hb, hz, hcell⟩ := bytes_conv s w
  have hlen : s.data.toList.length = s.size := by simp
  by_cases h1 : (s.size : Int) < least
  · go_enter Try.func31, Try.ntmps31
    go_wp2
    go_ret
    exact ⟨ret_bool (by unfold lettersS; rw [hlen, decide_eq_false (by omega)]; rfl), Below.refl _ _⟩
  by_cases h2 : most < (s.size : Int)
  · go_enter Try.func31, Try.ntmps31
    go_wp2
    go_ret
    exact ⟨ret_bool (by unfold lettersS; rw [hlen, decide_eq_false (by omega)]; rfl), Below.refl _ _⟩
  have hd : decide (least ≤ (s.data.toList.length : Int) ∧ (s.data.toList.length : Int) ≤ most) = true := by rw [hlen]; exact decide_eq_true (by omega)
  have HD := Lib.hid hd
  clear hd
  have HL := Lib.hid hlen
  clear hlen
  go_enter Try.func31, Try.ntmps31
  go_wp2
  go_loop [22] (fun i => ∃ k : Nat, k ≤ s.size ∧ i = .int .i64 k ∧ (s.data.toList.take k).all bL = true) (fun i => s.size - (intOf i).toNat)
  case atStart => exact ⟨0, Nat.zero_le _, rfl, rfl⟩
  case round =>
    obtain ⟨k, hk, rfl, hall⟩ := hrel
    have HA := Lib.hid hall
    clear hall
    by_cases hlt : k < s.size
    · have hc := hcell k hlt
      have hbb := byte_hi (s.data.toList.getD k 0)
      generalize hg : s.data.toList.getD k 0 = b at hc hbb
      have HG := Lib.hid hg
      clear hg hcell
      have hb0 : (0 : Int) ≤ (b.toNat : Int) := by omega
      cases hB : isL (b.toNat : Int)
      · go_wp2_with (go_at_call 33; refine (letter_any _ _ hb0 hbb).mono ?_; rintro e w' ⟨rfl, rfl⟩)
        go_ret
        exact ⟨ret_bool (by unfold lettersS; rw [HD.out, all_false_of bL _ k (by rw [HL.out]; exact hlt) (by rw [HG.out]; exact hB)]; rfl), hb⟩
      · go_wp2_with (go_at_call 33; refine (letter_any _ _ hb0 hbb).mono ?_; rintro e w' ⟨rfl, rfl⟩)
        go_round
        case rel => exact ⟨k + 1, by omega, by go_num, by rw [all_take_succ _ _ _ (by rw [HL.out]; exact hlt), HA.out, HG.out]; exact hB⟩
        case measure => simp [intOf]; omega
    · go_wp2
      go_ret
      exact ⟨ret_bool (by unfold lettersS; rw [HD.out]; have := HA.out; rw [List.take_of_length_le (by rw [HL.out]; omega)] at this; rw [this]; rfl), hb⟩

theorem city_any (s : ByteArray) (w : World) (hs : s.size ≤ maxLen) :
    Calls Try.prog 22 #[.string s] w fun e w' => e = .returned (.bool (lettersS s.data.toList 3 3)) ∧ Below w.heap.size w w' := by
  go_enter Try.func22, Try.ntmps22
  go_wp2_with (go_at_call 31; refine (letters_any s 3 3 _ hs).mono ?_; rintro e w1 ⟨rfl, hb⟩)
  go_ret
  exact ⟨rfl, hb⟩

theorem locator_any (s : ByteArray) (w : World) (hs : s.size ≤ maxLen) :
    Calls Try.prog 25 #[.string s] w fun e w' => e = .returned (.bool (lettersS s.data.toList 6 6)) ∧ Below w.heap.size w w' := by
  go_enter Try.func25, Try.ntmps25
  go_wp2_with (go_at_call 31; refine (letters_any s 6 6 _ hs).mono ?_; rintro e w1 ⟨rfl, hb⟩)
  go_ret
  exact ⟨rfl, hb⟩

theorem below_drewN {B : Nat} {a w : World} (h : Below B a w) (n : Nat) : Below B a (w.drewN n) := ⟨h.os, h.tape, h.output, h.size, h.block⟩

theorem bel_trans {w w1 w2 : World} (h : Below w.heap.size w w1) (k : Below w1.heap.size w1 w2) : Below w.heap.size w w2 := h.trans (k.mono h.size)

theorem drop_cons (l : List UInt8) (k : Nat) (h : k < l.length) : l.drop k = l.getD k 0 :: l.drop (k + 1) := by
  rw [List.drop_eq_getElem_cons h]; simp [List.getD, h]

/-- 'string(b)' where b's cells are the bytes l. -/
theorem string_conv (l : List UInt8) (w : World) (b n cap : Nat) (hn : l.length = n) (hc : ∀ j, j < n → w.cell? ⟨b, j, none⟩ = some (.int .u8 ((l.getD j 0).toNat : Int))) :
    (convert 46 9 (.slice (some ⟨b, 0, none⟩) n cap)).run Try.prog w = .ok (.string ⟨l.toArray⟩) w := by
  subst hn
  refine run_convert_bytes_back (P := Try.prog) w 46 9 5 ⟨b, 0, none⟩ cap l Try.underlying46 Try.underlying5 Try.underlying9 fun j hj => ?_
  have := hc j hj
  simp [List.getD, hj] at this
  have e : (⟨b, 0, none⟩ : Addr).add j = ⟨b, j, none⟩ := by simp [Addr.add]; omega
  rw [e]
  exact this

def cntL (l : List UInt8) : Nat := (l.filter bL).length

theorem cntL_le (l : List UInt8) : cntL l ≤ l.length := List.length_filter_le _ _

theorem cntL_take (l : List UInt8) (k : Nat) (h : k < l.length) : cntL (l.take (k + 1)) = cntL (l.take k) + if bL (l.getD k 0) then 1 else 0 := by
  unfold cntL
  rw [List.take_succ_eq_append_getElem h, List.filter_append, List.length_append]
  simp only [List.getD, List.getElem?_eq_getElem h, Option.getD_some, List.filter_cons]
  split <;> simp

theorem get_list (s : ByteArray) (k : Nat) (h : k < s.size) : s[k] = s.data.toList.getD k 0 := by
  simp [List.getD, h]; rfl

theorem refLetters_any (s : ByteArray) (w : World) (hs : s.size ≤ maxLen) :
    Calls Try.prog 32 #[.string s] w fun e w' => e = .returned (.int .i64 (cntL s.data.toList)) ∧ w = w' := by
  unfold maxLen at hs
  have hlen : s.data.toList.length = s.size := by simp
  have HL := Lib.hid hlen
  clear hlen
  go_enter Try.func32, Try.ntmps32
  go_wp2
  go_loop [3, 4] (fun n i => ∃ k : Nat, k ≤ s.size ∧ i = .int .i64 k ∧ n = .int .i64 (cntL (s.data.toList.take k))) (fun _ i => s.size - (intOf i).toNat)
  case atStart => exact ⟨0, Nat.zero_le _, rfl, rfl⟩
  case round =>
    obtain ⟨k, hk, rfl, rfl⟩ := hrel
    by_cases hlt : k < s.size
    · have hix := get_list s k hlt
      have hst := cntL_take s.data.toList k (by rw [HL.out]; exact hlt)
      have hle := cntL_le (s.data.toList.take k)
      rw [List.length_take] at hle
      have hbb := byte_hi (s.data.toList.getD k 0)
      generalize s.data.toList.getD k 0 = b at hix hst hbb
      have HS := Lib.hid hst
      clear hst
      generalize cntL (s.data.toList.take k) = c at HS hle
      have hc : c ≤ k := by omega
      clear hle
      have hb0 : (0 : Int) ≤ (b.toNat : Int) := by omega
      cases hB : isL (b.toNat : Int)
      all_goals
        go_wp2_with (go_at_call 34; refine (refLetter_any _ _ hb0 hbb).mono ?_; rintro e w' ⟨rfl, rfl⟩)
        go_round
        case rel => exact ⟨k + 1, by omega, by go_num, by rw [HS.out]; simp [bL, hB]⟩
        case measure => simp [intOf]; omega
    · go_wp2
      go_ret
      exact ⟨ret_int (by rw [List.take_of_length_le (by rw [HL.out]; omega)]), rfl⟩

theorem cntL_all (l : List UInt8) : (cntL l = l.length) ↔ l.all bL = true := by
  unfold cntL
  constructor
  · intro h
    have h2 := List.filter_sublist (p := bL) (l := l) |>.eq_of_length h
    rw [List.all_eq_true]
    intro x hx
    have := List.filter_eq_self.1 h2 x hx
    simpa using this
  · intro h
    rw [List.filter_eq_self.2 (by simpa using h)]

theorem refCity_any (s : ByteArray) (w : World) (hs : s.size ≤ maxLen) :
    Calls Try.prog 23 #[.string s] w fun e w' => e = .returned (.bool (lettersS s.data.toList 3 3)) ∧ w = w' := by
  have hlen : s.data.toList.length = s.size := by simp
  by_cases h : s.size = 3
  · have h3 : ((s.size : Int) == 3) = true := by rw [h]; rfl
    have e : lettersS s.data.toList 3 3 = ((cntL s.data.toList : Int) == 3) := by
      unfold lettersS
      rw [hlen, decide_eq_true (by omega), Bool.true_and, Bool.eq_iff_iff, ← cntL_all, hlen, h]
      simp; omega
    have HE := Lib.hid e
    clear h e hlen
    go_enter Try.func23, Try.ntmps23
    go_wp2_with (go_at_call 32; refine (refLetters_any _ _ hs).mono ?_; rintro e w' ⟨rfl, rfl⟩)
    go_ret
    exact ⟨ret_bool HE.out.symm, rfl⟩
  · have h3 : ((s.size : Int) == 3) = false := by simp; omega
    go_enter Try.func23, Try.ntmps23
    go_wp2
    go_ret
    exact ⟨ret_bool (by unfold lettersS; rw [hlen, decide_eq_false (by omega)]; rfl), rfl⟩

theorem refLocator_any (s : ByteArray) (w : World) (hs : s.size ≤ maxLen) :
    Calls Try.prog 27 #[.string s] w fun e w' => e = .returned (.bool (lettersS s.data.toList 6 6)) ∧ w = w' := by
  have hlen : s.data.toList.length = s.size := by simp
  by_cases h : s.size = 6
  · have h3 : ((s.size : Int) == 6) = true := by rw [h]; rfl
    have e : lettersS s.data.toList 6 6 = ((cntL s.data.toList : Int) == 6) := by
      unfold lettersS
      rw [hlen, decide_eq_true (by omega), Bool.true_and, Bool.eq_iff_iff, ← cntL_all, hlen, h]
      simp; omega
    have HE := Lib.hid e
    clear h e hlen
    go_enter Try.func27, Try.ntmps27
    go_wp2_with (go_at_call 32; refine (refLetters_any _ _ hs).mono ?_; rintro e w' ⟨rfl, rfl⟩)
    go_ret
    exact ⟨ret_bool HE.out.symm, rfl⟩
  · have h3 : ((s.size : Int) == 6) = false := by simp; omega
    go_enter Try.func27, Try.ntmps27
    go_wp2
    go_ret
    exact ⟨ret_bool (by unfold lettersS; rw [hlen, decide_eq_false (by omega)]; rfl), rfl⟩

theorem bytes_inj {a b : ByteArray} (h : a.data.toList = b.data.toList) : a = b := by
  obtain ⟨⟨a⟩⟩ := a; obtain ⟨⟨b⟩⟩ := b
  simp at h; rw [h]

theorem toList_inj {a b : ByteArray} (h : a.toList = b.toList) : a = b := by
  rw [ByteArray.toList_eq, ByteArray.toList_eq] at h
  obtain ⟨⟨a⟩⟩ := a; obtain ⟨⟨b⟩⟩ := b
  simp at h; rw [h]

theorem empty_of_size {s : ByteArray} (h : s.size = 0) : s = ⟨#[]⟩ := by
  obtain ⟨d⟩ := s
  simp [ByteArray.size] at h
  rw [h]

theorem isEmpty_of {s : ByteArray} (h : s.size ≠ 0) : s.toList.isEmpty = false := by
  rw [ByteArray.toList_eq]
  have hl : s.data.toList.length = s.size := by simp
  cases hq : s.data.toList with
  | nil => rw [hq] at hl; simp at hl; omega
  | cons a t => rfl

theorem rest_list (s : ByteArray) (p : Nat) : (s.extract p s.size).data.toList = s.data.toList.drop p := by
  simp
  exact List.take_of_length_le (by simp)

theorem letters_len {l : List UInt8} {n : Nat} (h : lettersS l n n = true) : l.length = n := by
  unfold lettersS at h
  rw [Bool.and_eq_true, decide_eq_true_eq] at h
  omega

/-- 'append(v, u)' of one element of one cell, which was laid in a new block right ahead. -/
theorem wpList_push {P : Program} {wr : World} {ops : Array Oper} {rest : List Oper} {o : Oper} {a : Act} {Q : Exit → Act → World → Prop} (hgd : o.guard = none) (s x : Operand) (t : TypeId)
    (ho : o.op = .call { callee := .builtin .append, args := #[s, x], argTypes := #[t, t] })
    (base : Nat) (e : TypeId) (i : TypeInfo) (z : Value) (bytes : Nat) (ht : P.underlying t = some (.slice e)) (hi : P.info? e = some i) (hz : i.zero = some z)
    (hsize : i.size = 1) (hby : i.bytes = bytes) (hzs : z.cells.size = 1)
    (v : Value) (n : Nat) (xs : List Value) (hs : a.eval s = v) (hown : wr.ownsRow base e 1 v n xs) (u : Value) (hx : a.eval x = .slice (some ⟨wr.heap.size, 0, none⟩) 1 1) (h1 : u.oneCell' = true)
    (hm : n + 1 ≤ maxLen) (hbytes : (n + 1) * bytes ≤ 140737488355328) (hbase : base ≤ wr.heap.size)
    (h : ∀ v' w', w'.ownsRow base e 1 v' (n + 1) (xs ++ [u]) → Below base wr w' → (wr.alloc (.cells #[u] e)).grownBy w' v.ownBlock → wpList P ops Q rest (a.put o.dst v') w') :
    wpList P ops Q (o :: rest) a (wr.alloc (.cells #[u] e)) := by
  refine wpList_append_own _ hgd s x t ho base e i z 1 bytes ht hi hz hsize hby hzs (by decide) v n xs hs (hown.alloc _) ⟨wr.heap.size, 0, none⟩ 1 1 [u] hx rfl ?_ ?_ hm hbytes (by simp; omega) ?_
  · intro j y hj
    match j, hj with
    | 0, hj =>
      simp at hj; subst hj
      simp [Addr.add]
  · intro y hy
    simp at hy; subst hy; exact h1
  · intro v' w' hown' hg _
    refine h v' w' hown' ?_ hg
    refine ((Below.refl base wr).alloc hbase (.cells #[u] e)).grown hg (by simp; omega) fun k hk => ?_
    exact (hown.lt k hk).1

section
variable {a w w' : World} {g : Nat}
theorem gr_drewN {row : Option Nat} (h : a.grownBy w row) (n : Nat) : a.grownBy (w.drewN n) row := ⟨h.os, h.tape, h.output, h.size, h.block⟩

theorem gr_drew {row : Option Nat} (h : a.grownBy w row) : a.grownBy w.drew row := ⟨h.os, h.tape, h.output, h.size, h.block⟩

theorem gr_alloc {row : Option Nat} (h : a.grownBy w row) (o : Obj) : a.grownBy (w.alloc o) row :=
  ⟨h.os, h.tape, h.output, Nat.le_trans h.size (by simp), fun i hi hne => (Below.heap_alloc w o i (Nat.lt_of_lt_of_le hi h.size)).trans (h.block i hi hne)⟩

theorem gr_setCell (h : a.grownBy w (some g)) {p : Addr} (hp : p.block = g ∨ a.heap.size ≤ p.block) (u : Value) : a.grownBy (w.setCell p u) (some g) :=
  ⟨h.os, h.tape, h.output, by simpa [World.setCell] using h.size, fun i hi hne => (Below.heap_setCell w p u i (by
    rintro rfl
    rcases hp with hp | hp
    · exact hne (by rw [hp])
    · omega)).trans (h.block i hi hne)⟩

theorem gr_of_below (h : Below a.heap.size a w) (row : Option Nat) : a.grownBy w row := ⟨h.os, h.tape, h.output, h.size, fun i hi _ => h.block i hi⟩

theorem gr_trans {row : Option Nat} (h : a.grownBy w row) (k : w.grownBy w' row) : a.grownBy w' row :=
  ⟨k.os.trans h.os, k.tape.trans h.tape, k.output.trans h.output, Nat.le_trans h.size k.size, fun i hi hne => (k.block i (Nat.lt_of_lt_of_le hi h.size) hne).trans (h.block i hi hne)⟩

/-- Only blocks from B on have turned. -/
theorem bel_gr {B : Nat} (h : Below B a w) (hB : B ≤ w.heap.size) (k : w.grownBy w' (some g)) (hg : B ≤ g) : Below B a w' := h.grown k hB (fun _ hk => by injection hk with hk; omega)

end

end Go.Proofs.Ytpfgmmmeofnkoaa
