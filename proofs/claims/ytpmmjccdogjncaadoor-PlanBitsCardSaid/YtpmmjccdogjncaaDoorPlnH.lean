/- Lists of numbers and of seats in memory; strings.IndexByte, plan.less, the reference's At. -/
import Derived.Test.YtpmmjccdogjncaaDoorPlnF
import Derived.Test.YtpmmjccdogjncaaDoorPlnG
import Derived.Lib.Bytealg
namespace Go.Proofs.YtpmmjccdogjncaaDoor
open Go.RowKit
set_option linter.unusedSimpArgs false

def intC (x : Int) : List Value := [.int .i64 x]
def stC (s : St) : List Value := seatC s.1 s.2
def wordC (x : Nat) : List Value := [.int .u64 x]

section
variable {α : Type} {enc : α → List Value} {st : Nat}

theorem cells_len (hst : ∀ a, (enc a).length = st) : ∀ l : List α, (l.flatMap enc).length = l.length * st
  | [] => by simp
  | a :: l => by rw [List.flatMap_cons, List.length_append, hst, cells_len hst l, List.length_cons, Nat.succ_mul]; omega

theorem cells_get (hst : ∀ a, (enc a).length = st) : ∀ {l : List α} {i : Nat} {a : α} (k : Nat), l[i]? = some a → k < st → (l.flatMap enc)[i * st + k]? = (enc a)[k]?
  | [], i, a, k, h, _ => by simp at h
  | x :: l, 0, a, k, h, hk => by
    simp at h
    subst h
    rw [List.flatMap_cons, Nat.zero_mul, Nat.zero_add, List.getElem?_append_left (by rw [hst]; exact hk)]
  | x :: l, i + 1, a, k, h, hk => by
    simp at h
    rw [List.flatMap_cons, List.getElem?_append_right (by rw [hst, Nat.succ_mul]; omega), hst, Nat.succ_mul, show i * st + st + k - st = i * st + k by omega]
    exact cells_get hst k h hk

/-- 'v' reads as the list l. -/
def HasE (enc : α → List Value) (w : World) (v : Value) (l : List α) : Prop :=
  (∃ p c, v = .slice p 0 c ∧ l = [] ∧ (p = none → c = 0)) ∨ ∃ b off c, v = .slice (some ⟨b, off, none⟩) l.length c ∧ l.length ≤ c ∧ c ≤ maxLen ∧ ∀ j u, (l.flatMap enc)[j]? = some u → w.cell? ⟨b, off + j, none⟩ = some u

theorem HasE.keep {w w' : World} {v : Value} {l : List α} (h : HasE enc w v l) (hk : ∀ a u, w.cell? a = some u → w'.cell? a = some u) : HasE enc w' v l := by
  rcases h with h | ⟨b, off, c, e, h1, h2, h3⟩
  · exact .inl h
  · exact .inr ⟨b, off, c, e, h1, h2, fun j u hj => hk _ _ (h3 j u hj)⟩

theorem HasE.mono {w w' : World} {v : Value} {l : List α} (h : HasE enc w v l) (hb : Below w.heap.size w w') : HasE enc w' v l :=
  h.keep fun a _ hu => (hb.cell (World.block_lt_of_cell? w a hu)).trans hu

theorem HasE.nil (w : World) : HasE enc w (.slice none 0 0) [] := .inl ⟨none, 0, rfl, rfl, fun _ => rfl⟩

theorem HasE.own {w : World} {base : Nat} {e : TypeId} {v : Value} {l : List α} (h : w.ownsRow base e st v l.length (l.flatMap enc)) : HasE enc w v l := by
  rcases h.2 with ⟨e1, e2⟩ | ⟨g, cap, cur, e1, _, _, h3, h4, _⟩
  · exact .inl ⟨none, 0, e1, List.length_eq_zero_iff.1 e2, fun _ => rfl⟩
  · refine .inr ⟨g, 0, cap, e1, h3, h4, fun j u hj => ?_⟩
    have := h.cells (g := g) (by rw [e1]; rfl) j _ hj
    rw [Addr.add_lit] at this
    exact this

theorem HasE.len {w : World} {v : Value} {l : List α} (h : HasE enc w v l) : ∃ p c, v = .slice p l.length c := by
  rcases h with ⟨p, c, e, rfl, _⟩ | ⟨b, off, c, e, _⟩
  · exact ⟨p, c, e⟩
  · exact ⟨_, c, e⟩

theorem HasE.max {w : World} {v : Value} {l : List α} (h : HasE enc w v l) : l.length ≤ maxLen := by
  rcases h with ⟨p, c, e, rfl, _⟩ | ⟨b, off, c, e, h1, h2, _⟩
  · exact Nat.zero_le _
  · exact Nat.le_trans h1 h2

/-- One element. -/
theorem HasE.at {w : World} {p : Option Addr} {n c : Nat} {l : List α} (hst : ∀ a, (enc a).length = st) (h : HasE enc w (.slice p n c) l) {i : Nat} {a : α} (hi : l[i]? = some a) :
    ∃ b off, p = some ⟨b, off, none⟩ ∧ ∀ k u, k < st → (enc a)[k]? = some u → w.cell? ⟨b, off + (i * st + k), none⟩ = some u := by
  have hil : i < l.length := (List.getElem?_eq_some_iff.1 hi).1
  rcases h with ⟨p', c', e, rfl, _⟩ | ⟨b, off, c', e, h1, h2, h3⟩
  · simp at hi
  · injection e with e1 e2 e3
    refine ⟨b, off, e1, fun k u hk hu => h3 _ _ ?_⟩
    rw [cells_get hst k hi hk]
    exact hu
end

theorem intC_len (x : Int) : (intC x).length = 1 := rfl
theorem wordC_len (x : Nat) : (wordC x).length = 1 := rfl
theorem stC_len (s : St) : (stC s).length = 2 := rfl

theorem int_at {w : World} {p : Option Addr} {n c : Nat} {l : List Int} (h : HasE intC w (.slice p n c) l) {i : Nat} (hi : i < l.length) : ∃ b off, p = some ⟨b, off, none⟩ ∧ w.cell? ⟨b, off + i, none⟩ = some (.int .i64 (l.getD i 0)) := by
  have e : l[i]? = some (l.getD i 0) := by rw [List.getD_eq_getElem?_getD, List.getElem?_eq_getElem hi]; rfl
  obtain ⟨b, off, h1, h2⟩ := h.at intC_len e
  refine ⟨b, off, h1, ?_⟩
  have := h2 0 _ (by decide) rfl
  rwa [Nat.mul_one, Nat.add_zero] at this

theorem word_at {w : World} {p : Option Addr} {n c : Nat} {l : List Nat} (h : HasE wordC w (.slice p n c) l) {i : Nat} (hi : i < l.length) : ∃ b off, p = some ⟨b, off, none⟩ ∧ w.cell? ⟨b, off + i, none⟩ = some (.int .u64 (l.getD i 0 : Nat)) := by
  have e : l[i]? = some (l.getD i 0) := by rw [List.getD_eq_getElem?_getD, List.getElem?_eq_getElem hi]; rfl
  obtain ⟨b, off, h1, h2⟩ := h.at wordC_len e
  refine ⟨b, off, h1, ?_⟩
  have := h2 0 _ (by decide) rfl
  rwa [Nat.mul_one, Nat.add_zero] at this

theorem st_at {w : World} {p : Option Addr} {n c : Nat} {l : List St} (h : HasE stC w (.slice p n c) l) {i : Nat} (hi : i < l.length) : ∃ b off, p = some ⟨b, off, none⟩ ∧ w.rangeAt b (off + i * 2) (seatC (l.getD i st0).1 (l.getD i st0).2) ∧ w.cell? ⟨b, off + i * 2, none⟩ = some (.int .i64 (l.getD i st0).1) ∧ w.cell? ⟨b, off + i * 2 + 1, none⟩ = some (.int .u8 (l.getD i st0).2.toNat) := by
  have e : l[i]? = some (l.getD i st0) := by rw [List.getD_eq_getElem?_getD, List.getElem?_eq_getElem hi]; rfl
  obtain ⟨b, off, h1, h2⟩ := h.at stC_len e
  have c0 := h2 0 _ (by decide) rfl
  have c1 := h2 1 _ (by decide) rfl
  rw [← Nat.add_assoc] at c0 c1
  refine ⟨b, off, h1, fun j u hj => ?_, c0, c1⟩
  match j, hj with
  | 0, hj => injection hj with hj; rw [← hj]; exact c0
  | 1, hj => injection hj with hj; rw [← hj]; exact c1
  | j + 2, hj => simp [seatC] at hj

/-- What the dump says of a seat as an element. -/
theorem seat_info : ∃ i0 : TypeInfo, Tryd.prog.info? 23 = some i0 ∧ i0.zero = some (.agg #[.int .i64 0, .int .u8 0]) ∧ i0.size = 2 ∧ i0.bytes = 16 := by
  have hbyte : (Tryd.prog.info? 23).map (fun i => (i.zero, i.size, i.bytes)) = some (some (.agg #[.int .i64 0, .int .u8 0]), 2, 16) := by kernel_rfl
  rw [Option.map_eq_some_iff] at hbyte
  obtain ⟨i0, h1, h2⟩ := hbyte
  simp only [Prod.mk.injEq] at h2
  exact ⟨i0, h1, h2.1, h2.2.1, h2.2.2⟩

/-- A list of seats in memory from B on, or nil. -/
def OwnS (w : World) (B : Nat) (v : Value) (l : List St) : Prop := w.ownsRow B 23 2 v l.length (l.flatMap stC)

theorem OwnS.has {w : World} {B : Nat} {v : Value} {l : List St} (h : OwnS w B v l) : HasE stC w v l := HasE.own h
theorem OwnS.nil (w : World) (B : Nat) : OwnS w B (.slice none 0 0) [] := World.ownsRow_nil _ _ _ _

theorem OwnS.mono {w w' : World} {B : Nat} {v : Value} {l : List St} (h : OwnS w B v l) (hb : Below w.heap.size w w') : OwnS w' B v l :=
  World.ownsRow.kept h (gr_of_below hb none) (by cases hv : v.ownBlock <;> simp)

/-- The place of a byte in a text, -1: none. -/
def byteAt (l : List UInt8) (c : UInt8) : Int := if c ∈ l then (l.idxOf c : Int) else -1

theorem indexByte_at (l : List UInt8) (c : UInt8) : Lib.indexByte l c = byteAt l c := by
  induction l with
  | nil => rfl
  | cons b l ih =>
    unfold Lib.indexByte
    rw [ih]
    unfold byteAt
    by_cases hb : b = c
    · subst hb
      simp
    · have hbb : (b == c) = false := by rw [beq_eq_false_iff_ne]; exact hb
      rw [hbb, List.idxOf_cons, hbb]
      by_cases hm : c ∈ l
      · have hne : (((l.idxOf c : Nat) : Int) == -1) = false := by rw [beq_eq_false_iff_ne]; omega
        rw [if_pos hm, if_pos (List.mem_cons_of_mem _ hm), hne]
        simp
      · have hm2 : c ∉ b :: l := fun h => by
          rcases List.mem_cons.1 h with h | h
          · exact hb h.symm
          · exact hm h
        rw [if_neg hm, if_neg hm2]
        rfl

set_option maxRecDepth 100000 in
theorem stringslite_index (s : ByteArray) (c : UInt8) (w : World) :
    Calls Tryd.prog 66 #[.string s, .int .u8 c.toNat] w fun e w' => e = .returned (.int .i64 (byteAt s.data.toList c)) ∧ w = w' := by
  go_enter Tryd.func66, Tryd.ntmps66
  go_wp2
  rw [run_callFunc_extern Tryd.func72 (by kernel_rfl) (by kernel_rfl) (by kernel_rfl) (e := Extern.BytealgIndexByte.indexByte) (by kernel_rfl), Lib.run_indexByteString]
  simp only [Result.andThen]
  rw [Oper.upon_value]
  go_wp2
  go_ret
  exact ⟨ret_int (by simp [indexByte_at]), rfl⟩

theorem index_any (s : ByteArray) (c : UInt8) (w : World) :
    Calls Tryd.prog 59 #[.string s, .int .u8 c.toNat] w fun e w' => e = .returned (.int .i64 (byteAt s.data.toList c)) ∧ w = w' := by
  have HC := Lib.hid (stringslite_index s c w)
  go_enter Tryd.func59, Tryd.ntmps59
  go_wp2_with (first
    | (go_at_call 66; (with_reducible refine HC.out.mono ?_); rintro e w1 ⟨rfl, rfl⟩))
  go_ret
  exact ⟨rfl, rfl⟩

set_option maxRecDepth 20000 in
theorem less_any (s t : St) (w : World) :
    Calls Tryd.prog 60 #[seatK s, seatK t] w fun e w' => e = .returned (.bool (decide (stLt s t))) ∧ Below w.heap.size w w' := by
  obtain ⟨r, c⟩ := s
  obtain ⟨r', c'⟩ := t
  have hd : RowKit.Hid (decide (stLt (r, c) (r', c')) = (decide (r < r') || decide (r = r') && decide ((c.toNat : Int) < c'.toNat))) := Lib.hid (by
    have : ((c.toNat : Int) < c'.toNat) ↔ c.toNat < c'.toNat := by omega
    rw [Bool.eq_iff_iff]
    simp only [this, decide_eq_true_eq, Bool.or_eq_true, Bool.and_eq_true]
    rfl)
  unfold seatK seatV
  by_cases h1 : r < r'
  · go_enter Tryd.func60, Tryd.ntmps60
    go_wp2
    go_ret
    exact ⟨ret_bool (by rw [hd.out]; simp [h1]), ((Below.refl _ _).alloc (Nat.le_refl _) _).alloc (by simp) _⟩
  · by_cases h2 : r = r'
    · subst h2
      have hq : (r == r) = true := by simp
      go_enter Tryd.func60, Tryd.ntmps60
      go_wp2
      go_ret
      exact ⟨ret_bool (by rw [hd.out]; simp), ((Below.refl _ _).alloc (Nat.le_refl _) _).alloc (by simp) _⟩
    · have hq : (r == r') = false := by rw [beq_eq_false_iff_ne]; exact h2
      go_enter Tryd.func60, Tryd.ntmps60
      go_wp2
      go_ret
      exact ⟨ret_bool (by rw [hd.out]; simp [h1, h2]), ((Below.refl _ _).alloc (Nat.le_refl _) _).alloc (by simp) _⟩

theorem getD_get {l : List St} {k : Nat} (h : k < l.length) : l[k]? = some (l.getD k st0) := by
  rw [List.getD_eq_getElem?_getD, List.getElem?_eq_getElem h]; rfl

theorem atL_first {l : List St} {s : St} {k : Nat} (hk : k < l.length) (h : ∀ j, j < k → l.getD j st0 ≠ s) (he : l.getD k st0 = s) : atL l s = k := by
  induction l generalizing k with
  | nil => simp at hk
  | cons a t ih =>
    unfold atL
    cases k with
    | zero =>
      have : a = s := he
      subst this
      simp
    | succ k =>
      have ha : a ≠ s := h 0 (by omega)
      have hab : (a == s) = false := by rw [beq_eq_false_iff_ne]; exact ha
      have h1 := ih (k := k) (by simpa using hk) (fun j hj => h (j + 1) (by omega)) he
      have hm : s ∈ t := List.mem_of_getElem? (by rw [← he]; exact getD_get (l := t) (by simpa using hk))
      unfold atL at h1
      rw [if_pos hm] at h1
      rw [if_pos (List.mem_cons_of_mem _ hm), List.idxOf_cons, hab]
      simp only [cond_false]
      omega

theorem atL_miss {l : List St} {s : St} (h : ∀ j, j < l.length → l.getD j st0 ≠ s) : atL l s = -1 := by
  unfold atL
  refine if_neg fun hm => ?_
  obtain ⟨j, hj, e⟩ := List.getElem_of_mem hm
  refine h j hj ?_
  rw [List.getD_eq_getElem?_getD, List.getElem?_eq_getElem hj]
  exact e

set_option maxRecDepth 20000 in
set_option maxHeartbeats 4000000 in
theorem at_any (l : List St) (v : Value) (s : St) (w : World) (hv : HasE stC w v l) (hl : l.length ≤ 1000000) :
    Calls Tryd.prog 31 #[v, seatK s] w fun e w' => e = .returned (.int .i64 (atL l s)) ∧ Below w.heap.size w w' := by
  obtain ⟨r, c⟩ := s
  obtain ⟨p, cap, rfl⟩ := hv.len
  obtain ⟨w1, e1, k1, k2, kb, ks⟩ := seat_boxed w r c
  have HV := Lib.hid (hv.mono kb)
  have HF : RowKit.Hid (∀ k : Nat, k < l.length → (∀ j, j < k → l.getD j st0 ≠ (r, c)) → l.getD k st0 = (r, c) → atL l (r, c) = (k : Int)) := Lib.hid fun k h1 h2 h3 => atL_first h1 h2 h3
  have HM := Lib.hid (@atL_miss l (r, c))
  have HW := Lib.hid kb
  unfold seatK seatV
  clear hv ks kb
  generalize hN : l.length = N at *
  have HN := Lib.hid hN
  clear hN
  go_enter Tryd.func31, Tryd.ntmps31
  go_wp2
  clear e1
  go_loopg [5] N (fun g i wr => ∃ k : Nat, k ≤ N ∧ g = N - k ∧ i = .int .i64 k ∧ Below w1.heap.size w1 wr ∧ ∀ j, j < k → l.getD j st0 ≠ (r, c))
  case atStart => exact ⟨0, Nat.zero_le _, rfl, rfl, Below.refl _ _, fun j hj => absurd hj (Nat.not_lt_zero _)⟩
  case round =>
    obtain ⟨k, hk, rfl, rfl, hb, hno⟩ := hrel
    have HNO := Lib.hid hno
    clear hno
    by_cases hlt : k < N
    · have hki : (k : Int) < (N : Int) := by omega
      have hk0 : (0 : Int) ≤ (k : Int) := by omega
      obtain ⟨b, off, rfl, hr, _, _⟩ := st_at (HV.out.mono hb) (i := k) (by rw [HN.out]; exact hlt)
      have HK : RowKit.Hid (l.getD k st0 = ((l.getD k st0).1, (l.getD k st0).2)) := Lib.hid rfl
      generalize (l.getD k st0).1 = x at *
      generalize (l.getD k st0).2 = y at *
      have hl1 : ∀ n, (loadVar 23 ⟨b, off + k * 2, none⟩).run Tryd.prog (wr.drewN n) = .ok (.agg #[.int .i64 x, .int .u8 y.toNat]) (wr.drewN n) := fun n => run_loadVar_mid (wr.drewN n) b (off + k * 2) 23 (seatC x y) _ hr Tryd.underlying23 rfl info_seat
      have b0 := cell_bel hb k1
      have b1 := cell_bel hb k2
      have HNK : RowKit.Hid ((x, y) ≠ (r, c) → ∀ j, j < k + 1 → l.getD j st0 ≠ (r, c)) := Lib.hid fun hne j hj => by
        rcases Nat.lt_or_ge j k with h | h
        · exact HNO.out j h
        · rw [show j = k by omega, HK.out]; exact hne
      by_cases hx : x = r
      · subst hx
        by_cases hy : y = c
        · subst hy
          have HR := Lib.hid (HF.out k hlt HNO.out HK.out)
          go_upto_region 4 with fail
          go_quiet (fail)
          go_wp2
          go_ret
          exact ⟨ret_int HR.out.symm, bel_trans HW.out (below_drewN hb _)⟩
        · have hyc : ¬ (y.toNat : Int) = (c.toNat : Int) := fun e => hy (u8_nat_inj (by omega))
          have HN2 := Lib.hid (HNK.out fun e => hy (by injection e))
          clear hy
          go_upto_region 4 with fail
          go_quiet (fail)
          go_wp2
          go_roundg (N - (k + 1))
          case measure => omega
          case rel => exact ⟨k + 1, by omega, rfl, by go_num, below_drewN hb _, HN2.out⟩
      · have HN2 := Lib.hid (HNK.out fun e => hx (by injection e))
        go_upto_region 4 with fail
        go_quiet (fail)
        go_wp2
        go_roundg (N - (k + 1))
        case measure => omega
        case rel => exact ⟨k + 1, by omega, rfl, by go_num, below_drewN hb _, HN2.out⟩
    · have hke : k = N := by omega
      subst hke
      have hki : ¬ (k : Int) < (k : Int) := by omega
      have HR := Lib.hid (HM.out HNO.out)
      go_wp2
      go_ret
      exact ⟨ret_int HR.out.symm, bel_trans HW.out hb⟩
end Go.Proofs.YtpmmjccdogjncaaDoor
