/- The parser's parts, kind by kind; seats (printed by gen_parts.py). -/
import Derived.Test.YtjahkaidinahpaaDoorNG
namespace Go.Proofs.YtjahkaidinahpaaDoor.En
open Go.RowKit
set_option linter.unusedSimpArgs false
set_option linter.unusedVariables false
set_option maxRecDepth 100000

/-- A part of the parser, two ways. -/
def Two {α : Type} (b : Nat) (s : ByteArray) (c : CmdT) (W : World) (V : α → Value) (o : Part α) (e : Ending) (w' : World) : Prop :=
  (∃ v q, RowKit.Hid (o = .ok (v, q)) ∧ q ≤ s.size ∧ e = .returned (V v) ∧ PS w' b s q c ∧ RowKit.Hid (Below b W w')) ∨ (∃ k q, RowKit.Hid (o = .error (k, q)) ∧ e = boom k (q : Nat) ∧ RowKit.Hid (Below b W w'))

theorem two_of {α : Type} {b : Nat} {s : ByteArray} {c : CmdT} {W : World} {V : α → Value} {o : Part α} {e : Ending} {w' : World} (hq : ∀ v q, o = .ok (v, q) → q ≤ s.size) (h : Out b s c W V o e w') : Two b s c W V o e w' := by
  cases o with
  | ok x =>
    obtain ⟨v, q⟩ := x
    obtain ⟨h1, h2, h3, _⟩ := h
    exact .inl ⟨v, q, Lib.hid rfl, hq v q rfl, h1, h2, Lib.hid h3⟩
  | error x =>
    obtain ⟨k, q⟩ := x
    exact .inr ⟨k, q, Lib.hid rfl, h.1, Lib.hid h.2⟩

theorem sz (s : ByteArray) : (toL s).length = s.size := by simp

theorem city_t (b : Nat) (s : ByteArray) (hs : s.size ≤ maxLen) (q : Nat) (c : CmdT) (W : World) (hq : q ≤ s.size) (hc : PS W b s q c) :
    Calls Tryd.prog 128 #[.pointer (some ⟨b, 0, none⟩)] W (Two b s c W txV (city (toL s) q)) :=
  (city_m b s q c W hs hq hc).mono fun _ _ h => two_of (fun _ _ h => by have := (city_ok h (by simpa using hq)).2.1; simpa using this) h
theorem person_t (b : Nat) (s : ByteArray) (hs : s.size ≤ maxLen) (q : Nat) (c : CmdT) (W : World) (hq : q ≤ s.size) (hc : PS W b s q c) :
    Calls Tryd.prog 134 #[.pointer (some ⟨b, 0, none⟩)] W (Two b s c W txV (person (toL s) q)) :=
  (person_m b s q c W hs hq hc).mono fun _ _ h => two_of (fun _ _ h => by have := (person_ok h (by simpa using hq)).2.1; simpa using this) h
theorem day_t (b : Nat) (s : ByteArray) (hs : s.size ≤ maxLen) (hg : 0 < b) (q : Nat) (c : CmdT) (W : World) (ht : Da.LenTab W) (hq : q ≤ s.size) (hc : PS W b s q c) :
    Calls Tryd.prog 129 #[.pointer (some ⟨b, 0, none⟩)] W (Two b s c W (fun d : Int => .int .i64 d) (day (toL s) q)) :=
  (day_m b s q c W hs hq ht hg hc).mono fun _ _ h => two_of (fun _ _ h => by have := (day_ok h (by simpa using hq)).1.2.1; simpa using this) h
theorem digit_t (b : Nat) (s : ByteArray) (hs : s.size ≤ maxLen) (m : Int) (hm : m ≤ 9) (q : Nat) (c : CmdT) (W : World) (hq : q ≤ s.size) (hc : PS W b s q c) :
    Calls Tryd.prog 130 #[.pointer (some ⟨b, 0, none⟩), .int .i64 m] W (Two b s c W (fun d : Int => .int .i64 d) (digit m (toL s) q)) :=
  (digit_m b s q c m W hs hq hm hc).mono fun _ _ h => two_of (fun _ _ h => by have := (digit_ok h (by simpa using hq) hm).1.2.1; simpa using this) h
theorem number_t (b : Nat) (s : ByteArray) (hs : s.size ≤ maxLen) (m : Int) (q : Nat) (c : CmdT) (W : World) (hq : q ≤ s.size) (hc : PS W b s q c) :
    Calls Tryd.prog 133 #[.pointer (some ⟨b, 0, none⟩), .int .i64 m] W (Two b s c W (fun d : Int => .int .i64 d) (number m (toL s) q)) :=
  (number_m b s q c m W hs hq hc).mono fun _ _ h => two_of (fun _ _ h => by have := (number_ok h (by simpa using hq)).1.2.1; simpa using this) h
theorem sign_t (b : Nat) (s : ByteArray) (hs : s.size ≤ maxLen) (g : UInt8) (q : Nat) (c : CmdT) (W : World) (hq : q ≤ s.size) (hc : PS W b s q c) :
    Calls Tryd.prog 127 #[.pointer (some ⟨b, 0, none⟩), .string ⟨#[g]⟩] W (Two b s c W (fun _ : Unit => .tuple #[]) (sign [g] (toL s) q)) :=
  (sign_any b s q ⟨#[g]⟩ c W hs hq (show 1 ≤ maxLen by decide) hc).mono fun _ _ h => two_of (fun _ _ h => by have := (sign_ok h (by simpa using hq)).2.1; simpa using this) h



theorem PS.setOffice {w : World} {b : Nat} {s : ByteArray} {p : Nat} {c : CmdT} (h : PS w b s p c) (t : List UInt8) : PS (w.setCell ⟨b, 4, none⟩ (txV t)) b s p { c with office := t } := Blk.set h 4 (txV t)
theorem PS.office {w : World} {b : Nat} {s : ByteArray} {p : Nat} {c : CmdT} (h : PS w b s p c) : w.cell? ⟨b, 4, none⟩ = some (txV c.office) := h.cell 4
theorem PS.setDay {w : World} {b : Nat} {s : ByteArray} {p : Nat} {c : CmdT} (h : PS w b s p c) (t : Int) : PS (w.setCell ⟨b, 5, none⟩ (.int .i64 t)) b s p { c with day := t } := Blk.set h 5 (.int .i64 t)
theorem PS.day {w : World} {b : Nat} {s : ByteArray} {p : Nat} {c : CmdT} (h : PS w b s p c) : w.cell? ⟨b, 5, none⟩ = some (.int .i64 c.day) := h.cell 5
theorem PS.setSrc {w : World} {b : Nat} {s : ByteArray} {p : Nat} {c : CmdT} (h : PS w b s p c) (t : List UInt8) : PS (w.setCell ⟨b, 6, none⟩ (txV t)) b s p { c with src := t } := Blk.set h 6 (txV t)
theorem PS.src {w : World} {b : Nat} {s : ByteArray} {p : Nat} {c : CmdT} (h : PS w b s p c) : w.cell? ⟨b, 6, none⟩ = some (txV c.src) := h.cell 6
theorem PS.setDst {w : World} {b : Nat} {s : ByteArray} {p : Nat} {c : CmdT} (h : PS w b s p c) (t : List UInt8) : PS (w.setCell ⟨b, 7, none⟩ (txV t)) b s p { c with dst := t } := Blk.set h 7 (txV t)
theorem PS.dst {w : World} {b : Nat} {s : ByteArray} {p : Nat} {c : CmdT} (h : PS w b s p c) : w.cell? ⟨b, 7, none⟩ = some (txV c.dst) := h.cell 7
theorem PS.setMinute {w : World} {b : Nat} {s : ByteArray} {p : Nat} {c : CmdT} (h : PS w b s p c) (t : Int) : PS (w.setCell ⟨b, 8, none⟩ (.int .i64 t)) b s p { c with minute := t } := Blk.set h 8 (.int .i64 t)
theorem PS.minute {w : World} {b : Nat} {s : ByteArray} {p : Nat} {c : CmdT} (h : PS w b s p c) : w.cell? ⟨b, 8, none⟩ = some (.int .i64 c.minute) := h.cell 8
theorem PS.setLast {w : World} {b : Nat} {s : ByteArray} {p : Nat} {c : CmdT} (h : PS w b s p c) (t : List UInt8) : PS (w.setCell ⟨b, 9, none⟩ (txV t)) b s p { c with last := t } := Blk.set h 9 (txV t)
theorem PS.last {w : World} {b : Nat} {s : ByteArray} {p : Nat} {c : CmdT} (h : PS w b s p c) : w.cell? ⟨b, 9, none⟩ = some (txV c.last) := h.cell 9
theorem PS.setFirst {w : World} {b : Nat} {s : ByteArray} {p : Nat} {c : CmdT} (h : PS w b s p c) (t : List UInt8) : PS (w.setCell ⟨b, 10, none⟩ (txV t)) b s p { c with first := t } := Blk.set h 10 (txV t)
theorem PS.first {w : World} {b : Nat} {s : ByteArray} {p : Nat} {c : CmdT} (h : PS w b s p c) : w.cell? ⟨b, 10, none⟩ = some (txV c.first) := h.cell 10
theorem PS.setN {w : World} {b : Nat} {s : ByteArray} {p : Nat} {c : CmdT} (h : PS w b s p c) (t : Int) : PS (w.setCell ⟨b, 11, none⟩ (.int .i64 t)) b s p { c with n := t } := Blk.set h 11 (.int .i64 t)
theorem PS.n {w : World} {b : Nat} {s : ByteArray} {p : Nat} {c : CmdT} (h : PS w b s p c) : w.cell? ⟨b, 11, none⟩ = some (.int .i64 c.n) := h.cell 11
theorem PS.setPax {w : World} {b : Nat} {s : ByteArray} {p : Nat} {c : CmdT} (h : PS w b s p c) (t : Int) : PS (w.setCell ⟨b, 12, none⟩ (.int .i64 t)) b s p { c with pax := t } := Blk.set h 12 (.int .i64 t)
theorem PS.pax {w : World} {b : Nat} {s : ByteArray} {p : Nat} {c : CmdT} (h : PS w b s p c) : w.cell? ⟨b, 12, none⟩ = some (.int .i64 c.pax) := h.cell 12
theorem PS.setCls {w : World} {b : Nat} {s : ByteArray} {p : Nat} {c : CmdT} (h : PS w b s p c) (t : UInt8) : PS (w.setCell ⟨b, 13, none⟩ (.int .u8 t.toNat)) b s p { c with cls := t } := Blk.set h 13 (.int .u8 t.toNat)
theorem PS.cls {w : World} {b : Nat} {s : ByteArray} {p : Nat} {c : CmdT} (h : PS w b s p c) : w.cell? ⟨b, 13, none⟩ = some (.int .u8 c.cls.toNat) := h.cell 13
theorem PS.setLine {w : World} {b : Nat} {s : ByteArray} {p : Nat} {c : CmdT} (h : PS w b s p c) (t : Int) : PS (w.setCell ⟨b, 14, none⟩ (.int .i64 t)) b s p { c with line := t } := Blk.set h 14 (.int .i64 t)
theorem PS.line {w : World} {b : Nat} {s : ByteArray} {p : Nat} {c : CmdT} (h : PS w b s p c) : w.cell? ⟨b, 14, none⟩ = some (.int .i64 c.line) := h.cell 14

theorem outc_ok {b : Nat} {s : ByteArray} {W w' : World} {o : Except Flt (CmdT × Nat)} {c : CmdT} {q : Nat} (h : o = .ok (c, q)) (h1 : PS w' b s q c) (h2 : Below b W w') : OutC b s W o (.returned (.tuple #[])) w' := by
  rw [h]; exact ⟨rfl, h1, h2⟩
theorem outc_er {b : Nat} {s : ByteArray} {W w' : World} {o : Except Flt (CmdT × Nat)} {k : Int} {q : Nat} (h : o = .error (k, q)) (h2 : Below b W w') : OutC b s W o (boom k (q : Nat)) w' := by
  rw [h]; exact ⟨rfl, h2⟩
theorem clock_m_any (b : Nat) : True := trivial

theorem seat_t (b : Nat) (s : ByteArray) (hs : s.size ≤ maxLen) (q : Nat) (c : CmdT) (W : World) (hq : q ≤ s.size) (hc : PS W b s q c) :
    Calls Tryd.prog 179 #[.pointer (some ⟨b, 0, none⟩)] W fun e w' => (∃ x q', RowKit.Hid (seat (toL s) q = .ok (x, q')) ∧ q' ≤ s.size ∧ e = .returned (.tuple #[]) ∧ PS w' b s q' { c with row := x.1, c := x.2 } ∧ RowKit.Hid (Below b W w')) ∨ (∃ k q', RowKit.Hid (seat (toL s) q = .error (k, q')) ∧ e = boom k (q' : Nat) ∧ RowKit.Hid (Below b W w')) := by
  refine (seat_m b s q c W hs hq hc).mono fun e w' h => ?_
  cases hx : seat (toL s) q with
  | ok x =>
    obtain ⟨v, q'⟩ := x
    rw [hx] at h
    obtain ⟨h1, h2, h3⟩ := h
    exact .inl ⟨v, q', Lib.hid rfl, by have := (seat_ok hx (by simpa using hq)).2.1; simpa using this, h1, h2, Lib.hid h3⟩
  | error x =>
    obtain ⟨k, q'⟩ := x
    rw [hx] at h
    exact .inr ⟨k, q', Lib.hid rfl, h.1, Lib.hid h.2⟩
theorem free_t (b : Nat) (s : ByteArray) (hs : s.size ≤ maxLen) (q : Nat) (c : CmdT) (W : World) (hq : q ≤ s.size) (hc : PS W b s q c) :
    Calls Tryd.prog 135 #[.pointer (some ⟨b, 0, none⟩)] W fun e w' => (∃ x q', RowKit.Hid (free (toL s) q = .ok (x, q')) ∧ e = .returned (.tuple #[]) ∧ PS w' b s q' { c with text := x } ∧ RowKit.Hid (Below b W w')) ∨ (∃ k q', RowKit.Hid (free (toL s) q = .error (k, q')) ∧ e = boom k (q' : Nat) ∧ RowKit.Hid (Below b W w')) := by
  refine (free_m b s q c W hs hq hc).mono fun e w' h => ?_
  cases hx : free (toL s) q with
  | ok x =>
    obtain ⟨v, q'⟩ := x
    rw [hx] at h
    obtain ⟨h1, h2, h3⟩ := h
    exact .inl ⟨v, q', Lib.hid rfl, h1, h2, Lib.hid h3⟩
  | error x =>
    obtain ⟨k, q'⟩ := x
    rw [hx] at h
    exact .inr ⟨k, q', Lib.hid rfl, h.1, Lib.hid h.2⟩


/-- A test of the program's, two ways. -/
def Tell (W : World) (x : Bool) (e : Ending) (w' : World) : Prop :=
  (RowKit.Hid (x = true) ∧ e = .returned (.bool true) ∧ RowKit.Hid (Below W.heap.size W w')) ∨ (RowKit.Hid (x = false) ∧ e = .returned (.bool false) ∧ RowKit.Hid (Below W.heap.size W w'))
theorem tell_of {W : World} {x : Bool} {e : Ending} {w' : World} (h : e = .returned (.bool x) ∧ Below W.heap.size W w') : Tell W x e w' := by
  cases x
  · exact .inr ⟨Lib.hid rfl, h.1, Lib.hid h.2⟩
  · exact .inl ⟨Lib.hid rfl, h.1, Lib.hid h.2⟩
theorem tx_li (t : List UInt8) : (⟨t.toArray⟩ : ByteArray).data.toList = t := by simp
theorem agent_q (t : List UInt8) (W : World) (h : t.length ≤ maxLen) : Calls Tryd.prog 126 #[txV t] W (Tell W (agentS t)) := by
  have h := agent_any ⟨t.toArray⟩ W h
  rw [tx_li] at h
  exact h.mono fun _ _ h => tell_of h
theorem locator_q (t : List UInt8) (W : World) (h : t.length ≤ maxLen) : Calls Tryd.prog 45 #[txV t] W (Tell W (lettersS t 6 6)) := by
  have h := locator_any ⟨t.toArray⟩ W h
  rw [tx_li] at h
  exact h.mono fun _ _ h => tell_of h
theorem class_q (x : UInt8) (W : World) : Calls Tryd.prog 132 #[.int .u8 x.toNat] W (Tell W (bL x)) :=
  (class_any _ W (by omega) (byte_hi x)).mono fun _ _ h => tell_of ⟨h.1, by rw [h.2]; exact Below.refl _ _⟩
theorem clock_q (t : List UInt8) (W : World) : Calls Tryd.prog 136 #[txV t] W fun e w' => (∃ m : Nat, RowKit.Hid (Da.readC t = some m) ∧ e = .returned (.tuple #[.int .i64 (m : Int), .bool true]) ∧ RowKit.Hid (Below W.heap.size W w')) ∨ (RowKit.Hid (Da.readC t = none) ∧ e = .returned (.tuple #[.int .i64 0, .bool false]) ∧ RowKit.Hid (Below W.heap.size W w')) := by
  have h := Da.readClock_any ⟨t.toArray⟩ W
  rw [tx_li] at h
  refine h.mono fun e w' h => ?_
  cases hr : Da.readC t with
  | none => rw [hr] at h; exact .inr ⟨Lib.hid rfl, h.1, Lib.hid h.2⟩
  | some m => rw [hr] at h; exact .inl ⟨m, Lib.hid rfl, h.1, Lib.hid h.2⟩
theorem some_t (b : Nat) (s : ByteArray) (hs : s.size ≤ maxLen) (n : Nat) (hn : n ≤ 100) (q : Nat) (c : CmdT) (W : World) (hq : q ≤ s.size) (hc : PS W b s q c) :
    Calls Tryd.prog 131 #[.pointer (some ⟨b, 0, none⟩), .int .i64 (n : Int)] W fun e w' => ∃ t, RowKit.Hid (tk (toL s) n q = t) ∧ t.length ≤ 100 ∧ q + t.length ≤ s.size ∧ e = .returned (txV t) ∧ PS w' b s (q + t.length) c ∧ RowKit.Hid (Below b W w') := by
  refine (some_any b s q n c W hs hq hn hc).mono ?_
  rintro e w' ⟨rfl, h1, h2⟩
  have h3 := tk_size (toL s) n q
  have h4 := (took_tk (l := toL s) (n := n) (p := q) (by simpa using hq)).2.1
  exact ⟨_, Lib.hid rfl, by omega, by simpa using h4, rfl, h1, Lib.hid h2⟩
theorem some4_t (b : Nat) (s : ByteArray) (hs : s.size ≤ maxLen) (q : Nat) (c : CmdT) (W : World) (hq : q ≤ s.size) (hc : PS W b s q c) :
    Calls Tryd.prog 131 #[.pointer (some ⟨b, 0, none⟩), .int .i64 4] W fun e w' => ∃ t, RowKit.Hid (tk (toL s) 4 q = t) ∧ t.length ≤ 100 ∧ q + t.length ≤ s.size ∧ e = .returned (txV t) ∧ PS w' b s (q + t.length) c ∧ RowKit.Hid (Below b W w') := some_t b s hs 4 (by decide) q c W hq hc
theorem some6_t (b : Nat) (s : ByteArray) (hs : s.size ≤ maxLen) (q : Nat) (c : CmdT) (W : World) (hq : q ≤ s.size) (hc : PS W b s q c) :
    Calls Tryd.prog 131 #[.pointer (some ⟨b, 0, none⟩), .int .i64 6] W fun e w' => ∃ t, RowKit.Hid (tk (toL s) 6 q = t) ∧ t.length ≤ 100 ∧ q + t.length ≤ s.size ∧ e = .returned (txV t) ∧ PS w' b s (q + t.length) c ∧ RowKit.Hid (Below b W w') := some_t b s hs 6 (by decide) q c W hq hc
theorem some1_t (b : Nat) (s : ByteArray) (hs : s.size ≤ maxLen) (q : Nat) (c : CmdT) (W : World) (hq : q ≤ s.size) (hc : PS W b s q c) :
    Calls Tryd.prog 131 #[.pointer (some ⟨b, 0, none⟩), .int .i64 1] W fun e w' => (RowKit.Hid (tk (toL s) 1 q = []) ∧ e = .returned (.string ⟨#[]⟩) ∧ PS w' b s q c ∧ RowKit.Hid (Below b W w')) ∨ (∃ x r, RowKit.Hid (tk (toL s) 1 q = [x]) ∧ q + 1 ≤ s.size ∧ r.size = 1 ∧ r.toList.isEmpty = false ∧ (∃ h : 0 < r.size, r[0] = x) ∧ e = .returned (.string r) ∧ PS w' b s (q + 1) c ∧ RowKit.Hid (Below b W w')) := by
  refine (some_any b s q 1 c W hs hq (by decide) hc).mono ?_
  rintro e w' ⟨rfl, h1, h2⟩
  have h4 := (took_tk (l := toL s) (n := 1) (p := q) (by simpa using hq)).2.1
  have h3 := tk_size (toL s) 1 q
  generalize tk (toL s) 1 q = t at *
  rcases one_text h3 with rfl | ⟨x, rfl⟩
  · exact .inl ⟨Lib.hid rfl, rfl, h1, Lib.hid h2⟩
  · obtain ⟨r, hr, r1, r2, r3⟩ := one_facts x
    unfold txV
    rw [hr]
    exact .inr ⟨x, r, Lib.hid rfl, by simpa using h4, r1, r2, ⟨by omega, r3 (by omega)⟩, rfl, h1, Lib.hid h2⟩
theorem run_t (b : Nat) (s : ByteArray) (hs : s.size ≤ maxLen) (k : Int) (q : Nat) (c : CmdT) (W : World) (hq : q ≤ s.size) (hc : PS W b s q c) :
    Calls Tryd.prog 124 #[.pointer (some ⟨b, 0, none⟩), .int .i64 k] W fun e w' => ∃ t, RowKit.Hid (runL k ((toL s).drop q) = t) ∧ t.length ≤ maxLen ∧ q + t.length ≤ s.size ∧ e = .returned (txV t) ∧ PS w' b s (q + t.length) c ∧ RowKit.Hid (Below b W w') := by
  have hpl : place s.size q = q := place_in _ _ (by omega) (by omega)
  have hrl : q + (runL k ((toL s).drop q)).length ≤ s.size := by have := runL_le k ((toL s).drop q); simp at this; omega
  refine (run_any b s q k W hs hc).mono ?_
  rintro e w' ⟨rfl, h1, h2⟩
  rw [hpl, Int.toNat_natCast] at h1 ⊢
  exact ⟨_, Lib.hid rfl, by omega, hrl, rfl, h1, Lib.hid (gr_low h2 (Cur.lt hc))⟩
theorem word_t (b : Nat) (s : ByteArray) (hs : s.size ≤ maxLen) (g : UInt8) (q : Nat) (c : CmdT) (W : World) (hq : q ≤ s.size) (hc : PS W b s q c) :
    Calls Tryd.prog 123 #[.pointer (some ⟨b, 0, none⟩), .string ⟨#[g]⟩] W fun e w' => (RowKit.Hid (isPre [g] ((toL s).drop q) = true) ∧ q + 1 ≤ s.size ∧ e = .returned (.bool true) ∧ PS w' b s (q + 1) c ∧ RowKit.Hid (Below b W w')) ∨ (RowKit.Hid (isPre [g] ((toL s).drop q) = false) ∧ e = .returned (.bool false) ∧ PS w' b s q c ∧ RowKit.Hid (Below b W w')) := by
  have hpl : place s.size q = q := place_in _ _ (by omega) (by omega)
  refine (word_any b s q ⟨#[g]⟩ W hs (show 1 ≤ maxLen by decide) hc).mono ?_
  rintro e w' ⟨rfl, h1, h2⟩
  rw [hpl, Int.toNat_natCast] at h1 ⊢
  unfold wordP at h1
  cases hb : isPre [g] ((toL s).drop q) with
  | true =>
    have hb' : isPre (⟨#[g]⟩ : ByteArray).data.toList (s.data.toList.drop q) = true := hb
    rw [hb'] at h1
    have := isPre_len hb
    simp at this
    exact .inl ⟨Lib.hid rfl, by omega, rfl, h1, Lib.hid (gr_low h2 (Cur.lt hc))⟩
  | false =>
    have hb' : isPre (⟨#[g]⟩ : ByteArray).data.toList (s.data.toList.drop q) = false := hb
    rw [hb'] at h1
    exact .inr ⟨Lib.hid rfl, rfl, h1, Lib.hid (gr_low h2 (Cur.lt hc))⟩

set_option maxHeartbeats 4000000 in
theorem parts_avail (b : Nat) (s : ByteArray) (p : Nat) (w : World) (hs : s.size ≤ maxLen) (hp : p ≤ s.size) (ht : Da.LenTab w) (hg : 0 < b) (hc : PS w b s p (cmdK 3)) :
    Calls Tryd.prog 62 #[.pointer (some ⟨b, 0, none⟩)] w (OutC b s w (pAvail (toL s) p)) := by
  have HDA : RowKit.Hid (∀ q c W, Da.LenTab W → q ≤ s.size → PS W b s q c → _) := Lib.hid (day_t b s hs hg)
  have HCI : RowKit.Hid (∀ q c W, q ≤ s.size → PS W b s q c → _) := Lib.hid (city_t b s hs)
  have HTAB := Lib.hid ht
  clear ht
  have hB0 := Lib.hid (Below.refl b w)
  have k1 := hc.at_
  have k2 : w.cell? ⟨b, 2, none⟩ = some (.int .i64 3) := hc.kind
  go_enter Tryd.func62, Tryd.ntmps62
  go_wp2_with (first
    | (go_at_call 129; (with_reducible refine (HDA.out _ _ _ (ltab_keep HTAB.out hB0.out hg) hp hc).mono ?_); rintro e w1 (⟨v1, q1, h1, hq1, rfl, hc1, hx1⟩ | ⟨y1, q1, h1, rfl, hx1⟩); have hb1 := Lib.hid (bl3 hB0.out hx1.out); have kf1 := hc1.frozen 5; have kc1 := hc1.day; have hd1 := hc1.setDay v1; have hB1 := Lib.hid (low_set hb1.out 5 (.int .i64 v1)))
    | (go_at_call 128; (with_reducible refine (HCI.out _ _ _ hq1 hd1).mono ?_); rintro e w2 (⟨v2, q2, h2, hq2, rfl, hc2, hx2⟩ | ⟨y2, q2, h2, rfl, hx2⟩); have hb2 := Lib.hid (bl3 hB1.out hx2.out); have kf2 := hc2.frozen 6; have kc2 := hc2.src; have hd2 := hc2.setSrc v2; have hB2 := Lib.hid (low_set hb2.out 6 (txV v2)))
    | (go_at_call 128; (with_reducible refine (HCI.out _ _ _ hq2 hd2).mono ?_); rintro e w3 (⟨v3, q3, h3, hq3, rfl, hc3, hx3⟩ | ⟨y3, q3, h3, rfl, hx3⟩); have hb3 := Lib.hid (bl3 hB2.out hx3.out); have kf3 := hc3.frozen 7; have kc3 := hc3.dst; have hd3 := hc3.setDst v3; have hB3 := Lib.hid (low_set hb3.out 7 (txV v3))))
  all_goals first
    | (go_end0; exact outc_ok (by unfold pAvail; simp only [h1.out, h2.out, h3.out, bind, Except.bind, pure, Except.pure]) hd3 hB3.out)
    | exact ⟨rfl, outc_er (by unfold pAvail; simp only [h1.out, bind, Except.bind, pure, Except.pure]) (bl3 hB0.out hx1.out)⟩
    | exact ⟨rfl, outc_er (by unfold pAvail; simp only [h1.out, h2.out, bind, Except.bind, pure, Except.pure]) (bl3 hB1.out hx2.out)⟩
    | exact ⟨rfl, outc_er (by unfold pAvail; simp only [h1.out, h2.out, h3.out, bind, Except.bind, pure, Except.pure]) (bl3 hB2.out hx3.out)⟩

set_option maxHeartbeats 4000000 in
theorem parts_name (b : Nat) (s : ByteArray) (p : Nat) (w : World) (hs : s.size ≤ maxLen) (hp : p ≤ s.size) (hc : PS w b s p (cmdK 5)) :
    Calls Tryd.prog 62 #[.pointer (some ⟨b, 0, none⟩)] w (OutC b s w (pName (toL s) p)) := by
  have HPE : RowKit.Hid (∀ q c W, q ≤ s.size → PS W b s q c → _) := Lib.hid (person_t b s hs)
  have HS47 : RowKit.Hid (∀ q c W, q ≤ s.size → PS W b s q c → _) := Lib.hid (sign_t b s hs 47)
  have hB0 := Lib.hid (Below.refl b w)
  have k1 := hc.at_
  have k2 : w.cell? ⟨b, 2, none⟩ = some (.int .i64 5) := hc.kind
  go_enter Tryd.func62, Tryd.ntmps62
  go_wp2_with (first
    | (go_at_call 134; (with_reducible refine (HPE.out _ _ _ hp hc).mono ?_); rintro e w1 (⟨v1, q1, h1, hq1, rfl, hc1, hx1⟩ | ⟨y1, q1, h1, rfl, hx1⟩); have hb1 := Lib.hid (bl3 hB0.out hx1.out); have kf1 := hc1.frozen 9; have kc1 := hc1.last; have hd1 := hc1.setLast v1; have hB1 := Lib.hid (low_set hb1.out 9 (txV v1)))
    | (go_at_call 127; (with_reducible refine (HS47.out _ _ _ hq1 hd1).mono ?_); rintro e w2 (⟨v2, q2, h2, hq2, rfl, hc2, hx2⟩ | ⟨y2, q2, h2, rfl, hx2⟩); have hb2 := Lib.hid (bl3 hB1.out hx2.out); have hd2 := hc2; have hB2 := hb2)
    | (go_at_call 134; (with_reducible refine (HPE.out _ _ _ hq2 hd2).mono ?_); rintro e w3 (⟨v3, q3, h3, hq3, rfl, hc3, hx3⟩ | ⟨y3, q3, h3, rfl, hx3⟩); have hb3 := Lib.hid (bl3 hB2.out hx3.out); have kf3 := hc3.frozen 10; have kc3 := hc3.first; have hd3 := hc3.setFirst v3; have hB3 := Lib.hid (low_set hb3.out 10 (txV v3))))
  all_goals first
    | (go_end0; exact outc_ok (by unfold pName; simp only [h1.out, h2.out, h3.out, bind, Except.bind, pure, Except.pure]) hd3 hB3.out)
    | exact ⟨rfl, outc_er (by unfold pName; simp only [h1.out, bind, Except.bind, pure, Except.pure]) (bl3 hB0.out hx1.out)⟩
    | exact ⟨rfl, outc_er (by unfold pName; simp only [h1.out, h2.out, bind, Except.bind, pure, Except.pure]) (bl3 hB1.out hx2.out)⟩
    | exact ⟨rfl, outc_er (by unfold pName; simp only [h1.out, h2.out, h3.out, bind, Except.bind, pure, Except.pure]) (bl3 hB2.out hx3.out)⟩

set_option maxHeartbeats 4000000 in
theorem parts_unseat (b : Nat) (s : ByteArray) (p : Nat) (w : World) (hs : s.size ≤ maxLen) (hp : p ≤ s.size) (hc : PS w b s p (cmdK 13)) :
    Calls Tryd.prog 62 #[.pointer (some ⟨b, 0, none⟩)] w (OutC b s w (pUnseat (toL s) p)) := by
  have HD8 : RowKit.Hid (∀ q c W, q ≤ s.size → PS W b s q c → _) := Lib.hid (digit_t b s hs 8 (by decide))
  have HS45 : RowKit.Hid (∀ q c W, q ≤ s.size → PS W b s q c → _) := Lib.hid (sign_t b s hs 45)
  have HD9 : RowKit.Hid (∀ q c W, q ≤ s.size → PS W b s q c → _) := Lib.hid (digit_t b s hs 9 (by decide))
  have hB0 := Lib.hid (Below.refl b w)
  have k1 := hc.at_
  have k2 : w.cell? ⟨b, 2, none⟩ = some (.int .i64 13) := hc.kind
  go_enter Tryd.func62, Tryd.ntmps62
  go_wp2_with (first
    | (go_at_call 130; (with_reducible refine (HD8.out _ _ _ hp hc).mono ?_); rintro e w1 (⟨v1, q1, h1, hq1, rfl, hc1, hx1⟩ | ⟨y1, q1, h1, rfl, hx1⟩); have hb1 := Lib.hid (bl3 hB0.out hx1.out); have kf1 := hc1.frozen 11; have kc1 := hc1.n; have hd1 := hc1.setN v1; have hB1 := Lib.hid (low_set hb1.out 11 (.int .i64 v1)))
    | (go_at_call 127; (with_reducible refine (HS45.out _ _ _ hq1 hd1).mono ?_); rintro e w2 (⟨v2, q2, h2, hq2, rfl, hc2, hx2⟩ | ⟨y2, q2, h2, rfl, hx2⟩); have hb2 := Lib.hid (bl3 hB1.out hx2.out); have hd2 := hc2; have hB2 := hb2)
    | (go_at_call 130; (with_reducible refine (HD9.out _ _ _ hq2 hd2).mono ?_); rintro e w3 (⟨v3, q3, h3, hq3, rfl, hc3, hx3⟩ | ⟨y3, q3, h3, rfl, hx3⟩); have hb3 := Lib.hid (bl3 hB2.out hx3.out); have kf3 := hc3.frozen 12; have kc3 := hc3.pax; have hd3 := hc3.setPax v3; have hB3 := Lib.hid (low_set hb3.out 12 (.int .i64 v3))))
  all_goals first
    | (go_end0; exact outc_ok (by unfold pUnseat; simp only [h1.out, h2.out, h3.out, bind, Except.bind, pure, Except.pure]) hd3 hB3.out)
    | exact ⟨rfl, outc_er (by unfold pUnseat; simp only [h1.out, bind, Except.bind, pure, Except.pure]) (bl3 hB0.out hx1.out)⟩
    | exact ⟨rfl, outc_er (by unfold pUnseat; simp only [h1.out, h2.out, bind, Except.bind, pure, Except.pure]) (bl3 hB1.out hx2.out)⟩
    | exact ⟨rfl, outc_er (by unfold pUnseat; simp only [h1.out, h2.out, h3.out, bind, Except.bind, pure, Except.pure]) (bl3 hB2.out hx3.out)⟩

set_option maxHeartbeats 4000000 in
theorem parts_cancel (b : Nat) (s : ByteArray) (p : Nat) (w : World) (hs : s.size ≤ maxLen) (hp : p ≤ s.size) (hc : PS w b s p (cmdK 14)) :
    Calls Tryd.prog 62 #[.pointer (some ⟨b, 0, none⟩)] w (OutC b s w (pCancel (toL s) p)) := by
  have HD8 : RowKit.Hid (∀ q c W, q ≤ s.size → PS W b s q c → _) := Lib.hid (digit_t b s hs 8 (by decide))
  have hB0 := Lib.hid (Below.refl b w)
  have k1 := hc.at_
  have k2 : w.cell? ⟨b, 2, none⟩ = some (.int .i64 14) := hc.kind
  go_enter Tryd.func62, Tryd.ntmps62
  go_wp2_with (first
    | (go_at_call 130; (with_reducible refine (HD8.out _ _ _ hp hc).mono ?_); rintro e w1 (⟨v1, q1, h1, hq1, rfl, hc1, hx1⟩ | ⟨y1, q1, h1, rfl, hx1⟩); have hb1 := Lib.hid (bl3 hB0.out hx1.out); have kf1 := hc1.frozen 11; have kc1 := hc1.n; have hd1 := hc1.setN v1; have hB1 := Lib.hid (low_set hb1.out 11 (.int .i64 v1))))
  all_goals first
    | (go_end0; exact outc_ok (by unfold pCancel; simp only [h1.out, bind, Except.bind, pure, Except.pure]) hd1 hB1.out)
    | exact ⟨rfl, outc_er (by unfold pCancel; simp only [h1.out, bind, Except.bind, pure, Except.pure]) (bl3 hB0.out hx1.out)⟩

set_option maxHeartbeats 4000000 in
theorem parts_in (b : Nat) (s : ByteArray) (p : Nat) (w : World) (hs : s.size ≤ maxLen) (hp : p ≤ s.size) (hc : PS w b s p (cmdK 1)) :
    Calls Tryd.prog 62 #[.pointer (some ⟨b, 0, none⟩)] w (OutC b s w (pIn (toL s) p)) := by
  have HRU : RowKit.Hid (∀ q c W, q ≤ s.size → PS W b s q c → _) := Lib.hid (run_t b s hs 3)
  have HAG : RowKit.Hid (∀ (t : List UInt8) W, t.length ≤ maxLen → _) := Lib.hid agent_q
  have HEA : RowKit.Hid (agent (toL s) p = if agentS (runL 3 ((toL s).drop p)) then .ok (runL 3 ((toL s).drop p), p + (runL 3 ((toL s).drop p)).length) else .error (46, p)) := Lib.hid rfl
  have HS47 : RowKit.Hid (∀ q c W, q ≤ s.size → PS W b s q c → _) := Lib.hid (sign_t b s hs 47)
  have HCI : RowKit.Hid (∀ q c W, q ≤ s.size → PS W b s q c → _) := Lib.hid (city_t b s hs)
  have hB0 := Lib.hid (Below.refl b w)
  have k1 := hc.at_
  have k2 : w.cell? ⟨b, 2, none⟩ = some (.int .i64 1) := hc.kind
  go_enter Tryd.func62, Tryd.ntmps62
  go_wp2_with (first
    | (go_at_call 124; (with_reducible refine (HRU.out _ _ _ hp hc).mono ?_); rintro e w1 ⟨t, h1, hl1, hq1, rfl, hc1, hx1⟩; have kf1 := hc1.frozen 3; have kc1 := hc1.tx; have hd1 := hc1.setText t; have hB1 := Lib.hid (low_set hx1.out 3 (txV t)); have kt1 := hd1.tx)
    | (go_at_call 126; (with_reducible refine (HAG.out _ _ hl1).mono ?_); rintro e w2 (⟨h2, rfl, hx2⟩ | ⟨h2, rfl, hx2⟩); have hd2 := hd1.mono hx2.out; have hB2 := Lib.hid (bl2 hB1.out hx2.out hd1.lt))
    | (go_at_call 125; (with_reducible refine (want_yes _ _ _ _).mono ?_); rintro e w9 ⟨rfl, rfl⟩)
    | (go_at_call 125; (with_reducible refine (want_no _ _ _ _).mono ?_); rintro e w9 ⟨rfl, rfl⟩)
    | (go_at_call 127; (with_reducible refine (HS47.out _ _ _ hq1 hd2).mono ?_); rintro e w3 (⟨v3, q3, h3, hq3, rfl, hc3, hx3⟩ | ⟨y3, q3, h3, rfl, hx3⟩); have hb3 := Lib.hid (bl3 hB2.out hx3.out); have hd3 := hc3; have hB3 := hb3)
    | (go_at_call 128; (with_reducible refine (HCI.out _ _ _ hq3 hd3).mono ?_); rintro e w4 (⟨v4, q4, h4, hq4, rfl, hc4, hx4⟩ | ⟨y4, q4, h4, rfl, hx4⟩); have hb4 := Lib.hid (bl3 hB3.out hx4.out); have kf4 := hc4.frozen 4; have kc4 := hc4.office; have hd4 := hc4.setOffice v4; have hB4 := Lib.hid (low_set hb4.out 4 (txV v4))))
  all_goals first
    | (go_end0; exact outc_ok (by unfold pIn; simp only [HEA.out, h1.out, h2.out, h3.out, h4.out, bind, Except.bind, pure, Except.pure, if_true, if_false, Bool.false_eq_true, Bool.true_and, Bool.and_true, Bool.and_false, Bool.false_and] <;> rfl) hd4 hB4.out)
    | exact ⟨rfl, outc_er (by unfold pIn; simp only [HEA.out, h1.out, h2.out, h3.out, h4.out, bind, Except.bind, pure, Except.pure, if_true, if_false, Bool.false_eq_true, Bool.true_and, Bool.and_true, Bool.and_false, Bool.false_and] <;> rfl) (bl3 hB3.out hx4.out)⟩
    | exact ⟨rfl, outc_er (by unfold pIn; simp only [HEA.out, h1.out, h2.out, h3.out, bind, Except.bind, pure, Except.pure, if_true, if_false, Bool.false_eq_true, Bool.true_and, Bool.and_true, Bool.and_false, Bool.false_and] <;> rfl) (bl3 hB2.out hx3.out)⟩
    | exact ⟨rfl, outc_er (by unfold pIn; simp only [HEA.out, h1.out, h2.out, bind, Except.bind, pure, Except.pure, if_true, if_false, Bool.false_eq_true, Bool.true_and, Bool.and_true, Bool.and_false, Bool.false_and] <;> rfl) (bl2 hB1.out hx2.out hd1.lt)⟩

set_option maxHeartbeats 4000000 in
theorem parts_sell (b : Nat) (s : ByteArray) (p : Nat) (w : World) (hs : s.size ≤ maxLen) (hp : p ≤ s.size) (hc : PS w b s p (cmdK 4)) :
    Calls Tryd.prog 62 #[.pointer (some ⟨b, 0, none⟩)] w (OutC b s w (pSell (toL s) p)) := by
  have HD9 : RowKit.Hid (∀ q c W, q ≤ s.size → PS W b s q c → _) := Lib.hid (digit_t b s hs 9 (by decide))
  have HN1 : RowKit.Hid (∀ q c W, q ≤ s.size → PS W b s q c → _) := Lib.hid (number_t b s hs 1)
  have HSO : RowKit.Hid (∀ q c W, q ≤ s.size → PS W b s q c → _) := Lib.hid (some1_t b s hs)
  have HCL := Lib.hid class_q
  have HEC : RowKit.Hid (∀ q, cls (toL s) q = if clsB (tk (toL s) 1 q) then .ok ((tk (toL s) 1 q).getD 0 0, q + 1) else .error (46, q)) := Lib.hid fun _ => rfl
  have HG0 : RowKit.Hid (∀ (x : UInt8), ([x] : List UInt8).getD 0 0 = x ∧ decide (([x] : List UInt8).length = 1) = true ∧ decide (([] : List UInt8).length = 1) = false) := Lib.hid fun _ => ⟨rfl, rfl, rfl⟩
  have hB0 := Lib.hid (Below.refl b w)
  have k1 := hc.at_
  have k2 : w.cell? ⟨b, 2, none⟩ = some (.int .i64 4) := hc.kind
  go_enter Tryd.func62, Tryd.ntmps62
  go_wp2_with (first
    | (go_at_call 130; (with_reducible refine (HD9.out _ _ _ hp hc).mono ?_); rintro e w1 (⟨v1, q1, h1, hq1, rfl, hc1, hx1⟩ | ⟨y1, q1, h1, rfl, hx1⟩); have hb1 := Lib.hid (bl3 hB0.out hx1.out); have kf1 := hc1.frozen 11; have kc1 := hc1.n; have hd1 := hc1.setN v1; have hB1 := Lib.hid (low_set hb1.out 11 (.int .i64 v1)); have ka1 := hd1.at_)
    | (go_at_call 131; (with_reducible refine (HSO.out _ _ _ hq1 hd1).mono ?_); rintro e w2 (⟨h2, rfl, hc2, hx2⟩ | ⟨x, r, h2, hq2, r1, r2, ⟨r0, r3⟩, rfl, hc2, hx2⟩))
    | (go_at_call 132; (with_reducible refine (HCL.out x _).mono ?_); rintro e w3 (⟨h3, rfl, hx3⟩ | ⟨h3, rfl, hx3⟩); have hc3 := hc2.mono hx3.out; have hB3 := Lib.hid (bl2 (bl3 hB1.out hx2.out) hx3.out hc2.lt); have kf3 := hc3.frozen 13; have kc3 := hc3.cls; have hd3 := hc3.setCls x; have hE3 := Lib.hid (low_set hB3.out 13 (.int .u8 x.toNat)))
    | (go_at_call 125; (with_reducible refine (want_yes _ _ _ _).mono ?_); rintro e w9 ⟨rfl, rfl⟩)
    | (go_at_call 125; (with_reducible refine (want_no _ _ _ _).mono ?_); rintro e w9 ⟨rfl, rfl⟩)
    | (go_at_call 133; (with_reducible refine (HN1.out _ _ _ hq2 hd3).mono ?_); rintro e w4 (⟨v4, q4, h4, hq4, rfl, hc4, hx4⟩ | ⟨y4, q4, h4, rfl, hx4⟩); have hb4 := Lib.hid (bl3 hE3.out hx4.out); have kf4 := hc4.frozen 14; have kc4 := hc4.line; have hd4 := hc4.setLine v4; have hB4 := Lib.hid (low_set hb4.out 14 (.int .i64 v4))))
  all_goals first
    | (go_end0; exact outc_ok (by unfold pSell; simp only [HEC.out _, clsB, h1.out, h2.out, (HG0.out x).1, (HG0.out x).2.1, h3.out, h4.out, bind, Except.bind, pure, Except.pure, if_true, if_false, Bool.false_eq_true, Bool.true_and, Bool.and_true, Bool.and_false, Bool.false_and] <;> rfl) hd4 hB4.out)
    | exact ⟨rfl, outc_er (by unfold pSell; simp only [HEC.out _, clsB, h1.out, h2.out, (HG0.out x).1, (HG0.out x).2.1, h3.out, h4.out, bind, Except.bind, pure, Except.pure, if_true, if_false, Bool.false_eq_true, Bool.true_and, Bool.and_true, Bool.and_false, Bool.false_and] <;> rfl) (bl3 hE3.out hx4.out)⟩
    | exact ⟨rfl, outc_er (by unfold pSell; simp only [HEC.out _, clsB, h1.out, h2.out, (HG0.out x).1, (HG0.out x).2.1, h3.out, bind, Except.bind, pure, Except.pure, if_true, if_false, Bool.false_eq_true, Bool.true_and, Bool.and_true, Bool.and_false, Bool.false_and] <;> rfl) (bl2 (bl3 hB1.out hx2.out) hx3.out hc2.lt)⟩
    | exact ⟨rfl, outc_er (by unfold pSell; simp only [HEC.out _, clsB, h1.out, h2.out, (HG0.out 0).2.2, bind, Except.bind, pure, Except.pure, if_true, if_false, Bool.false_eq_true, Bool.true_and, Bool.and_true, Bool.and_false, Bool.false_and] <;> rfl) (bl3 hB1.out hx2.out)⟩
    | exact ⟨rfl, outc_er (by unfold pSell; simp only [h1.out, bind, Except.bind, pure, Except.pure, if_true, if_false, Bool.false_eq_true, Bool.true_and, Bool.and_true, Bool.and_false, Bool.false_and] <;> rfl) (bl3 hB0.out hx1.out)⟩

set_option maxHeartbeats 4000000 in
theorem parts_limit (b : Nat) (s : ByteArray) (p : Nat) (w : World) (hs : s.size ≤ maxLen) (hp : p ≤ s.size) (ht : Da.LenTab w) (hg : 0 < b) (hc : PS w b s p (cmdK 7)) :
    Calls Tryd.prog 62 #[.pointer (some ⟨b, 0, none⟩)] w (OutC b s w (pLimit (toL s) p)) := by
  have HDA : RowKit.Hid (∀ q c W, Da.LenTab W → q ≤ s.size → PS W b s q c → _) := Lib.hid (day_t b s hs hg)
  have HS47 : RowKit.Hid (∀ q c W, q ≤ s.size → PS W b s q c → _) := Lib.hid (sign_t b s hs 47)
  have HSO : RowKit.Hid (∀ q c W, q ≤ s.size → PS W b s q c → _) := Lib.hid (some4_t b s hs)
  have HCQ := Lib.hid clock_q
  have HTAB := Lib.hid ht
  clear ht
  have hB0 := Lib.hid (Below.refl b w)
  have k1 := hc.at_
  have k2 : w.cell? ⟨b, 2, none⟩ = some (.int .i64 7) := hc.kind
  go_enter Tryd.func62, Tryd.ntmps62
  go_wp2_with (first
    | (go_at_call 129; (with_reducible refine (HDA.out _ _ _ (ltab_keep HTAB.out hB0.out hg) hp hc).mono ?_); rintro e w1 (⟨v1, q1, h1, hq1, rfl, hc1, hx1⟩ | ⟨y1, q1, h1, rfl, hx1⟩); have hb1 := Lib.hid (bl3 hB0.out hx1.out); have kf1 := hc1.frozen 5; have kc1 := hc1.day; have hd1 := hc1.setDay v1; have hB1 := Lib.hid (low_set hb1.out 5 (.int .i64 v1)))
    | (go_at_call 127; (with_reducible refine (HS47.out _ _ _ hq1 hd1).mono ?_); rintro e w2 (⟨v2, q2, h2, hq2, rfl, hc2, hx2⟩ | ⟨y2, q2, h2, rfl, hx2⟩); have hb2 := Lib.hid (bl3 hB1.out hx2.out); have hd2 := hc2; have hB2 := hb2; have ka2 := hd2.at_)
    | (go_at_call 131; (with_reducible refine (HSO.out _ _ _ hq2 hd2).mono ?_); rintro e w3 ⟨t, h3, hl3, hq3, rfl, hc3, hx3⟩; have hB3 := Lib.hid (bl3 hB2.out hx3.out))
    | (go_at_call 136; (with_reducible refine (HCQ.out _ _).mono ?_); rintro e w4 (⟨m, h4, rfl, hx4⟩ | ⟨h4, rfl, hx4⟩); have hc4 := hc3.mono hx4.out; have hB4 := Lib.hid (bl2 hB3.out hx4.out hc3.lt); have kf4 := hc4.frozen 8; have kc4 := hc4.minute; have hd4 := hc4.setMinute m; have hE4 := Lib.hid (low_set hB4.out 8 (.int .i64 (m : Int))))
    | (go_at_call 125; (with_reducible refine (want_yes _ _ _ _).mono ?_); rintro e w9 ⟨rfl, rfl⟩)
    | (go_at_call 125; (with_reducible refine (want_no _ _ _ _).mono ?_); rintro e w9 ⟨rfl, rfl⟩))
  all_goals first
    | (go_end0; exact outc_ok (by unfold pLimit; simp only [clock, h1.out, h2.out, h3.out, h4.out, bind, Except.bind, pure, Except.pure, if_true, if_false, Bool.false_eq_true, Bool.true_and, Bool.and_true, Bool.and_false, Bool.false_and] <;> rfl) hd4 hE4.out)
    | exact ⟨rfl, outc_er (by unfold pLimit; simp only [clock, h1.out, h2.out, h3.out, h4.out, bind, Except.bind, pure, Except.pure, if_true, if_false, Bool.false_eq_true, Bool.true_and, Bool.and_true, Bool.and_false, Bool.false_and] <;> rfl) (bl2 hB3.out hx4.out hc3.lt)⟩
    | exact ⟨rfl, outc_er (by unfold pLimit; simp only [h1.out, h2.out, bind, Except.bind, pure, Except.pure, if_true, if_false, Bool.false_eq_true, Bool.true_and, Bool.and_true, Bool.and_false, Bool.false_and] <;> rfl) (bl3 hB1.out hx2.out)⟩
    | exact ⟨rfl, outc_er (by unfold pLimit; simp only [h1.out, bind, Except.bind, pure, Except.pure, if_true, if_false, Bool.false_eq_true, Bool.true_and, Bool.and_true, Bool.and_false, Bool.false_and] <;> rfl) (bl3 hB0.out hx1.out)⟩

set_option maxHeartbeats 4000000 in
theorem parts_loc (b : Nat) (s : ByteArray) (p : Nat) (w : World) (hs : s.size ≤ maxLen) (hp : p ≤ s.size) (hc : PS w b s p (cmdK 16)) :
    Calls Tryd.prog 62 #[.pointer (some ⟨b, 0, none⟩)] w (OutC b s w (pLoc (toL s) p)) := by
  have HSO : RowKit.Hid (∀ q c W, q ≤ s.size → PS W b s q c → _) := Lib.hid (some6_t b s hs)
  have HLQ : RowKit.Hid (∀ (t : List UInt8) W, t.length ≤ 100 → _) := Lib.hid fun (t : List UInt8) W (h : t.length ≤ 100) => locator_q t W (Nat.le_trans h (by decide))
  have HEL : RowKit.Hid (loc (toL s) p = if lettersS (tk (toL s) 6 p) 6 6 then .ok (tk (toL s) 6 p, p + (tk (toL s) 6 p).length) else .error (46, p)) := Lib.hid rfl
  have hB0 := Lib.hid (Below.refl b w)
  have k1 := hc.at_
  have k2 : w.cell? ⟨b, 2, none⟩ = some (.int .i64 16) := hc.kind
  go_enter Tryd.func62, Tryd.ntmps62
  go_wp2_with (first
    | (go_at_call 131; (with_reducible refine (HSO.out _ _ _ hp hc).mono ?_); rintro e w1 ⟨t, h1, hl1, hq1, rfl, hc1, hx1⟩; have kf1 := hc1.frozen 3; have kc1 := hc1.tx; have hd1 := hc1.setText t; have hB1 := Lib.hid (low_set hx1.out 3 (txV t)); have kt1 := hd1.tx)
    | (go_at_call 45; (with_reducible refine (HLQ.out _ _ hl1).mono ?_); rintro e w2 (⟨h2, rfl, hx2⟩ | ⟨h2, rfl, hx2⟩); have hd2 := hd1.mono hx2.out; have hB2 := Lib.hid (bl2 hB1.out hx2.out hd1.lt))
    | (go_at_call 125; (with_reducible refine (want_yes _ _ _ _).mono ?_); rintro e w9 ⟨rfl, rfl⟩)
    | (go_at_call 125; (with_reducible refine (want_no _ _ _ _).mono ?_); rintro e w9 ⟨rfl, rfl⟩))
  all_goals first
    | (go_end0; exact outc_ok (by unfold pLoc; simp only [HEL.out, h1.out, h2.out, bind, Except.bind, pure, Except.pure, if_true, if_false, Bool.false_eq_true, Bool.true_and, Bool.and_true, Bool.and_false, Bool.false_and] <;> rfl) hd2 hB2.out)
    | exact ⟨rfl, outc_er (by unfold pLoc; simp only [HEL.out, h1.out, h2.out, bind, Except.bind, pure, Except.pure, if_true, if_false, Bool.false_eq_true, Bool.true_and, Bool.and_true, Bool.and_false, Bool.false_and] <;> rfl) (bl2 hB1.out hx2.out hd1.lt)⟩

set_option maxHeartbeats 4000000 in
theorem parts_free6 (b : Nat) (s : ByteArray) (p : Nat) (w : World) (hs : s.size ≤ maxLen) (hp : p ≤ s.size) (hc : PS w b s p (cmdK 6)) :
    Calls Tryd.prog 62 #[.pointer (some ⟨b, 0, none⟩)] w (OutC b s w (pFree 6 (toL s) p)) := by
  have HFR : RowKit.Hid (∀ q c W, q ≤ s.size → PS W b s q c → _) := Lib.hid (free_t b s hs)
  have hB0 := Lib.hid (Below.refl b w)
  have k1 := hc.at_
  have k2 : w.cell? ⟨b, 2, none⟩ = some (.int .i64 6) := hc.kind
  go_enter Tryd.func62, Tryd.ntmps62
  go_wp2_with (first
    | (go_at_call 135; (with_reducible refine (HFR.out _ _ _ hp hc).mono ?_); rintro e w1 (⟨v1, q1, h1, rfl, hc1, hx1⟩ | ⟨y1, q1, h1, rfl, hx1⟩)))
  all_goals first
    | (go_end0; exact outc_ok (by unfold pFree; simp only [h1.out, bind, Except.bind, pure, Except.pure, if_true, if_false, Bool.false_eq_true, Bool.true_and, Bool.and_true, Bool.and_false, Bool.false_and] <;> rfl) hc1 hx1.out)
    | exact ⟨rfl, outc_er (by unfold pFree; simp only [h1.out, bind, Except.bind, pure, Except.pure, if_true, if_false, Bool.false_eq_true, Bool.true_and, Bool.and_true, Bool.and_false, Bool.false_and] <;> rfl) hx1.out⟩

set_option maxHeartbeats 4000000 in
theorem parts_free9 (b : Nat) (s : ByteArray) (p : Nat) (w : World) (hs : s.size ≤ maxLen) (hp : p ≤ s.size) (hc : PS w b s p (cmdK 9)) :
    Calls Tryd.prog 62 #[.pointer (some ⟨b, 0, none⟩)] w (OutC b s w (pFree 9 (toL s) p)) := by
  have HFR : RowKit.Hid (∀ q c W, q ≤ s.size → PS W b s q c → _) := Lib.hid (free_t b s hs)
  have hB0 := Lib.hid (Below.refl b w)
  have k1 := hc.at_
  have k2 : w.cell? ⟨b, 2, none⟩ = some (.int .i64 9) := hc.kind
  go_enter Tryd.func62, Tryd.ntmps62
  go_wp2_with (first
    | (go_at_call 135; (with_reducible refine (HFR.out _ _ _ hp hc).mono ?_); rintro e w1 (⟨v1, q1, h1, rfl, hc1, hx1⟩ | ⟨y1, q1, h1, rfl, hx1⟩)))
  all_goals first
    | (go_end0; exact outc_ok (by unfold pFree; simp only [h1.out, bind, Except.bind, pure, Except.pure, if_true, if_false, Bool.false_eq_true, Bool.true_and, Bool.and_true, Bool.and_false, Bool.false_and] <;> rfl) hc1 hx1.out)
    | exact ⟨rfl, outc_er (by unfold pFree; simp only [h1.out, bind, Except.bind, pure, Except.pure, if_true, if_false, Bool.false_eq_true, Bool.true_and, Bool.and_true, Bool.and_false, Bool.false_and] <;> rfl) hx1.out⟩

set_option maxHeartbeats 4000000 in
theorem parts_free10 (b : Nat) (s : ByteArray) (p : Nat) (w : World) (hs : s.size ≤ maxLen) (hp : p ≤ s.size) (hc : PS w b s p (cmdK 10)) :
    Calls Tryd.prog 62 #[.pointer (some ⟨b, 0, none⟩)] w (OutC b s w (pFree 10 (toL s) p)) := by
  have HFR : RowKit.Hid (∀ q c W, q ≤ s.size → PS W b s q c → _) := Lib.hid (free_t b s hs)
  have hB0 := Lib.hid (Below.refl b w)
  have k1 := hc.at_
  have k2 : w.cell? ⟨b, 2, none⟩ = some (.int .i64 10) := hc.kind
  go_enter Tryd.func62, Tryd.ntmps62
  go_wp2_with (first
    | (go_at_call 135; (with_reducible refine (HFR.out _ _ _ hp hc).mono ?_); rintro e w1 (⟨v1, q1, h1, rfl, hc1, hx1⟩ | ⟨y1, q1, h1, rfl, hx1⟩)))
  all_goals first
    | (go_end0; exact outc_ok (by unfold pFree; simp only [h1.out, bind, Except.bind, pure, Except.pure, if_true, if_false, Bool.false_eq_true, Bool.true_and, Bool.and_true, Bool.and_false, Bool.false_and] <;> rfl) hc1 hx1.out)
    | exact ⟨rfl, outc_er (by unfold pFree; simp only [h1.out, bind, Except.bind, pure, Except.pure, if_true, if_false, Bool.false_eq_true, Bool.true_and, Bool.and_true, Bool.and_false, Bool.false_and] <;> rfl) hx1.out⟩

set_option maxHeartbeats 4000000 in
theorem parts_num23 (b : Nat) (s : ByteArray) (p : Nat) (w : World) (hs : s.size ≤ maxLen) (hp : p ≤ s.size) (hc : PS w b s p (cmdK 23)) :
    Calls Tryd.prog 62 #[.pointer (some ⟨b, 0, none⟩)] w (OutC b s w (pNum 23 (toL s) p)) := by
  have HN0 : RowKit.Hid (∀ q c W, q ≤ s.size → PS W b s q c → _) := Lib.hid (number_t b s hs 0)
  have hB0 := Lib.hid (Below.refl b w)
  have k1 := hc.at_
  have k2 : w.cell? ⟨b, 2, none⟩ = some (.int .i64 23) := hc.kind
  go_enter Tryd.func62, Tryd.ntmps62
  go_wp2_with (first
    | (go_at_call 133; (with_reducible refine (HN0.out _ _ _ hp hc).mono ?_); rintro e w1 (⟨v1, q1, h1, hq1, rfl, hc1, hx1⟩ | ⟨y1, q1, h1, rfl, hx1⟩); have hb1 := Lib.hid (bl3 hB0.out hx1.out); have kf1 := hc1.frozen 11; have kc1 := hc1.n; have hd1 := hc1.setN v1; have hB1 := Lib.hid (low_set hb1.out 11 (.int .i64 v1))))
  all_goals first
    | (go_end0; exact outc_ok (by unfold pNum; simp only [h1.out, bind, Except.bind, pure, Except.pure, if_true, if_false, Bool.false_eq_true, Bool.true_and, Bool.and_true, Bool.and_false, Bool.false_and] <;> rfl) hd1 hB1.out)
    | exact ⟨rfl, outc_er (by unfold pNum; simp only [h1.out, bind, Except.bind, pure, Except.pure, if_true, if_false, Bool.false_eq_true, Bool.true_and, Bool.and_true, Bool.and_false, Bool.false_and] <;> rfl) (bl3 hB0.out hx1.out)⟩

set_option maxHeartbeats 4000000 in
theorem parts_num24 (b : Nat) (s : ByteArray) (p : Nat) (w : World) (hs : s.size ≤ maxLen) (hp : p ≤ s.size) (hc : PS w b s p (cmdK 24)) :
    Calls Tryd.prog 62 #[.pointer (some ⟨b, 0, none⟩)] w (OutC b s w (pNum 24 (toL s) p)) := by
  have HN0 : RowKit.Hid (∀ q c W, q ≤ s.size → PS W b s q c → _) := Lib.hid (number_t b s hs 0)
  have hB0 := Lib.hid (Below.refl b w)
  have k1 := hc.at_
  have k2 : w.cell? ⟨b, 2, none⟩ = some (.int .i64 24) := hc.kind
  go_enter Tryd.func62, Tryd.ntmps62
  go_wp2_with (first
    | (go_at_call 133; (with_reducible refine (HN0.out _ _ _ hp hc).mono ?_); rintro e w1 (⟨v1, q1, h1, hq1, rfl, hc1, hx1⟩ | ⟨y1, q1, h1, rfl, hx1⟩); have hb1 := Lib.hid (bl3 hB0.out hx1.out); have kf1 := hc1.frozen 11; have kc1 := hc1.n; have hd1 := hc1.setN v1; have hB1 := Lib.hid (low_set hb1.out 11 (.int .i64 v1))))
  all_goals first
    | (go_end0; exact outc_ok (by unfold pNum; simp only [h1.out, bind, Except.bind, pure, Except.pure, if_true, if_false, Bool.false_eq_true, Bool.true_and, Bool.and_true, Bool.and_false, Bool.false_and] <;> rfl) hd1 hB1.out)
    | exact ⟨rfl, outc_er (by unfold pNum; simp only [h1.out, bind, Except.bind, pure, Except.pure, if_true, if_false, Bool.false_eq_true, Bool.true_and, Bool.and_true, Bool.and_false, Bool.false_and] <;> rfl) (bl3 hB0.out hx1.out)⟩

theorem bl3h {w w1 w2 : World} {b : Nat} (h : RowKit.Hid (Below b w w1)) (k : RowKit.Hid (Below b w1 w2)) : RowKit.Hid (Below b w w2) := Lib.hid (h.out.trans k.out)

set_option maxHeartbeats 4000000 in
theorem seats_m (b : Nat) (s : ByteArray) (p : Nat) (w : World) (hs : s.size ≤ maxLen) (hp : p ≤ s.size) (hc : PS w b s p (cmdK 11)) :
    Calls Tryd.prog 137 #[.pointer (some ⟨b, 0, none⟩)] w (OutC b s w (seats (toL s) p)) := by
  have HD8 : RowKit.Hid (∀ q c W, q ≤ s.size → PS W b s q c → _) := Lib.hid (digit_t b s hs 8 (by decide))
  have HS47 : RowKit.Hid (∀ q c W, q ≤ s.size → PS W b s q c → _) := Lib.hid (sign_t b s hs 47)
  have HSE : RowKit.Hid (∀ q c W, q ≤ s.size → PS W b s q c → _) := Lib.hid (seat_t b s hs)
  have HS45 : RowKit.Hid (∀ q c W, q ≤ s.size → PS W b s q c → _) := Lib.hid (sign_t b s hs 45)
  have HD9 : RowKit.Hid (∀ q c W, q ≤ s.size → PS W b s q c → _) := Lib.hid (digit_t b s hs 9 (by decide))
  have HWO : RowKit.Hid (∀ q c W, q ≤ s.size → PS W b s q c → _) := Lib.hid (word_t b s hs 42)
  have hB0 := Lib.hid (Below.refl b w)
  have k1 := hc.at_
  have k2 : w.cell? ⟨b, 2, none⟩ = some (.int .i64 11) := hc.kind
  go_enter Tryd.func137, Tryd.ntmps137
  go_wp2_with (first
    | (go_at_call 130; (with_reducible refine (HD8.out _ _ _ hp hc).mono ?_); rintro e w1 (⟨v1, q1, h1, hq1, rfl, hc1, hx1⟩ | ⟨y1, q1, h1, rfl, hx1⟩); have hb1 := Lib.hid (bl3 hB0.out hx1.out); have kf1 := hc1.frozen 11; have kc1 := hc1.n; have hd1 := hc1.setN v1; have hB1 := Lib.hid (low_set hb1.out 11 (.int .i64 v1)))
    | (go_at_call 123; (with_reducible refine (HWO.out _ _ _ hq1 hd1).mono ?_); rintro e w2 (⟨h2, hq2, rfl, hc2, hx2⟩ | ⟨h2, rfl, hc2, hx2⟩))
    | (go_at_call 127; (with_reducible refine (HS47.out _ _ _ hq1 hc2).mono ?_); rintro e w3 (⟨v3, q3, h3, hq3, rfl, hc3, hx3⟩ | ⟨y3, q3, h3, rfl, hx3⟩); have hb3 := Lib.hid (bl3 (bl3h hB1 hx2).out hx3.out); have kf3 := hc3.frozen 2; have kc3 := hc3.kind; have hd3 := hc3.setKind 12; have hB3 := Lib.hid (low_set hb3.out 2 (.int .i64 12)))
    | (go_at_call 179; (with_reducible refine (HSE.out _ _ _ hq3 hd3).mono ?_); rintro e w4 (⟨v4, q4, h4, hq4, rfl, hc4, hx4⟩ | ⟨y4, q4, h4, rfl, hx4⟩); have hB4 := Lib.hid (bl3 hB3.out hx4.out))
    | (go_at_call 127; (with_reducible refine (HS45.out _ _ _ hq4 hc4).mono ?_); rintro e w5 (⟨v5, q5, h5, hq5, rfl, hc5, hx5⟩ | ⟨y5, q5, h5, rfl, hx5⟩); have hb5 := Lib.hid (bl3 hB4.out hx5.out); have hd5 := hc5; have hB5 := hb5)
    | (go_at_call 130; (with_reducible refine (HD9.out _ _ _ hq5 hd5).mono ?_); rintro e w6 (⟨v6, q6, h6, hq6, rfl, hc6, hx6⟩ | ⟨y6, q6, h6, rfl, hx6⟩); have hb6 := Lib.hid (bl3 hB5.out hx6.out); have kf6 := hc6.frozen 12; have kc6 := hc6.pax; have hd6 := hc6.setPax v6; have hB6 := Lib.hid (low_set hb6.out 12 (.int .i64 v6))))
  all_goals first
    | (go_end0; exact outc_ok (by unfold seats; simp only [h1.out, h2.out, h3.out, h4.out, h5.out, h6.out, bind, Except.bind, pure, Except.pure, if_true, if_false, Bool.false_eq_true, Bool.true_and, Bool.and_true, Bool.and_false, Bool.false_and] <;> rfl) hd6 hB6.out)
    | (go_end0; exact outc_ok (by unfold seats; simp only [h1.out, h2.out, bind, Except.bind, pure, Except.pure, if_true, if_false, Bool.false_eq_true, Bool.true_and, Bool.and_true, Bool.and_false, Bool.false_and] <;> rfl) hc2 (bl3 hB1.out hx2.out))
    | exact ⟨rfl, outc_er (by unfold seats; simp only [h1.out, h2.out, h3.out, h4.out, h5.out, h6.out, bind, Except.bind, pure, Except.pure, if_true, if_false, Bool.false_eq_true, Bool.true_and, Bool.and_true, Bool.and_false, Bool.false_and] <;> rfl) (bl3 hB5.out hx6.out)⟩
    | exact ⟨rfl, outc_er (by unfold seats; simp only [h1.out, h2.out, h3.out, h4.out, h5.out, bind, Except.bind, pure, Except.pure, if_true, if_false, Bool.false_eq_true, Bool.true_and, Bool.and_true, Bool.and_false, Bool.false_and] <;> rfl) (bl3 hB4.out hx5.out)⟩
    | exact ⟨rfl, outc_er (by unfold seats; simp only [h1.out, h2.out, h3.out, h4.out, bind, Except.bind, pure, Except.pure, if_true, if_false, Bool.false_eq_true, Bool.true_and, Bool.and_true, Bool.and_false, Bool.false_and] <;> rfl) (bl3 hB3.out hx4.out)⟩
    | exact ⟨rfl, outc_er (by unfold seats; simp only [h1.out, h2.out, h3.out, bind, Except.bind, pure, Except.pure, if_true, if_false, Bool.false_eq_true, Bool.true_and, Bool.and_true, Bool.and_false, Bool.false_and] <;> rfl) (bl3 (bl3 hB1.out hx2.out) hx3.out)⟩
    | exact ⟨rfl, outc_er (by unfold seats; simp only [h1.out, bind, Except.bind, pure, Except.pure, if_true, if_false, Bool.false_eq_true, Bool.true_and, Bool.and_true, Bool.and_false, Bool.false_and] <;> rfl) (bl3 hB0.out hx1.out)⟩

set_option maxHeartbeats 4000000 in
theorem parts_map (b : Nat) (s : ByteArray) (p : Nat) (w : World) (hs : s.size ≤ maxLen) (hp : p ≤ s.size) (hc : PS w b s p (cmdK 11)) :
    Calls Tryd.prog 62 #[.pointer (some ⟨b, 0, none⟩)] w (OutC b s w (seats (toL s) p)) := by
  have HSM : RowKit.Hid (Calls Tryd.prog 137 #[.pointer (some ⟨b, 0, none⟩)] w fun e w' => (∃ c q, RowKit.Hid (seats (toL s) p = .ok (c, q)) ∧ e = .returned (.tuple #[]) ∧ PS w' b s q c ∧ RowKit.Hid (Below b w w')) ∨ (∃ k q, RowKit.Hid (seats (toL s) p = .error (k, q)) ∧ e = boom k (q : Nat) ∧ RowKit.Hid (Below b w w'))) := Lib.hid (by
    refine (seats_m b s p w hs hp hc).mono fun e w' h => ?_
    cases hx : seats (toL s) p with
    | ok x =>
      obtain ⟨c, q⟩ := x
      rw [hx] at h
      exact .inl ⟨c, q, Lib.hid rfl, h.1, h.2.1, Lib.hid h.2.2⟩
    | error x =>
      obtain ⟨k, q⟩ := x
      rw [hx] at h
      exact .inr ⟨k, q, Lib.hid rfl, h.1, Lib.hid h.2⟩)
  have hB0 := Lib.hid (Below.refl b w)
  have k1 := hc.at_
  have k2 : w.cell? ⟨b, 2, none⟩ = some (.int .i64 11) := hc.kind
  go_enter Tryd.func62, Tryd.ntmps62
  go_wp2_with (first
    | (go_at_call 137; (with_reducible refine HSM.out.mono ?_); rintro e w1 (⟨c1, q1, h1, rfl, hc1, hx1⟩ | ⟨y1, q1, h1, rfl, hx1⟩)))
  all_goals first
    | (go_end0; exact outc_ok h1.out hc1 hx1.out)
    | exact ⟨rfl, outc_er h1.out hx1.out⟩

set_option maxHeartbeats 4000000 in
theorem parts_rest (b : Nat) (s : ByteArray) (p : Nat) (w : World) (hs : s.size ≤ maxLen) (hp : p ≤ s.size) (k : Int) (hk : k ≠ 1 ∧ k ≠ 3 ∧ k ≠ 4 ∧ k ≠ 5 ∧ k ≠ 6 ∧ k ≠ 9 ∧ k ≠ 10 ∧ k ≠ 7 ∧ k ≠ 11 ∧ k ≠ 13 ∧ k ≠ 14 ∧ k ≠ 16 ∧ k ≠ 23 ∧ k ≠ 24) (hc : PS w b s p (cmdK k)) :
    Calls Tryd.prog 62 #[.pointer (some ⟨b, 0, none⟩)] w (OutC b s w (.ok (cmdK k, p))) := by
  have e1 : (k == 1) = false := by simp; omega
  have e3 : (k == 3) = false := by simp; omega
  have e4 : (k == 4) = false := by simp; omega
  have e5 : (k == 5) = false := by simp; omega
  have e6 : (k == 6) = false := by simp; omega
  have e9 : (k == 9) = false := by simp; omega
  have e10 : (k == 10) = false := by simp; omega
  have e7 : (k == 7) = false := by simp; omega
  have e11 : (k == 11) = false := by simp; omega
  have e13 : (k == 13) = false := by simp; omega
  have e14 : (k == 14) = false := by simp; omega
  have e16 : (k == 16) = false := by simp; omega
  have e23 : (k == 23) = false := by simp; omega
  have e24 : (k == 24) = false := by simp; omega
  clear hk
  have hB0 := Lib.hid (Below.refl b w)
  have k1 := hc.at_
  have k2 : w.cell? ⟨b, 2, none⟩ = some (.int .i64 k) := hc.kind
  go_enter Tryd.func62, Tryd.ntmps62
  go_wp2
  all_goals first
    | (go_end0; exact outc_ok rfl hc hB0.out)

theorem parts_m (b : Nat) (s : ByteArray) (k : Int) (p : Nat) (w : World) (hs : s.size ≤ maxLen) (hp : p ≤ s.size) (ht : Da.LenTab w) (hg : 0 < b) (hc : PS w b s p (cmdK k)) :
    Calls Tryd.prog 62 #[.pointer (some ⟨b, 0, none⟩)] w (OutC b s w (parts (toL s) k p)) := by
  unfold parts
  by_cases e : k = 1
  · subst e; rw [if_pos rfl]; exact parts_in b s p w hs hp hc
  rw [if_neg e]
  have n1 := e
  clear e
  by_cases e : k = 3
  · subst e; rw [if_pos rfl]; exact parts_avail b s p w hs hp ht hg hc
  rw [if_neg e]
  have n3 := e
  clear e
  by_cases e : k = 4
  · subst e; rw [if_pos rfl]; exact parts_sell b s p w hs hp hc
  rw [if_neg e]
  have n4 := e
  clear e
  by_cases e : k = 5
  · subst e; rw [if_pos rfl]; exact parts_name b s p w hs hp hc
  rw [if_neg e]
  have n5 := e
  clear e
  by_cases e : k = 6 ∨ k = 9 ∨ k = 10
  · rw [if_pos e]
    rcases e with rfl | rfl | rfl
    · exact parts_free6 b s p w hs hp hc
    · exact parts_free9 b s p w hs hp hc
    · exact parts_free10 b s p w hs hp hc
  rw [if_neg e]
  have n6 := e
  clear e
  by_cases e : k = 7
  · subst e; rw [if_pos rfl]; exact parts_limit b s p w hs hp ht hg hc
  rw [if_neg e]
  have n7 := e
  clear e
  by_cases e : k = 11
  · subst e; rw [if_pos rfl]; exact parts_map b s p w hs hp hc
  rw [if_neg e]
  have n11 := e
  clear e
  by_cases e : k = 13
  · subst e; rw [if_pos rfl]; exact parts_unseat b s p w hs hp hc
  rw [if_neg e]
  have n13 := e
  clear e
  by_cases e : k = 14
  · subst e; rw [if_pos rfl]; exact parts_cancel b s p w hs hp hc
  rw [if_neg e]
  have n14 := e
  clear e
  by_cases e : k = 16
  · subst e; rw [if_pos rfl]; exact parts_loc b s p w hs hp hc
  rw [if_neg e]
  have n16 := e
  clear e
  by_cases e : k = 23 ∨ k = 24
  · rw [if_pos e]
    rcases e with rfl | rfl
    · exact parts_num23 b s p w hs hp hc
    · exact parts_num24 b s p w hs hp hc
  rw [if_neg e]
  exact parts_rest b s p w hs hp k (by omega) hc

end Go.Proofs.YtjahkaidinahpaaDoor.En