/- The parser's methods: city, day, digit, number, person, free, seat. -/
import Derived.Test.YtjahkaidinahpaaDoorNE
namespace Go.Proofs.YtjahkaidinahpaaDoor.En
open Go.RowKit
set_option linter.unusedSimpArgs false
set_option linter.unusedVariables false
set_option maxRecDepth 20000

theorem PS.mono {w w' : World} {b : Nat} {s : ByteArray} {p : Nat} {c : CmdT} (h : PS w b s p c) (hb : Below w.heap.size w w') : PS w' b s p c := Blk.mono h hb
theorem PS.at_ {w : World} {b : Nat} {s : ByteArray} {p : Nat} {c : CmdT} (h : PS w b s p c) : w.cell? ⟨b, 1, none⟩ = some (.int .i64 (p : Int)) := Cur.at_ h
theorem PS.text {w : World} {b : Nat} {s : ByteArray} {p : Nat} {c : CmdT} (h : PS w b s p c) : w.cell? ⟨b, 0, none⟩ = some (.string s) := Cur.text h
theorem bl2 {w w1 w2 : World} {b : Nat} (h : Below b w w1) (k : Below w1.heap.size w1 w2) (hb : b < w1.heap.size) : Below b w w2 := h.trans (k.mono (Nat.le_of_lt hb))
theorem bl3 {w w1 w2 : World} {b : Nat} (h : Below b w w1) (k : Below b w1 w2) : Below b w w2 := h.trans k
theorem tk_size (l : List UInt8) (n p : Nat) : (tk l n p).length ≤ n := by simp [tk]; omega
theorem tx_size (l : List UInt8) : (⟨l.toArray⟩ : ByteArray).size = l.length := by simp [ByteArray.size]
theorem tx_list (l : List UInt8) : toL ⟨l.toArray⟩ = l := by simp

theorem city_m (b : Nat) (s : ByteArray) (p : Nat) (c : CmdT) (w : World) (hs : s.size ≤ maxLen) (hp : p ≤ s.size) (hc : PS w b s p c) :
    Calls Tryd.prog 128 #[.pointer (some ⟨b, 0, none⟩)] w (Out b s c w txV (city (toL s) p)) := by
  have HS : RowKit.Hid (∀ W, PS W b s p c → Calls Tryd.prog 131 #[.pointer (some ⟨b, 0, none⟩), .int .i64 3] W fun e w' => e = .returned (txV (tk (toL s) 3 p)) ∧ PS w' b s (p + (tk (toL s) 3 p).length) c ∧ Below b W w') := Lib.hid fun W h => some_any b s p 3 c W hs hp (by decide) h
  have HK : RowKit.Hid (∀ W, Calls Tryd.prog 157 #[txV (tk (toL s) 3 p)] W fun e w' => e = .returned (.bool (lettersS (tk (toL s) 3 p) 3 3)) ∧ Below W.heap.size W w') := Lib.hid fun W => by
    have h := city_any ⟨(tk (toL s) 3 p).toArray⟩ W (by rw [tx_size]; have := tk_size (toL s) 3 p; unfold maxLen; omega)
    rw [tx_list] at h
    exact h
  have k2 := hc.at_
  have HC := Lib.hid hc
  unfold city
  generalize tk (toL s) 3 p = t at *
  cases hb : lettersS t 3 3
  all_goals
    rw [hb] at HK
    clear hb hc
    simp only [Bool.false_eq_true, if_false, if_true]
    go_enter Tryd.func128, Tryd.ntmps128
    go_wp2_with (first
      | (go_at_call 131; (with_reducible refine (HS.out _ HC.out).mono ?_); rintro e w1 ⟨rfl, hc1, hb1⟩)
      | (go_at_call 157; (with_reducible refine (HK.out _).mono ?_); rintro e w2 ⟨rfl, hb2⟩)
      | (go_at_call 125; (with_reducible refine (want_yes _ _ _ _).mono ?_); rintro e w3 ⟨rfl, rfl⟩)
      | (go_at_call 125; (with_reducible refine (want_no _ _ _ _).mono ?_); rintro e w3 ⟨rfl, rfl⟩))
    first
      | (go_ret; exact ⟨rfl, hc1.mono hb2, bl2 hb1 hb2 hc1.lt, (hc1.mono hb2).lt⟩)
      | exact ⟨rfl, rfl, bl2 hb1 hb2 hc1.lt⟩

theorem person_m (b : Nat) (s : ByteArray) (p : Nat) (c : CmdT) (w : World) (hs : s.size ≤ maxLen) (hp : p ≤ s.size) (hc : PS w b s p c) :
    Calls Tryd.prog 134 #[.pointer (some ⟨b, 0, none⟩)] w (Out b s c w txV (person (toL s) p)) := by
  have hpl : place s.size p = p := place_in _ _ (by omega) (by omega)
  have hrl : (runL 1 ((toL s).drop p)).length ≤ s.size := by have := runL_le 1 ((toL s).drop p); simp at this; omega
  have HS : RowKit.Hid (∀ W, PS W b s p c → Calls Tryd.prog 124 #[.pointer (some ⟨b, 0, none⟩), .int .i64 1] W fun e w' => e = .returned (txV (runL 1 ((toL s).drop p))) ∧ PS w' b s (p + (runL 1 ((toL s).drop p)).length) c ∧ Below b W w') := Lib.hid fun W h => by
    refine (run_any b s p 1 W hs h).mono ?_
    rintro e w' ⟨rfl, h1, h2⟩
    rw [hpl, Int.toNat_natCast] at h1 ⊢
    exact ⟨rfl, h1, gr_low h2 (Cur.lt h)⟩
  have HK : RowKit.Hid (∀ W, Calls Tryd.prog 158 #[txV (runL 1 ((toL s).drop p))] W fun e w' => e = .returned (.bool (lettersS (runL 1 ((toL s).drop p)) 1 16)) ∧ Below W.heap.size W w') := Lib.hid fun W => by
    have h := person_any ⟨(runL 1 ((toL s).drop p)).toArray⟩ W (by rw [tx_size]; omega)
    rw [tx_list] at h
    exact h
  have k2 := hc.at_
  have HC := Lib.hid hc
  unfold person
  generalize runL 1 ((toL s).drop p) = t at *
  clear hpl hrl
  cases hb : lettersS t 1 16
  all_goals
    rw [hb] at HK
    clear hb hc
    simp only [Bool.false_eq_true, if_false, if_true]
    go_enter Tryd.func134, Tryd.ntmps134
    go_wp2_with (first
      | (go_at_call 124; (with_reducible refine (HS.out _ HC.out).mono ?_); rintro e w1 ⟨rfl, hc1, hb1⟩)
      | (go_at_call 158; (with_reducible refine (HK.out _).mono ?_); rintro e w2 ⟨rfl, hb2⟩)
      | (go_at_call 125; (with_reducible refine (want_yes _ _ _ _).mono ?_); rintro e w3 ⟨rfl, rfl⟩)
      | (go_at_call 125; (with_reducible refine (want_no _ _ _ _).mono ?_); rintro e w3 ⟨rfl, rfl⟩))
    first
      | (go_ret; exact ⟨rfl, hc1.mono hb2, bl2 hb1 hb2 hc1.lt, (hc1.mono hb2).lt⟩)
      | exact ⟨rfl, rfl, bl2 hb1 hb2 hc1.lt⟩


theorem ltab_keep {w w' : World} {b : Nat} (h : Da.LenTab w) (hb : Below b w w') (hg : 0 < b) : Da.LenTab w' := by
  obtain ⟨t, fr, h⟩ := h
  exact ⟨t, fr, (hb.block _ hg).trans h⟩

theorem day_m (b : Nat) (s : ByteArray) (p : Nat) (c : CmdT) (w : World) (hs : s.size ≤ maxLen) (hp : p ≤ s.size) (ht : Da.LenTab w) (hg : 0 < b) (hc : PS w b s p c) :
    Calls Tryd.prog 129 #[.pointer (some ⟨b, 0, none⟩)] w (Out b s c w (fun d : Int => .int .i64 d) (day (toL s) p)) := by
  have HS : RowKit.Hid (∀ W, PS W b s p c → Calls Tryd.prog 131 #[.pointer (some ⟨b, 0, none⟩), .int .i64 5] W fun e w' => e = .returned (txV (tk (toL s) 5 p)) ∧ PS w' b s (p + (tk (toL s) 5 p).length) c ∧ Below b W w') := Lib.hid fun W h => some_any b s p 5 c W hs hp (by decide) h
  have HK : RowKit.Hid (∀ W, Below b w W → Calls Tryd.prog 175 #[txV (tk (toL s) 5 p)] W fun e w' => e = .returned (.tuple #[.int .i64 (Da.optI (Da.readS (tk (toL s) 5 p))), .bool (Da.readS (tk (toL s) 5 p)).isSome]) ∧ Below W.heap.size W w') := Lib.hid fun W hW => by
    have h := Da.read_any ⟨(tk (toL s) 5 p).toArray⟩ W (ltab_keep ht hW hg)
    rw [tx_list] at h
    exact h
  have k2 := hc.at_
  have HC := Lib.hid hc
  unfold day
  generalize tk (toL s) 5 p = t at *
  clear ht hc
  cases hb : Da.readS t with
  | none =>
    rw [hb] at HK
    unfold Da.optI at HK
    simp only [Option.isSome_none] at HK
    clear hb
    go_enter Tryd.func129, Tryd.ntmps129
    go_wp2_with (first
      | (go_at_call 131; (with_reducible refine (HS.out _ HC.out).mono ?_); rintro e w1 ⟨rfl, hc1, hb1⟩)
      | (go_at_call 175; (with_reducible refine (HK.out _ hb1).mono ?_); rintro e w2 ⟨rfl, hb2⟩)
      | (go_at_call 125; (with_reducible refine (want_no _ _ _ _).mono ?_); rintro e w3 ⟨rfl, rfl⟩))
    exact ⟨rfl, rfl, bl2 hb1 hb2 hc1.lt⟩
  | some d =>
    rw [hb] at HK
    unfold Da.optI at HK
    simp only [Option.isSome_some] at HK
    clear hb
    go_enter Tryd.func129, Tryd.ntmps129
    go_wp2_with (first
      | (go_at_call 131; (with_reducible refine (HS.out _ HC.out).mono ?_); rintro e w1 ⟨rfl, hc1, hb1⟩)
      | (go_at_call 175; (with_reducible refine (HK.out _ hb1).mono ?_); rintro e w2 ⟨rfl, hb2⟩)
      | (go_at_call 125; (with_reducible refine (want_yes _ _ _ _).mono ?_); rintro e w3 ⟨rfl, rfl⟩))
    go_ret
    exact ⟨rfl, hc1.mono hb2, bl2 hb1 hb2 hc1.lt, (hc1.mono hb2).lt⟩

/-- A text of at most one byte: none, or a byte. -/
theorem one_text {t : List UInt8} (h : t.length ≤ 1) : t = [] ∨ ∃ c, t = [c] := by
  match t, h with
  | [], _ => exact .inl rfl
  | [c], _ => exact .inr ⟨c, rfl⟩

theorem one_facts (c : UInt8) : ∃ r : ByteArray, (⟨[c].toArray⟩ : ByteArray) = r ∧ r.size = 1 ∧ r.toList.isEmpty = false ∧ ∀ h : 0 < r.size, r[0] = c := by
  refine ⟨_, rfl, rfl, ?_, fun _ => rfl⟩
  rw [ByteArray.toList_eq]
  rfl

theorem digit_m (b : Nat) (s : ByteArray) (p : Nat) (c : CmdT) (m : Int) (w : World) (hs : s.size ≤ maxLen) (hp : p ≤ s.size) (hm : m ≤ 9) (hc : PS w b s p c) :
    Calls Tryd.prog 130 #[.pointer (some ⟨b, 0, none⟩), .int .i64 m] w (Out b s c w (fun d : Int => .int .i64 d) (digit m (toL s) p)) := by
  have HS : RowKit.Hid (∀ W, PS W b s p c → Calls Tryd.prog 131 #[.pointer (some ⟨b, 0, none⟩), .int .i64 1] W fun e w' => e = .returned (txV (tk (toL s) 1 p)) ∧ PS w' b s (p + (tk (toL s) 1 p).length) c ∧ Below b W w') := Lib.hid fun W h => some_any b s p 1 c W hs hp (by decide) h
  have k2 := hc.at_
  have HC := Lib.hid hc
  have hl := tk_size (toL s) 1 p
  unfold digit
  generalize tk (toL s) 1 p = t at *
  clear hc
  rcases one_text hl with rfl | ⟨x, rfl⟩
  · have e : digB m [] = false := by simp [digB]
    rw [e]
    clear e hl
    simp only [Bool.false_eq_true, if_false]
    go_enter Tryd.func130, Tryd.ntmps130
    go_wp2_with (first
      | (go_at_call 131; (with_reducible refine (HS.out _ HC.out).mono ?_); rintro e w1 ⟨rfl, hc1, hb1⟩)
      | (go_at_call 125; (with_reducible refine (want_no _ _ _ _).mono ?_); rintro e w3 ⟨rfl, rfl⟩))
    exact ⟨rfl, rfl, hb1⟩
  · obtain ⟨r, hr, r1, r2, r3⟩ := one_facts x
    have r4 := r3 (by omega)
    have hx := byte_hi x
    clear r3 hl
    unfold txV at HS
    simp only [List.length_singleton] at HS
    rw [hr] at HS
    clear hr
    by_cases h1 : x.toNat < 49
    · have e : digB m [x] = false := by simp [digB]; omega
      have h1' : (x.toNat : Int) < 49 := by omega
      rw [e]
      clear e h1
      simp only [Bool.false_eq_true, if_false]
      go_enter Tryd.func130, Tryd.ntmps130
      go_wp2_with (first
        | (go_at_call 131; (with_reducible refine (HS.out _ HC.out).mono ?_); rintro e w1 ⟨rfl, hc1, hb1⟩)
        | (go_at_call 125; (with_reducible refine (want_no _ _ _ _).mono ?_); rintro e w3 ⟨rfl, rfl⟩))
      exact ⟨rfl, rfl, hb1⟩
    · have h1' : (49 : Int) ≤ (x.toNat : Int) := by omega
      by_cases h2 : (x.toNat : Int) - 48 ≤ m
      · have e : digB m [x] = true := by simp [digB]; omega
        rw [e]
        clear e h1
        simp only [if_true]
        go_enter Tryd.func130, Tryd.ntmps130
        go_wp2_with (first
          | (go_at_call 131; (with_reducible refine (HS.out _ HC.out).mono ?_); rintro e w1 ⟨rfl, hc1, hb1⟩)
          | (go_at_call 125; (with_reducible refine (want_yes _ _ _ _).mono ?_); rintro e w3 ⟨rfl, rfl⟩))
        go_ret
        exact ⟨rfl, hc1, hb1, hc1.lt⟩
      · have e : digB m [x] = false := by simp [digB]; omega
        have hd : decide ((x.toNat : Int) - 48 ≤ m) = false := decide_eq_false h2
        rw [e]
        clear e h1 h2
        simp only [Bool.false_eq_true, if_false]
        go_enter Tryd.func130, Tryd.ntmps130
        go_wp2_with (first
          | (go_at_call 131; (with_reducible refine (HS.out _ HC.out).mono ?_); rintro e w1 ⟨rfl, hc1, hb1⟩)
          | (go_at_call 125; (with_reducible refine (want_no _ _ _ _).mono ?_); rintro e w3 ⟨rfl, rfl⟩))
        exact ⟨rfl, rfl, hb1⟩

theorem number_m (b : Nat) (s : ByteArray) (p : Nat) (c : CmdT) (m : Int) (w : World) (hs : s.size ≤ maxLen) (hp : p ≤ s.size) (hc : PS w b s p c) :
    Calls Tryd.prog 133 #[.pointer (some ⟨b, 0, none⟩), .int .i64 m] w (Out b s c w (fun d : Int => .int .i64 d) (number m (toL s) p)) := by
  have hpl : place s.size p = p := place_in _ _ (by omega) (by omega)
  have HN : RowKit.Hid (∀ W, PS W b s p c → Calls Tryd.prog 177 #[.pointer (some ⟨b, 0, none⟩), .int .i64 99] W fun e w' => e = .returned (.tuple #[.int .i64 (numRes (runL 2 ((toL s).drop p)) 99), .bool (numOk (runL 2 ((toL s).drop p)) 99)]) ∧ Cur 131 (cmdC c) w' b s (numAt (p : Int) (runL 2 ((toL s).drop p)) 99) ∧ Below b W w') := Lib.hid fun W h => by
    refine (number_any b s p 99 W hs h).mono ?_
    rintro e w' ⟨rfl, h1, h2⟩
    rw [hpl, Int.toNat_natCast] at h1 ⊢
    exact ⟨rfl, h1, gr_low h2 (Cur.lt h)⟩
  have k2 := hc.at_
  have HC := Lib.hid hc
  unfold number numB
  generalize runL 2 ((toL s).drop p) = t at *
  clear hpl hc
  cases hb : numOk t 99 with
  | false =>
    rw [hb, numAt_no hb] at HN
    clear hb
    simp only [Bool.false_and, Bool.false_eq_true, if_false]
    generalize numRes t 99 = z at *
    go_enter Tryd.func133, Tryd.ntmps133
    go_wp2_with (first
      | (go_at_call 177; (with_reducible refine (HN.out _ HC.out).mono ?_); rintro e w1 ⟨rfl, hc1, hb1⟩)
      | (go_at_call 125; (with_reducible refine (want_no _ _ _ _).mono ?_); rintro e w3 ⟨rfl, rfl⟩))
    exact ⟨rfl, rfl, hb1⟩
  | true =>
    rw [hb, numRes_yes hb, numAt_yes hb] at HN
    clear hb
    simp only [Bool.true_and]
    generalize hz : numV t = z at *
    have HT : RowKit.Hid (∀ w', Cur 131 (cmdC c) w' b s ((p : Int) + t.length) → PS w' b s (p + t.length) c) := Lib.hid fun w' h => by
      unfold PS
      rw [Int.natCast_add]
      exact h
    clear hz
    by_cases hd : m ≤ (z : Int)
    · rw [decide_eq_true hd]
      simp only [if_true]
      go_enter Tryd.func133, Tryd.ntmps133
      go_wp2_with (first
        | (go_at_call 177; (with_reducible refine (HN.out _ HC.out).mono ?_); rintro e w1 ⟨rfl, hc1, hb1⟩)
        | (go_at_call 125; (with_reducible refine (want_yes _ _ _ _).mono ?_); rintro e w3 ⟨rfl, rfl⟩))
      go_ret
      exact ⟨rfl, HT.out _ hc1, hb1, Cur.lt hc1⟩
    · have hd2 : decide (m ≤ (z : Int)) = false := decide_eq_false hd
      rw [hd2]
      clear hd
      simp only [Bool.false_eq_true, if_false]
      go_enter Tryd.func133, Tryd.ntmps133
      go_wp2_with (first
        | (go_at_call 177; (with_reducible refine (HN.out _ HC.out).mono ?_); rintro e w1 ⟨rfl, hc1, hb1⟩)
        | (go_at_call 125; (with_reducible refine (want_no _ _ _ _).mono ?_); rintro e w3 ⟨rfl, rfl⟩))
      exact ⟨rfl, rfl, hb1⟩

/-- The command's text is laid. -/
theorem PS.setText {w : World} {b : Nat} {s : ByteArray} {p : Nat} {c : CmdT} (h : PS w b s p c) (t : List UInt8) : PS (w.setCell ⟨b, 3, none⟩ (txV t)) b s p { c with text := t } := Blk.set h 3 (txV t)
theorem PS.cell {w : World} {b : Nat} {s : ByteArray} {p : Nat} {c : CmdT} (h : PS w b s p c) (j : Nat) : w.cell? ⟨b, j, none⟩ = (.string s :: .int .i64 (p : Int) :: cmdC c)[j]? := Blk.cell h j
theorem PS.frozen {w : World} {b : Nat} {s : ByteArray} {p : Nat} {c : CmdT} (h : PS w b s p c) (j : Nat) : w.frozen? ⟨b, j, none⟩ = false := Blk.frozen h j
theorem low_set {w w' : World} {b : Nat} (h : Below b w w') (j : Nat) (v : Value) : Below b w (w'.setCell ⟨b, j, none⟩ v) := h.setCell (Nat.le_refl _) _

theorem PS.tx {w : World} {b : Nat} {s : ByteArray} {p : Nat} {c : CmdT} (h : PS w b s p c) : w.cell? ⟨b, 3, none⟩ = some (txV c.text) := h.cell 3
theorem PS.kind {w : World} {b : Nat} {s : ByteArray} {p : Nat} {c : CmdT} (h : PS w b s p c) : w.cell? ⟨b, 2, none⟩ = some (.int .i64 c.kind) := h.cell 2

/-- What a method of the parser that lays its part into the command comes to. -/
def OutC (b : Nat) (s : ByteArray) (W : World) (o : Except Flt (CmdT × Nat)) (e : Ending) (w' : World) : Prop :=
  match o with
  | .ok (c, q) => e = .returned (.tuple #[]) ∧ PS w' b s q c ∧ Below b W w'
  | .error (k, q) => e = boom k q ∧ Below b W w'

theorem free_m (b : Nat) (s : ByteArray) (p : Nat) (c : CmdT) (w : World) (hs : s.size ≤ maxLen) (hp : p ≤ s.size) (hc : PS w b s p c) :
    Calls Tryd.prog 135 #[.pointer (some ⟨b, 0, none⟩)] w (OutC b s w ((free (toL s) p).map fun x => ({ c with text := x.1 }, x.2))) := by
  have hpl : place s.size p = p := place_in _ _ (by omega) (by omega)
  have hsl : (toL s).length = s.size := by simp
  have hR : s.extract p s.size = ⟨((toL s).drop p).toArray⟩ := bytes_inj (by rw [rest_list])
  have HS : RowKit.Hid (∀ W, PS W b s p c → Calls Tryd.prog 121 #[.pointer (some ⟨b, 0, none⟩)] W fun e w' => e = .returned (txV ((toL s).drop p)) ∧ PS w' b s s.size c ∧ Below b W w') := Lib.hid fun W h => by
    refine (rest_any b s p W hs h).mono ?_
    rintro e w' ⟨rfl, h1, h2⟩
    rw [hpl, Int.toNat_natCast, hR]
    exact ⟨rfl, h1, gr_low h2 (Cur.lt h)⟩
  have HK : RowKit.Hid (∀ W, Calls Tryd.prog 161 #[txV ((toL s).drop p)] W fun e w' => e = .returned (.bool (freeS ((toL s).drop p))) ∧ Below W.heap.size W w') := Lib.hid fun W => by
    have h := free_any ⟨((toL s).drop p).toArray⟩ W (by rw [tx_size, List.length_drop]; omega)
    rw [tx_list] at h
    exact h
  have k2 := hc.at_
  have HC := Lib.hid hc
  unfold free
  rw [hsl]
  generalize (toL s).drop p = t at *
  clear hpl hsl hR hc
  cases hb : freeS t
  all_goals
    rw [hb] at HK
    clear hb
    simp only [Bool.false_eq_true, if_false, if_true]
    go_enter Tryd.func135, Tryd.ntmps135
    go_wp2_with (first
      | (go_at_call 121; (with_reducible refine (HS.out _ HC.out).mono ?_); rintro e w1 ⟨rfl, hc1, hb1⟩; have k3 := hc1.frozen 3; have k4 := hc1.tx; have hc4 := hc1.setText t; have hc5 := low_set hb1 3 (txV t); have k6 := hc4.tx; have hlt := hc4.lt)
      | (go_at_call 161; (with_reducible refine (HK.out _).mono ?_); rintro e w2 ⟨rfl, hb2⟩)
      | (go_at_call 125; (with_reducible refine (want_yes _ _ _ _).mono ?_); rintro e w3 ⟨rfl, rfl⟩)
      | (go_at_call 125; (with_reducible refine (want_no _ _ _ _).mono ?_); rintro e w3 ⟨rfl, rfl⟩))
    first
      | (go_end0; exact ⟨rfl, hc4.mono hb2, bl2 hc5 hb2 hlt⟩)
      | exact ⟨rfl, rfl, bl2 hc5 hb2 hlt⟩

theorem PS.setSeat {w : World} {b : Nat} {s : ByteArray} {p : Nat} {c : CmdT} (h : PS w b s p c) (r : Int) (x : UInt8) : PS ((w.setCell ⟨b, 15, none⟩ (.int .i64 r)).setCell ⟨b, 16, none⟩ (.int .u8 x.toNat)) b s p { c with row := r, c := x } := Blk.set (Blk.set h 15 (.int .i64 r)) 16 (.int .u8 x.toNat)
theorem PS.row {w : World} {b : Nat} {s : ByteArray} {p : Nat} {c : CmdT} (h : PS w b s p c) : w.cell? ⟨b, 15, none⟩ = some (.int .i64 c.row) := h.cell 15
theorem PS.let_ {w : World} {b : Nat} {s : ByteArray} {p : Nat} {c : CmdT} (h : PS w b s p c) : w.cell? ⟨b, 16, none⟩ = some (.int .u8 c.c.toNat) := h.cell 16
theorem PS.alloc {w : World} {b : Nat} {s : ByteArray} {p : Nat} {c : CmdT} (h : PS w b s p c) (o : Obj) : PS (w.alloc o) b s p c := Cur.alloc h o

set_option maxHeartbeats 1000000 in
theorem seat_m (b : Nat) (s : ByteArray) (p : Nat) (c : CmdT) (w : World) (hs : s.size ≤ maxLen) (hp : p ≤ s.size) (hc : PS w b s p c) :
    Calls Tryd.prog 179 #[.pointer (some ⟨b, 0, none⟩)] w (OutC b s w ((seat (toL s) p).map fun x => ({ c with row := x.1.1, c := x.1.2 }, x.2))) := by
  have hpl : place s.size p = p := place_in _ _ (by omega) (by omega)
  have hrl : p + (runL 2 ((toL s).drop p)).length ≤ s.size := by have := runL_le 2 ((toL s).drop p); simp at this; omega
  have HS : RowKit.Hid (∀ W, PS W b s p c → Calls Tryd.prog 124 #[.pointer (some ⟨b, 0, none⟩), .int .i64 2] W fun e w' => e = .returned (txV (runL 2 ((toL s).drop p))) ∧ PS w' b s (p + (runL 2 ((toL s).drop p)).length) c ∧ Below b W w') := Lib.hid fun W h => by
    refine (run_any b s p 2 W hs h).mono ?_
    rintro e w' ⟨rfl, h1, h2⟩
    rw [hpl, Int.toNat_natCast] at h1 ⊢
    exact ⟨rfl, h1, gr_low h2 (Cur.lt h)⟩
  have HT : RowKit.Hid (∀ W, PS W b s (p + (runL 2 ((toL s).drop p)).length) c → Calls Tryd.prog 131 #[.pointer (some ⟨b, 0, none⟩), .int .i64 1] W fun e w' => e = .returned (txV (tk (toL s) 1 (p + (runL 2 ((toL s).drop p)).length))) ∧ PS w' b s (p + (runL 2 ((toL s).drop p)).length + (tk (toL s) 1 (p + (runL 2 ((toL s).drop p)).length)).length) c ∧ Below b W w') := Lib.hid fun W h => some_any b s _ 1 c W hs hrl (by decide) h
  have hl1 := tk_size (toL s) 1 (p + (runL 2 ((toL s).drop p)).length)
  have hl3 : p + (runL 2 ((toL s).drop p)).length + (tk (toL s) 1 (p + (runL 2 ((toL s).drop p)).length)).length ≤ s.size := by
    have h := (took_tk (l := toL s) (n := 1) (p := p + (runL 2 ((toL s).drop p)).length) (by simpa using hrl)).2.1
    simpa using h
  have hl2 : (seatTx (toL s) p).length = (runL 2 ((toL s).drop p)).length + (tk (toL s) 1 (p + (runL 2 ((toL s).drop p)).length)).length := by unfold seatTx; rw [List.length_append]
  have HK : RowKit.Hid (∀ W, Calls Tryd.prog 189 #[.string (⟨(runL 2 ((toL s).drop p)).toArray⟩ ++ ⟨(tk (toL s) 1 (p + (runL 2 ((toL s).drop p)).length)).toArray⟩)] W fun e w' => e = .returned (.tuple #[.agg (Pl.seatO (Pl.readL (seatTx (toL s) p))).toArray, .bool (Pl.readL (seatTx (toL s) p)).isSome]) ∧ Below W.heap.size W w') := Lib.hid fun W => by
    have h := Pl.read_any (⟨(runL 2 ((toL s).drop p)).toArray⟩ ++ ⟨(tk (toL s) 1 (p + (runL 2 ((toL s).drop p)).length)).toArray⟩) W (by rw [ByteArray.size_append, tx_size, tx_size]; unfold maxLen at hs ⊢; omega)
    have e : (⟨(runL 2 ((toL s).drop p)).toArray⟩ ++ ⟨(tk (toL s) 1 (p + (runL 2 ((toL s).drop p)).length)).toArray⟩ : ByteArray).data.toList = seatTx (toL s) p := by
      unfold seatTx
      simp
    rw [e] at h
    exact h
  have k2 := hc.at_
  have HC := Lib.hid hc
  unfold seat
  rw [hl2, ← Nat.add_assoc]
  generalize Pl.readL (seatTx (toL s) p) = o at *
  generalize hr : tk (toL s) 1 (p + (runL 2 ((toL s).drop p)).length) = u at *
  generalize runL 2 ((toL s).drop p) = t at *
  have hsz : ¬ (9223372036854775807 < (⟨t.toArray⟩ : ByteArray).size + (⟨u.toArray⟩ : ByteArray).size) := by rw [tx_size, tx_size]; unfold maxLen at hs; omega
  clear hpl hrl hl1 hl2 hl3 hr hc
  cases o with
  | none =>
    unfold Pl.seatO Pl.seatC at HK
    simp only [Option.isSome_none] at HK
    go_enter Tryd.func179, Tryd.ntmps179
    go_wp2_with (first
      | (go_at_call 124; (with_reducible refine (HS.out _ HC.out).mono ?_); rintro e w1 ⟨rfl, hc1, hb1⟩)
      | (go_at_call 131; (with_reducible refine (HT.out _ hc1).mono ?_); rintro e w2 ⟨rfl, hc2, hb2⟩)
      | (go_at_call 189; (with_reducible refine (HK.out _).mono ?_); rintro e w3 ⟨rfl, hb3⟩)
      | (go_at_call 125; (with_reducible refine (want_no _ _ _ _).mono ?_); rintro e w4 ⟨rfl, rfl⟩))
    exact ⟨rfl, rfl, (bl2 (bl3 hb1 hb2) hb3 hc2.lt).alloc (Nat.le_of_lt (hc2.mono hb3).lt) _⟩
  | some x =>
    obtain ⟨r, a⟩ := x
    unfold Pl.seatO Pl.seatC at HK
    simp only [Option.isSome_some] at HK
    go_enter Tryd.func179, Tryd.ntmps179
    go_wp2_with (first
      | (go_at_call 124; (with_reducible refine (HS.out _ HC.out).mono ?_); rintro e w1 ⟨rfl, hc1, hb1⟩)
      | (go_at_call 131; (with_reducible refine (HT.out _ hc1).mono ?_); rintro e w2 ⟨rfl, hc2, hb2⟩)
      | (go_at_call 189; (with_reducible refine (HK.out _).mono ?_); rintro e w3 ⟨rfl, hb3⟩; have hc3 := hc2.mono hb3; have hc4 := hc3.alloc (.cells #[.int .i64 r, .int .u8 a.toNat] 39); have k3 := hc4.row; have k4 := hc4.let_; have k5 := hc4.frozen 15; have k6 := hc4.frozen 16)
      | (go_at_call 125; (with_reducible refine (want_yes _ _ _ _).mono ?_); rintro e w4 ⟨rfl, rfl⟩))

    go_end0
    exact ⟨rfl, hc4.setSeat r a, low_set (low_set ((bl2 (bl3 hb1 hb2) hb3 hc2.lt).alloc (Nat.le_of_lt hc3.lt) _) _ _) _ _⟩
end Go.Proofs.YtjahkaidinahpaaDoor.En
