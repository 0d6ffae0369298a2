/- The parser's methods: fail, want, some, sign, city, day, digit, number, person, free, seat. -/
import Derived.Test.YtjahkaidinahpaaDoorNQ
namespace Go.Proofs.YtjahkaidinahpaaDoor.En
open Go.RowKit
set_option linter.unusedSimpArgs false
set_option linter.unusedVariables false
set_option maxRecDepth 20000

/-- What a parser gives up by. -/
abbrev boom (k : Int) (p : Int) : Ending := .panicked [{ v := .iface 73 (.agg #[.int .i64 k, .int .i64 p]), recovered := false }]

theorem fail_any (v : Value) (k p : Int) (w : World) :
    Calls Tryd.prog 64 #[v, .int .i64 k, .int .i64 p] w fun e w' => e = boom k p ∧ w = w' := by
  go_enter Tryd.func64, Tryd.ntmps64
  go_wp2

  exact ⟨rfl, rfl, rfl⟩

theorem want_yes (v : Value) (k p : Int) (w : World) :
    Calls Tryd.prog 125 #[v, .bool true, .int .i64 k, .int .i64 p] w fun e w' => e = .returned (.tuple #[]) ∧ w = w' := by
  go_enter Tryd.func125, Tryd.ntmps125
  go_wp2
  go_end0
  exact ⟨rfl, rfl⟩

theorem want_no (v : Value) (k p : Int) (w : World) :
    Calls Tryd.prog 125 #[v, .bool false, .int .i64 k, .int .i64 p] w fun e w' => e = boom k p ∧ w = w' := by
  go_enter Tryd.func125, Tryd.ntmps125
  go_wp2_with (go_at_call 64; (with_reducible refine (fail_any _ _ _ _).mono ?_); rintro e w1 ⟨rfl, rfl⟩)

  exact ⟨rfl, rfl, rfl⟩

/-- A parser in memory: its text, its place, the command so far. -/
def PS (w : World) (b : Nat) (s : ByteArray) (p : Nat) (c : CmdT) : Prop := Cur 131 (cmdC c) w b s (p : Int)

abbrev toL (s : ByteArray) : List UInt8 := s.data.toList

/-- What a method of the parser comes to. -/
def Out {α : Type} (b : Nat) (s : ByteArray) (c : CmdT) (W : World) (V : α → Value) (o : Part α) (e : Ending) (w' : World) : Prop :=
  match o with
  | .ok (v, q) => e = .returned (V v) ∧ PS w' b s q c ∧ Below b W w' ∧ b < w'.heap.size
  | .error (k, q) => e = boom k q ∧ Below b W w'

theorem PS.lt {w : World} {b : Nat} {s : ByteArray} {p : Nat} {c : CmdT} (h : PS w b s p c) : b < w.heap.size := Blk.lt h

theorem ext_tk (s : ByteArray) (n p : Nat) : s.extract p (p + (tk (toL s) n p).length) = ⟨(tk (toL s) n p).toArray⟩ := by
  apply bytes_inj
  unfold tk toL
  simp

theorem gr_low {w w' : World} {b : Nat} (h : w.grownBy w' (some b)) (hb : b < w.heap.size) : Below b w w' :=
  ⟨h.os, h.tape, h.output, h.size, fun i hi => h.block i (by omega) (by intro e; injection e with e; omega)⟩

theorem undrew {w w' : World} {b : Nat} (h : Below b w.drew w') : Below b w w' := ⟨h.os, h.tape, h.output, h.size, h.block⟩

set_option maxHeartbeats 2000000 in
theorem some_any (b : Nat) (s : ByteArray) (p n : Nat) (c : CmdT) (w : World) (hs : s.size ≤ maxLen) (hp : p ≤ s.size) (hn : n ≤ 100) (hc : PS w b s p c) :
    Calls Tryd.prog 131 #[.pointer (some ⟨b, 0, none⟩), .int .i64 n] w fun e w' => e = .returned (txV (tk (toL s) n p)) ∧ PS w' b s (p + (tk (toL s) n p).length) c ∧ Below b w w' := by
  have hl : (tk (toL s) n p).length = min n (s.size - p) := by simp [tk, toL]
  have hpl : place s.size p = p := place_in _ _ (by omega) (by omega)
  have HB : RowKit.Hid (∀ W, PS W b s p c → Calls Tryd.prog 176 #[.pointer (some ⟨b, 0, none⟩), .int .i64 (min n (s.size - p) : Nat)] W fun e w' => e = .returned (.tuple #[txV (tk (toL s) n p), .bool true]) ∧ PS w' b s (p + (tk (toL s) n p).length) c ∧ Below b W w') := Lib.hid fun W h => by
    refine (bytes_yes b s p (min n (s.size - p)) W hs h (by rw [hpl, Int.toNat_natCast]; omega)).mono ?_
    rintro e w' ⟨rfl, h1, h2⟩
    rw [hpl, Int.toNat_natCast, ← hl] at h1 ⊢
    rw [ext_tk]
    exact ⟨rfl, h1, gr_low h2 (Cur.lt h)⟩
  have k1 := Cur.text hc
  have k2 := Cur.at_ hc
  have HC : RowKit.Hid (PS w.drew b s p c) := Lib.hid (Cur.drew hc)
  unfold maxLen at hs
  clear hpl hl hc
  have e0 : IntKind.i64.wrap ((s.size : Int) - (p : Int)) = ((s.size - p : Nat) : Int) := by rw [IntWalk.i64_in _ (by omega)]; omega
  have hm : s.size - p ≤ s.size := by omega
  generalize s.size - p = m at *
  by_cases h1 : m < n
  · have e1 : min n m = m := by omega
    have h2 : (m : Int) < (n : Int) := by omega
    rw [e1] at HB
    clear e1
    go_enter Tryd.func131, Tryd.ntmps131
    go_wp2
    go_region_law (first | (go_simp; go_at_call 176; (with_reducible refine (HB.out _ HC.out).mono ?_); rintro e w1 ⟨rfl, hc1, hb1⟩))
    all_goals
      go_wp2
      go_ret
      exact ⟨rfl, hc1, undrew hb1⟩
  · have e1 : min n m = n := by omega
    have h2 : ¬ (m : Int) < (n : Int) := by omega
    rw [e1] at HB
    clear e1
    go_enter Tryd.func131, Tryd.ntmps131
    go_wp2
    go_region_law (first | (go_simp; go_at_call 176; (with_reducible refine (HB.out _ HC.out).mono ?_); rintro e w1 ⟨rfl, hc1, hb1⟩))
    all_goals
      go_wp2
      go_ret
      exact ⟨rfl, hc1, undrew hb1⟩

set_option maxHeartbeats 2000000 in
theorem sign_any (b : Nat) (s : ByteArray) (p : Nat) (q : ByteArray) (c : CmdT) (w : World) (hs : s.size ≤ maxLen) (hp : p ≤ s.size) (hq : q.size ≤ maxLen) (hc : PS w b s p c) :
    Calls Tryd.prog 127 #[.pointer (some ⟨b, 0, none⟩), .string q] w (Out b s c w (fun _ : Unit => .tuple #[]) (sign (toL q) (toL s) p)) := by
  have hpl : place s.size p = p := place_in _ _ (by omega) (by omega)
  have HW : RowKit.Hid (∀ W, PS W b s p c → Calls Tryd.prog 123 #[.pointer (some ⟨b, 0, none⟩), .string q] W fun e w' => e = .returned (.bool (isPre (toL q) ((toL s).drop p))) ∧ PS w' b s (if isPre (toL q) ((toL s).drop p) then p + q.size else p) c ∧ Below b W w' ∧ W.heap.size ≤ w'.heap.size) := Lib.hid fun W h => by
    refine (word_any b s p q W hs hq h).mono ?_
    rintro e w' ⟨rfl, h1, h2⟩
    rw [hpl, Int.toNat_natCast] at h1 ⊢
    exact ⟨rfl, h1, gr_low h2 (Cur.lt h), h2.size⟩
  have hql : (toL q).length = q.size := by simp
  have k2 := Cur.at_ hc
  have HC : RowKit.Hid (PS w.drew b s p c) := Lib.hid (Cur.drew hc)
  unfold maxLen at hs
  unfold sign
  cases hb : isPre (toL q) ((toL s).drop p) with
  | true =>
    rw [hb] at HW
    simp only [if_true] at HW ⊢
    have HO : RowKit.Hid (∀ e w', e = .returned (.tuple #[]) → PS w' b s (p + q.size) c → Below b w w' → Out b s c w (fun _ : Unit => .tuple #[]) (.ok ((), p + (toL q).length)) e w') := Lib.hid fun e w' h1 h2 h3 => ⟨h1, by rw [hql]; exact h2, h3, Cur.lt h2⟩
    clear hb hpl hql hc
    go_enter Tryd.func127, Tryd.ntmps127
    go_wp2
    go_region_law (first
      | (go_simp; go_at_call 123; (with_reducible refine (HW.out _ HC.out).mono ?_); rintro e w1 ⟨rfl, hc1, hb1, hz1⟩; have m2 := Cur.at_ hc1)
      | (go_simp; go_at_call 125; (with_reducible refine (want_yes _ _ _ _).mono ?_); rintro e w2 ⟨rfl, rfl⟩))
    all_goals
      go_wp2
      go_end0
      exact HO.out _ _ rfl hc1 (undrew hb1)
  | false =>
    rw [hb] at HW
    simp only [Bool.false_eq_true, if_false] at HW ⊢
    have HO : RowKit.Hid (∀ w', Below b w w' → Out b s c w (fun _ : Unit => .tuple #[]) (.error (42, p)) (boom 42 p) w') := Lib.hid fun w' h3 => ⟨rfl, h3⟩
    have kd := Cur.at_ HC.out
    clear hb hpl hql hc
    go_enter Tryd.func127, Tryd.ntmps127
    go_wp2
    refine wp_region_held_drew (S := fun W => W.cell? ⟨b, 1, none⟩ = some (.int .i64 (p : Int))) (by kernel_rfl) kd (fun hHeld => ?_)
    refine wpAnyH_take (i := 0) (oi := _) (v := ?_) rfl (by kernel_rfl) (by kernel_rfl) (by kernel_rfl) (fun _ _ _ h => h) (Or.inl ⟨by rfl, ?_⟩) (by assumption) ?_
    rotate_left
    · intro w hSw
      (try dsimp only at hSw)
      go_simp
      (try with_reducible rfl)
    try simp only [Act.put, List.getElem_toArray, List.getElem_cons_succ, List.getElem_cons_zero, List.setIfInBounds_toArray, List.set_cons_zero, List.set_cons_succ]
    refine wpAnyH_take (i := 1) (oi := _) (v := ?_) rfl (by kernel_rfl) (by kernel_rfl) (by kernel_rfl) (fun _ _ _ h => h) (Or.inl ⟨by rfl, ?_⟩) (by assumption) ?_
    rotate_left
    · intro w hSw
      (try dsimp only at hSw)
      go_simp
      (try with_reducible rfl)
    try simp only [Act.put, List.getElem_toArray, List.getElem_cons_succ, List.getElem_cons_zero, List.setIfInBounds_toArray, List.set_cons_zero, List.set_cons_succ]
    refine wpAnyH_take (i := 2) (oi := _) (v := ?_) rfl (by kernel_rfl) (by kernel_rfl) (by kernel_rfl) (fun _ _ _ h => h) (Or.inl ⟨by rfl, ?_⟩) (by assumption) ?_
    rotate_left
    · intro w hSw
      (try dsimp only at hSw)
      go_simp
      (try with_reducible rfl)
    try simp only [Act.put, List.getElem_toArray, List.getElem_cons_succ, List.getElem_cons_zero, List.setIfInBounds_toArray, List.set_cons_zero, List.set_cons_succ]
    refine wpAnyH_take (i := 3) (oi := _) (v := ?_) rfl (by kernel_rfl) (by kernel_rfl) (by kernel_rfl) (fun _ _ _ h => h) (Or.inl ⟨by rfl, ?_⟩) (by assumption) ?_
    rotate_left
    · intro w hSw
      (try dsimp only at hSw)
      go_simp
      (try with_reducible rfl)
    try simp only [Act.put, List.getElem_toArray, List.getElem_cons_succ, List.getElem_cons_zero, List.setIfInBounds_toArray, List.set_cons_zero, List.set_cons_succ]
    refine wpAnyH_take (i := 4) (oi := _) (v := ?_) rfl (by kernel_rfl) (by kernel_rfl) (by kernel_rfl) (fun _ _ _ h => h) (Or.inl ⟨by rfl, ?_⟩) (by assumption) ?_
    rotate_left
    · intro w hSw
      (try dsimp only at hSw)
      go_simp
      (try with_reducible rfl)
    try simp only [Act.put, List.getElem_toArray, List.getElem_cons_succ, List.getElem_cons_zero, List.setIfInBounds_toArray, List.set_cons_zero, List.set_cons_succ]
    refine wpAnyH_take (i := 6) (oi := _) (v := ?_) rfl (by kernel_rfl) (by kernel_rfl) (by kernel_rfl) (fun _ _ _ h => h) (Or.inl ⟨by rfl, ?_⟩) (by assumption) ?_
    rotate_left
    · intro w hSw
      (try dsimp only at hSw)
      go_simp
      (try with_reducible rfl)
    try simp only [Act.put, List.getElem_toArray, List.getElem_cons_succ, List.getElem_cons_zero, List.setIfInBounds_toArray, List.set_cons_zero, List.set_cons_succ]
    refine wpAnyH_take (i := 7) (oi := _) (v := ?_) rfl (by kernel_rfl) (by kernel_rfl) (by kernel_rfl) (fun _ _ _ h => h) (Or.inl ⟨by rfl, ?_⟩) (by assumption) ?_
    rotate_left
    · intro w hSw
      (try dsimp only at hSw)
      go_simp
      (try with_reducible rfl)
    try simp only [Act.put, List.getElem_toArray, List.getElem_cons_succ, List.getElem_cons_zero, List.setIfInBounds_toArray, List.set_cons_zero, List.set_cons_succ]
    refine wpAnyH_take (i := 8) (oi := _) (v := ?_) rfl (by kernel_rfl) (by kernel_rfl) (by kernel_rfl) (fun _ _ _ h => h) (Or.inl ⟨by rfl, ?_⟩) (by assumption) ?_
    rotate_left
    · intro w hSw
      (try dsimp only at hSw)
      go_simp
      (try with_reducible rfl)
    try simp only [Act.put, List.getElem_toArray, List.getElem_cons_succ, List.getElem_cons_zero, List.setIfInBounds_toArray, List.set_cons_zero, List.set_cons_succ]
    refine wpAnyH_take (i := 9) (oi := _) (v := ?_) rfl (by kernel_rfl) (by kernel_rfl) (by kernel_rfl) (fun _ _ _ h => h) (Or.inl ⟨by rfl, ?_⟩) (by assumption) ?_
    rotate_left
    · intro w hSw
      (try dsimp only at hSw)
      go_simp
      (try with_reducible rfl)
    try simp only [Act.put, List.getElem_toArray, List.getElem_cons_succ, List.getElem_cons_zero, List.setIfInBounds_toArray, List.set_cons_zero, List.set_cons_succ]
    refine wpAnyH_take (i := 10) (oi := _) (v := ?_) rfl (by kernel_rfl) (by kernel_rfl) (by kernel_rfl) (fun _ _ _ h => h) (Or.inl ⟨by rfl, ?_⟩) (by assumption) ?_
    rotate_left
    · intro w hSw
      (try dsimp only at hSw)
      go_simp
      (try with_reducible rfl)
    try simp only [Act.put, List.getElem_toArray, List.getElem_cons_succ, List.getElem_cons_zero, List.setIfInBounds_toArray, List.set_cons_zero, List.set_cons_succ]
    refine wpAnyH_ready (rs := [5]) (by kernel_rfl) (by simp) ?_
    refine AllReadyH.cons (o := _) rfl (fun K hK => ?_) AllReadyH.nil
    go_simp
    go_at_call 123; (with_reducible refine (HW.out _ HC.out).mono ?_); rintro e w1 ⟨rfl, hc1, hb1, hz1⟩; have m2 := Cur.at_ hc1
    go_simp
    refine hK.out _ _ m2 (fun hHeld => ?_)
    clear hK K
    try simp only [Act.put, List.getElem_toArray, List.getElem_cons_succ, List.getElem_cons_zero, List.setIfInBounds_toArray, List.set_cons_zero, List.set_cons_succ]
    refine wpAnyH_ready (rs := [11]) (by kernel_rfl) (by simp) ?_
    refine AllReadyH.cons (o := _) rfl (fun K hK => ?_) AllReadyH.nil
    go_simp
    go_at_call 125; (with_reducible refine (want_no _ _ _ _).mono ?_); rintro e w2 ⟨rfl, rfl⟩
    go_simp
    exact ⟨rfl, HO.out _ (undrew hb1)⟩

end Go.Proofs.YtjahkaidinahpaaDoor.En
