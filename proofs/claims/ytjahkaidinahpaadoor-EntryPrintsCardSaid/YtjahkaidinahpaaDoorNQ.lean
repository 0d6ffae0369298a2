/- Entries: the plain laws of faults: their codes and places; what stands ahead of ErrMore's place is an entry; an entry with one byte more. -/
import Derived.Test.YtjahkaidinahpaaDoorNP
namespace Go.Proofs.YtjahkaidinahpaaDoor.En
open Go.RowKit
set_option linter.unusedSimpArgs false
set_option linter.unusedVariables false

/-- A fault of a part that begins at p. -/
def AtP (p : Nat) (f : Flt) : Prop := 42 ≤ f.1 ∧ f.1 ≤ 46 ∧ f.2 = p
/-- A fault of a text behind the word. -/
def InL (l : List UInt8) (f : Flt) : Prop := 42 ≤ f.1 ∧ f.1 ≤ 46 ∧ f.2 ≤ l.length

theorem AtP.inl {l : List UInt8} {p : Nat} {f : Flt} (h : AtP p f) (hp : p ≤ l.length) : InL l f := ⟨h.1, h.2.1, by rw [h.2.2]; exact hp⟩
theorem atp (p : Nat) (k : Int) (h1 : 42 ≤ k) (h2 : k ≤ 46) : AtP p (k, p) := ⟨h1, h2, rfl⟩

theorem city_er {l : List UInt8} {p : Nat} {f : Flt} (h : city l p = .error f) : AtP p f := by
  unfold city at h
  split at h
  · cases h
  · injection h with h; subst h; exact atp p _ (by decide) (by decide)
theorem loc_er {l : List UInt8} {p : Nat} {f : Flt} (h : loc l p = .error f) : AtP p f := by
  unfold loc at h
  split at h
  · cases h
  · injection h with h; subst h; exact atp p _ (by decide) (by decide)
theorem person_er {l : List UInt8} {p : Nat} {f : Flt} (h : person l p = .error f) : AtP p f := by
  unfold person at h
  split at h
  · cases h
  · injection h with h; subst h; exact atp p _ (by decide) (by decide)
theorem agent_er {l : List UInt8} {p : Nat} {f : Flt} (h : agent l p = .error f) : AtP p f := by
  unfold agent at h
  split at h
  · cases h
  · injection h with h; subst h; exact atp p _ (by decide) (by decide)
theorem free_er {l : List UInt8} {p : Nat} {f : Flt} (h : free l p = .error f) : f = (46, p) := by
  unfold free at h
  split at h
  · cases h
  · injection h with h; exact h.symm
theorem sign_er {g l : List UInt8} {p : Nat} {f : Flt} (h : sign g l p = .error f) : AtP p f := by
  unfold sign at h
  split at h
  · cases h
  · injection h with h; subst h; exact atp p _ (by decide) (by decide)
theorem digit_er {m : Int} {l : List UInt8} {p : Nat} {f : Flt} (h : digit m l p = .error f) : AtP p f := by
  unfold digit at h
  split at h
  · cases h
  · injection h with h; subst h; exact atp p _ (by decide) (by decide)
theorem number_er {m : Int} {l : List UInt8} {p : Nat} {f : Flt} (h : number m l p = .error f) : AtP p f := by
  unfold number at h
  split at h
  · cases h
  · injection h with h; subst h; exact atp p _ (by decide) (by decide)
theorem cls_er {l : List UInt8} {p : Nat} {f : Flt} (h : cls l p = .error f) : AtP p f := by
  unfold cls at h
  split at h
  · cases h
  · injection h with h; subst h; exact atp p _ (by decide) (by decide)
theorem day_er {l : List UInt8} {p : Nat} {f : Flt} (h : day l p = .error f) : AtP p f := by
  unfold day at h
  split at h
  · cases h
  · injection h with h; subst h; exact atp p _ (by decide) (by decide)
theorem clock_er {l : List UInt8} {p : Nat} {f : Flt} (h : clock l p = .error f) : AtP p f := by
  unfold clock at h
  split at h
  · cases h
  · injection h with h; subst h; exact atp p _ (by decide) (by decide)
theorem seat_er {l : List UInt8} {p : Nat} {f : Flt} (h : seat l p = .error f) : AtP p f := by
  unfold seat at h
  split at h
  · cases h
  · injection h with h; subst h; exact atp p _ (by decide) (by decide)

theorem bind_er {α β : Type} {x : Except Flt α} {g : α → Except Flt β} {f : Flt} (h : (x >>= g) = .error f) : x = .error f ∨ ∃ a, x = .ok a ∧ g a = .error f := by
  cases x with
  | error e =>
    have h : (Except.error e : Except Flt β) = .error f := h
    injection h with h
    subst h
    exact .inl rfl
  | ok a => exact .inr ⟨a, rfl, h⟩

theorem pIn_er {l : List UInt8} {p : Nat} {f : Flt} (h : pIn l p = .error f) (hp : p ≤ l.length) : InL l f := by
  unfold pIn at h
  rcases bind_er h with h | ⟨⟨a1, p1⟩, h1, h⟩
  · exact (agent_er h).inl hp
  have t1 := agent_ok h1 hp
  dsimp only at h
  rcases bind_er h with h | ⟨⟨a2, p2⟩, h2, h⟩
  · exact (sign_er h).inl t1.2.1
  have t2 := sign_ok h2 t1.2.1
  dsimp only at h
  rcases bind_er h with h | ⟨⟨a3, p3⟩, h3, h⟩
  · exact (city_er h).inl t2.2.1
  have t3 := city_ok h3 t2.2.1
  dsimp only at h
  cases h
theorem pAvail_er {l : List UInt8} {p : Nat} {f : Flt} (h : pAvail l p = .error f) (hp : p ≤ l.length) : InL l f := by
  unfold pAvail at h
  rcases bind_er h with h | ⟨⟨a1, p1⟩, h1, h⟩
  · exact (day_er h).inl hp
  have t1 := (day_ok h1 hp).1
  dsimp only at h
  rcases bind_er h with h | ⟨⟨a2, p2⟩, h2, h⟩
  · exact (city_er h).inl t1.2.1
  have t2 := city_ok h2 t1.2.1
  dsimp only at h
  rcases bind_er h with h | ⟨⟨a3, p3⟩, h3, h⟩
  · exact (city_er h).inl t2.2.1
  have t3 := city_ok h3 t2.2.1
  dsimp only at h
  cases h
theorem pSell_er {l : List UInt8} {p : Nat} {f : Flt} (h : pSell l p = .error f) (hp : p ≤ l.length) : InL l f := by
  unfold pSell at h
  rcases bind_er h with h | ⟨⟨a1, p1⟩, h1, h⟩
  · exact (digit_er h).inl hp
  have t1 := (digit_ok h1 hp (by decide)).1
  dsimp only at h
  rcases bind_er h with h | ⟨⟨a2, p2⟩, h2, h⟩
  · exact (cls_er h).inl t1.2.1
  have t2 := cls_ok h2 t1.2.1
  dsimp only at h
  rcases bind_er h with h | ⟨⟨a3, p3⟩, h3, h⟩
  · exact (number_er h).inl t2.2.1
  have t3 := (number_ok h3 t2.2.1).1
  dsimp only at h
  cases h
theorem pName_er {l : List UInt8} {p : Nat} {f : Flt} (h : pName l p = .error f) (hp : p ≤ l.length) : InL l f := by
  unfold pName at h
  rcases bind_er h with h | ⟨⟨a1, p1⟩, h1, h⟩
  · exact (person_er h).inl hp
  have t1 := person_ok h1 hp
  dsimp only at h
  rcases bind_er h with h | ⟨⟨a2, p2⟩, h2, h⟩
  · exact (sign_er h).inl t1.2.1
  have t2 := sign_ok h2 t1.2.1
  dsimp only at h
  rcases bind_er h with h | ⟨⟨a3, p3⟩, h3, h⟩
  · exact (person_er h).inl t2.2.1
  have t3 := person_ok h3 t2.2.1
  dsimp only at h
  cases h
theorem pFree_er {l : List UInt8} {k : Int} {p : Nat} {f : Flt} (h : pFree k l p = .error f) (hp : p ≤ l.length) : InL l f := by
  unfold pFree at h
  rcases bind_er h with h | ⟨⟨a1, p1⟩, h1, h⟩
  · have := free_er h; subst this; exact ⟨by show (42 : Int) ≤ 46; decide, by show (46 : Int) ≤ 46; decide, hp⟩
  have t1 := (free_ok h1 hp).1
  dsimp only at h
  cases h
theorem pLimit_er {l : List UInt8} {p : Nat} {f : Flt} (h : pLimit l p = .error f) (hp : p ≤ l.length) : InL l f := by
  unfold pLimit at h
  rcases bind_er h with h | ⟨⟨a1, p1⟩, h1, h⟩
  · exact (day_er h).inl hp
  have t1 := (day_ok h1 hp).1
  dsimp only at h
  rcases bind_er h with h | ⟨⟨a2, p2⟩, h2, h⟩
  · exact (sign_er h).inl t1.2.1
  have t2 := sign_ok h2 t1.2.1
  dsimp only at h
  rcases bind_er h with h | ⟨⟨a3, p3⟩, h3, h⟩
  · exact (clock_er h).inl t2.2.1
  have t3 := (clock_ok h3 t2.2.1).1
  dsimp only at h
  cases h
theorem pUnseat_er {l : List UInt8} {p : Nat} {f : Flt} (h : pUnseat l p = .error f) (hp : p ≤ l.length) : InL l f := by
  unfold pUnseat at h
  rcases bind_er h with h | ⟨⟨a1, p1⟩, h1, h⟩
  · exact (digit_er h).inl hp
  have t1 := (digit_ok h1 hp (by decide)).1
  dsimp only at h
  rcases bind_er h with h | ⟨⟨a2, p2⟩, h2, h⟩
  · exact (sign_er h).inl t1.2.1
  have t2 := sign_ok h2 t1.2.1
  dsimp only at h
  rcases bind_er h with h | ⟨⟨a3, p3⟩, h3, h⟩
  · exact (digit_er h).inl t2.2.1
  have t3 := (digit_ok h3 t2.2.1 (by decide)).1
  dsimp only at h
  cases h
theorem pCancel_er {l : List UInt8} {p : Nat} {f : Flt} (h : pCancel l p = .error f) (hp : p ≤ l.length) : InL l f := by
  unfold pCancel at h
  rcases bind_er h with h | ⟨⟨a1, p1⟩, h1, h⟩
  · exact (digit_er h).inl hp
  have t1 := (digit_ok h1 hp (by decide)).1
  dsimp only at h
  cases h
theorem pLoc_er {l : List UInt8} {p : Nat} {f : Flt} (h : pLoc l p = .error f) (hp : p ≤ l.length) : InL l f := by
  unfold pLoc at h
  rcases bind_er h with h | ⟨⟨a1, p1⟩, h1, h⟩
  · exact (loc_er h).inl hp
  have t1 := (loc_ok h1 hp).1
  dsimp only at h
  cases h
theorem pNum_er {l : List UInt8} {k : Int} {p : Nat} {f : Flt} (h : pNum k l p = .error f) (hp : p ≤ l.length) : InL l f := by
  unfold pNum at h
  rcases bind_er h with h | ⟨⟨a1, p1⟩, h1, h⟩
  · exact (number_er h).inl hp
  have t1 := (number_ok h1 hp).1
  dsimp only at h
  cases h
theorem seats_er {l : List UInt8} {p : Nat} {f : Flt} (h : seats l p = .error f) (hp : p ≤ l.length) : InL l f := by
  unfold seats at h
  rcases bind_er h with h | ⟨⟨a1, p1⟩, h1, h⟩
  · exact (digit_er h).inl hp
  have t1 := (digit_ok h1 hp (by decide)).1
  dsimp only at h
  split at h
  · cases h
  rcases bind_er h with h | ⟨⟨a2, p2⟩, h2, h⟩
  · exact (sign_er h).inl t1.2.1
  have t2 := sign_ok h2 t1.2.1
  dsimp only at h
  rcases bind_er h with h | ⟨⟨a3, p3⟩, h3, h⟩
  · exact (seat_er h).inl t2.2.1
  have t3 := seat_ok h3 t2.2.1
  dsimp only at h
  rcases bind_er h with h | ⟨⟨a4, p4⟩, h4, h⟩
  · exact (sign_er h).inl t3.2.1
  have t4 := sign_ok h4 t3.2.1
  dsimp only at h
  rcases bind_er h with h | ⟨⟨a5, p5⟩, h5, h⟩
  · exact (digit_er h).inl t4.2.1
  dsimp only at h
  cases h

theorem parts_er {l : List UInt8} {k : Int} {p : Nat} {f : Flt} (h : parts l k p = .error f) (hp : p ≤ l.length) : InL l f := by
  unfold parts at h
  split at h
  · exact pIn_er h hp
  split at h
  · exact pAvail_er h hp
  split at h
  · exact pSell_er h hp
  split at h
  · exact pName_er h hp
  split at h
  · exact pFree_er h hp
  split at h
  · exact pLimit_er h hp
  split at h
  · exact seats_er h hp
  split at h
  · exact pUnseat_er h hp
  split at h
  · exact pCancel_er h hp
  split at h
  · exact pLoc_er h hp
  split at h
  · exact pNum_er h hp
  · cases h

/-- The faults of entries. -/
theorem parse_er {l : List UInt8} {f : Flt} (h : parse l = .error f) : (255 < l.length ∧ f = (40, 255)) ∨ (l.length ≤ 255 ∧ (f = (41, 0) ∨ InL l f ∨ ∃ k p c q, begin_ l = some (k, p) ∧ parts l k p = .ok (c, q) ∧ q < l.length ∧ f = (47, q))) := by
  unfold parse at h
  split at h
  · next hl => injection h with h; exact .inl ⟨hl, h.symm⟩
  next hl =>
  refine .inr ⟨by omega, ?_⟩
  split at h
  · injection h with h; exact .inl h.symm
  next k p hb =>
  have hp : p ≤ l.length := by
    rcases begin_word hb with ⟨rfl, _, rfl⟩ | ⟨_, w, _, hw, rfl⟩
    · decide
    · exact isPre_len hw
  split at h
  · next g hg => injection h with h; subst h; exact .inr (.inl (parts_er hg hp))
  next c q hq =>
  split at h
  · next hlt => injection h with h; exact .inr (.inr ⟨k, p, c, q, hb, hq, hlt, h.symm⟩)
  · cases h

theorem tk_cut {l : List UInt8} {n p m : Nat} (h : p + (tk l n p).length ≤ m) : tk (l.take m) n p = tk l n p := by
  unfold tk at h ⊢
  rw [List.length_take, List.length_drop] at h
  rw [List.drop_take, List.take_take]
  by_cases hn : n ≤ m - p
  · rw [Nat.min_eq_left hn]
  · rw [Nat.min_eq_right (by omega), List.take_of_length_le (by simp; omega), List.take_of_length_le (by simp; omega)]
theorem tw_take (f : UInt8 → Bool) : ∀ (t : List UInt8) (j : Nat), (t.takeWhile f).length ≤ j → (t.take j).takeWhile f = t.takeWhile f
  | [], j, _ => by simp
  | a :: t, 0, h => by
    cases ha : f a
    · simp [List.takeWhile_cons, ha]
    · rw [List.takeWhile_cons, ha] at h; simp at h
  | a :: t, j + 1, h => by
    rw [List.take_succ_cons, List.takeWhile_cons, List.takeWhile_cons]
    cases ha : f a
    · rfl
    · rw [List.takeWhile_cons, ha] at h
      simp at h
      simp only [if_true]
      rw [tw_take f t j h]
theorem run_cut {l : List UInt8} {k : Int} {p m : Nat} (h : p + (runL k (l.drop p)).length ≤ m) : runL k ((l.take m).drop p) = runL k (l.drop p) := by
  unfold runL at h ⊢
  rw [List.drop_take]
  exact tw_take _ _ _ (by omega)
theorem pre_cut {l q : List UInt8} {p m : Nat} (h : isPre q (l.drop p) = true) (hm : p + q.length ≤ m) : isPre q ((l.take m).drop p) = true := by
  unfold isPre at h ⊢
  rw [List.drop_take, List.take_take, Nat.min_eq_left (by omega)]
  exact h
theorem pre_of_cut {l q : List UInt8} {p m : Nat} (h : isPre q ((l.take m).drop p) = true) : isPre q (l.drop p) = true := by
  have hl := isPre_len h
  rw [List.length_drop, List.length_take] at hl
  unfold isPre at h ⊢
  rw [List.drop_take, List.take_take] at h
  by_cases hq : q.length ≤ m - p
  · rw [Nat.min_eq_left hq] at h; exact h
  · omega

theorem city_cut {l : List UInt8} {p q m : Nat} {t : List UInt8} (h : city l p = .ok (t, q)) (hm : q ≤ m) : city (l.take m) p = .ok (t, q) := by
  unfold city at h ⊢
  split at h
  · next hb =>
    injection h with h; injection h with h1 h2; subst h1 h2
    rw [tk_cut hm, if_pos hb]
  · cases h
theorem loc_cut {l : List UInt8} {p q m : Nat} {t : List UInt8} (h : loc l p = .ok (t, q)) (hm : q ≤ m) : loc (l.take m) p = .ok (t, q) := by
  unfold loc at h ⊢
  split at h
  · next hb =>
    injection h with h; injection h with h1 h2; subst h1 h2
    rw [tk_cut hm, if_pos hb]
  · cases h
theorem person_cut {l : List UInt8} {p q m : Nat} {t : List UInt8} (h : person l p = .ok (t, q)) (hm : q ≤ m) : person (l.take m) p = .ok (t, q) := by
  unfold person at h ⊢
  split at h
  · next hb =>
    injection h with h; injection h with h1 h2; subst h1 h2
    rw [run_cut hm, if_pos hb]
  · cases h
theorem agent_cut {l : List UInt8} {p q m : Nat} {t : List UInt8} (h : agent l p = .ok (t, q)) (hm : q ≤ m) : agent (l.take m) p = .ok (t, q) := by
  unfold agent at h ⊢
  split at h
  · next hb =>
    injection h with h; injection h with h1 h2; subst h1 h2
    rw [run_cut hm, if_pos hb]
  · cases h
theorem free_cut {l : List UInt8} {p q m : Nat} {t : List UInt8} (h : free l p = .ok (t, q)) (hm : q ≤ m) : free (l.take m) p = .ok (t, q) := by
  have hq : q = l.length := by
    unfold free at h
    split at h
    · injection h with h; injection h with h1 h2; exact h2.symm
    · cases h
  rw [List.take_of_length_le (by omega)]
  exact h
theorem sign_cut {l g : List UInt8} {p q m : Nat} {u : Unit} (h : sign g l p = .ok (u, q)) (hm : q ≤ m) : sign g (l.take m) p = .ok (u, q) := by
  unfold sign at h ⊢
  split at h
  · next hb =>
    injection h with h; injection h with h1 h2; subst h2
    rw [if_pos (pre_cut hb hm)]
  · cases h
theorem digit_cut {n : Int} {l : List UInt8} {p q m : Nat} {t : Int} (h : digit n l p = .ok (t, q)) (hm : q ≤ m) : digit n (l.take m) p = .ok (t, q) := by
  unfold digit at h ⊢
  split at h
  · next hb =>
    injection h with h; injection h with h1 h2; subst h1 h2
    have hl : (tk l 1 p).length ≤ 1 := by simp [tk]; omega
    rw [tk_cut (by omega), if_pos hb]
  · cases h
theorem cls_cut {l : List UInt8} {p q m : Nat} {t : UInt8} (h : cls l p = .ok (t, q)) (hm : q ≤ m) : cls (l.take m) p = .ok (t, q) := by
  unfold cls at h ⊢
  split at h
  · next hb =>
    injection h with h; injection h with h1 h2; subst h1 h2
    have hl : (tk l 1 p).length ≤ 1 := by simp [tk]; omega
    rw [tk_cut (by omega), if_pos hb]
  · cases h
theorem number_cut {n : Int} {l : List UInt8} {p q m : Nat} {t : Int} (h : number n l p = .ok (t, q)) (hm : q ≤ m) : number n (l.take m) p = .ok (t, q) := by
  unfold number at h ⊢
  split at h
  · next hb =>
    injection h with h; injection h with h1 h2; subst h1 h2
    rw [run_cut hm, if_pos hb]
  · cases h
theorem day_cut {l : List UInt8} {p q m : Nat} {t : Int} (h : day l p = .ok (t, q)) (hm : q ≤ m) : day (l.take m) p = .ok (t, q) := by
  unfold day at h ⊢
  split at h
  · next d hd =>
    injection h with h; injection h with h1 h2; subst h1 h2
    rw [tk_cut hm, hd]
  · cases h
theorem clock_cut {l : List UInt8} {p q m : Nat} {t : Int} (h : clock l p = .ok (t, q)) (hm : q ≤ m) : clock (l.take m) p = .ok (t, q) := by
  unfold clock at h ⊢
  split at h
  · next d hd =>
    injection h with h; injection h with h1 h2; subst h1 h2
    rw [tk_cut hm, hd]
  · cases h
theorem seatTx_cut {l : List UInt8} {p m : Nat} (h : p + (seatTx l p).length ≤ m) : seatTx (l.take m) p = seatTx l p := by
  unfold seatTx at h ⊢
  rw [List.length_append] at h
  rw [run_cut (by omega), tk_cut (by omega)]
theorem seat_cut {l : List UInt8} {p q m : Nat} {t : Int × UInt8} (h : seat l p = .ok (t, q)) (hm : q ≤ m) : seat (l.take m) p = .ok (t, q) := by
  unfold seat at h ⊢
  split at h
  · next d hd =>
    injection h with h; injection h with h1 h2; subst h1 h2
    rw [seatTx_cut hm, hd]
  · cases h

theorem pIn_cut {l : List UInt8} {p q m : Nat} {c : CmdT} (h : pIn l p = .ok (c, q)) (hp : p ≤ l.length) (hm : q ≤ m) : pIn (l.take m) p = .ok (c, q) := by
  unfold pIn at h ⊢
  obtain ⟨⟨a1, p1⟩, h1, h⟩ := bind_ok h
  have t1 := agent_ok h1 hp
  dsimp only at h
  obtain ⟨⟨a2, p2⟩, h2, h⟩ := bind_ok h
  have t2 := sign_ok h2 t1.2.1
  dsimp only at h
  obtain ⟨⟨a3, p3⟩, h3, h⟩ := bind_ok h
  have t3 := city_ok h3 t2.2.1
  dsimp only at h
  injection h with h; injection h with e1 e2
  subst e1 e2
  rw [agent_cut h1 (by have u2 := t2.1; have u3 := t3.1; omega)]
  dsimp only [bind, Except.bind]
  rw [sign_cut h2 (by have u3 := t3.1; omega)]
  dsimp only [bind, Except.bind]
  rw [city_cut h3 (by  omega)]
  rfl
theorem pAvail_cut {l : List UInt8} {p q m : Nat} {c : CmdT} (h : pAvail l p = .ok (c, q)) (hp : p ≤ l.length) (hm : q ≤ m) : pAvail (l.take m) p = .ok (c, q) := by
  unfold pAvail at h ⊢
  obtain ⟨⟨a1, p1⟩, h1, h⟩ := bind_ok h
  have t1 := (day_ok h1 hp).1
  dsimp only at h
  obtain ⟨⟨a2, p2⟩, h2, h⟩ := bind_ok h
  have t2 := city_ok h2 t1.2.1
  dsimp only at h
  obtain ⟨⟨a3, p3⟩, h3, h⟩ := bind_ok h
  have t3 := city_ok h3 t2.2.1
  dsimp only at h
  injection h with h; injection h with e1 e2
  subst e1 e2
  rw [day_cut h1 (by have u2 := t2.1; have u3 := t3.1; omega)]
  dsimp only [bind, Except.bind]
  rw [city_cut h2 (by have u3 := t3.1; omega)]
  dsimp only [bind, Except.bind]
  rw [city_cut h3 (by  omega)]
  rfl
theorem pSell_cut {l : List UInt8} {p q m : Nat} {c : CmdT} (h : pSell l p = .ok (c, q)) (hp : p ≤ l.length) (hm : q ≤ m) : pSell (l.take m) p = .ok (c, q) := by
  unfold pSell at h ⊢
  obtain ⟨⟨a1, p1⟩, h1, h⟩ := bind_ok h
  have t1 := (digit_ok h1 hp (by decide)).1
  dsimp only at h
  obtain ⟨⟨a2, p2⟩, h2, h⟩ := bind_ok h
  have t2 := cls_ok h2 t1.2.1
  dsimp only at h
  obtain ⟨⟨a3, p3⟩, h3, h⟩ := bind_ok h
  have t3 := (number_ok h3 t2.2.1).1
  dsimp only at h
  injection h with h; injection h with e1 e2
  subst e1 e2
  rw [digit_cut h1 (by have u2 := t2.1; have u3 := t3.1; omega)]
  dsimp only [bind, Except.bind]
  rw [cls_cut h2 (by have u3 := t3.1; omega)]
  dsimp only [bind, Except.bind]
  rw [number_cut h3 (by  omega)]
  rfl
theorem pName_cut {l : List UInt8} {p q m : Nat} {c : CmdT} (h : pName l p = .ok (c, q)) (hp : p ≤ l.length) (hm : q ≤ m) : pName (l.take m) p = .ok (c, q) := by
  unfold pName at h ⊢
  obtain ⟨⟨a1, p1⟩, h1, h⟩ := bind_ok h
  have t1 := person_ok h1 hp
  dsimp only at h
  obtain ⟨⟨a2, p2⟩, h2, h⟩ := bind_ok h
  have t2 := sign_ok h2 t1.2.1
  dsimp only at h
  obtain ⟨⟨a3, p3⟩, h3, h⟩ := bind_ok h
  have t3 := person_ok h3 t2.2.1
  dsimp only at h
  injection h with h; injection h with e1 e2
  subst e1 e2
  rw [person_cut h1 (by have u2 := t2.1; have u3 := t3.1; omega)]
  dsimp only [bind, Except.bind]
  rw [sign_cut h2 (by have u3 := t3.1; omega)]
  dsimp only [bind, Except.bind]
  rw [person_cut h3 (by  omega)]
  rfl
theorem pFree_cut {l : List UInt8} {k : Int} {p q m : Nat} {c : CmdT} (h : pFree k l p = .ok (c, q)) (hp : p ≤ l.length) (hm : q ≤ m) : pFree k (l.take m) p = .ok (c, q) := by
  unfold pFree at h ⊢
  obtain ⟨⟨a1, p1⟩, h1, h⟩ := bind_ok h
  have t1 := (free_ok h1 hp).1
  dsimp only at h
  injection h with h; injection h with e1 e2
  subst e1 e2
  rw [free_cut h1 (by  omega)]
  rfl
theorem pLimit_cut {l : List UInt8} {p q m : Nat} {c : CmdT} (h : pLimit l p = .ok (c, q)) (hp : p ≤ l.length) (hm : q ≤ m) : pLimit (l.take m) p = .ok (c, q) := by
  unfold pLimit at h ⊢
  obtain ⟨⟨a1, p1⟩, h1, h⟩ := bind_ok h
  have t1 := (day_ok h1 hp).1
  dsimp only at h
  obtain ⟨⟨a2, p2⟩, h2, h⟩ := bind_ok h
  have t2 := sign_ok h2 t1.2.1
  dsimp only at h
  obtain ⟨⟨a3, p3⟩, h3, h⟩ := bind_ok h
  have t3 := (clock_ok h3 t2.2.1).1
  dsimp only at h
  injection h with h; injection h with e1 e2
  subst e1 e2
  rw [day_cut h1 (by have u2 := t2.1; have u3 := t3.1; omega)]
  dsimp only [bind, Except.bind]
  rw [sign_cut h2 (by have u3 := t3.1; omega)]
  dsimp only [bind, Except.bind]
  rw [clock_cut h3 (by  omega)]
  rfl
theorem pUnseat_cut {l : List UInt8} {p q m : Nat} {c : CmdT} (h : pUnseat l p = .ok (c, q)) (hp : p ≤ l.length) (hm : q ≤ m) : pUnseat (l.take m) p = .ok (c, q) := by
  unfold pUnseat at h ⊢
  obtain ⟨⟨a1, p1⟩, h1, h⟩ := bind_ok h
  have t1 := (digit_ok h1 hp (by decide)).1
  dsimp only at h
  obtain ⟨⟨a2, p2⟩, h2, h⟩ := bind_ok h
  have t2 := sign_ok h2 t1.2.1
  dsimp only at h
  obtain ⟨⟨a3, p3⟩, h3, h⟩ := bind_ok h
  have t3 := (digit_ok h3 t2.2.1 (by decide)).1
  dsimp only at h
  injection h with h; injection h with e1 e2
  subst e1 e2
  rw [digit_cut h1 (by have u2 := t2.1; have u3 := t3.1; omega)]
  dsimp only [bind, Except.bind]
  rw [sign_cut h2 (by have u3 := t3.1; omega)]
  dsimp only [bind, Except.bind]
  rw [digit_cut h3 (by  omega)]
  rfl
theorem pCancel_cut {l : List UInt8} {p q m : Nat} {c : CmdT} (h : pCancel l p = .ok (c, q)) (hp : p ≤ l.length) (hm : q ≤ m) : pCancel (l.take m) p = .ok (c, q) := by
  unfold pCancel at h ⊢
  obtain ⟨⟨a1, p1⟩, h1, h⟩ := bind_ok h
  have t1 := (digit_ok h1 hp (by decide)).1
  dsimp only at h
  injection h with h; injection h with e1 e2
  subst e1 e2
  rw [digit_cut h1 (by  omega)]
  rfl
theorem pLoc_cut {l : List UInt8} {p q m : Nat} {c : CmdT} (h : pLoc l p = .ok (c, q)) (hp : p ≤ l.length) (hm : q ≤ m) : pLoc (l.take m) p = .ok (c, q) := by
  unfold pLoc at h ⊢
  obtain ⟨⟨a1, p1⟩, h1, h⟩ := bind_ok h
  have t1 := (loc_ok h1 hp).1
  dsimp only at h
  injection h with h; injection h with e1 e2
  subst e1 e2
  rw [loc_cut h1 (by  omega)]
  rfl
theorem pNum_cut {l : List UInt8} {k : Int} {p q m : Nat} {c : CmdT} (h : pNum k l p = .ok (c, q)) (hp : p ≤ l.length) (hm : q ≤ m) : pNum k (l.take m) p = .ok (c, q) := by
  unfold pNum at h ⊢
  obtain ⟨⟨a1, p1⟩, h1, h⟩ := bind_ok h
  have t1 := (number_ok h1 hp).1
  dsimp only at h
  injection h with h; injection h with e1 e2
  subst e1 e2
  rw [number_cut h1 (by  omega)]
  rfl
theorem seats_cut {l : List UInt8} {p q m : Nat} {c : CmdT} (h : seats l p = .ok (c, q)) (hp : p ≤ l.length) (hm : q ≤ m) : seats (l.take m) p = .ok (c, q) := by
  unfold seats at h ⊢
  obtain ⟨⟨a1, p1⟩, h1, h⟩ := bind_ok h
  have t1 := (digit_ok h1 hp (by decide)).1
  dsimp only at h
  split at h
  · next hs =>
    injection h with h; injection h with e1 e2
    subst e1 e2
    rw [digit_cut h1 (by omega)]
    dsimp only [bind, Except.bind]
    rw [if_pos (pre_cut hs (by simpa using hm))]
    rfl
  next hs =>
  obtain ⟨⟨a2, p2⟩, h2, h⟩ := bind_ok h
  have t2 := sign_ok h2 t1.2.1
  dsimp only at h
  obtain ⟨⟨a3, p3⟩, h3, h⟩ := bind_ok h
  have t3 := seat_ok h3 t2.2.1
  dsimp only at h
  obtain ⟨⟨a4, p4⟩, h4, h⟩ := bind_ok h
  have t4 := sign_ok h4 t3.2.1
  dsimp only at h
  obtain ⟨⟨a5, p5⟩, h5, h⟩ := bind_ok h
  have t5 := (digit_ok h5 t4.2.1 (by decide)).1
  dsimp only at h
  injection h with h; injection h with e1 e2
  subst e1 e2
  have u2 := t2.1
  have u3 := t3.1
  have u4 := t4.1
  have u5 := t5.1
  rw [digit_cut h1 (by omega)]
  dsimp only [bind, Except.bind]
  rw [if_neg (fun hc => hs (pre_of_cut hc))]
  rw [sign_cut h2 (by omega)]
  dsimp only [bind, Except.bind]
  rw [seat_cut h3 (by omega)]
  dsimp only [bind, Except.bind]
  rw [sign_cut h4 (by omega)]
  dsimp only [bind, Except.bind]
  rw [digit_cut h5 (by omega)]
  rfl
theorem pIn_kind {l : List UInt8} {p q : Nat} {c : CmdT} (h : pIn l p = .ok (c, q)) : c.kind = 1 := by
  unfold pIn at h
  obtain ⟨⟨a1, p1⟩, h1, h⟩ := bind_ok h
  obtain ⟨⟨a2, p2⟩, h2, h⟩ := bind_ok h
  obtain ⟨⟨a3, p3⟩, h3, h⟩ := bind_ok h
  injection h with h; injection h with e1 e2
  subst e1
  rfl
theorem pAvail_kind {l : List UInt8} {p q : Nat} {c : CmdT} (h : pAvail l p = .ok (c, q)) : c.kind = 3 := by
  unfold pAvail at h
  obtain ⟨⟨a1, p1⟩, h1, h⟩ := bind_ok h
  obtain ⟨⟨a2, p2⟩, h2, h⟩ := bind_ok h
  obtain ⟨⟨a3, p3⟩, h3, h⟩ := bind_ok h
  injection h with h; injection h with e1 e2
  subst e1
  rfl
theorem pSell_kind {l : List UInt8} {p q : Nat} {c : CmdT} (h : pSell l p = .ok (c, q)) : c.kind = 4 := by
  unfold pSell at h
  obtain ⟨⟨a1, p1⟩, h1, h⟩ := bind_ok h
  obtain ⟨⟨a2, p2⟩, h2, h⟩ := bind_ok h
  obtain ⟨⟨a3, p3⟩, h3, h⟩ := bind_ok h
  injection h with h; injection h with e1 e2
  subst e1
  rfl
theorem pName_kind {l : List UInt8} {p q : Nat} {c : CmdT} (h : pName l p = .ok (c, q)) : c.kind = 5 := by
  unfold pName at h
  obtain ⟨⟨a1, p1⟩, h1, h⟩ := bind_ok h
  obtain ⟨⟨a2, p2⟩, h2, h⟩ := bind_ok h
  obtain ⟨⟨a3, p3⟩, h3, h⟩ := bind_ok h
  injection h with h; injection h with e1 e2
  subst e1
  rfl
theorem pFree_kind {l : List UInt8} {k : Int} {p q : Nat} {c : CmdT} (h : pFree k l p = .ok (c, q)) : c.kind = k := by
  unfold pFree at h
  obtain ⟨⟨a1, p1⟩, h1, h⟩ := bind_ok h
  injection h with h; injection h with e1 e2
  subst e1
  rfl
theorem pLimit_kind {l : List UInt8} {p q : Nat} {c : CmdT} (h : pLimit l p = .ok (c, q)) : c.kind = 7 := by
  unfold pLimit at h
  obtain ⟨⟨a1, p1⟩, h1, h⟩ := bind_ok h
  obtain ⟨⟨a2, p2⟩, h2, h⟩ := bind_ok h
  obtain ⟨⟨a3, p3⟩, h3, h⟩ := bind_ok h
  injection h with h; injection h with e1 e2
  subst e1
  rfl
theorem pUnseat_kind {l : List UInt8} {p q : Nat} {c : CmdT} (h : pUnseat l p = .ok (c, q)) : c.kind = 13 := by
  unfold pUnseat at h
  obtain ⟨⟨a1, p1⟩, h1, h⟩ := bind_ok h
  obtain ⟨⟨a2, p2⟩, h2, h⟩ := bind_ok h
  obtain ⟨⟨a3, p3⟩, h3, h⟩ := bind_ok h
  injection h with h; injection h with e1 e2
  subst e1
  rfl
theorem pCancel_kind {l : List UInt8} {p q : Nat} {c : CmdT} (h : pCancel l p = .ok (c, q)) : c.kind = 14 := by
  unfold pCancel at h
  obtain ⟨⟨a1, p1⟩, h1, h⟩ := bind_ok h
  injection h with h; injection h with e1 e2
  subst e1
  rfl
theorem pLoc_kind {l : List UInt8} {p q : Nat} {c : CmdT} (h : pLoc l p = .ok (c, q)) : c.kind = 16 := by
  unfold pLoc at h
  obtain ⟨⟨a1, p1⟩, h1, h⟩ := bind_ok h
  injection h with h; injection h with e1 e2
  subst e1
  rfl
theorem pNum_kind {l : List UInt8} {k : Int} {p q : Nat} {c : CmdT} (h : pNum k l p = .ok (c, q)) : c.kind = k := by
  unfold pNum at h
  obtain ⟨⟨a1, p1⟩, h1, h⟩ := bind_ok h
  injection h with h; injection h with e1 e2
  subst e1
  rfl

theorem parts_cut {l : List UInt8} {k : Int} {p q m : Nat} {c : CmdT} (h : parts l k p = .ok (c, q)) (hp : p ≤ l.length) (hm : q ≤ m) : parts (l.take m) k p = .ok (c, q) := by
  unfold parts at h ⊢
  by_cases e : k = 1
  · rw [if_pos e] at h ⊢; exact pIn_cut h hp hm
  rw [if_neg e] at h ⊢; clear e
  by_cases e : k = 3
  · rw [if_pos e] at h ⊢; exact pAvail_cut h hp hm
  rw [if_neg e] at h ⊢; clear e
  by_cases e : k = 4
  · rw [if_pos e] at h ⊢; exact pSell_cut h hp hm
  rw [if_neg e] at h ⊢; clear e
  by_cases e : k = 5
  · rw [if_pos e] at h ⊢; exact pName_cut h hp hm
  rw [if_neg e] at h ⊢; clear e
  by_cases e : k = 6 ∨ k = 9 ∨ k = 10
  · rw [if_pos e] at h ⊢; exact pFree_cut h hp hm
  rw [if_neg e] at h ⊢; clear e
  by_cases e : k = 7
  · rw [if_pos e] at h ⊢; exact pLimit_cut h hp hm
  rw [if_neg e] at h ⊢; clear e
  by_cases e : k = 11
  · rw [if_pos e] at h ⊢; exact seats_cut h hp hm
  rw [if_neg e] at h ⊢; clear e
  by_cases e : k = 13
  · rw [if_pos e] at h ⊢; exact pUnseat_cut h hp hm
  rw [if_neg e] at h ⊢; clear e
  by_cases e : k = 14
  · rw [if_pos e] at h ⊢; exact pCancel_cut h hp hm
  rw [if_neg e] at h ⊢; clear e
  by_cases e : k = 16
  · rw [if_pos e] at h ⊢; exact pLoc_cut h hp hm
  rw [if_neg e] at h ⊢; clear e
  by_cases e : k = 23 ∨ k = 24
  · rw [if_pos e] at h ⊢; exact pNum_cut h hp hm
  rw [if_neg e] at h ⊢; clear e
  exact h

/-- The kind of what was taken apart. -/
theorem parts_kind {l : List UInt8} {k : Int} {p q : Nat} {c : CmdT} (h : parts l k p = .ok (c, q)) : c.kind = k ∨ (k = 11 ∧ c.kind = 12) := by
  unfold parts at h
  split at h
  · next e => subst e; exact .inl (pIn_kind h)
  split at h
  · next e => subst e; exact .inl (pAvail_kind h)
  split at h
  · next e => subst e; exact .inl (pSell_kind h)
  split at h
  · next e => subst e; exact .inl (pName_kind h)
  split at h
  · exact .inl (pFree_kind h)
  split at h
  · next e => subst e; exact .inl (pLimit_kind h)
  split at h
  · next e =>
    subst e
    unfold seats at h
    obtain ⟨⟨n, p1⟩, h1, h⟩ := bind_ok h
    dsimp only at h
    split at h
    · injection h with h; injection h with e1 e2; subst e1; exact .inl rfl
    · obtain ⟨⟨_, p2⟩, h2, h⟩ := bind_ok h
      obtain ⟨⟨x, p3⟩, h3, h⟩ := bind_ok h
      obtain ⟨⟨_, p4⟩, h4, h⟩ := bind_ok h
      obtain ⟨⟨y, p5⟩, h5, h⟩ := bind_ok h
      injection h with h; injection h with e1 e2; subst e1; exact .inr ⟨rfl, rfl⟩
  split at h
  · next e => subst e; exact .inl (pUnseat_kind h)
  split at h
  · next e => subst e; exact .inl (pCancel_kind h)
  split at h
  · next e => subst e; exact .inl (pLoc_kind h)
  split at h
  · exact .inl (pNum_kind h)
  · injection h with h; injection h with e1 e2; subst e1; exact .inl rfl

theorem find_cut {l : List UInt8} {m : Nat} : ∀ (ws : List (List UInt8 × Int)) (x : List UInt8 × Int), (ws.find? fun x => isPre x.1 l) = some x → x.1.length ≤ m → (ws.find? fun x => isPre x.1 (l.take m)) = some x
  | [], x, h, _ => by cases h
  | w :: ws, x, h, hm => by
    rw [List.find?_cons] at h ⊢
    cases hw : isPre w.1 l
    · rw [hw] at h
      have : isPre w.1 (l.take m) = false := by
        cases hc : isPre w.1 (l.take m)
        · rfl
        · have h3 := pre_of_cut (p := 0) (l := l) (m := m) (q := w.1) (by simpa using hc)
          rw [List.drop_zero, hw] at h3
          cases h3
      rw [this]
      exact find_cut ws x h hm
    · rw [hw] at h
      injection h with h
      subst h
      have := pre_cut (p := 0) (l := l) (m := m) (q := w.1) (by simpa using hw) (by omega)
      rw [List.drop_zero] at this
      rw [this]

/-- What stands ahead of the place at which more is told is an entry. -/
theorem more_cut {l : List UInt8} {k : Int} {p q : Nat} {c : CmdT} (hl : l.length ≤ 255) (hb : begin_ l = some (k, p)) (h : parts l k p = .ok (c, q)) (hq : q < l.length) : parse (l.take q) = .ok c := by
  rcases begin_word hb with ⟨rfl, rfl, rfl⟩ | ⟨hne, w, hw, hp, rfl⟩
  · have e : parts [42, 82] 17 2 = .ok (cmdK 17, 2) := rfl
    rw [e] at h
    injection h with h; injection h with e1 e2
    subst e2
    simp at hq
  obtain ⟨w1, w2, w3, w4, w5⟩ := word_at hw
  have hwl := isPre_len hp
  obtain ⟨x, ⟨t1, t2, t3⟩, _, _⟩ := parts_fine h hwl ⟨w2, w3, w4, w5⟩
  have hfind : (wordsL.find? fun x => isPre x.1 l) = some (w, k) := by
    unfold begin_ at hb
    rw [if_neg hne, Option.map_eq_some_iff] at hb
    obtain ⟨⟨w', k'⟩, h1, h2⟩ := hb
    injection h2 with h2 h3
    have hm := List.mem_of_find?_eq_some h1
    have := (word_at hm).1
    simp only at h2
    subst h2
    rw [h1, ← this, ← w1]
  have hcut := find_cut (m := q) wordsL (w, k) hfind (by simpa using t1)
  have hn2 : l.take q ≠ [42, 82] := by
    intro e
    rw [e] at hcut
    have e16 : (wordsL.find? fun x => isPre x.1 [42, 82]) = some ([42], 16) := by decide +kernel
    rw [e16] at hcut
    injection hcut with hcut
    injection hcut with hw' hk'
    subst hk'
    have hq2 : q = 2 := by
      have := congrArg List.length e
      rw [List.length_take] at this
      simp at this
      omega
    unfold parts at h
    simp only [show ¬ ((16 : Int) = 1) by decide, show ¬ ((16 : Int) = 3) by decide, show ¬ ((16 : Int) = 4) by decide, show ¬ ((16 : Int) = 5) by decide, show ¬ ((16 : Int) = 6 ∨ (16 : Int) = 9 ∨ (16 : Int) = 10) by decide, show ¬ ((16 : Int) = 7) by decide, show ¬ ((16 : Int) = 11) by decide, show ¬ ((16 : Int) = 13) by decide, show ¬ ((16 : Int) = 14) by decide, if_false, if_true] at h
    unfold pLoc at h
    obtain ⟨⟨t, p1⟩, h1, h⟩ := bind_ok h
    obtain ⟨_, h6⟩ := loc_ok h1 hwl
    dsimp only at h
    injection h with h; injection h with e1 e2
    omega
  unfold parse
  rw [if_neg (by rw [List.length_take]; omega)]
  have hb2 : begin_ (l.take q) = some (k, w.length) := by
    unfold begin_
    rw [if_neg hn2, hcut]
    rfl
  rw [hb2]
  simp only
  rw [parts_cut h hwl (Nat.le_refl _)]
  simp only
  rw [if_neg (by rw [List.length_take]; omega)]

theorem begin_free {k : Int} {w l : List UInt8} (hk : k = 6 ∨ k = 9 ∨ k = 10) (hw : (w, k) ∈ wordsL) (hp : isPre w l = true) (b : UInt8) : begin_ (l ++ [b]) = some (k, 1) := by
  have h1 := isPre_drop hp
  have h2 : w = [57] ∨ w = [54] ∨ w = [53] := by
    rcases hk with rfl | rfl | rfl <;> (simp [wordsL] at hw; simp [hw])
  rw [h1]
  have h3 := (word_at hw).1
  rcases hk with rfl | rfl | rfl <;> (subst h3; simp [wordOf, wordsL, begin_, isPre])

/-- A free text with one byte more: a command's, or refused at 1. -/
theorem more_free {l : List UInt8} {c : CmdT} {f : Flt} (b : UInt8) (h : parse l = .ok c) (hk : c.kind = 6 ∨ c.kind = 9 ∨ c.kind = 10) (hl : l.length < 255) (h2 : parse (l ++ [b]) = .error f) : f = (46, 1) := by
  unfold parse at h
  rw [if_neg (by omega)] at h
  split at h
  · cases h
  next k p hb =>
  split at h
  · cases h
  next c' q hq =>
  split at h
  · cases h
  injection h with h
  subst h
  rcases begin_word hb with ⟨rfl, rfl, rfl⟩ | ⟨hne, w, hw, hp, rfl⟩
  · have e : parts [42, 82] 17 2 = .ok (cmdK 17, 2) := rfl
    rw [e] at hq
    injection hq with hq; injection hq with e1 e2
    subst e1
    exfalso
    simp [cmdK, cmd0] at hk
  have hkk : k = 6 ∨ k = 9 ∨ k = 10 := by
    rcases parts_kind hq with h | ⟨h, h'⟩
    · rw [← h]; exact hk
    · rw [h'] at hk; simp at hk
  have hb2 := begin_free hkk hw hp b
  unfold parse at h2
  rw [if_neg (by simp; omega), hb2] at h2
  simp only at h2
  have e : parts (l ++ [b]) k 1 = pFree k (l ++ [b]) 1 := by
    unfold parts
    rw [if_neg (by omega), if_neg (by omega), if_neg (by omega), if_neg (by omega), if_pos hkk]
  rw [e] at h2
  unfold pFree at h2
  cases hfr : free (l ++ [b]) 1 with
  | error g =>
    rw [hfr] at h2
    injection h2 with h2
    rw [← h2]
    exact free_er hfr
  | ok x =>
    obtain ⟨t, q'⟩ := x
    rw [hfr] at h2
    have hq' := (free_ok hfr (by simp)).2
    change (if q' < (l ++ [b]).length then _ else _) = _ at h2
    rw [if_neg (by omega)] at h2
    cases h2
end Go.Proofs.YtjahkaidinahpaaDoor.En
