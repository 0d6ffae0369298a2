/- Entries: the reference's reading in plain steps: each part goes on behind a fault, and the first fault counts; it comes to the same as the grammar. -/
import Derived.Test.YtjahkaidinahpaaDoorNP
namespace Go.Proofs.YtjahkaidinahpaaDoor.En
open Go.RowKit
set_option linter.unusedSimpArgs false
set_option linter.unusedVariables false

/-- The first fault (0: none) and its place. -/
abbrev ErrS := Int × Nat
def wrongP (x : ErrS) (k : Int) (p : Nat) : ErrS := if x.1 = 0 then (k, p) else x
def wantP (ok : Bool) (x : ErrS) (k : Int) (p : Nat) : ErrS := if ok then x else wrongP x k p

/-- A step: from a place and a fault to a value, a place and a fault. -/
abbrev Rd (α : Type) := Nat → ErrS → α × Nat × ErrS
def Rd.pure {α : Type} (v : α) : Rd α := fun p x => (v, p, x)
def Rd.bind {α β : Type} (g : Rd α) (h : α → Rd β) : Rd β := fun p x => h (g p x).1 (g p x).2.1 (g p x).2.2

def rTx (form : Int) (l : List UInt8) (p : Nat) : List UInt8 :=
  if form = 1 then runL 3 (l.drop p) else if form = 2 then tk l 3 p else if form = 3 then runL 1 (l.drop p) else if form = 4 then tk l 6 p
  else if form = 5 then l.drop p else if form = 6 then tk l 1 p else seatTx l p
def rOk (form : Int) (t : List UInt8) : Bool :=
  if form = 1 then agentS t else if form = 2 then lettersS t 3 3 else if form = 3 then lettersS t 1 16 else if form = 4 then lettersS t 6 6
  else if form = 5 then freeS t else if form = 6 then clsB t else (Pl.readL t).isSome
def rText (form : Int) (l : List UInt8) : Rd (List UInt8) := fun p x => (rTx form l p, p + (rTx form l p).length, wantP (rOk form (rTx form l p)) x 46 p)
def rSign (c : UInt8) (l : List UInt8) : Rd Unit := fun p x => if isPre [c] (l.drop p) then ((), p + 1, x) else ((), p, wrongP x 42 p)
def rDay (l : List UInt8) : Rd Int := fun p x => (Da.optI (Da.readS (tk l 5 p)), p + (tk l 5 p).length, wantP (Da.readS (tk l 5 p)).isSome x 44 p)
def rClock (l : List UInt8) : Rd Int := fun p x => (Da.optI (Da.readC (tk l 4 p)), p + (tk l 4 p).length, wantP (Da.readC (tk l 4 p)).isSome x 45 p)
def digV (m : Int) (t : List UInt8) : Int := if digB m t then ((t.getD 0 0).toNat : Int) - 48 else 0
def rDigit (m : Int) (l : List UInt8) : Rd Int := fun p x => (digV m (tk l 1 p), p + (tk l 1 p).length, wantP (digB m (tk l 1 p)) x 43 p)
def numZ (m : Int) (t : List UInt8) : Int := if numB m t then (numV t : Int) else 0
def rNumber (m : Int) (l : List UInt8) : Rd Int := fun p x => (numZ m (runL 2 (l.drop p)), p + (runL 2 (l.drop p)).length, wantP (numB m (runL 2 (l.drop p))) x 43 p)
def clsV (t : List UInt8) : UInt8 := if t.length = 1 then t.getD 0 0 else 0
def seatV (t : List UInt8) : Int × UInt8 := (Pl.readL t).getD (0, 0)

def rIn (l : List UInt8) : Rd CmdT := (rText 1 l).bind fun t => (rSign 47 l).bind fun _ => (rText 2 l).bind fun o => Rd.pure { cmdK 1 with text := t, office := o }
def rAvail (l : List UInt8) : Rd CmdT := (rDay l).bind fun d => (rText 2 l).bind fun a => (rText 2 l).bind fun b => Rd.pure { cmdK 3 with day := d, src := a, dst := b }
def rSell (l : List UInt8) : Rd CmdT := (rDigit 9 l).bind fun n => (rText 6 l).bind fun a => (rNumber 1 l).bind fun m => Rd.pure { cmdK 4 with n, cls := clsV a, line := m }
def rName (l : List UInt8) : Rd CmdT := (rText 3 l).bind fun a => (rSign 47 l).bind fun _ => (rText 3 l).bind fun b => Rd.pure { cmdK 5 with last := a, first := b }
def rFree (k : Int) (l : List UInt8) : Rd CmdT := (rText 5 l).bind fun t => Rd.pure { cmdK k with text := t }
def rLimit (l : List UInt8) : Rd CmdT := (rDay l).bind fun d => (rSign 47 l).bind fun _ => (rClock l).bind fun m => Rd.pure { cmdK 7 with day := d, minute := m }
def rSeat (l : List UInt8) (n : Int) : Rd CmdT := (rSign 47 l).bind fun _ => (rText 7 l).bind fun t => (rSign 45 l).bind fun _ => (rDigit 9 l).bind fun y => Rd.pure { cmdK 12 with n, row := (seatV t).1, c := (seatV t).2, pax := y }
def rSeats (l : List UInt8) : Rd CmdT := (rDigit 8 l).bind fun n => fun p x => if isPre [42] (l.drop p) then ({ cmdK 11 with n }, p + 1, x) else rSeat l n p x
def rUnseat (l : List UInt8) : Rd CmdT := (rDigit 8 l).bind fun n => (rSign 45 l).bind fun _ => (rDigit 9 l).bind fun y => Rd.pure { cmdK 13 with n, pax := y }
def rCancel (l : List UInt8) : Rd CmdT := (rDigit 8 l).bind fun n => Rd.pure { cmdK 14 with n }
def rLoc (l : List UInt8) : Rd CmdT := (rText 4 l).bind fun t => Rd.pure { cmdK 16 with text := t }
def rNum (k : Int) (l : List UInt8) : Rd CmdT := (rNumber 0 l).bind fun n => Rd.pure { cmdK k with n }
def rParts (k : Int) (l : List UInt8) : Rd CmdT :=
  if k = 1 then rIn l
  else if k = 3 then rAvail l
  else if k = 4 then rSell l
  else if k = 5 then rName l
  else if k = 6 ∨ k = 9 ∨ k = 10 then rFree k l
  else if k = 7 then rLimit l
  else if k = 11 then rSeats l
  else if k = 13 then rUnseat l
  else if k = 14 then rCancel l
  else if k = 16 then rLoc l
  else if k = 23 ∨ k = 24 then rNum k l
  else Rd.pure (cmdK k)

/-- The two readings go together: where the grammar has a value, the reference has it too; where it has a fault, the reference has this fault from there on. -/
def Sim {α : Type} (f : Nat → Except Flt (α × Nat)) (g : Rd α) : Prop :=
  (∀ p x, x.1 = 0 → match f p with | .ok (v, q) => g p x = (v, q, x) | .error fl => (g p x).2.2 = fl ∧ fl.1 ≠ 0) ∧ ∀ p x, x.1 ≠ 0 → (g p x).2.2 = x

theorem wrong_keep {x : ErrS} (h : x.1 ≠ 0) (k : Int) (p : Nat) : wrongP x k p = x := by unfold wrongP; rw [if_neg h]
theorem want_keep {x : ErrS} (h : x.1 ≠ 0) (b : Bool) (k : Int) (p : Nat) : wantP b x k p = x := by
  unfold wantP; split
  · rfl
  · exact wrong_keep h k p
theorem want_yes' (x : ErrS) (k : Int) (p : Nat) : wantP true x k p = x := rfl
theorem want_no' {x : ErrS} (h : x.1 = 0) (k : Int) (p : Nat) : wantP false x k p = (k, p) := by unfold wantP wrongP; simp [h]

theorem sim_pure {α : Type} (v : α) : Sim (fun p => (.ok (v, p) : Except Flt (α × Nat))) (Rd.pure v) := ⟨fun p x h => rfl, fun p x h => rfl⟩
def ptBind {α β : Type} (f : Nat → Except Flt (α × Nat)) (f' : α → Nat → Except Flt (β × Nat)) : Nat → Except Flt (β × Nat) := fun p => match f p with | .ok y => f' y.1 y.2 | .error e => .error e
theorem sim_bind {α β : Type} {f : Nat → Except Flt (α × Nat)} {g : Rd α} {f' : α → Nat → Except Flt (β × Nat)} {g' : α → Rd β} (h : Sim f g) (h' : ∀ v, Sim (f' v) (g' v)) : Sim (ptBind f f') (g.bind g') := by
  constructor
  · intro p x hx
    have h1 := h.1 p x hx
    unfold Rd.bind ptBind
    cases hf : f p with
    | ok y =>
      obtain ⟨v, q⟩ := y
      rw [hf] at h1
      simp only at h1
      rw [h1]
      exact (h' v).1 q x hx
    | error fl =>
      rw [hf] at h1
      obtain ⟨h1, h2⟩ := h1
      refine ⟨?_, h2⟩
      have h3 := h2
      rw [← h1] at h3
      rw [(h' _).2 _ _ h3, h1]
  · intro p x hx
    unfold Rd.bind
    have h1 := h.2 p x hx
    have h2 := hx
    rw [← h1] at h2
    rw [(h' _).2 _ _ h2, h1]
theorem sim_if {α : Type} {b : Nat → Bool} {f f' : Nat → Except Flt (α × Nat)} {g g' : Rd α} (h : Sim f g) (h' : Sim f' g') : Sim (fun p => if b p then f p else f' p) (fun p x => if b p then g p x else g' p x) := by
  constructor
  · intro p x hx
    have h1 := h.1 p x hx
    have h2 := h'.1 p x hx
    cases hb : b p
    · simp only [hb, Bool.false_eq_true, if_false]; exact h2
    · simp only [hb, if_true]; exact h1
  · intro p x hx
    cases hb : b p
    · simp only [hb, Bool.false_eq_true, if_false]; exact h'.2 p x hx
    · simp only [hb, if_true]; exact h.2 p x hx

/-- A part that wants something of a text. -/
theorem sim_want {α : Type} {f : Nat → Except Flt (α × Nat)} {g : Rd α} {b : Nat → Bool} {v : Nat → α} {q : Nat → Nat} {k : Int} (hk : k ≠ 0)
    (hf : ∀ p, f p = if b p then .ok (v p, q p) else .error (k, p)) (hg : ∀ p x, (b p = true → (g p x).1 = v p ∧ (g p x).2.1 = q p) ∧ (g p x).2.2 = wantP (b p) x k p) : Sim f g := by
  constructor
  · intro p x hx
    rw [hf]
    obtain ⟨h1, h2⟩ := hg p x
    cases hb : b p
    · rw [hb] at h2
      exact ⟨h2.trans (want_no' hx k p), hk⟩
    · obtain ⟨h1, h3⟩ := h1 hb
      rw [hb] at h2
      exact Prod.ext h1 (Prod.ext h3 h2)
  · intro p x hx
    rw [(hg p x).2, want_keep hx]

theorem agent_sim (l : List UInt8) : Sim (agent l) (rText 1 l) := sim_want (b := fun p => agentS (runL 3 (l.drop p))) (by decide) (fun p => rfl) fun p x => ⟨fun _ => ⟨rfl, rfl⟩, rfl⟩
theorem city_sim (l : List UInt8) : Sim (city l) (rText 2 l) := sim_want (b := fun p => lettersS (tk l 3 p) 3 3) (by decide) (fun p => rfl) fun p x => ⟨fun _ => ⟨rfl, rfl⟩, rfl⟩
theorem person_sim (l : List UInt8) : Sim (person l) (rText 3 l) := sim_want (b := fun p => lettersS (runL 1 (l.drop p)) 1 16) (by decide) (fun p => rfl) fun p x => ⟨fun _ => ⟨rfl, rfl⟩, rfl⟩
theorem loc_sim (l : List UInt8) : Sim (loc l) (rText 4 l) := sim_want (b := fun p => lettersS (tk l 6 p) 6 6) (by decide) (fun p => rfl) fun p x => ⟨fun _ => ⟨rfl, rfl⟩, rfl⟩
theorem day_sim (l : List UInt8) : Sim (day l) (rDay l) := by
  refine sim_want (b := fun p => (Da.readS (tk l 5 p)).isSome) (v := fun p => Da.optI (Da.readS (tk l 5 p))) (q := fun p => p + (tk l 5 p).length) (k := 44) (by decide) (fun p => ?_) fun p x => ⟨fun _ => ⟨rfl, rfl⟩, rfl⟩
  unfold day
  cases Da.readS (tk l 5 p) <;> rfl
theorem clock_sim (l : List UInt8) : Sim (clock l) (rClock l) := by
  refine sim_want (b := fun p => (Da.readC (tk l 4 p)).isSome) (v := fun p => Da.optI (Da.readC (tk l 4 p))) (q := fun p => p + (tk l 4 p).length) (k := 45) (by decide) (fun p => ?_) fun p x => ⟨fun _ => ⟨rfl, rfl⟩, rfl⟩
  unfold clock
  cases Da.readC (tk l 4 p) <;> rfl
theorem digB_len {m : Int} {t : List UInt8} (h : digB m t = true) : t.length = 1 := by
  unfold digB at h
  simp at h
  exact h.1.1
theorem clsB_len {t : List UInt8} (h : clsB t = true) : t.length = 1 := by
  unfold clsB at h
  simp at h
  exact h.1
theorem digit_sim (m : Int) (l : List UInt8) : Sim (digit m l) (rDigit m l) := by
  refine sim_want (b := fun p => digB m (tk l 1 p)) (v := fun p => (((tk l 1 p).getD 0 0).toNat : Int) - 48) (q := fun p => p + 1) (k := 43) (by decide) (fun p => rfl) fun p x => ⟨fun h => ⟨?_, ?_⟩, rfl⟩
  · show digV m (tk l 1 p) = _
    unfold digV; rw [h]; rfl
  · show p + (tk l 1 p).length = p + 1
    rw [digB_len h]
theorem number_sim (m : Int) (l : List UInt8) : Sim (number m l) (rNumber m l) := by
  refine sim_want (b := fun p => numB m (runL 2 (l.drop p))) (v := fun p => (numV (runL 2 (l.drop p)) : Int)) (q := fun p => p + (runL 2 (l.drop p)).length) (k := 43) (by decide) (fun p => rfl) fun p x => ⟨fun h => ⟨?_, rfl⟩, rfl⟩
  show numZ m (runL 2 (l.drop p)) = _
  unfold numZ; rw [h]; rfl
theorem sign_sim (c : UInt8) (l : List UInt8) : Sim (sign [c] l) (rSign c l) := by
  refine sim_want (b := fun p => isPre [c] (l.drop p)) (v := fun _ => ()) (q := fun p => p + 1) (k := 42) (by decide) (fun p => rfl) fun p x => ?_
  unfold rSign
  cases isPre [c] (l.drop p)
  · exact ⟨fun h => (by cases h), rfl⟩
  · exact ⟨fun _ => ⟨rfl, rfl⟩, rfl⟩
theorem free_sim (l : List UInt8) : (∀ p x, p ≤ l.length → x.1 = 0 → match free l p with | .ok (v, q) => rText 5 l p x = (v, q, x) | .error fl => (rText 5 l p x).2.2 = fl ∧ fl.1 ≠ 0) ∧ ∀ p x, x.1 ≠ 0 → (rText 5 l p x).2.2 = x := by
  constructor
  · intro p x hp hx
    unfold free
    have e : rText 5 l p x = (l.drop p, p + (l.drop p).length, wantP (freeS (l.drop p)) x 46 p) := rfl
    rw [e]
    cases freeS (l.drop p)
    · exact ⟨want_no' hx 46 p, show (46 : Int) ≠ 0 by decide⟩
    · simp only [if_true, want_yes', List.length_drop]
      rw [show p + (l.length - p) = l.length by omega]
  · intro p x hx
    exact want_keep hx _ _ _
theorem cls_sim (l : List UInt8) : Sim (cls l) ((rText 6 l).bind fun t => Rd.pure (clsV t)) := by
  refine sim_want (b := fun p => clsB (tk l 1 p)) (v := fun p => (tk l 1 p).getD 0 0) (q := fun p => p + 1) (k := 46) (by decide) (fun p => rfl) fun p x => ⟨fun h => ⟨?_, ?_⟩, rfl⟩
  · show clsV (tk l 1 p) = _
    unfold clsV; rw [if_pos (clsB_len h)]
  · show p + (tk l 1 p).length = p + 1
    rw [clsB_len h]
theorem seat_sim (l : List UInt8) : Sim (seat l) ((rText 7 l).bind fun t => Rd.pure (seatV t)) := by
  refine sim_want (b := fun p => (Pl.readL (seatTx l p)).isSome) (v := fun p => seatV (seatTx l p)) (q := fun p => p + (seatTx l p).length) (k := 46) (by decide) (fun p => ?_) fun p x => ⟨fun h => ⟨rfl, rfl⟩, rfl⟩
  unfold seat seatV
  cases Pl.readL (seatTx l p) <;> rfl

theorem pt_eq {α β : Type} {f : Nat → Except Flt (α × Nat)} {f' : α → Nat → Except Flt (β × Nat)} {p : Nat} {F : α × Nat → Except Flt (β × Nat)} (h : ∀ v q, F (v, q) = f' v q) : (f p >>= F) = ptBind f f' p := by
  unfold ptBind
  cases f p with
  | error e => rfl
  | ok y => exact h y.1 y.2
theorem rIn_sim (l : List UInt8) : Sim (pIn l) (rIn l) := by
  have e : pIn l = ptBind (agent l) fun t => ptBind (sign [47] l) fun _ => ptBind (city l) fun o => fun p => .ok (({ cmdK 1 with text := t, office := o } : CmdT), p) := by
    funext p
    exact pt_eq fun _ _ => pt_eq fun _ _ => pt_eq fun _ _ => rfl
  rw [e]
  exact sim_bind (agent_sim l) fun t => sim_bind (sign_sim 47 l) fun _ => sim_bind (city_sim l) fun o => sim_pure ({ cmdK 1 with text := t, office := o } : CmdT)
theorem rAvail_sim (l : List UInt8) : Sim (pAvail l) (rAvail l) := by
  have e : pAvail l = ptBind (day l) fun d => ptBind (city l) fun a => ptBind (city l) fun b => fun p => .ok (({ cmdK 3 with day := d, src := a, dst := b } : CmdT), p) := by
    funext p
    exact pt_eq fun _ _ => pt_eq fun _ _ => pt_eq fun _ _ => rfl
  rw [e]
  exact sim_bind (day_sim l) fun d => sim_bind (city_sim l) fun a => sim_bind (city_sim l) fun b => sim_pure ({ cmdK 3 with day := d, src := a, dst := b } : CmdT)
theorem rSell_sim (l : List UInt8) : Sim (pSell l) (rSell l) := by
  have e : pSell l = ptBind (digit 9 l) fun n => ptBind (cls l) fun a => ptBind (number 1 l) fun m => fun p => .ok (({ cmdK 4 with n, cls := a, line := m } : CmdT), p) := by
    funext p
    exact pt_eq fun _ _ => pt_eq fun _ _ => pt_eq fun _ _ => rfl
  rw [e]
  exact sim_bind (digit_sim 9 l) fun n => sim_bind (cls_sim l) fun a => sim_bind (number_sim 1 l) fun m => sim_pure ({ cmdK 4 with n, cls := a, line := m } : CmdT)
theorem rName_sim (l : List UInt8) : Sim (pName l) (rName l) := by
  have e : pName l = ptBind (person l) fun a => ptBind (sign [47] l) fun _ => ptBind (person l) fun b => fun p => .ok (({ cmdK 5 with last := a, first := b } : CmdT), p) := by
    funext p
    exact pt_eq fun _ _ => pt_eq fun _ _ => pt_eq fun _ _ => rfl
  rw [e]
  exact sim_bind (person_sim l) fun a => sim_bind (sign_sim 47 l) fun _ => sim_bind (person_sim l) fun b => sim_pure ({ cmdK 5 with last := a, first := b } : CmdT)
theorem rLimit_sim (l : List UInt8) : Sim (pLimit l) (rLimit l) := by
  have e : pLimit l = ptBind (day l) fun d => ptBind (sign [47] l) fun _ => ptBind (clock l) fun m => fun p => .ok (({ cmdK 7 with day := d, minute := m } : CmdT), p) := by
    funext p
    exact pt_eq fun _ _ => pt_eq fun _ _ => pt_eq fun _ _ => rfl
  rw [e]
  exact sim_bind (day_sim l) fun d => sim_bind (sign_sim 47 l) fun _ => sim_bind (clock_sim l) fun m => sim_pure ({ cmdK 7 with day := d, minute := m } : CmdT)
theorem rUnseat_sim (l : List UInt8) : Sim (pUnseat l) (rUnseat l) := by
  have e : pUnseat l = ptBind (digit 8 l) fun n => ptBind (sign [45] l) fun _ => ptBind (digit 9 l) fun y => fun p => .ok (({ cmdK 13 with n, pax := y } : CmdT), p) := by
    funext p
    exact pt_eq fun _ _ => pt_eq fun _ _ => pt_eq fun _ _ => rfl
  rw [e]
  exact sim_bind (digit_sim 8 l) fun n => sim_bind (sign_sim 45 l) fun _ => sim_bind (digit_sim 9 l) fun y => sim_pure ({ cmdK 13 with n, pax := y } : CmdT)
theorem rCancel_sim (l : List UInt8) : Sim (pCancel l) (rCancel l) := by
  have e : pCancel l = ptBind (digit 8 l) fun n => fun p => .ok (({ cmdK 14 with n } : CmdT), p) := by
    funext p
    exact pt_eq fun _ _ => rfl
  rw [e]
  exact sim_bind (digit_sim 8 l) fun n => sim_pure ({ cmdK 14 with n } : CmdT)
theorem rLoc_sim (l : List UInt8) : Sim (pLoc l) (rLoc l) := by
  have e : pLoc l = ptBind (loc l) fun t => fun p => .ok (({ cmdK 16 with text := t } : CmdT), p) := by
    funext p
    exact pt_eq fun _ _ => rfl
  rw [e]
  exact sim_bind (loc_sim l) fun t => sim_pure ({ cmdK 16 with text := t } : CmdT)
theorem rNum_sim (k : Int) (l : List UInt8) : Sim (pNum k l) (rNum k l) := by
  have e : pNum k l = ptBind (number 0 l) fun n => fun p => .ok (({ cmdK k with n } : CmdT), p) := by
    funext p
    exact pt_eq fun _ _ => rfl
  rw [e]
  exact sim_bind (number_sim 0 l) fun n => sim_pure ({ cmdK k with n } : CmdT)
def seatP (l : List UInt8) (n : Int) (p : Nat) : Except Flt (CmdT × Nat) := do
  let (_, p) ← sign [47] l p
  let (x, p) ← seat l p
  let (_, p) ← sign [45] l p
  let (y, p) ← digit 9 l p
  return ({ cmdK 12 with n, row := x.1, c := x.2, pax := y }, p)
theorem rSeat_sim (l : List UInt8) (n : Int) : Sim (seatP l n) (rSeat l n) := by
  have e : seatP l n = ptBind (sign [47] l) fun _ => ptBind (seat l) fun x => ptBind (sign [45] l) fun _ => ptBind (digit 9 l) fun y => fun p => .ok (({ cmdK 12 with n, row := x.1, c := x.2, pax := y } : CmdT), p) := by
    funext p
    exact pt_eq fun _ _ => pt_eq fun _ _ => pt_eq fun _ _ => pt_eq fun _ _ => rfl
  rw [e]
  exact sim_bind (sign_sim 47 l) fun _ => sim_bind (seat_sim l) fun x => sim_bind (sign_sim 45 l) fun _ => sim_bind (digit_sim 9 l) fun y => sim_pure ({ cmdK 12 with n, row := x.1, c := x.2, pax := y } : CmdT)
theorem rSeats_sim (l : List UInt8) : Sim (seats l) (rSeats l) := by
  have h := sim_bind (digit_sim 8 l) fun n => sim_if (b := fun p => isPre [42] (l.drop p)) (f := fun p => .ok ({ cmdK 11 with n }, p + 1)) (g := fun p x => ({ cmdK 11 with n }, p + 1, x)) ⟨fun p x h => rfl, fun p x h => rfl⟩ (rSeat_sim l n)
  have e : seats l = ptBind (digit 8 l) fun n p => if isPre [42] (l.drop p) then .ok ({ cmdK 11 with n }, p + 1) else seatP l n p := by
    funext p
    unfold seats seatP ptBind
    cases digit 8 l p with
    | error e => rfl
    | ok y =>
      obtain ⟨n, q⟩ := y
      cases hb : isPre [42] (l.drop q) <;> simp only [bind, Except.bind, hb] <;> rfl
  rw [e]
  exact h

/-- What the reference comes to behind the word. -/
def SimAt {α : Type} (o : Except Flt (α × Nat)) (r : ErrS → α × Nat × ErrS) : Prop := ∀ x : ErrS, x.1 = 0 → match o with | .ok (v, q) => r x = (v, q, x) | .error fl => (r x).2.2 = fl ∧ fl.1 ≠ 0
theorem rFree_sim (k : Int) (l : List UInt8) (p : Nat) (hp : p ≤ l.length) : SimAt (pFree k l p) (rFree k l p) := by
  intro x hx
  have h := (free_sim l).1 p x hp hx
  unfold pFree rFree Rd.bind Rd.pure
  cases hf : free l p with
  | ok y => obtain ⟨v, q⟩ := y; rw [hf] at h; simp only at h; rw [h]; rfl
  | error fl => rw [hf] at h; exact h
theorem rParts_sim (k : Int) (l : List UInt8) (p : Nat) (hp : p ≤ l.length) : SimAt (parts l k p) (rParts k l p) := by
  unfold parts rParts
  by_cases h : k = 1
  · rw [if_pos h, if_pos h]; exact fun x hx => (rIn_sim l).1 p x hx
  rw [if_neg h, if_neg h]
  clear h
  by_cases h : k = 3
  · rw [if_pos h, if_pos h]; exact fun x hx => (rAvail_sim l).1 p x hx
  rw [if_neg h, if_neg h]
  clear h
  by_cases h : k = 4
  · rw [if_pos h, if_pos h]; exact fun x hx => (rSell_sim l).1 p x hx
  rw [if_neg h, if_neg h]
  clear h
  by_cases h : k = 5
  · rw [if_pos h, if_pos h]; exact fun x hx => (rName_sim l).1 p x hx
  rw [if_neg h, if_neg h]
  clear h
  by_cases h : k = 6 ∨ k = 9 ∨ k = 10
  · rw [if_pos h, if_pos h]; exact rFree_sim k l p hp
  rw [if_neg h, if_neg h]
  clear h
  by_cases h : k = 7
  · rw [if_pos h, if_pos h]; exact fun x hx => (rLimit_sim l).1 p x hx
  rw [if_neg h, if_neg h]
  clear h
  by_cases h : k = 11
  · rw [if_pos h, if_pos h]; exact fun x hx => (rSeats_sim l).1 p x hx
  rw [if_neg h, if_neg h]
  clear h
  by_cases h : k = 13
  · rw [if_pos h, if_pos h]; exact fun x hx => (rUnseat_sim l).1 p x hx
  rw [if_neg h, if_neg h]
  clear h
  by_cases h : k = 14
  · rw [if_pos h, if_pos h]; exact fun x hx => (rCancel_sim l).1 p x hx
  rw [if_neg h, if_neg h]
  clear h
  by_cases h : k = 16
  · rw [if_pos h, if_pos h]; exact fun x hx => (rLoc_sim l).1 p x hx
  rw [if_neg h, if_neg h]
  clear h
  by_cases h : k = 23 ∨ k = 24
  · rw [if_pos h, if_pos h]; exact fun x hx => (rNum_sim k l).1 p x hx
  rw [if_neg h, if_neg h]
  clear h
  exact fun x hx => (sim_pure (cmdK k)).1 p x hx

/-- The kinds' words, in the kinds' order. -/
def wordsK : List (List UInt8 × Int) :=
  [([83, 73, 42], 1), ([83, 79], 2), ([65], 3), ([48], 4), ([45], 5), ([57], 6), ([55, 84, 65, 87], 7), ([55, 84], 8), ([54], 9), ([53], 10), ([52, 71], 11), ([], 12), ([52, 71, 88], 13), ([88], 14), ([88, 73], 15), ([42], 16), ([], 17), ([69], 18), ([69, 82], 19), ([73], 20), ([73, 82], 21), ([81, 67], 22), ([81, 80, 47], 23), ([81, 47], 24), ([81, 78], 25), ([81, 82], 26), ([81, 88], 27), ([77, 68], 28), ([77, 85], 29)]
def bStep (l : List UInt8) (st : Int × Nat) (x : List UInt8 × Int) : Int × Nat := if decide (st.2 < x.1.length) && isPre x.1 l then (x.2, x.1.length) else st
def bAt (l : List UInt8) (k : Nat) : Int × Nat := (wordsK.take k).foldl (bStep l) (0, 0)
theorem bAt_zero (l : List UInt8) : bAt l 0 = (0, 0) := rfl
theorem bAt_succ (l : List UInt8) {k : Nat} (h : k < 29) : bAt l (k + 1) = bStep l (bAt l k) (wordsK.getD k ([], 0)) := by
  unfold bAt
  have e : wordsK.take (k + 1) = wordsK.take k ++ [wordsK.getD k ([], 0)] := by
    have hk : k < wordsK.length := h
    rw [List.take_succ_eq_append_getElem hk, show wordsK.getD k ([], 0) = wordsK[k] by simp [List.getD, hk]]
  rw [e, List.foldl_append]
  rfl
theorem isPre_nil (l : List UInt8) : isPre [] l = true := by simp [isPre]
theorem isPre_none (a : UInt8) (q : List UInt8) : isPre (a :: q) [] = false := by simp [isPre]
theorem isPre_two (a b : UInt8) (q l : List UInt8) : isPre (a :: q) (b :: l) = (b == a && isPre q l) := by simp [isPre]

theorem bAt_all (l : List UInt8) : bAt l 29 = wordsK.foldl (bStep l) (0, 0) := rfl

theorem beq_no {a b : UInt8} (h : a ≠ b) : (a == b) = false := by simpa using h

/-- Which words it begins with, as a table. -/
def look (v : List (List UInt8 × Bool)) (w : List UInt8) : Bool := ((v.find? fun x => x.1 == w).map (·.2)).getD false
def stepV (v : List (List UInt8 × Bool)) (st : Int × Nat) (x : List UInt8 × Int) : Int × Nat := if decide (st.2 < x.1.length) && look v x.1 then (x.2, x.1.length) else st
theorem fold_same (l : List UInt8) (v : List (List UInt8 × Bool)) : ∀ (ws : List (List UInt8 × Int)) (st : Int × Nat), (∀ x ∈ ws, x.1 = [] ∨ isPre x.1 l = look v x.1) → ws.foldl (bStep l) st = ws.foldl (stepV v) st
  | [], _, _ => rfl
  | x :: ws, st, h => by
    rw [List.foldl_cons, List.foldl_cons]
    have e : bStep l st x = stepV v st x := by
      unfold bStep stepV
      rcases h x (by simp) with h0 | h0
      · rw [h0]; simp
      · rw [h0]
    rw [e]
    exact fold_same l v ws _ fun y hy => h y (by simp [hy])
theorem find_same (l : List UInt8) (v : List (List UInt8 × Bool)) : ∀ (ws : List (List UInt8 × Int)), (∀ x ∈ ws, isPre x.1 l = look v x.1) → ws.find? (fun x => isPre x.1 l) = ws.find? (fun x => look v x.1)
  | [], _ => rfl
  | x :: ws, h => by
    rw [List.find?_cons, List.find?_cons, h x (by simp), find_same l v ws fun y hy => h y (by simp [hy])]
theorem wordsL_in : ∀ x ∈ wordsL, x ∈ wordsK ∧ x.1 ≠ [] := by decide +kernel
theorem bAll_of (l : List UInt8) (v : List (List UInt8 × Bool)) (hl : l ≠ [42, 82]) (h : ∀ x ∈ wordsK, x.1 = [] ∨ isPre x.1 l = look v x.1)
    (hv : wordsK.foldl (stepV v) (0, 0) = (((wordsL.find? fun x => look v x.1).map fun x => (x.2, x.1.length)).getD (0, 0))) : bAt l 29 = ((begin_ l).getD (0, 0)) := by
  rw [bAt_all, fold_same l v wordsK _ h, hv]
  unfold begin_
  rw [if_neg hl, find_same l v wordsL]
  intro x hx
  obtain ⟨h1, h2⟩ := wordsL_in x hx
  exact (h x h1).resolve_left h2
theorem all_nil (P : List UInt8 × Int → Prop) : ∀ x ∈ ([] : List (List UInt8 × Int)), P x := fun x h => by cases h
theorem all_cons {P : List UInt8 × Int → Prop} {a : List UInt8 × Int} {l : List (List UInt8 × Int)} (h : P a) (k : ∀ x ∈ l, P x) : ∀ x ∈ a :: l, P x := fun x hx => by
  cases hx with
  | head => exact h
  | tail _ hx => exact k x hx

set_option maxRecDepth 20000 in
set_option maxHeartbeats 8000000 in
/-- The longest word with which it begins is the first one in the program's order. -/
theorem bAll (l : List UInt8) (hl : l ≠ [42, 82]) : bAt l 29 = ((begin_ l).getD (0, 0)) := by
  match l, hl with
  | [], hl => exact bAll_of _ [] hl (by decide +kernel) (by decide +kernel)
  | a :: t, hl =>
    by_cases h83 : a = 83
    · subst h83
      refine bAll_of _ [([83, 73, 42], isPre [73, 42] t), ([83, 79], isPre [79] t)] hl ?_ ?_
      · repeat (first | exact all_nil _ | refine all_cons (by first | exact .inl rfl | exact .inr rfl) ?_)
      · generalize isPre [73, 42] t = x0
        generalize isPre [79] t = x1
        cases x0 <;> cases x1 <;> decide +kernel
    by_cases h65 : a = 65
    · subst h65
      refine bAll_of _ [([65], true)] hl ?_ ?_
      · repeat (first | exact all_nil _ | refine all_cons (by first | exact .inl rfl | exact .inr rfl) ?_)
      · decide +kernel
    by_cases h48 : a = 48
    · subst h48
      refine bAll_of _ [([48], true)] hl ?_ ?_
      · repeat (first | exact all_nil _ | refine all_cons (by first | exact .inl rfl | exact .inr rfl) ?_)
      · decide +kernel
    by_cases h45 : a = 45
    · subst h45
      refine bAll_of _ [([45], true)] hl ?_ ?_
      · repeat (first | exact all_nil _ | refine all_cons (by first | exact .inl rfl | exact .inr rfl) ?_)
      · decide +kernel
    by_cases h57 : a = 57
    · subst h57
      refine bAll_of _ [([57], true)] hl ?_ ?_
      · repeat (first | exact all_nil _ | refine all_cons (by first | exact .inl rfl | exact .inr rfl) ?_)
      · decide +kernel
    by_cases h55 : a = 55
    · subst h55
      refine bAll_of _ [([55, 84, 65, 87], isPre [84, 65, 87] t), ([55, 84], isPre [84] t)] hl ?_ ?_
      · repeat (first | exact all_nil _ | refine all_cons (by first | exact .inl rfl | exact .inr rfl) ?_)
      · generalize isPre [84, 65, 87] t = x0
        generalize isPre [84] t = x1
        cases x0 <;> cases x1 <;> decide +kernel
    by_cases h54 : a = 54
    · subst h54
      refine bAll_of _ [([54], true)] hl ?_ ?_
      · repeat (first | exact all_nil _ | refine all_cons (by first | exact .inl rfl | exact .inr rfl) ?_)
      · decide +kernel
    by_cases h53 : a = 53
    · subst h53
      refine bAll_of _ [([53], true)] hl ?_ ?_
      · repeat (first | exact all_nil _ | refine all_cons (by first | exact .inl rfl | exact .inr rfl) ?_)
      · decide +kernel
    by_cases h52 : a = 52
    · subst h52
      refine bAll_of _ [([52, 71], isPre [71] t), ([52, 71, 88], isPre [71, 88] t)] hl ?_ ?_
      · repeat (first | exact all_nil _ | refine all_cons (by first | exact .inl rfl | exact .inr rfl) ?_)
      · generalize isPre [71] t = x0
        generalize isPre [71, 88] t = x1
        cases x0 <;> cases x1 <;> decide +kernel
    by_cases h88 : a = 88
    · subst h88
      refine bAll_of _ [([88], true), ([88, 73], isPre [73] t)] hl ?_ ?_
      · repeat (first | exact all_nil _ | refine all_cons (by first | exact .inl rfl | exact .inr rfl) ?_)
      · generalize isPre [73] t = x0
        cases x0 <;> decide +kernel
    by_cases h42 : a = 42
    · subst h42
      refine bAll_of _ [([42], true)] hl ?_ ?_
      · repeat (first | exact all_nil _ | refine all_cons (by first | exact .inl rfl | exact .inr rfl) ?_)
      · decide +kernel
    by_cases h69 : a = 69
    · subst h69
      refine bAll_of _ [([69], true), ([69, 82], isPre [82] t)] hl ?_ ?_
      · repeat (first | exact all_nil _ | refine all_cons (by first | exact .inl rfl | exact .inr rfl) ?_)
      · generalize isPre [82] t = x0
        cases x0 <;> decide +kernel
    by_cases h73 : a = 73
    · subst h73
      refine bAll_of _ [([73], true), ([73, 82], isPre [82] t)] hl ?_ ?_
      · repeat (first | exact all_nil _ | refine all_cons (by first | exact .inl rfl | exact .inr rfl) ?_)
      · generalize isPre [82] t = x0
        cases x0 <;> decide +kernel
    by_cases h77 : a = 77
    · subst h77
      refine bAll_of _ [([77, 68], isPre [68] t), ([77, 85], isPre [85] t)] hl ?_ ?_
      · repeat (first | exact all_nil _ | refine all_cons (by first | exact .inl rfl | exact .inr rfl) ?_)
      · generalize isPre [68] t = x0
        generalize isPre [85] t = x1
        cases x0 <;> cases x1 <;> decide +kernel
    by_cases h81 : a = 81
    · subst h81
      match t, hl with
      | [], hl => exact bAll_of _ [] hl (by decide +kernel) (by decide +kernel)
      | b :: u, hl =>
        by_cases hb : b = 80
        · subst hb
          refine bAll_of _ [([81, 80, 47], isPre [47] u)] hl ?_ ?_
          · repeat (first | exact all_nil _ | refine all_cons (by first | exact .inl rfl | exact .inr rfl) ?_)
          · generalize isPre [47] u = x0
            cases x0 <;> decide +kernel
        by_cases hd : b = 47
        · subst hd
          refine bAll_of _ [([81, 47], true)] hl ?_ (by decide +kernel)
          repeat (first | exact all_nil _ | refine all_cons (by first | exact .inl rfl | exact .inr rfl) ?_)
        · refine bAll_of _ [([81, 67], isPre [67] (b :: u)), ([81, 78], isPre [78] (b :: u)), ([81, 82], isPre [82] (b :: u)), ([81, 88], isPre [88] (b :: u))] hl ?_ ?_
          · repeat (first | exact all_nil _ | refine all_cons (by first | exact .inl rfl | exact .inr rfl | exact .inr (by rw [isPre_two, isPre_two, beq_no hb]; rfl) | exact .inr (by rw [isPre_two, isPre_two, beq_no hd]; rfl)) ?_)
          · generalize isPre [67] (b :: u) = x0
            generalize isPre [78] (b :: u) = x1
            generalize isPre [82] (b :: u) = x2
            generalize isPre [88] (b :: u) = x3
            cases x0 <;> cases x1 <;> cases x2 <;> cases x3 <;> decide +kernel
    refine bAll_of _ [] hl ?_ (by decide +kernel)
    repeat (first | exact all_nil _ | refine all_cons (by first | exact .inl rfl | exact .inr (by rw [isPre_two, beq_no h83]; rfl) | exact .inr (by rw [isPre_two, beq_no h65]; rfl) | exact .inr (by rw [isPre_two, beq_no h48]; rfl) | exact .inr (by rw [isPre_two, beq_no h45]; rfl) | exact .inr (by rw [isPre_two, beq_no h57]; rfl) | exact .inr (by rw [isPre_two, beq_no h55]; rfl) | exact .inr (by rw [isPre_two, beq_no h54]; rfl) | exact .inr (by rw [isPre_two, beq_no h53]; rfl) | exact .inr (by rw [isPre_two, beq_no h52]; rfl) | exact .inr (by rw [isPre_two, beq_no h88]; rfl) | exact .inr (by rw [isPre_two, beq_no h42]; rfl) | exact .inr (by rw [isPre_two, beq_no h69]; rfl) | exact .inr (by rw [isPre_two, beq_no h73]; rfl) | exact .inr (by rw [isPre_two, beq_no h77]; rfl) | exact .inr (by rw [isPre_two, beq_no h81]; rfl)) ?_)

def rBeg (l : List UInt8) : Int × Nat := if l = [42, 82] then (17, 2) else bAt l 29
theorem rBeg_eq (l : List UInt8) : rBeg l = (begin_ l).getD (0, 0) := by
  unfold rBeg
  split
  · next h => subst h; rfl
  · next h => exact bAll l h
/-- The fault behind the word, and behind the parts. -/
def err0 (k : Int) : ErrS := if k = 0 then (41, 0) else (0, 0)
def errE (l : List UInt8) (q : Nat) (x : ErrS) : ErrS := if q < l.length then wrongP x 47 q else x
theorem rParts_zero (l : List UInt8) : rParts 0 l = Rd.pure (cmdK 0) := rfl

theorem ref_end {l : List UInt8} {k : Int} {p : Nat} {c : CmdT} {q : Nat} {x : ErrS} (hl : l.length ≤ 255) (hb : rBeg l = (k, p)) (h : rParts k l p (err0 k) = (c, q, x)) :
    ((errE l q x).1 = 0 → parse l = .ok c) ∧ ((errE l q x).1 ≠ 0 → parse l = .error (errE l q x)) := by
  rw [rBeg_eq] at hb
  unfold parse
  rw [if_neg (by omega)]
  cases hx : begin_ l with
  | none =>
    rw [hx] at hb
    injection hb with e1 e2
    subst e1 e2
    rw [rParts_zero] at h
    injection h with h1 h2
    injection h2 with h2 h3
    subst h1 h2 h3
    have e : errE l 0 (err0 0) = (41, 0) := by
      unfold errE
      split
      · exact wrong_keep (by decide) 47 0
      · rfl
    rw [e]
    exact ⟨fun h => absurd h (by decide), fun _ => rfl⟩
  | some y =>
    obtain ⟨k', p'⟩ := y
    rw [hx] at hb
    injection hb with e1 e2
    subst e1 e2
    have hk : k' ≠ 0 ∧ p' ≤ l.length := by
      rcases begin_word hx with ⟨e, e1, e2⟩ | ⟨_, w, h1, h2, h3⟩
      · subst e e1 e2; exact ⟨by decide, by decide⟩
      · have := (word_at h1).2.1
        have h4 := isPre_len h2
        exact ⟨by omega, by omega⟩
    have h0 : err0 k' = (0, 0) := by unfold err0; rw [if_neg hk.1]
    rw [h0] at h
    have hs := rParts_sim k' l p' hk.2 (0, 0) rfl
    rw [h] at hs
    simp only
    cases hp : parts l k' p' with
    | ok z =>
      obtain ⟨c', q'⟩ := z
      rw [hp] at hs
      simp only at hs
      injection hs with h1 h2
      injection h2 with h2 h3
      subst h1 h2 h3
      unfold errE
      by_cases hq : q < l.length
      · simp only [if_pos hq]
        have e : wrongP (0, 0) 47 q = (47, q) := by unfold wrongP; rw [if_pos rfl]
        rw [e]
        exact ⟨fun h => absurd h (show (47 : Int) ≠ 0 by decide), fun _ => by simp only [hq, if_true]⟩
      · simp only [if_neg hq]
        exact ⟨fun _ => by simp only [hq, if_false], fun h => absurd rfl h⟩
    | error fl =>
      rw [hp] at hs
      obtain ⟨h1, h2⟩ := hs
      simp only at h1
      subst h1
      have e : errE l q x = x := by
        unfold errE
        split
        · exact wrong_keep h2 47 q
        · rfl
      rw [e]
      exact ⟨fun h => absurd h h2, fun _ => rfl⟩
end Go.Proofs.YtjahkaidinahpaaDoor.En
