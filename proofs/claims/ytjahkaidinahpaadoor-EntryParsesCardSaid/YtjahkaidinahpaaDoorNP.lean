/- Entries: the plain laws of the grammar: what was taken apart is put together into the same entry; faults and their places; an entry with more behind it. -/
import Derived.Test.YtjahkaidinahpaaDoorND
namespace Go.Proofs.YtjahkaidinahpaaDoor.En
open Go.RowKit
set_option linter.unusedSimpArgs false
set_option linter.unusedVariables false

def itoaL (n : Int) : List UInt8 := if n < 0 then 45 :: digL n.natAbs else digL n.toNat
def dTx (d : Int) : List UInt8 := if 0 ≤ d ∧ d < 366 then Da.dtxt d.toNat else []
def cTx (m : Int) : List UInt8 := if 0 ≤ m ∧ m < 1440 then Da.ctxt m.toNat else []
def sTx (r : Int) (c : UInt8) : List UInt8 := (seatT r c).data.toList
def wordOf (k : Int) : List UInt8 := ((wordsL.find? fun x => x.2 == k).map (·.1)).getD []

/-- What an entry of a command would be. -/
def textP (c : CmdT) : List UInt8 :=
  if c.kind = 1 then wordOf 1 ++ (c.text ++ ([47] ++ c.office))
  else if c.kind = 3 then wordOf 3 ++ (dTx c.day ++ (c.src ++ c.dst))
  else if c.kind = 4 then wordOf 4 ++ (itoaL c.n ++ ([c.cls] ++ itoaL c.line))
  else if c.kind = 5 then wordOf 5 ++ (c.last ++ ([47] ++ c.first))
  else if c.kind = 7 then wordOf 7 ++ (dTx c.day ++ ([47] ++ cTx c.minute))
  else if c.kind = 11 then wordOf 11 ++ (itoaL c.n ++ [42])
  else if c.kind = 12 then [52, 71] ++ (itoaL c.n ++ ([47] ++ (sTx c.row c.c ++ ([45] ++ itoaL c.pax))))
  else if c.kind = 13 then wordOf 13 ++ (itoaL c.n ++ ([45] ++ itoaL c.pax))
  else if c.kind = 14 ∨ c.kind = 23 ∨ c.kind = 24 then wordOf c.kind ++ itoaL c.n
  else if c.kind = 17 then [42, 82]
  else wordOf c.kind ++ c.text

/-- A part that went well: the place behind it, and that it is a text of what it gave. -/
def Took (l : List UInt8) (p q : Nat) (x : List UInt8) : Prop := p ≤ q ∧ q ≤ l.length ∧ l.drop p = x ++ l.drop q

theorem took_tk {l : List UInt8} {p n : Nat} (hp : p ≤ l.length) : Took l p (p + (tk l n p).length) (tk l n p) := by
  have h : (tk l n p).length = min n (l.length - p) := by simp [tk]
  refine ⟨by omega, by omega, ?_⟩
  rw [h, ← List.drop_drop]
  unfold tk
  conv => lhs; rw [← List.take_append_drop n (l.drop p)]
  congr 1
  by_cases hn : n ≤ l.length - p
  · rw [Nat.min_eq_left hn]
  · rw [Nat.min_eq_right (by omega), List.drop_eq_nil_of_le (by simp; omega), List.drop_eq_nil_of_le (by simp)]

theorem drop_tw (f : UInt8 → Bool) : ∀ t : List UInt8, t.drop (t.takeWhile f).length = t.dropWhile f
  | [] => rfl
  | a :: t => by
    cases h : f a
    · simp [List.takeWhile_cons, List.dropWhile_cons, h]
    · simp [List.takeWhile_cons, List.dropWhile_cons, h, drop_tw f t]

theorem took_run {l : List UInt8} {p : Nat} (k : Int) (hp : p ≤ l.length) : Took l p (p + (runL k (l.drop p)).length) (runL k (l.drop p)) := by
  have h := runL_le k (l.drop p)
  rw [List.length_drop] at h
  refine ⟨by omega, by omega, ?_⟩
  rw [← List.drop_drop]
  unfold runL
  rw [drop_tw, List.takeWhile_append_dropWhile]

theorem digL_one {c : UInt8} (h1 : 48 ≤ c.toNat) (h2 : c.toNat ≤ 57) : digL (c.toNat - 48) = [c] := by
  rw [digL_lt (by omega)]
  unfold dch
  congr 1
  have : 48 + (c.toNat - 48) % 10 = c.toNat := by omega
  rw [this, UInt8.ofNat_toNat]

theorem len_one {t : List UInt8} (h : t.length = 1) : t = [t.getD 0 0] := by
  match t, h with
  | [a], _ => rfl

theorem city_ok {l : List UInt8} {p q : Nat} {t : List UInt8} (h : city l p = .ok (t, q)) (hp : p ≤ l.length) : Took l p q t := by
  unfold city at h
  split at h
  · injection h with h; injection h with h1 h2; subst h1 h2; exact took_tk hp
  · cases h
theorem loc_ok {l : List UInt8} {p q : Nat} {t : List UInt8} (h : loc l p = .ok (t, q)) (hp : p ≤ l.length) : Took l p q t ∧ q = p + 6 := by
  unfold loc at h
  split at h
  · next hb =>
    injection h with h; injection h with h1 h2; subst h1 h2
    refine ⟨took_tk hp, ?_⟩
    unfold lettersS at hb
    rw [Bool.and_eq_true, decide_eq_true_eq] at hb
    omega
  · cases h
theorem person_ok {l : List UInt8} {p q : Nat} {t : List UInt8} (h : person l p = .ok (t, q)) (hp : p ≤ l.length) : Took l p q t := by
  unfold person at h
  split at h
  · injection h with h; injection h with h1 h2; subst h1 h2; exact took_run 1 hp
  · cases h
theorem agent_ok {l : List UInt8} {p q : Nat} {t : List UInt8} (h : agent l p = .ok (t, q)) (hp : p ≤ l.length) : Took l p q t := by
  unfold agent at h
  split at h
  · injection h with h; injection h with h1 h2; subst h1 h2; exact took_run 3 hp
  · cases h
theorem free_ok {l : List UInt8} {p q : Nat} {t : List UInt8} (h : free l p = .ok (t, q)) (hp : p ≤ l.length) : Took l p q t ∧ q = l.length := by
  unfold free at h
  split at h
  · injection h with h; injection h with h1 h2; subst h1 h2; exact ⟨⟨hp, Nat.le_refl _, by simp⟩, rfl⟩
  · cases h
theorem isPre_drop {q l : List UInt8} (h : isPre q l = true) : l = q ++ l.drop q.length := by
  unfold isPre at h
  rw [beq_iff_eq] at h
  conv => lhs; rw [← List.take_append_drop q.length l, h]
theorem took_pre {q l : List UInt8} {p : Nat} (h : isPre q (l.drop p) = true) (hp : p ≤ l.length) : Took l p (p + q.length) q := by
  have h1 := isPre_len h
  rw [List.length_drop] at h1
  have h2 := isPre_drop h
  rw [List.drop_drop] at h2
  exact ⟨by omega, by omega, h2⟩
theorem sign_ok {l g : List UInt8} {p q : Nat} {u : Unit} (h : sign g l p = .ok (u, q)) (hp : p ≤ l.length) : Took l p q g := by
  unfold sign at h
  split at h
  · next hb => injection h with h; injection h with h1 h2; subst h2; exact took_pre hb hp
  · cases h
theorem digit_ok {m : Int} {l : List UInt8} {p q : Nat} {n : Int} (h : digit m l p = .ok (n, q)) (hp : p ≤ l.length) (hm : m ≤ 9) : Took l p q (itoaL n) ∧ 1 ≤ n ∧ n ≤ m := by
  unfold digit at h
  split at h
  · next hb =>
    injection h with h; injection h with h1 h2
    subst h1 h2
    unfold digB at hb
    rw [Bool.and_eq_true, Bool.and_eq_true, decide_eq_true_eq, decide_eq_true_eq, decide_eq_true_eq] at hb
    obtain ⟨⟨b1, b2⟩, b3⟩ := hb
    have ht := took_tk (l := l) (p := p) (n := 1) hp
    rw [b1] at ht
    have h1 := len_one b1
    generalize (tk l 1 p).getD 0 0 = c at *
    rw [h1] at ht
    refine ⟨?_, by omega, by omega⟩
    unfold itoaL
    rw [if_neg (by omega), show ((c.toNat : Int) - 48).toNat = c.toNat - 48 by omega, digL_one (by omega) (by omega)]
    exact ht
  · cases h
theorem cls_ok {l : List UInt8} {p q : Nat} {c : UInt8} (h : cls l p = .ok (c, q)) (hp : p ≤ l.length) : Took l p q [c] := by
  unfold cls at h
  split at h
  · next hb =>
    injection h with h; injection h with h1 h2
    subst h1 h2
    unfold clsB at hb
    rw [Bool.and_eq_true, decide_eq_true_eq] at hb
    have ht := took_tk (l := l) (p := p) (n := 1) hp
    rw [hb.1] at ht
    rw [← len_one hb.1]
    exact ht
  · cases h
theorem day_ok {l : List UInt8} {p q : Nat} {n : Int} (h : day l p = .ok (n, q)) (hp : p ≤ l.length) : Took l p q (dTx n) ∧ 0 ≤ n ∧ n < 366 := by
  unfold day at h
  split at h
  · next d hd =>
    injection h with h; injection h with h1 h2
    subst h1 h2
    obtain ⟨h1, h2⟩ := Da.read_only hd
    refine ⟨?_, by omega, by omega⟩
    unfold dTx
    rw [if_pos ⟨by omega, by omega⟩, Int.toNat_natCast, h2]
    exact took_tk hp
  · cases h
theorem clock_ok {l : List UInt8} {p q : Nat} {n : Int} (h : clock l p = .ok (n, q)) (hp : p ≤ l.length) : Took l p q (cTx n) ∧ 0 ≤ n ∧ n < 1440 := by
  unfold clock at h
  split at h
  · next d hd =>
    injection h with h; injection h with h1 h2
    subst h1 h2
    obtain ⟨h1, h2⟩ := Da.readC_only hd
    refine ⟨?_, by omega, by omega⟩
    unfold cTx
    rw [if_pos ⟨by omega, by omega⟩, Int.toNat_natCast, h2]
    exact took_tk hp
  · cases h

theorem num_back2 {t : List UInt8} (hk : ∀ c ∈ t, kOk 2 c = true) (h : numOk t 99 = true) : digL (numV t) = t ∧ numV t ≤ 99 := by
  have hd : ∀ c ∈ t, 48 ≤ c.toNat ∧ c.toNat ≤ 57 := fun c hc => by
    have := hk c hc
    unfold kOk bD isD at this
    simp at this
    omega
  unfold numOk at h
  rw [Bool.and_eq_true, Bool.and_eq_true, decide_eq_true_eq, decide_eq_true_eq, Bool.not_eq_true'] at h
  obtain ⟨⟨h1, h2⟩, h3⟩ := h
  match t, h1 with
  | [a], _ =>
    have ha := hd a (by simp)
    have e : numV [a] = a.toNat - 48 := by simp [numV]
    rw [e]
    exact ⟨digL_one ha.1 ha.2, by omega⟩
  | [a, b], _ =>
    have ha := hd a (by simp)
    have hb := hd b (by simp)
    have e : numV [a, b] = (a.toNat - 48) * 10 + (b.toNat - 48) := by simp [numV]
    have h0 : a.toNat ≠ 48 := by
      intro e0
      rw [decide_eq_true (show 1 < [a, b].length by simp)] at h2
      simp [e0] at h2
    rw [e]
    refine ⟨?_, by omega⟩
    rw [digL_ge (by omega), show ((a.toNat - 48) * 10 + (b.toNat - 48)) / 10 = a.toNat - 48 by omega, digL_one ha.1 ha.2]
    unfold dch
    rw [show 48 + ((a.toNat - 48) * 10 + (b.toNat - 48)) % 10 = b.toNat by omega, UInt8.ofNat_toNat]
    rfl
  | a :: b :: c :: r, hl =>
    exfalso
    have h0 : a.toNat ≠ 48 := by
      intro e0
      rw [decide_eq_true (show 1 < (a :: b :: c :: r).length by simp)] at h2
      simp [e0] at h2
    have ha := hd a (by simp)
    have hv : ∀ (r : List UInt8) (n : Nat), n ≤ r.foldl (fun n c => n * 10 + (c.toNat - 48)) n := by
      intro r
      induction r with
      | nil => intro n; exact Nat.le_refl _
      | cons x r ih => intro n; exact Nat.le_trans (show n ≤ n * 10 + (x.toNat - 48) by omega) (ih _)
    have : 100 ≤ numV (a :: b :: c :: r) := by
      unfold numV
      simp only [List.foldl_cons]
      have h9 := hv r (((0 * 10 + (a.toNat - 48)) * 10 + (b.toNat - 48)) * 10 + (c.toNat - 48))
      omega
    omega

theorem number_ok {m : Int} {l : List UInt8} {p q : Nat} {n : Int} (h : number m l p = .ok (n, q)) (hp : p ≤ l.length) : Took l p q (itoaL n) ∧ m ≤ n ∧ 0 ≤ n ∧ n ≤ 99 := by
  unfold number at h
  split at h
  · next hb =>
    injection h with h; injection h with h1 h2
    subst h1 h2
    unfold numB at hb
    rw [Bool.and_eq_true, decide_eq_true_eq] at hb
    obtain ⟨b1, b2⟩ := num_back2 (t := runL 2 (l.drop p)) (fun c hc => List.all_eq_true.1 (List.all_takeWhile (p := kOk 2) (l := l.drop p)) c hc) hb.1
    refine ⟨?_, hb.2, by omega, by omega⟩
    unfold itoaL
    rw [if_neg (by omega), Int.toNat_natCast, b1]
    exact took_run 2 hp
  · cases h
theorem seatTx_took {l : List UInt8} {p : Nat} (hp : p ≤ l.length) : Took l p (p + (seatTx l p).length) (seatTx l p) := by
  obtain ⟨a1, a2, a3⟩ := took_run (l := l) (p := p) 2 hp
  obtain ⟨b1, b2, b3⟩ := took_tk (l := l) (p := p + (runL 2 (l.drop p)).length) (n := 1) a2
  unfold seatTx
  rw [List.length_append, ← Nat.add_assoc]
  refine ⟨by omega, b2, ?_⟩
  rw [List.append_assoc, ← b3, ← a3]
theorem seat_ok {l : List UInt8} {p q : Nat} {x : Int × UInt8} (h : seat l p = .ok (x, q)) (hp : p ≤ l.length) : Took l p q (sTx x.1 x.2) := by
  unfold seat at h
  split at h
  · next y hy =>
    injection h with h; injection h with h1 h2
    subst h1 h2
    obtain ⟨r, c⟩ := y
    obtain ⟨n, rfl, _, _, _, _, hb, _⟩ := Pl.seatT_read hy
    unfold sTx
    show Took l p _ (seatT (n : Int) c).data.toList
    rw [hb]
    exact seatTx_took hp
  · cases h

theorem bind_ok {α β : Type} {x : Except Flt α} {f : α → Except Flt β} {b : β} (h : (x >>= f) = .ok b) : ∃ a, x = .ok a ∧ f a = .ok b := by
  cases x with
  | error e => cases h
  | ok a => exact ⟨a, rfl, h⟩
theorem Took.trans {l x y : List UInt8} {p q r : Nat} (h : Took l p q x) (k : Took l q r y) : Took l p r (x ++ y) :=
  ⟨Nat.le_trans h.1 k.1, k.2.1, by rw [h.2.2, k.2.2, List.append_assoc]⟩
theorem took_nil {l : List UInt8} {p : Nat} (hp : p ≤ l.length) : Took l p p [] := ⟨Nat.le_refl _, hp, rfl⟩

/-- The reference's text of a command. -/
def dgR (n : Int) : List UInt8 := if 0 ≤ n ∧ n ≤ 99 then digL n.toNat else []
def d1R (m n : Int) : List UInt8 := if 1 ≤ n ∧ n ≤ m then digL n.toNat else []
def textR (c : CmdT) : List UInt8 :=
  if c.kind = 1 then (wordOf 1 ++ c.text) ++ [47] ++ c.office
  else if c.kind = 3 then (wordOf 3 ++ c.text) ++ dTx c.day ++ c.src ++ c.dst
  else if c.kind = 4 then (wordOf 4 ++ c.text) ++ dgR c.n ++ [c.cls] ++ d1R 99 c.line
  else if c.kind = 5 then (wordOf 5 ++ c.text) ++ c.last ++ [47] ++ c.first
  else if c.kind = 7 then (wordOf 7 ++ c.text) ++ dTx c.day ++ [47] ++ cTx c.minute
  else if c.kind = 11 then (wordOf 11 ++ c.text) ++ dgR c.n ++ [42]
  else if c.kind = 12 then [52, 71] ++ dgR c.n ++ [47] ++ sTx c.row c.c ++ [45] ++ d1R 9 c.pax
  else if c.kind = 13 then (wordOf 13 ++ c.text) ++ dgR c.n ++ [45] ++ d1R 9 c.pax
  else if c.kind = 14 ∨ c.kind = 23 ∨ c.kind = 24 then (wordOf c.kind ++ c.text) ++ dgR c.n
  else if c.kind = 17 then [42, 82]
  else wordOf c.kind ++ c.text

theorem dgR_eq {n : Int} (h0 : 0 ≤ n) (h1 : n ≤ 99) : dgR n = itoaL n := by
  unfold dgR itoaL
  rw [if_pos ⟨h0, h1⟩, if_neg (by omega)]
theorem d1R_eq {m n : Int} (h0 : 1 ≤ n) (h1 : n ≤ m) : d1R m n = itoaL n := by
  unfold d1R itoaL
  rw [if_pos ⟨h0, h1⟩, if_neg (by omega)]

/-- What is known of parts that went well. -/
def Fine (l : List UInt8) (k : Int) (p q : Nat) (c : CmdT) : Prop := ∃ x, Took l p q x ∧ (1 ≤ c.kind ∧ c.kind ≤ 29) ∧ ∀ w, (w, k) ∈ wordsL → textP c = w ++ x ∧ textR c = w ++ x

theorem word_at {w : List UInt8} {k : Int} (h : (w, k) ∈ wordsL) : wordOf k = w ∧ 1 ≤ k ∧ k ≤ 29 ∧ k ≠ 12 ∧ k ≠ 17 := by
  have : ∀ x ∈ wordsL, wordOf x.2 = x.1 ∧ 1 ≤ x.2 ∧ x.2 ≤ 29 ∧ x.2 ≠ 12 ∧ x.2 ≠ 17 := by decide +kernel
  exact this _ h

theorem pIn_fine {l : List UInt8} {p q : Nat} {c : CmdT} (h : pIn l p = .ok (c, q)) (hp : p ≤ l.length) : Fine l 1 p q c := by
  unfold pIn at h
  obtain ⟨⟨t, p1⟩, h1, h⟩ := bind_ok h
  have t1 := agent_ok h1 hp
  dsimp only at h
  obtain ⟨⟨_, p2⟩, h2, h⟩ := bind_ok h
  have t2 := sign_ok h2 t1.2.1
  dsimp only at h
  obtain ⟨⟨o, p3⟩, h3, h⟩ := bind_ok h
  have t3 := city_ok h3 t2.2.1
  dsimp only at h
  injection h with h; injection h with e1 e2
  subst e1 e2
  refine ⟨_, t1.trans (t2.trans (t3)), ⟨by simp [cmdK, cmd0], by simp [cmdK, cmd0]⟩, fun w hw => ?_⟩
  have := (word_at hw).1
  subst this
  unfold textP textR
  simp [cmdK, cmd0]

theorem pAvail_fine {l : List UInt8} {p q : Nat} {c : CmdT} (h : pAvail l p = .ok (c, q)) (hp : p ≤ l.length) : Fine l 3 p q c := by
  unfold pAvail at h
  obtain ⟨⟨d, p1⟩, h1, h⟩ := bind_ok h
  have t1 := (day_ok h1 hp).1
  dsimp only at h
  obtain ⟨⟨a, p2⟩, h2, h⟩ := bind_ok h
  have t2 := city_ok h2 t1.2.1
  dsimp only at h
  obtain ⟨⟨b, p3⟩, h3, h⟩ := bind_ok h
  have t3 := city_ok h3 t2.2.1
  dsimp only at h
  injection h with h; injection h with e1 e2
  subst e1 e2
  refine ⟨_, t1.trans (t2.trans (t3)), ⟨by simp [cmdK, cmd0], by simp [cmdK, cmd0]⟩, fun w hw => ?_⟩
  have := (word_at hw).1
  subst this
  unfold textP textR
  simp [cmdK, cmd0]

theorem pSell_fine {l : List UInt8} {p q : Nat} {c : CmdT} (h : pSell l p = .ok (c, q)) (hp : p ≤ l.length) : Fine l 4 p q c := by
  unfold pSell at h
  obtain ⟨⟨n, p1⟩, h1, h⟩ := bind_ok h
  obtain ⟨t1, y1, z1⟩ := digit_ok h1 hp (by decide)
  dsimp only at h
  obtain ⟨⟨a, p2⟩, h2, h⟩ := bind_ok h
  have t2 := cls_ok h2 t1.2.1
  dsimp only at h
  obtain ⟨⟨m, p3⟩, h3, h⟩ := bind_ok h
  obtain ⟨t3, x3, y3, z3⟩ := number_ok h3 t2.2.1
  dsimp only at h
  injection h with h; injection h with e1 e2
  subst e1 e2
  refine ⟨_, t1.trans (t2.trans (t3)), ⟨by simp [cmdK, cmd0], by simp [cmdK, cmd0]⟩, fun w hw => ?_⟩
  have := (word_at hw).1
  subst this
  unfold textP textR
  simp only [cmdK, cmd0]
  rw [dgR_eq (by omega) (by omega), d1R_eq x3 z3]
  simp

theorem pName_fine {l : List UInt8} {p q : Nat} {c : CmdT} (h : pName l p = .ok (c, q)) (hp : p ≤ l.length) : Fine l 5 p q c := by
  unfold pName at h
  obtain ⟨⟨a, p1⟩, h1, h⟩ := bind_ok h
  have t1 := person_ok h1 hp
  dsimp only at h
  obtain ⟨⟨_, p2⟩, h2, h⟩ := bind_ok h
  have t2 := sign_ok h2 t1.2.1
  dsimp only at h
  obtain ⟨⟨b, p3⟩, h3, h⟩ := bind_ok h
  have t3 := person_ok h3 t2.2.1
  dsimp only at h
  injection h with h; injection h with e1 e2
  subst e1 e2
  refine ⟨_, t1.trans (t2.trans (t3)), ⟨by simp [cmdK, cmd0], by simp [cmdK, cmd0]⟩, fun w hw => ?_⟩
  have := (word_at hw).1
  subst this
  unfold textP textR
  simp [cmdK, cmd0]

theorem pFree_fine {l : List UInt8} {k : Int} {p q : Nat} {c : CmdT} (h : pFree k l p = .ok (c, q)) (hp : p ≤ l.length) (hk : k = 6 ∨ k = 9 ∨ k = 10) : Fine l k p q c := by
  unfold pFree at h
  obtain ⟨⟨t, p1⟩, h1, h⟩ := bind_ok h
  have t1 := (free_ok h1 hp).1
  dsimp only at h
  injection h with h; injection h with e1 e2
  subst e1 e2
  refine ⟨_, t1, (by show 1 ≤ k ∧ k ≤ 29; omega), fun w hw => ?_⟩
  have := (word_at hw).1
  subst this
  rcases hk with rfl | rfl | rfl <;> (unfold textP textR; simp [cmdK, cmd0])

theorem pLimit_fine {l : List UInt8} {p q : Nat} {c : CmdT} (h : pLimit l p = .ok (c, q)) (hp : p ≤ l.length) : Fine l 7 p q c := by
  unfold pLimit at h
  obtain ⟨⟨d, p1⟩, h1, h⟩ := bind_ok h
  have t1 := (day_ok h1 hp).1
  dsimp only at h
  obtain ⟨⟨_, p2⟩, h2, h⟩ := bind_ok h
  have t2 := sign_ok h2 t1.2.1
  dsimp only at h
  obtain ⟨⟨m, p3⟩, h3, h⟩ := bind_ok h
  have t3 := (clock_ok h3 t2.2.1).1
  dsimp only at h
  injection h with h; injection h with e1 e2
  subst e1 e2
  refine ⟨_, t1.trans (t2.trans (t3)), ⟨by simp [cmdK, cmd0], by simp [cmdK, cmd0]⟩, fun w hw => ?_⟩
  have := (word_at hw).1
  subst this
  unfold textP textR
  simp [cmdK, cmd0]

theorem pUnseat_fine {l : List UInt8} {p q : Nat} {c : CmdT} (h : pUnseat l p = .ok (c, q)) (hp : p ≤ l.length) : Fine l 13 p q c := by
  unfold pUnseat at h
  obtain ⟨⟨n, p1⟩, h1, h⟩ := bind_ok h
  obtain ⟨t1, y1, z1⟩ := digit_ok h1 hp (by decide)
  dsimp only at h
  obtain ⟨⟨_, p2⟩, h2, h⟩ := bind_ok h
  have t2 := sign_ok h2 t1.2.1
  dsimp only at h
  obtain ⟨⟨y, p3⟩, h3, h⟩ := bind_ok h
  obtain ⟨t3, y3, z3⟩ := digit_ok h3 t2.2.1 (by decide)
  dsimp only at h
  injection h with h; injection h with e1 e2
  subst e1 e2
  refine ⟨_, t1.trans (t2.trans (t3)), ⟨by simp [cmdK, cmd0], by simp [cmdK, cmd0]⟩, fun w hw => ?_⟩
  have := (word_at hw).1
  subst this
  unfold textP textR
  simp only [cmdK, cmd0]
  rw [dgR_eq (by omega) (by omega), d1R_eq y3 z3]
  simp

theorem pCancel_fine {l : List UInt8} {p q : Nat} {c : CmdT} (h : pCancel l p = .ok (c, q)) (hp : p ≤ l.length) : Fine l 14 p q c := by
  unfold pCancel at h
  obtain ⟨⟨n, p1⟩, h1, h⟩ := bind_ok h
  obtain ⟨t1, y1, z1⟩ := digit_ok h1 hp (by decide)
  dsimp only at h
  injection h with h; injection h with e1 e2
  subst e1 e2
  refine ⟨_, t1, ⟨by simp [cmdK, cmd0], by simp [cmdK, cmd0]⟩, fun w hw => ?_⟩
  have := (word_at hw).1
  subst this
  unfold textP textR
  simp only [cmdK, cmd0]
  rw [dgR_eq (by omega) (by omega)]
  simp

theorem pLoc_fine {l : List UInt8} {p q : Nat} {c : CmdT} (h : pLoc l p = .ok (c, q)) (hp : p ≤ l.length) : Fine l 16 p q c := by
  unfold pLoc at h
  obtain ⟨⟨t, p1⟩, h1, h⟩ := bind_ok h
  have t1 := (loc_ok h1 hp).1
  dsimp only at h
  injection h with h; injection h with e1 e2
  subst e1 e2
  refine ⟨_, t1, ⟨by simp [cmdK, cmd0], by simp [cmdK, cmd0]⟩, fun w hw => ?_⟩
  have := (word_at hw).1
  subst this
  unfold textP textR
  simp [cmdK, cmd0]

theorem pNum_fine {l : List UInt8} {k : Int} {p q : Nat} {c : CmdT} (h : pNum k l p = .ok (c, q)) (hp : p ≤ l.length) (hk : k = 23 ∨ k = 24) : Fine l k p q c := by
  unfold pNum at h
  obtain ⟨⟨n, p1⟩, h1, h⟩ := bind_ok h
  obtain ⟨t1, x1, y1, z1⟩ := number_ok h1 hp
  dsimp only at h
  injection h with h; injection h with e1 e2
  subst e1 e2
  refine ⟨_, t1, (by show 1 ≤ k ∧ k ≤ 29; omega), fun w hw => ?_⟩
  have := (word_at hw).1
  subst this
  rcases hk with rfl | rfl <;> (unfold textP textR; simp only [cmdK, cmd0]; rw [dgR_eq (by omega) (by omega)]; simp)

theorem seats_fine {l : List UInt8} {p q : Nat} {c : CmdT} (h : seats l p = .ok (c, q)) (hp : p ≤ l.length) : Fine l 11 p q c := by
  unfold seats at h
  obtain ⟨⟨n, p1⟩, h1, h⟩ := bind_ok h
  obtain ⟨t1, n1, n2⟩ := digit_ok h1 hp (by decide)
  dsimp only at h
  split at h
  · next hs =>
    injection h with h; injection h with e1 e2
    subst e1 e2
    refine ⟨_, t1.trans (took_pre hs t1.2.1), ⟨by simp [cmdK, cmd0], by simp [cmdK, cmd0]⟩, fun w hw => ?_⟩
    have := (word_at hw).1
    subst this
    unfold textP textR
    simp only [cmdK, cmd0]
    rw [dgR_eq (by omega) (by omega)]
    simp
  · obtain ⟨⟨_, p2⟩, h2, h⟩ := bind_ok h
    have t2 := sign_ok h2 t1.2.1
    dsimp only at h
    obtain ⟨⟨x, p3⟩, h3, h⟩ := bind_ok h
    have t3 := seat_ok h3 t2.2.1
    dsimp only at h
    obtain ⟨⟨_, p4⟩, h4, h⟩ := bind_ok h
    have t4 := sign_ok h4 t3.2.1
    dsimp only at h
    obtain ⟨⟨y, p5⟩, h5, h⟩ := bind_ok h
    obtain ⟨t5, y1, y2⟩ := digit_ok h5 t4.2.1 (by decide)
    dsimp only at h
    injection h with h; injection h with e1 e2
    subst e1 e2
    refine ⟨_, t1.trans (t2.trans (t3.trans (t4.trans t5))), ⟨by simp [cmdK, cmd0], by simp [cmdK, cmd0]⟩, fun w hw => ?_⟩
    have := (word_at hw).1
    subst this
    unfold textP textR
    simp only [cmdK, cmd0]
    rw [dgR_eq (by omega) (by omega), d1R_eq y1 y2]
    simp [wordOf, wordsL]

theorem parts_fine {l : List UInt8} {k : Int} {p q : Nat} {c : CmdT} (h : parts l k p = .ok (c, q)) (hp : p ≤ l.length) (hk : 1 ≤ k ∧ k ≤ 29 ∧ k ≠ 12 ∧ k ≠ 17) : Fine l k p q c := by
  unfold parts at h
  split at h
  · next e => subst e; exact pIn_fine h hp
  split at h
  · next e => subst e; exact pAvail_fine h hp
  split at h
  · next e => subst e; exact pSell_fine h hp
  split at h
  · next e => subst e; exact pName_fine h hp
  split at h
  · next e => exact pFree_fine h hp e
  split at h
  · next e => subst e; exact pLimit_fine h hp
  split at h
  · next e => subst e; exact seats_fine h hp
  split at h
  · next e => subst e; exact pUnseat_fine h hp
  split at h
  · next e => subst e; exact pCancel_fine h hp
  split at h
  · next e => subst e; exact pLoc_fine h hp
  split at h
  · next e => exact pNum_fine h hp e
  · injection h with h; injection h with e1 e2
    subst e1 e2
    refine ⟨_, took_nil hp, (by show 1 ≤ k ∧ k ≤ 29; omega), fun w hw => ?_⟩
    have := (word_at hw).1
    subst this
    unfold textP textR
    simp only [cmdK, cmd0]
    simp [*]

theorem begin_word {l : List UInt8} {k : Int} {p : Nat} (h : begin_ l = some (k, p)) : (l = [42, 82] ∧ k = 17 ∧ p = 2) ∨ (l ≠ [42, 82] ∧ ∃ w, (w, k) ∈ wordsL ∧ isPre w l = true ∧ p = w.length) := by
  unfold begin_ at h
  split at h
  · next e => injection h with h; injection h with h1 h2; exact .inl ⟨e, h1.symm, h2.symm⟩
  · next hne =>
    rw [Option.map_eq_some_iff] at h
    obtain ⟨⟨w, k'⟩, h1, h2⟩ := h
    injection h2 with h2 h3
    subst h2 h3
    exact .inr ⟨hne, w, List.mem_of_find?_eq_some h1, by simpa using List.find?_some h1, rfl⟩

/-- What was taken apart is put together into the same entry. -/
theorem parse_ok {l : List UInt8} {c : CmdT} (h : parse l = .ok c) : textP c = l ∧ textR c = l ∧ 1 ≤ c.kind ∧ c.kind ≤ 29 ∧ l.length ≤ 255 := by
  unfold parse at h
  split at h
  · cases h
  next hl =>
  split at h
  · cases h
  next k p hb =>
  split at h
  · cases h
  next c' q hq =>
  split at h
  · cases h
  next hn =>
  injection h with h
  subst h
  rcases begin_word hb with ⟨rfl, rfl, rfl⟩ | ⟨_, w, hw, hp, rfl⟩
  · have e : parts [42, 82] 17 2 = .ok (cmdK 17, 2) := rfl
    rw [e] at hq
    injection hq with hq; injection hq with e1 e2
    subst e1
    exact ⟨rfl, rfl, by decide, by decide, by omega⟩
  · obtain ⟨w1, w2, w3, w4, w5⟩ := word_at hw
    obtain ⟨x, ⟨t1, t2, t3⟩, ⟨k1, k2⟩, hx⟩ := parts_fine hq (isPre_len hp) ⟨w2, w3, w4, w5⟩
    obtain ⟨x1, x2⟩ := hx w hw
    have e : w ++ x = l := by
      conv => rhs; rw [isPre_drop hp, t3, List.drop_eq_nil_of_le (by omega), List.append_nil]
    exact ⟨x1.trans e, x2.trans e, k1, k2, by omega⟩
end Go.Proofs.YtjahkaidinahpaaDoor.En
