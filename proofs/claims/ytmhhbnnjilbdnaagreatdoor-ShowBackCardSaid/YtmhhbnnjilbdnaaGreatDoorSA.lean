/- What is shown of a PNR: its lines, plain; unlike PNRs have unlike lines. -/
import Derived.Test.YtmhhbnnjilbdnaaGreatDoorKA
import Derived.Test.YtmhhbnnjilbdnaaGreatDoorKB
import Derived.Test.YtmhhbnnjilbdnaaGreatDoorRows
import Derived.WalkKit
import Derived.WalkSpells
import Derived.WalkLawsBesides
import Derived.Lib.ConvBytes
import Derived.Lib.Hide
import Derived.Lib.SliceRun
import Derived.IntWalk
import Derived.BigQuiet
import Derived.Deep.QuietTactic
import Derived.Deep.RegionWith
import Derived.Deep.RegionHeld3
import Derived.Deep.LoopGhost
import Derived.Deep.CutRange
import Derived.Deep.CutBlock
import Derived.Deep.MidRow
import Derived.Laws.OwnMore
import Derived.OwnWalk
import Derived.Laws.AppendOwnNone
import Derived.Laws.Rows
import Derived.Laws.MakeOwn
import Derived.Laws.CopyOwn
import Derived.Laws.BitsAllLaws
import Derived.DeepKeys5
import Derived.Maps.OwnOps
import Derived.Handy
import Derived.Lib.AppendStr
import Derived.StillTailTactics
import Derived.Deep.AppendLies
import Derived.ProofKit
import Derived.OpenShut
import Derived.SliceStrings
import Derived.Lib.SmallJoins
import Derived.Deep.SlicePairs
import Derived.ChangeSlices
import Derived.WideKeyEntry
import Derived.Tactics2
import Derived.Defers
import Derived.Recover
import Derived.Shelf.Strconv.Itoa0
import Derived.Shelf.Strconv.Itoa1
import Derived.Shelf.LaysM
import Derived.Shelf.Strconv.Itoa2
import Derived.Shelf.Strconv.Itoa3
namespace Go.Proofs.YtmhhbnnjilbdnaaGreatDoor.Sh
open Go.RowKit En
set_option linter.unusedSimpArgs false
set_option linter.unusedVariables false

/- The lines. -/
def orL (s : ByteArray) (o : List UInt8) : List UInt8 := if toL s = [] then o else toL s
def headLn (p : PnrT) : List UInt8 := [80, 78, 82, 32] ++ (orL p.loc [78, 69, 87] ++ (32 :: orL p.off [45]))
def nameLn (i : Nat) (x : NameT) : List UInt8 := itoaL ((i : Int) + 1) ++ (46 :: (toL x.last ++ (47 :: toL x.first)))
def flTx (car : ByteArray) (num : Int) : List UInt8 := if num < 1 then toL car else toL car ++ itoaL num
def segLn (i : Nat) (x : SegT) : List UInt8 := 83 :: (itoaL ((i : Int) + 1) ++ (32 :: (flTx x.car x.num ++ (32 :: x.cls :: 32 :: (dTx x.day ++ (if x.live then [32, 72, 75] else [32, 88, 88]))))))
def textLn (c : UInt8) (i : Nat) (s : ByteArray) : List UInt8 := c :: (itoaL ((i : Int) + 1) ++ (32 :: toL s))
def tickLn (p : PnrT) : List UInt8 :=
  if p.tk = 0 then [84, 32, 78, 79, 78, 69]
  else if p.tk = 2 then [84, 32, 68, 79, 78, 69]
  else if p.tk = 1 then [84, 32, 76, 73, 77, 73, 84, 32] ++ (dTx p.td ++ (47 :: (cTx p.tm ++ (if p.queued then [32, 81, 85, 69, 85, 69, 68] else []))))
  else [84, 32, 63]
def recvLn (s : ByteArray) : List (List UInt8) := if toL s = [] then [] else [82 :: 32 :: toL s]
def seatLn (x : PlaceT) : List UInt8 := 65 :: 32 :: 83 :: (itoaL x.seg ++ (32 :: 80 :: (itoaL x.pax ++ (32 :: toL (seatT x.row x.c)))))
def tailP (p : PnrT) : List (List UInt8) :=
  p.names.mapIdx nameLn ++ (p.segs.mapIdx segLn ++ (p.phones.mapIdx (textLn 80) ++ ([tickLn p] ++ (recvLn p.recv ++ (p.remarks.mapIdx (textLn 77) ++ p.seats.map seatLn)))))
def showP (p : PnrT) : List (List UInt8) := headLn p :: tailP p

/- Numbers. -/
theorem dig_all : ∀ (n : Nat) (c : UInt8), c ∈ digL n → 48 ≤ c.toNat ∧ c.toNat ≤ 57 := by
  intro n
  induction n using Nat.strongRecOn with
  | _ n ih =>
    intro c hc
    by_cases h : n < 10
    · rw [digL_lt h, List.mem_singleton] at hc
      rw [hc, dch_toNat]
      omega
    · rw [digL_ge h] at hc
      rcases List.mem_append.1 hc with h1 | h1
      · exact ih _ (by omega) c h1
      · rw [List.mem_singleton] at h1
        rw [h1, dch_toNat]
        omega

def valD (l : List UInt8) : Nat := l.foldl (fun x c => x * 10 + (c.toNat - 48)) 0
theorem val_dig : ∀ n : Nat, valD (digL n) = n := by
  intro n
  induction n using Nat.strongRecOn with
  | _ n ih =>
    by_cases h : n < 10
    · rw [digL_lt h]
      show 0 * 10 + ((dch n).toNat - 48) = n
      rw [dch_toNat]
      omega
    · rw [digL_ge h]
      have := ih (n / 10) (by omega)
      unfold valD at this ⊢
      rw [List.foldl_append, this]
      show n / 10 * 10 + ((dch n).toNat - 48) = n
      rw [dch_toNat]
      omega

theorem dig_inj {a b : Nat} (h : digL a = digL b) : a = b := by
  have := val_dig a
  rw [h, val_dig] at this
  exact this.symm

theorem itoa_inj {a b : Int} (h : itoaL a = itoaL b) : a = b := by
  unfold itoaL at h
  by_cases ha : a < 0 <;> by_cases hb : b < 0
  · rw [if_pos ha, if_pos hb] at h
    injection h with _ h
    have := dig_inj h
    omega
  · rw [if_pos ha, if_neg hb] at h
    have := dig_all b.toNat 45 (by rw [← h]; simp)
    simp at this
  · rw [if_neg ha, if_pos hb] at h
    have := dig_all a.toNat 45 (by rw [h]; simp)
    simp at this
  · rw [if_neg ha, if_neg hb] at h
    have := dig_inj h
    omega

theorem itoa_all {n : Int} {c : UInt8} (h : c ∈ itoaL n) : c.toNat = 45 ∨ (48 ≤ c.toNat ∧ c.toNat ≤ 57) := by
  unfold itoaL at h
  by_cases hn : n < 0
  · rw [if_pos hn] at h
    rcases List.mem_cons.1 h with rfl | h
    · exact .inl rfl
    · exact .inr (dig_all _ _ h)
  · rw [if_neg hn] at h
    exact .inr (dig_all _ _ h)
theorem itoa_no {n : Int} (s : UInt8) (hs : s.toNat < 45 ∨ 57 < s.toNat ∨ s.toNat = 46 ∨ s.toNat = 47) : ∀ c ∈ itoaL n, c ≠ s := fun c hc e => by
  subst e
  have := itoa_all hc
  omega

theorem digL_ne (n : Nat) : digL n ≠ [] := by
  by_cases h : n < 10
  · rw [digL_lt h]; simp
  · rw [digL_ge h]; simp
theorem itoa_head {n : Int} (h : 0 ≤ n) : ∃ c t, itoaL n = c :: t ∧ 48 ≤ c.toNat ∧ c.toNat ≤ 57 := by
  unfold itoaL
  rw [if_neg (by omega)]
  rcases hd : digL n.toNat with _ | ⟨c, t⟩
  · exact absurd hd (digL_ne _)
  · exact ⟨c, t, rfl, dig_all n.toNat c (by rw [hd]; simp)⟩

/- Lists. -/
theorem cut_sep {s : UInt8} : ∀ {x x' y y' : List UInt8}, (∀ c ∈ x, c ≠ s) → (∀ c ∈ x', c ≠ s) → x ++ s :: y = x' ++ s :: y' → x = x' ∧ y = y'
  | [], [], _, _, _, _, h => by simpa using h
  | [], b :: x', _, _, _, h', h => by
    injection h with h1 _
    exact absurd h1.symm (h' b (by simp))
  | a :: x, [], _, _, h', _, h => by
    injection h with h1 _
    exact absurd h1 (h' a (by simp))
  | a :: x, b :: x', y, y', h1, h2, h => by
    injection h with e h
    obtain ⟨e1, e2⟩ := cut_sep (fun c hc => h1 c (by simp [hc])) (fun c hc => h2 c (by simp [hc])) h
    exact ⟨by rw [e, e1], e2⟩

theorem part_list {α : Type} {k : α → Bool} : ∀ {X X' Y Y' : List α}, (∀ x ∈ X, k x = true) → (∀ x ∈ X', k x = true) → (∀ y ∈ Y, k y = false) → (∀ y ∈ Y', k y = false) → X ++ Y = X' ++ Y' → X = X' ∧ Y = Y'
  | [], [], _, _, _, _, _, _, h => ⟨rfl, h⟩
  | [], b :: X', Y, Y', _, h2, h3, _, h => by
    have := h3 b (by rw [show Y = b :: (X' ++ Y') from h]; simp)
    rw [h2 b (by simp)] at this
    cases this
  | a :: X, [], Y, Y', h1, _, _, h4, h => by
    have := h4 a (by rw [show Y' = a :: (X ++ Y) from h.symm]; simp)
    rw [h1 a (by simp)] at this
    cases this
  | a :: X, b :: X', Y, Y', h1, h2, h3, h4, h => by
    injection h with e h
    obtain ⟨e1, e2⟩ := part_list (fun c hc => h1 c (by simp [hc])) (fun c hc => h2 c (by simp [hc])) h3 h4 h
    exact ⟨by rw [e, e1], e2⟩

theorem mapIdx_inj {α β : Type} {f : Nat → α → β} {P : α → Prop} (hf : ∀ i x y, P x → P y → f i x = f i y → x = y) {l m : List α} (hl : ∀ x ∈ l, P x) (hm : ∀ x ∈ m, P x) (h : l.mapIdx f = m.mapIdx f) : l = m := by
  have hlen : l.length = m.length := by
    have := congrArg List.length h
    simpa using this
  refine List.ext_getElem hlen fun i h1 h2 => ?_
  have e : (l.mapIdx f)[i]'(by simpa using h1) = (m.mapIdx f)[i]'(by simpa using h2) := by simp only [h]
  rw [List.getElem_mapIdx, List.getElem_mapIdx] at e
  exact hf i _ _ (hl _ (List.getElem_mem h1)) (hm _ (List.getElem_mem h2)) e

theorem map_inj {α β : Type} {f : α → β} {P : α → Prop} (hf : ∀ x y, P x → P y → f x = f y → x = y) : ∀ {l m : List α}, (∀ x ∈ l, P x) → (∀ x ∈ m, P x) → l.map f = m.map f → l = m
  | [], [], _, _, _ => rfl
  | [], b :: m, _, _, h => by simp at h
  | a :: l, [], _, _, h => by simp at h
  | a :: l, b :: m, h1, h2, h => by
    simp only [List.map_cons, List.cons.injEq] at h
    rw [hf a b (h1 a (by simp)) (h2 b (by simp)) h.1, map_inj hf (fun x hx => h1 x (by simp [hx])) (fun x hx => h2 x (by simp [hx])) h.2]

theorem all_app {α : Type} {q : α → Prop} {A B : List α} (h1 : ∀ x ∈ A, q x) (h2 : ∀ x ∈ B, q x) : ∀ x ∈ A ++ B, q x := fun x hx => by
  rcases List.mem_append.1 hx with h | h
  · exact h1 x h
  · exact h2 x h

/- The lines' first bytes. -/
def hd (l : List UInt8) : Nat := (l.headD 0).toNat
theorem hd_names {l : List NameT} : ∀ x ∈ l.mapIdx nameLn, 48 ≤ hd x ∧ hd x ≤ 57 := fun x hx => by
  rw [List.mem_mapIdx] at hx
  obtain ⟨i, h, rfl⟩ := hx
  obtain ⟨c, t, e, h1⟩ := itoa_head (n := (i : Int) + 1) (by omega)
  unfold nameLn hd
  rw [e]
  exact h1
theorem hd_segs {l : List SegT} : ∀ x ∈ l.mapIdx segLn, hd x = 83 := fun x hx => by
  rw [List.mem_mapIdx] at hx
  obtain ⟨i, h, rfl⟩ := hx
  rfl
theorem hd_texts {c : UInt8} {l : List ByteArray} : ∀ x ∈ l.mapIdx (textLn c), hd x = c.toNat := fun x hx => by
  rw [List.mem_mapIdx] at hx
  obtain ⟨i, h, rfl⟩ := hx
  rfl
theorem hd_tick {p : PnrT} : ∀ x ∈ [tickLn p], hd x = 84 := fun x hx => by
  rw [List.mem_singleton] at hx
  subst hx
  unfold tickLn
  split
  · rfl
  · split
    · rfl
    · split
      · rfl
      · rfl
theorem hd_recv {s : ByteArray} : ∀ x ∈ recvLn s, hd x = 82 := fun x hx => by
  unfold recvLn at hx
  split at hx
  · cases hx
  · rw [List.mem_singleton] at hx; subst hx; rfl
theorem hd_seats {l : List PlaceT} : ∀ x ∈ l.map seatLn, hd x = 65 := fun x hx => by
  obtain ⟨y, _, rfl⟩ := List.mem_map.1 hx
  rfl

/- One line of each kind. -/
theorem name_line {i : Nat} {x y : NameT} (hx : nameOk x) (hy : nameOk y) (h : nameLn i x = nameLn i y) : x = y := by
  unfold nameLn at h
  have h := List.append_cancel_left h
  injection h with _ h
  have no : ∀ {z : ByteArray}, lettersS (toL z) 1 16 = true → ∀ c ∈ toL z, c ≠ 47 := fun {z} hz c hc e => by
    unfold lettersS at hz
    rw [Bool.and_eq_true] at hz
    have := List.all_eq_true.1 hz.2 c hc
    subst e
    exact absurd this (by decide)
  obtain ⟨e1, e2⟩ := cut_sep (no hx.1) (no hy.1) h
  obtain ⟨a, b⟩ := x
  obtain ⟨c, d⟩ := y
  have e1 : a = c := toL_inj e1
  have e2 : b = d := toL_inj e2
  rw [e1, e2]

theorem day_inj {a b : Int} (ha : 0 ≤ a ∧ a < 366) (hb : 0 ≤ b ∧ b < 366) (h : dTx a = dTx b) : a = b := by
  unfold dTx at h
  rw [if_pos ha, if_pos hb] at h
  have h1 := (Da.day_facts a.toNat (by omega)).2.2.2
  have h2 := (Da.day_facts b.toNat (by omega)).2.2.2
  rw [h, h2] at h1
  injection h1 with h1
  omega
theorem clk_inj {a b : Int} (ha : 0 ≤ a ∧ a < 1440) (hb : 0 ≤ b ∧ b < 1440) (h : cTx a = cTx b) : a = b := by
  unfold cTx at h
  rw [if_pos ha, if_pos hb] at h
  have h1 := Da.clock_facts a.toNat (by omega)
  have h2 := Da.clock_facts b.toNat (by omega)
  rw [h, h2] at h1
  injection h1 with h1
  omega
theorem day_len {a : Int} (ha : 0 ≤ a ∧ a < 366) : (dTx a).length = 5 := by
  unfold dTx
  rw [if_pos ha]
  exact Da.dtxt_len _
theorem clk_len {a : Int} (ha : 0 ≤ a ∧ a < 1440) : (cTx a).length = 4 := by
  unfold cTx
  rw [if_pos ha]
  exact Da.ctxt_len _

theorem seg_line {i : Nat} {x y : SegT} (hx : segOk x) (hy : segOk y) (h : segLn i x = segLn i y) : x = y := by
  unfold segLn at h
  injection h with _ h
  have h := List.append_cancel_left h
  injection h with _ h
  unfold flTx at h
  rw [if_neg (show ¬ x.num < 1 by have := hx.2.1.1; omega), if_neg (show ¬ y.num < 1 by have := hy.2.1.1; omega), List.append_assoc, List.append_assoc] at h
  have l2 : ∀ {z : ByteArray}, carrierS (toL z) = true → (toL z).length = 2 := fun {z} hz => by
    unfold carrierS at hz
    split at hz
    · next e => rw [e]; rfl
    · cases hz
  obtain ⟨e1, h⟩ := List.append_inj h ((l2 hx.1).trans (l2 hy.1).symm)
  obtain ⟨e2, h⟩ := cut_sep (itoa_no 32 (by decide)) (itoa_no 32 (by decide)) h
  injection h with e3 h
  injection h with _ h
  obtain ⟨e4, h⟩ := List.append_inj h ((day_len hx.2.2.1).trans (day_len hy.2.2.1).symm)
  obtain ⟨a, b, c, d, e⟩ := x
  obtain ⟨a', b', c', d', e'⟩ := y
  have f1 : a = a' := toL_inj e1
  have f2 : b = b' := itoa_inj e2
  have f3 : d = d' := e3
  have f4 : c = c' := day_inj hx.2.2.1 hy.2.2.1 e4
  have f5 : e = e' := by
    cases e <;> cases e' <;> first | rfl | (simp at h)
  rw [f1, f2, f3, f4, f5]

theorem text_line {c : UInt8} {i : Nat} {x y : ByteArray} (h : textLn c i x = textLn c i y) : x = y := by
  unfold textLn at h
  injection h with _ h
  have h := List.append_cancel_left h
  injection h with _ h
  exact toL_inj h

theorem seat_line {x y : PlaceT} (hx : 1 ≤ x.row ∧ x.row ≤ 99 ∧ bL x.c = true) (hy : 1 ≤ y.row ∧ y.row ≤ 99 ∧ bL y.c = true) (h : seatLn x = seatLn y) : x = y := by
  unfold seatLn at h
  injection h with _ h
  injection h with _ h
  injection h with _ h
  obtain ⟨e1, h⟩ := cut_sep (itoa_no 32 (by decide)) (itoa_no 32 (by decide)) h
  injection h with _ h
  obtain ⟨e2, h⟩ := cut_sep (itoa_no 32 (by decide)) (itoa_no 32 (by decide)) h
  obtain ⟨a, b, r, c⟩ := x
  obtain ⟨a', b', r', c'⟩ := y
  have f1 : a = a' := itoa_inj e1
  have f2 : b = b' := itoa_inj e2
  have sx : ∀ {r : Int} {c : UInt8}, (1 ≤ r ∧ r ≤ 99 ∧ bL c = true) → toL (seatT r c) = digL r.toNat ++ [c] := fun {r c} h => by
    unfold seatT
    rw [if_pos (show 1 ≤ r ∧ r ≤ 99 ∧ isL c.toNat = true from h)]
    unfold toL digA
    simp
  simp only at hx hy h
  rw [sx hx, sx hy] at h
  obtain ⟨e3, e4⟩ := List.append_inj' h rfl
  have f3 := dig_inj e3
  injection e4 with f4
  have f5 : r = r' := by have := hx.1; have := hy.1; omega
  rw [f1, f2, f5, f4]

/-- What is asked of a PNR that is read off its lines. -/
structure SeenP (p : PnrT) : Prop where
  loc : toL p.loc = [] ∨ lettersS (toL p.loc) 6 6 = true
  off : toL p.off = [] ∨ lettersS (toL p.off) 3 3 = true
  nm : ∀ x ∈ p.names, nameOk x
  sg : ∀ x ∈ p.segs, segOk x
  tk : tickOk p.tk p.td p.tm p.queued
  st : ∀ x ∈ p.seats, 1 ≤ x.row ∧ x.row ≤ 99 ∧ bL x.c = true

theorem SeenP.of {p : PnrT} (h : SoundP p) : SeenP p := ⟨h.loc, h.off, h.names.2, h.segs.2.1, h.tick, fun x hx => by
  obtain ⟨i, hi⟩ := List.getElem?_of_mem hx
  exact ((h.seats.1 i x hi).1).2.2⟩

theorem tick_line {p q : PnrT} (hp : tickOk p.tk p.td p.tm p.queued) (hq : tickOk q.tk q.td q.tm q.queued) (h : tickLn p = tickLn q) : p.tk = q.tk ∧ p.td = q.td ∧ p.tm = q.tm ∧ p.queued = q.queued := by
  unfold tickLn at h
  rcases hp with ⟨a1, a2, a3⟩ | ⟨a1, a2, a3, a4 | a4⟩ <;> rcases hq with ⟨b1, b2, b3⟩ | ⟨b1, b2, b3, b4 | b4⟩
  · rw [a1, b1] at h
    simp only [if_neg (show ¬ (1 : Int) = 0 by decide), if_neg (show ¬ (1 : Int) = 2 by decide), if_pos] at h
    have h := List.append_cancel_left h
    obtain ⟨e1, h⟩ := List.append_inj h ((day_len a2).trans (day_len b2).symm)
    injection h with _ h
    obtain ⟨e2, h⟩ := List.append_inj h ((clk_len a3).trans (clk_len b3).symm)
    refine ⟨by rw [a1, b1], day_inj a2 b2 e1, clk_inj a3 b3 e2, ?_⟩
    cases hc : p.queued <;> cases hd : q.queued <;> rw [hc, hd] at h <;> first | rfl | (simp at h)
  · rw [a1, b4] at h; simp at h
  · rw [a1, b4] at h; simp at h
  · rw [a4, b1] at h; simp at h
  · exact ⟨by rw [a4, b4], by rw [a2, b2], by rw [a3, b3], by rw [a1, b1]⟩
  · rw [a4, b4] at h; simp at h
  · rw [a4, b1] at h; simp at h
  · rw [a4, b4] at h; simp at h
  · exact ⟨by rw [a4, b4], by rw [a2, b2], by rw [a3, b3], by rw [a1, b1]⟩

theorem letters_no {l : List UInt8} {a b : Int} (s : UInt8) (hs : bL s = false) (h : lettersS l a b = true) : ∀ c ∈ l, c ≠ s := fun c hc e => by
  unfold lettersS at h
  rw [Bool.and_eq_true] at h
  have := List.all_eq_true.1 h.2 c hc
  rw [e, hs] at this
  cases this
theorem letters_len {l : List UInt8} {a : Int} (h : lettersS l a a = true) : (l.length : Int) = a := by
  unfold lettersS at h
  rw [Bool.and_eq_true] at h
  have := of_decide_eq_true h.1
  omega

theorem or_no {s : ByteArray} {o : List UInt8} {a b : Int} (ho : ∀ c ∈ o, c ≠ 32) (h : toL s = [] ∨ lettersS (toL s) a b = true) : ∀ c ∈ orL s o, c ≠ 32 := by
  unfold orL
  by_cases e : toL s = []
  · rw [if_pos e]; exact ho
  · rw [if_neg e]
    exact letters_no 32 (by decide) (h.resolve_left e)
theorem or_inj {s t : ByteArray} {o : List UInt8} {a : Int} (ha : (o.length : Int) ≠ a) (hs : toL s = [] ∨ lettersS (toL s) a a = true) (ht : toL t = [] ∨ lettersS (toL t) a a = true) (h : orL s o = orL t o) : s = t := by
  unfold orL at h
  by_cases es : toL s = [] <;> by_cases et : toL t = []
  · exact toL_inj (es.trans et.symm)
  · rw [if_pos es, if_neg et] at h
    have := letters_len (ht.resolve_left et)
    rw [← h] at this
    exact absurd this ha
  · rw [if_neg es, if_pos et] at h
    have := letters_len (hs.resolve_left es)
    rw [h] at this
    exact absurd this ha
  · rw [if_neg es, if_neg et] at h
    exact toL_inj h

theorem recv_inj {s t : ByteArray} (h : recvLn s = recvLn t) : s = t := by
  unfold recvLn at h
  by_cases es : toL s = [] <;> by_cases et : toL t = []
  · exact toL_inj (es.trans et.symm)
  · rw [if_pos es, if_neg et] at h; simp at h
  · rw [if_neg es, if_pos et] at h; simp at h
  · rw [if_neg es, if_neg et] at h
    simp only [List.cons.injEq, and_true, true_and] at h
    exact toL_inj h

/-- Unlike PNRs have unlike lines. -/
theorem show_inj {p q : PnrT} (hp : SeenP p) (hq : SeenP q) (h : showP p = showP q) : p = q := by
  unfold showP at h
  injection h with h0 h
  unfold headLn at h0
  have h0 := List.append_cancel_left h0
  obtain ⟨l1, l2⟩ := cut_sep (or_no (by decide) hp.loc) (or_no (by decide) hq.loc) h0
  have el := or_inj (by decide) hp.loc hq.loc l1
  have eo := or_inj (by decide) hp.off hq.off l2
  unfold tailP at h
  obtain ⟨h1, h⟩ := part_list (k := fun l => decide (48 ≤ hd l ∧ hd l ≤ 57)) (fun x hx => decide_eq_true (hd_names x hx)) (fun x hx => decide_eq_true (hd_names x hx))
    (all_app (fun x hx => by rw [hd_segs x hx]; rfl) (all_app (fun x hx => by rw [hd_texts x hx]; rfl) (all_app (fun x hx => by rw [hd_tick x hx]; rfl) (all_app (fun x hx => by rw [hd_recv x hx]; rfl) (all_app (fun x hx => by rw [hd_texts x hx]; rfl) (fun x hx => by rw [hd_seats x hx]; rfl))))))
    (all_app (fun x hx => by rw [hd_segs x hx]; rfl) (all_app (fun x hx => by rw [hd_texts x hx]; rfl) (all_app (fun x hx => by rw [hd_tick x hx]; rfl) (all_app (fun x hx => by rw [hd_recv x hx]; rfl) (all_app (fun x hx => by rw [hd_texts x hx]; rfl) (fun x hx => by rw [hd_seats x hx]; rfl)))))) h
  obtain ⟨h2, h⟩ := part_list (k := fun l => decide (hd l = 83)) (fun x hx => decide_eq_true (hd_segs x hx)) (fun x hx => decide_eq_true (hd_segs x hx))
    (all_app (fun x hx => by rw [hd_texts x hx]; rfl) (all_app (fun x hx => by rw [hd_tick x hx]; rfl) (all_app (fun x hx => by rw [hd_recv x hx]; rfl) (all_app (fun x hx => by rw [hd_texts x hx]; rfl) (fun x hx => by rw [hd_seats x hx]; rfl)))))
    (all_app (fun x hx => by rw [hd_texts x hx]; rfl) (all_app (fun x hx => by rw [hd_tick x hx]; rfl) (all_app (fun x hx => by rw [hd_recv x hx]; rfl) (all_app (fun x hx => by rw [hd_texts x hx]; rfl) (fun x hx => by rw [hd_seats x hx]; rfl))))) h
  obtain ⟨h3, h⟩ := part_list (k := fun l => decide (hd l = 80)) (fun x hx => decide_eq_true (hd_texts (c := 80) x hx)) (fun x hx => decide_eq_true (hd_texts (c := 80) x hx))
    (all_app (fun x hx => by rw [hd_tick x hx]; rfl) (all_app (fun x hx => by rw [hd_recv x hx]; rfl) (all_app (fun x hx => by rw [hd_texts x hx]; rfl) (fun x hx => by rw [hd_seats x hx]; rfl))))
    (all_app (fun x hx => by rw [hd_tick x hx]; rfl) (all_app (fun x hx => by rw [hd_recv x hx]; rfl) (all_app (fun x hx => by rw [hd_texts x hx]; rfl) (fun x hx => by rw [hd_seats x hx]; rfl)))) h
  have h4 : tickLn p = tickLn q := by injection h
  have h : recvLn p.recv ++ (p.remarks.mapIdx (textLn 77) ++ p.seats.map seatLn) = recvLn q.recv ++ (q.remarks.mapIdx (textLn 77) ++ q.seats.map seatLn) := by injection h
  obtain ⟨h5, h⟩ := part_list (k := fun l => decide (hd l = 82)) (fun x hx => decide_eq_true (hd_recv x hx)) (fun x hx => decide_eq_true (hd_recv x hx))
    (all_app (fun x hx => by rw [hd_texts x hx]; rfl) (fun x hx => by rw [hd_seats x hx]; rfl))
    (all_app (fun x hx => by rw [hd_texts x hx]; rfl) (fun x hx => by rw [hd_seats x hx]; rfl)) h
  obtain ⟨h6, h7⟩ := part_list (k := fun l => decide (hd l = 77)) (fun x hx => decide_eq_true (hd_texts (c := 77) x hx)) (fun x hx => decide_eq_true (hd_texts (c := 77) x hx))
    (fun x hx => by rw [hd_seats x hx]; rfl) (fun x hx => by rw [hd_seats x hx]; rfl) h
  have e1 := mapIdx_inj (f := nameLn) (P := nameOk) (fun i x y a b c => name_line a b c) hp.nm hq.nm h1
  have e2 := mapIdx_inj (f := segLn) (P := segOk) (fun i x y a b c => seg_line a b c) hp.sg hq.sg h2
  have e3 := mapIdx_inj (f := textLn 80) (P := fun _ => True) (fun i x y _ _ c => text_line c) (fun _ _ => trivial) (fun _ _ => trivial) h3
  obtain ⟨t1, t2, t3, t4⟩ := tick_line hp.tk hq.tk h4
  have e5 := recv_inj h5
  have e6 := mapIdx_inj (f := textLn 77) (P := fun _ => True) (fun i x y _ _ c => text_line c) (fun _ _ => trivial) (fun _ _ => trivial) h6
  have e7 := map_inj (f := seatLn) (P := fun x => 1 ≤ x.row ∧ x.row ≤ 99 ∧ bL x.c = true) (fun x y a b c => seat_line a b c) hp.st hq.st h7
  obtain ⟨loc, off, names, segs, phones, tk, td, tm, recv, remarks, seats, queued⟩ := p
  obtain ⟨loc', off', names', segs', phones', tk', td', tm', recv', remarks', seats', queued'⟩ := q
  simp only at el eo e1 e2 e3 t1 t2 t3 t4 e5 e6 e7
  subst el eo e1 e2 e3 t1 t2 t3 t4 e5 e6 e7
  rfl
end Go.Proofs.YtmhhbnnjilbdnaaGreatDoor.Sh
