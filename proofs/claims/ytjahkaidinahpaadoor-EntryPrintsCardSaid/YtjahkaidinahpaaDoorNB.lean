/- Days and times: the program's and the reference's texts, and what is read of texts. -/
import Derived.Test.YtjahkaidinahpaaDoorMA
namespace Go.Proofs.YtjahkaidinahpaaDoor.Da
open Go.RowKit
set_option linter.unusedSimpArgs false
set_option linter.unusedVariables false

theorem bytes_eq {a b : ByteArray} (h : a.data.toList = b.data.toList) : a = b := by
  obtain ⟨⟨a⟩⟩ := a; obtain ⟨⟨b⟩⟩ := b
  simp at h; rw [h]

def isD (c : UInt8) : Bool := decide (48 ≤ c.toNat ∧ c.toNat ≤ 57)

def two (n : Nat) : List UInt8 := [UInt8.ofNat (48 + n / 10), UInt8.ofNat (48 + n % 10)]

def monL : Nat → List UInt8
  | 0 => [74, 65, 78]
  | 1 => [70, 69, 66]
  | 2 => [77, 65, 82]
  | 3 => [65, 80, 82]
  | 4 => [77, 65, 89]
  | 5 => [74, 85, 78]
  | 6 => [74, 85, 76]
  | 7 => [65, 85, 71]
  | 8 => [83, 69, 80]
  | 9 => [79, 67, 84]
  | 10 => [78, 79, 86]
  | _ => [68, 69, 67]

def lenN : Nat → Nat
  | 0 => 31
  | 1 => 29
  | 2 => 31
  | 3 => 30
  | 4 => 31
  | 5 => 30
  | 6 => 31
  | 7 => 31
  | 8 => 30
  | 9 => 31
  | 10 => 30
  | _ => 31

def startN : Nat → Nat
  | 0 => 0
  | m + 1 => startN m + lenN m

/-- The month of what is left of a day, from month m on, at most f months. -/
def monGo : Nat → Nat → Nat → Nat × Nat
  | 0, m, d => (m, d)
  | f + 1, m, d => if lenN m ≤ d then monGo f (m + 1) (d - lenN m) else (m, d)

def monOf (d : Nat) : Nat := (monGo 12 0 d).1

def dayOf (d : Nat) : Nat := (monGo 12 0 d).2

def dtxt (d : Nat) : List UInt8 := two (dayOf d + 1) ++ monL (monOf d)

/-- The number of two digits; -1 of anything else. -/
def numS : List UInt8 → Int
  | [a, b] => if isD a && isD b then ((a.toNat : Int) - 48) * 10 + ((b.toNat : Int) - 48) else -1
  | _ => -1

/-- The month that a text names, from month m on, at most f months. -/
def monFind : Nat → Nat → List UInt8 → Option Nat
  | 0, _, _ => none
  | f + 1, m, l => if l = monL m then some m else monFind f (m + 1) l

def readM (o : Option Nat) (x : Int) : Option Nat :=
  match o with
  | some m => if 1 ≤ x ∧ x ≤ lenN m then some (startN m + x.toNat - 1) else none
  | none => none

def readS (l : List UInt8) : Option Nat := if l.length = 5 then readM (monFind 12 0 (l.drop 2)) (numS (l.take 2)) else none

def ctxt (t : Nat) : List UInt8 := two (t / 60) ++ two (t % 60)

def readC (l : List UInt8) : Option Nat :=
  if l.length = 4 then
    if 0 ≤ numS (l.take 2) ∧ numS (l.take 2) ≤ 23 ∧ 0 ≤ numS (l.drop 2) ∧ numS (l.drop 2) ≤ 59 then some ((numS (l.take 2)).toNat * 60 + (numS (l.drop 2)).toNat) else none
  else none

theorem day_facts : ∀ d, d < 366 → monOf d < 12 ∧ dayOf d < lenN (monOf d) ∧ startN (monOf d) + dayOf d = d ∧ readS (dtxt d) = some d := by
  decide +kernel

theorem mon_facts : ∀ m, m < 12 → ∀ k, k < lenN m → startN m + k < 366 ∧ monOf (startN m + k) = m ∧ dayOf (startN m + k) = k := by
  decide +kernel

theorem len_facts : ∀ m, m < 12 → 29 ≤ lenN m ∧ lenN m ≤ 31 ∧ startN m + lenN m ≤ 366 ∧ startN m ≤ 335 := by decide +kernel

theorem clock_facts : ∀ t, t < 1440 → readC (ctxt t) = some t := by decide +kernel

theorem two_num : ∀ n, n < 100 → numS (two n) = n := by decide +kernel

theorem monFind_lt (l : List UInt8) (m : Nat) : ∀ f s, monFind f s l = some m → s ≤ m ∧ m < s + f ∧ l = monL m := by
  intro f
  induction f with
  | zero => intro s h; cases h
  | succ f ih =>
    intro s h
    rw [monFind] at h
    split at h
    · next he => injection h with h; subst h; exact ⟨Nat.le_refl _, by omega, he⟩
    · have := ih (s + 1) h; exact ⟨by omega, by omega, this.2.2⟩

theorem numS_two (a b : UInt8) : numS [a, b] = if isD a && isD b then ((a.toNat : Int) - 48) * 10 + ((b.toNat : Int) - 48) else -1 := rfl

theorem num_two {a b : UInt8} (h : 0 ≤ numS [a, b]) : two (numS [a, b]).toNat = [a, b] ∧ numS [a, b] ≤ 99 := by
  rw [numS_two] at h ⊢
  split at h
  · next hd =>
    rw [if_pos hd]
    simp only [isD, Bool.and_eq_true, decide_eq_true_eq] at hd
    obtain ⟨⟨a1, a2⟩, b1, b2⟩ := hd
    have e : (((a.toNat : Int) - 48) * 10 + ((b.toNat : Int) - 48)).toNat = (a.toNat - 48) * 10 + (b.toNat - 48) := by omega
    rw [e]
    refine ⟨?_, by omega⟩
    unfold two
    have e1 : 48 + ((a.toNat - 48) * 10 + (b.toNat - 48)) / 10 = a.toNat := by omega
    have e2 : 48 + ((a.toNat - 48) * 10 + (b.toNat - 48)) % 10 = b.toNat := by omega
    rw [e1, e2, UInt8.ofNat_toNat, UInt8.ofNat_toNat]
  · omega

theorem numS_len {l : List UInt8} (h : 0 ≤ numS l) : ∃ a b, l = [a, b] := by
  match l, h with
  | [a, b], _ => exact ⟨a, b, rfl⟩

theorem read_only {l : List UInt8} {d : Nat} (h : readS l = some d) : d < 366 ∧ dtxt d = l := by
  unfold readS at h
  split at h
  · next hl =>
    unfold readM at h
    split at h
    · next m hm =>
      split at h
      · next hn =>
        injection h with h
        obtain ⟨_, m2, m3⟩ := monFind_lt _ _ _ _ hm
        have hm12 : m < 12 := by omega
        obtain ⟨x, y, hxy⟩ := numS_len (l := l.take 2) (by omega)
        rw [hxy] at h hn
        have ht := num_two (a := x) (b := y) (by omega)
        generalize hk : (numS [x, y]).toNat = k at ht h
        have hk1 : 1 ≤ k := by omega
        have hkl : k - 1 < lenN m := by omega
        obtain ⟨f1, f2, f3⟩ := mon_facts m hm12 (k - 1) hkl
        have hd : d = startN m + (k - 1) := by omega
        subst hd
        refine ⟨f1, ?_⟩
        unfold dtxt
        rw [f2, f3, ← m3, show k - 1 + 1 = k by omega, ht.1, ← hxy, List.take_append_drop]
      · cases h
    · cases h
  · cases h

theorem readC_only {l : List UInt8} {t : Nat} (h : readC l = some t) : t < 1440 ∧ ctxt t = l := by
  unfold readC at h
  split at h
  · next hl =>
    split at h
    · next hn =>
      injection h with h
      obtain ⟨x, y, hxy⟩ := numS_len (l := l.take 2) (by omega)
      obtain ⟨p, q, hpq⟩ := numS_len (l := l.drop 2) (by omega)
      rw [hxy, hpq] at h hn
      have h1 := num_two (a := x) (b := y) (by omega)
      have h2 := num_two (a := p) (b := q) (by omega)
      generalize hk : (numS [x, y]).toNat = k at h1 h
      generalize hj : (numS [p, q]).toNat = j at h2 h
      subst h
      refine ⟨by omega, ?_⟩
      unfold ctxt
      rw [show (k * 60 + j) / 60 = k by omega, show (k * 60 + j) % 60 = j by omega, h1.1, h2.1, ← hxy, ← hpq, List.take_append_drop]
    · cases h
  · cases h

theorem ofNat_int (k : Nat) (h : k < 256) : ((UInt8.ofNat k).toNat : Int) = (k : Int) := by rw [UInt8.toNat_ofNat']; omega

/-- 'string([]byte{a, b})' of two bytes laid right ahead. -/
theorem two_conv (a b : UInt8) (w : World) :
    (convert 48 9 (.slice (some ⟨w.heap.size, 0, none⟩) 2 2)).run Tryd.prog (w.alloc (.cells #[.int .u8 (a.toNat : Int), .int .u8 (b.toNat : Int)] 5)) =
      .ok (.string ⟨#[a, b]⟩) (w.alloc (.cells #[.int .u8 (a.toNat : Int), .int .u8 (b.toNat : Int)] 5)) := by
  refine string_conv [a, b] _ w.heap.size 2 2 rfl fun j hj => ?_
  rw [World.cell?_alloc_new]
  match j, hj with
  | 0, _ => rfl
  | 1, _ => rfl

def twoA (n : Nat) : ByteArray := ⟨(two n).toArray⟩

theorem twoA_list (n : Nat) : (twoA n).data.toList = two n := by simp [twoA]

theorem twoA_size (n : Nat) : (twoA n).size = 2 := rfl

theorem twoA_conv (k : Nat) (w : World) (a b : Int) (hk : k < 100) (ha : a = 48 + (k : Int) / 10) (hb : b = 48 + (k : Int) % 10) :
    (convert 48 9 (.slice (some ⟨w.heap.size, 0, none⟩) 2 2)).run Tryd.prog (w.alloc (.cells #[.int .u8 a, .int .u8 b] 5)) =
      .ok (.string (twoA k)) (w.alloc (.cells #[.int .u8 a, .int .u8 b] 5)) := by
  have hc := two_conv (UInt8.ofNat (48 + k / 10)) (UInt8.ofNat (48 + k % 10)) w
  rw [ofNat_int _ (by omega), ofNat_int _ (by omega), show ((48 + k / 10 : Nat) : Int) = a by omega, show ((48 + k % 10 : Nat) : Int) = b by omega] at hc
  exact hc

theorem two_any (n : Int) (w : World) (h0 : 0 ≤ n) (h1 : n < 100) :
    Calls Tryd.prog 184 #[.int .i64 n] w fun e w' => e = .returned (.string (twoA n.toNat)) ∧ Below w.heap.size w w' := by
  obtain ⟨k, rfl⟩ := Int.eq_ofNat_of_zero_le h0
  rw [Int.toNat_natCast]
  have hc := twoA_conv k w _ _ (by omega) rfl rfl
  go_enter Tryd.func184, Tryd.ntmps184
  go_wp2
  go_ret
  exact ⟨rfl, (Below.refl _ _).alloc (Nat.le_refl _) _⟩

theorem rtwo_any (n : Int) (w : World) (h0 : 0 ≤ n) (h1 : n < 100) :
    Calls Tryd.prog 152 #[.int .i64 n] w fun e w' => e = .returned (.string (twoA n.toNat)) ∧ Below w.heap.size w w' := by
  obtain ⟨k, rfl⟩ := Int.eq_ofNat_of_zero_le h0
  rw [Int.toNat_natCast]
  have hc := twoA_conv k w (48 + (k : Int) / 10 % 10) (48 + (k : Int) % 10) (by omega) (by omega) rfl
  go_enter Tryd.func152, Tryd.ntmps152
  go_wp2
  go_ret
  exact ⟨rfl, (Below.refl _ _).alloc (Nat.le_refl _) _⟩

def monA (m : Nat) : ByteArray := ⟨(monL m).toArray⟩

theorem monA_list (m : Nat) : (monA m).data.toList = monL m := by simp [monA]

theorem monA_size (m : Nat) : (monA m).size = 3 := by
  show (monL m).length = 3
  unfold monL
  split <;> rfl

theorem month_any (m : Nat) (w : World) :
    Calls Tryd.prog 151 #[.int .i64 m] w fun e w' => e = .returned (.tuple #[.string (monA m), .int .i64 (lenN m)]) ∧ w = w' := by
  match m with
  | 0 => go_enter Tryd.func151, Tryd.ntmps151; go_wp2; go_ret2; exact ⟨rfl, rfl⟩
  | 1 => go_enter Tryd.func151, Tryd.ntmps151; go_wp2; go_ret2; exact ⟨rfl, rfl⟩
  | 2 => go_enter Tryd.func151, Tryd.ntmps151; go_wp2; go_ret2; exact ⟨rfl, rfl⟩
  | 3 => go_enter Tryd.func151, Tryd.ntmps151; go_wp2; go_ret2; exact ⟨rfl, rfl⟩
  | 4 => go_enter Tryd.func151, Tryd.ntmps151; go_wp2; go_ret2; exact ⟨rfl, rfl⟩
  | 5 => go_enter Tryd.func151, Tryd.ntmps151; go_wp2; go_ret2; exact ⟨rfl, rfl⟩
  | 6 => go_enter Tryd.func151, Tryd.ntmps151; go_wp2; go_ret2; exact ⟨rfl, rfl⟩
  | 7 => go_enter Tryd.func151, Tryd.ntmps151; go_wp2; go_ret2; exact ⟨rfl, rfl⟩
  | 8 => go_enter Tryd.func151, Tryd.ntmps151; go_wp2; go_ret2; exact ⟨rfl, rfl⟩
  | 9 => go_enter Tryd.func151, Tryd.ntmps151; go_wp2; go_ret2; exact ⟨rfl, rfl⟩
  | 10 => go_enter Tryd.func151, Tryd.ntmps151; go_wp2; go_ret2; exact ⟨rfl, rfl⟩
  | n + 11 =>
    generalize hm : n + 11 = m
    have h11 : (11 : Int) ≤ (m : Int) := by omega
    have hm1 : monA m = ⟨#[68, 69, 67]⟩ := by rw [← hm]; rfl
    have hm2 : lenN m = 31 := by rw [← hm]; rfl
    rw [hm1, hm2]
    clear hm hm1 hm2
    go_enter Tryd.func151, Tryd.ntmps151
    go_wp2
    go_ret2
    exact ⟨rfl, rfl⟩

theorem number_q (s : ByteArray) (w : World) :
    Calls Tryd.prog 178 #[.string s] w fun e w' => e = .returned (.int .i64 (numS s.data.toList)) ∧ ∃ n, w' = w.drewN n := by
  by_cases h : s.size = 2
  · have hne : ((s.size : Int) != 2) = false := by rw [h]; rfl
    have g0 : (0 : Int) < (s.size : Int) := by omega
    have g1 : (1 : Int) < (s.size : Int) := by omega
    have g2 : 0 < s.size := by omega
    have g3 : 1 < s.size := by omega
    have hl : s.data.toList = [s[0], s[1]] := by
      apply List.ext_getElem
      · simpa using h
      · intro i h1 h2
        match i, h2 with
        | 0, _ => rfl
        | 1, _ => rfl
    have e : numS s.data.toList = numS [s[0], s[1]] := by rw [hl]
    generalize ha : s[0] = a at e
    generalize hb : s[1] = b at e
    have HE := Lib.hid e
    clear h hl e
    have a0 := byte_hi a
    have b0 := byte_hi b
    have a1 : (0 : Int) ≤ (a.toNat : Int) := by omega
    have b1 : (0 : Int) ≤ (b.toNat : Int) := by omega
    by_cases hA : 48 ≤ (a.toNat : Int) ∧ (a.toNat : Int) ≤ 57
    · obtain ⟨hA1, hA2⟩ := hA
      by_cases hB : 48 ≤ (b.toNat : Int) ∧ (b.toNat : Int) ≤ 57
      · obtain ⟨hB1, hB2⟩ := hB
        go_enter Tryd.func178, Tryd.ntmps178
        go_wp2
        go_quiet (fail)
        go_wp2
        go_ret
        refine ⟨ret_int ?_, _, rfl⟩
        rw [HE.out, numS_two, if_pos (by simp [isD]; omega)]
      · have hB1 : ¬ ((b.toNat : Int) - 48) % 256 ≤ 9 := by omega
        have hB2 : 9 < ((b.toNat : Int) - 48) % 256 := by omega
        go_enter Tryd.func178, Tryd.ntmps178
        go_wp2
        go_ret
        exact ⟨ret_int (by rw [HE.out, numS_two, if_neg (by simp [isD]; omega)]), 0, rfl⟩
    · have hA2 : 9 < ((a.toNat : Int) - 48) % 256 := by omega
      go_enter Tryd.func178, Tryd.ntmps178
      go_wp2
      go_ret
      exact ⟨ret_int (by rw [HE.out, numS_two, if_neg (by simp [isD]; omega)]), 0, rfl⟩
  · have hne : ((s.size : Int) != 2) = true := by rw [bne_iff_ne]; omega
    have e : numS s.data.toList = -1 := by
      match hl : s.data.toList with
      | [] => rfl
      | [_] => rfl
      | [_, _] => exact absurd (by have : s.data.toList.length = s.size := by simp
                                   rw [hl] at this; simpa using this.symm) h
      | _ :: _ :: _ :: _ => rfl
    have HE := Lib.hid e
    clear h e
    go_enter Tryd.func178, Tryd.ntmps178
    go_wp2
    go_ret
    exact ⟨ret_int HE.out.symm, 0, rfl⟩

theorem number_any (s : ByteArray) (w : World) :
    Calls Tryd.prog 178 #[.string s] w fun e w' => e = .returned (.int .i64 (numS s.data.toList)) ∧ Below w.heap.size w w' :=
  (number_q s w).mono fun _ _ ⟨h, n, hn⟩ => ⟨h, by subst hn; exact below_drewN (Below.refl _ _) _⟩

theorem numS_hi (l : List UInt8) : numS l ≤ 99 ∧ -1 ≤ numS l := by
  unfold numS
  split
  · next a b =>
    split
    · next hd =>
      simp only [isD, Bool.and_eq_true, decide_eq_true_eq] at hd
      omega
    · omega
  · omega

def lensV : Array Value := #[.int .i64 31, .int .i64 29, .int .i64 31, .int .i64 30, .int .i64 31, .int .i64 30, .int .i64 31, .int .i64 31, .int .i64 30, .int .i64 31, .int .i64 30, .int .i64 31]

theorem lensV_at : ∀ m, m < 12 → lensV[m]? = some (.int .i64 (lenN m)) := by
  intro m h
  match m, h with
  | 0, _ => rfl
  | 1, _ => rfl
  | 2, _ => rfl
  | 3, _ => rfl
  | 4, _ => rfl
  | 5, _ => rfl
  | 6, _ => rfl
  | 7, _ => rfl
  | 8, _ => rfl
  | 9, _ => rfl
  | 10, _ => rfl
  | 11, _ => rfl

/-- The table of the months' lengths lies where it lay. -/
def LenTab (w : World) : Prop := ∃ t fr, w.heap[0]? = some (.cells lensV t fr)

theorem LenTab.pos {w : World} (h : LenTab w) : 0 < w.heap.size := by
  obtain ⟨t, fr, h⟩ := h
  rcases Nat.lt_or_ge 0 w.heap.size with h1 | h1
  · exact h1
  · rw [Array.getElem?_eq_none h1] at h
    cases h

theorem LenTab.keep {w w' : World} (h : LenTab w) (hb : Below w.heap.size w w') : LenTab w' := by
  have hp := h.pos
  obtain ⟨t, fr, h⟩ := h
  exact ⟨t, fr, (hb.block _ hp).trans h⟩

theorem LenTab.cell {w : World} (h : LenTab w) (m : Nat) (hm : m < 12) : w.cell? ⟨0, m, none⟩ = some (.int .i64 (lenN m)) := by
  obtain ⟨t, fr, h⟩ := h
  rw [cell_of_row w _ m lensV t fr h]
  exact lensV_at m hm

theorem monGo_ge : ∀ f m d, m ≤ (monGo f m d).1 := by
  intro f
  induction f with
  | zero => intro m d; exact Nat.le_refl _
  | succ f ih =>
    intro m d
    rw [monGo]
    split
    · exact Nat.le_trans (Nat.le_succ m) (ih _ _)
    · exact Nat.le_refl _

theorem monGo_more {m d D : Nat} (hm : m < 12) (h : monGo (12 - m) m d = (monOf D, dayOf D)) (hl : lenN m ≤ d) : monGo (12 - (m + 1)) (m + 1) (d - lenN m) = (monOf D, dayOf D) := by
  rw [show 12 - m = (12 - (m + 1)) + 1 by omega, monGo, if_pos hl] at h
  exact h

theorem monGo_done {m d D : Nat} (hm : m < 12) (h : monGo (12 - m) m d = (monOf D, dayOf D)) (hl : ¬ lenN m ≤ d) : m = monOf D ∧ d = dayOf D := by
  rw [show 12 - m = (12 - (m + 1)) + 1 by omega, monGo, if_neg hl] at h
  exact Prod.mk.inj h

def months : ByteArray := ⟨#[74, 65, 78, 70, 69, 66, 77, 65, 82, 65, 80, 82, 77, 65, 89, 74, 85, 78, 74, 85, 76, 65, 85, 71, 83, 69, 80, 79, 67, 84, 78, 79, 86, 68, 69, 67]⟩

theorem months_cut : ∀ m, m < 12 → months.extract (3 * m) (3 * m + 3) = monA m := by decide +kernel

theorem text_any (D : Nat) (w : World) (h : D < 366) (ht : LenTab w) :
    Calls Tryd.prog 147 #[.int .i64 D] w fun e w' => e = .returned (.tuple #[.string (twoA (dayOf D + 1) ++ monA (monOf D)), .int .i64 0]) ∧ Below w.heap.size w w' := by
  obtain ⟨f1, f2, _, _⟩ := day_facts D h
  have l1 := (len_facts (monOf D) f1).2.1
  go_enter Tryd.func147, Tryd.ntmps147
  go_wp2
  go_loop [0, 4] (fun x i => ∃ m d : Nat, i = .int .i64 m ∧ x = .int .i64 d ∧ d < 366 ∧ m ≤ monOf D ∧ monGo (12 - m) m d = (monOf D, dayOf D)) (fun _ i => 12 - (intOf i).toNat)
  case atStart => exact ⟨0, D, rfl, rfl, h, Nat.zero_le _, rfl⟩
  case round =>
    obtain ⟨m, d, rfl, rfl, hd, hm, hgo⟩ := hrel
    have hm12 : m < 12 := by omega
    have hc := ht.cell m hm12
    have HG := Lib.hid hgo
    have hll := len_facts m hm12
    clear hgo
    by_cases hl : lenN m ≤ d
    · have hg := monGo_more hm12 HG.out hl
      have hge := monGo_ge (12 - (m + 1)) (m + 1) (d - lenN m)
      rw [hg] at hge
      have hge2 : m + 1 ≤ monOf D := hge
      have HG2 := Lib.hid hg
      clear hg hge ht
      generalize lenN m = L at hc hl hll HG2
      obtain ⟨a1, a2, _, _⟩ := hll
      go_wp2
      go_round
      case rel => exact ⟨m + 1, d - L, by go_num, by go_num, by omega, by omega, HG2.out⟩
      case measure => simp [intOf]; omega
    · obtain ⟨rfl, rfl⟩ := monGo_done hm12 HG.out hl
      have hcut := months_cut (monOf D) hm12
      unfold months at hcut
      generalize hM : monOf D = m at *
      generalize hD : dayOf D = d at *
      have HM := Lib.hid hM
      have HD := Lib.hid hD
      clear ht hM hD
      go_wp2_with fail
      have q1 : IntKind.i64.wrap ((d : Int) + 1) = (d : Int) + 1 := IntWalk.i64_in _ (by omega)
      have q2 : IntKind.i64.wrap (3 * (m : Int)) = 3 * (m : Int) := IntWalk.i64_in _ (by omega)
      have q3 : IntKind.i64.wrap (3 * (m : Int) + 3) = 3 * (m : Int) + 3 := IntWalk.i64_in _ (by omega)
      have q4 : (3 * (m : Int)).toNat = 3 * m := by omega
      have q5 : (3 * (m : Int) + 3).toNat = 3 * m + 3 := by omega
      have q6 : (0 : Int) ≤ 3 * (m : Int) := by omega
      have q7 : 3 * (m : Int) + 3 ≤ 36 := by omega
      have q8 := monA_size m
      have q9 := twoA_size (d + 1)
      have q10 : ((d : Int) + 1).toNat = d + 1 := by omega
      go_region_with (go_at_call 184; refine (two_any ((d : Int) + 1) _ (by omega) (by omega)).mono ?_; rw [q10]; rintro e w1 ⟨rfl, hb⟩)
      all_goals clear q1 q2 q3 q4 q5 q6 q7 q8 q9
      all_goals go_wp2
      all_goals go_ret2
      all_goals refine ⟨?_, ((Below.refl _ _).drew).trans hb⟩
      all_goals rw [HM.out, HD.out]
      all_goals rfl

theorem text_no (n : Int) (w : World) (h : n < 0 ∨ 366 ≤ n) :
    Calls Tryd.prog 147 #[.int .i64 n] w fun e w' => e = .returned (.tuple #[.string ⟨#[]⟩, .int .i64 1]) ∧ Below w.heap.size w w' := by
  rcases h with h | h
  · go_enter Tryd.func147, Tryd.ntmps147
    go_wp2
    go_ret2
    exact ⟨rfl, Below.refl _ _⟩
  · have h2 : ¬ n < 0 := by omega
    go_enter Tryd.func147, Tryd.ntmps147
    go_wp2
    go_ret2
    exact ⟨rfl, Below.refl _ _⟩

theorem rtext_no (n : Int) (w : World) (h : n < 0 ∨ 366 ≤ n) :
    Calls Tryd.prog 69 #[.int .i64 n] w fun e w' => e = .returned (.tuple #[.string ⟨#[]⟩, .int .i64 1]) ∧ Below w.heap.size w w' := by
  rcases h with h | h
  · go_enter Tryd.func69, Tryd.ntmps69
    go_wp2
    go_ret2
    exact ⟨rfl, Below.refl _ _⟩
  · have h2 : ¬ n < 0 := by omega
    go_enter Tryd.func69, Tryd.ntmps69
    go_wp2
    go_ret2
    exact ⟨rfl, Below.refl _ _⟩

theorem clock_no (n : Int) (w : World) (h : n < 0 ∨ 1440 ≤ n) :
    Calls Tryd.prog 148 #[.int .i64 n] w fun e w' => e = .returned (.tuple #[.string ⟨#[]⟩, .int .i64 1]) ∧ Below w.heap.size w w' := by
  rcases h with h | h
  · go_enter Tryd.func148, Tryd.ntmps148
    go_wp2
    go_ret2
    exact ⟨rfl, Below.refl _ _⟩
  · have h2 : ¬ n < 0 := by omega
    go_enter Tryd.func148, Tryd.ntmps148
    go_wp2
    go_ret2
    exact ⟨rfl, Below.refl _ _⟩

theorem rclock_no (n : Int) (w : World) (h : n < 0 ∨ 1440 ≤ n) :
    Calls Tryd.prog 70 #[.int .i64 n] w fun e w' => e = .returned (.tuple #[.string ⟨#[]⟩, .int .i64 1]) ∧ Below w.heap.size w w' := by
  rcases h with h | h
  · go_enter Tryd.func70, Tryd.ntmps70
    go_wp2
    go_ret2
    exact ⟨rfl, Below.refl _ _⟩
  · have h2 : ¬ n < 0 := by omega
    go_enter Tryd.func70, Tryd.ntmps70
    go_wp2
    go_ret2
    exact ⟨rfl, Below.refl _ _⟩

theorem clock_any (t : Nat) (w : World) (h : t < 1440) :
    Calls Tryd.prog 148 #[.int .i64 t] w fun e w' => e = .returned (.tuple #[.string (twoA (t / 60) ++ twoA (t % 60)), .int .i64 0]) ∧ Below w.heap.size w w' := by
  have e1 : ((t : Int) / 60).toNat = t / 60 := by omega
  have e2 : ((t : Int) % 60).toNat = t % 60 := by omega
  have z1 := twoA_size (t / 60)
  have z2 := twoA_size (t % 60)
  have hb := Below.refl w.heap.size w
  have c1 : ∀ W : World, Calls Tryd.prog 184 #[.int .i64 ((t : Int) / 60)] W fun e w' => e = .returned (.string (twoA (t / 60))) ∧ Below W.heap.size W w' := fun W => by
    have h0 := two_any ((t : Int) / 60) W (by omega) (by omega)
    rw [e1] at h0; exact h0
  have c2 : ∀ W : World, Calls Tryd.prog 184 #[.int .i64 ((t : Int) % 60)] W fun e w' => e = .returned (.string (twoA (t % 60))) ∧ Below W.heap.size W w' := fun W => by
    have h0 := two_any ((t : Int) % 60) W (by omega) (by omega)
    rw [e2] at h0; exact h0
  have C1 := Lib.hid c1
  have C2 := Lib.hid c2
  clear c1 c2 e1 e2
  go_enter Tryd.func148, Tryd.ntmps148
  go_wp2_with (first
    | (go_at_call 184; (with_reducible refine (C1.out _).mono ?_); rintro e w1 ⟨rfl, hb1⟩; replace hb := bel_trans hb hb1; clear hb1)
    | (go_at_call 184; (with_reducible refine (C2.out _).mono ?_); rintro e w1 ⟨rfl, hb1⟩; replace hb := bel_trans hb hb1; clear hb1))
  go_ret2
  exact ⟨rfl, hb⟩

theorem rclock_any (t : Nat) (w : World) (h : t < 1440) :
    Calls Tryd.prog 70 #[.int .i64 t] w fun e w' => e = .returned (.tuple #[.string (twoA (t / 60) ++ twoA (t % 60)), .int .i64 0]) ∧ Below w.heap.size w w' := by
  have e1 : ((t : Int) / 60).toNat = t / 60 := by omega
  have e2 : ((t : Int) - (t : Int) / 60 * 60).toNat = t % 60 := by omega
  have z1 := twoA_size (t / 60)
  have z2 := twoA_size (t % 60)
  have hb := Below.refl w.heap.size w
  have c1 : ∀ W : World, Calls Tryd.prog 152 #[.int .i64 ((t : Int) / 60)] W fun e w' => e = .returned (.string (twoA (t / 60))) ∧ Below W.heap.size W w' := fun W => by
    have h0 := rtwo_any ((t : Int) / 60) W (by omega) (by omega)
    rw [e1] at h0; exact h0
  have c2 : ∀ W : World, Calls Tryd.prog 152 #[.int .i64 ((t : Int) - (t : Int) / 60 * 60)] W fun e w' => e = .returned (.string (twoA (t % 60))) ∧ Below W.heap.size W w' := fun W => by
    have h0 := rtwo_any ((t : Int) - (t : Int) / 60 * 60) W (by omega) (by omega)
    rw [e2] at h0; exact h0
  have C1 := Lib.hid c1
  have C2 := Lib.hid c2
  clear c1 c2 e1 e2
  go_enter Tryd.func70, Tryd.ntmps70
  go_wp2_with (first
    | (go_at_call 152; (with_reducible refine (C1.out _).mono ?_); rintro e w1 ⟨rfl, hb1⟩; replace hb := bel_trans hb hb1; clear hb1)
    | (go_at_call 152; (with_reducible refine (C2.out _).mono ?_); rintro e w1 ⟨rfl, hb1⟩; replace hb := bel_trans hb hb1; clear hb1))
  go_ret2
  exact ⟨rfl, hb⟩

/-- The weekday of any number. -/
def wday (n : Int) : Int := if 0 ≤ n ∧ n < 366 then n % 7 + 1 else 0

theorem week_any (n : Int) (w : World) :
    Calls Tryd.prog 187 #[.int .i64 n] w fun e w' => e = .returned (.int .i64 (wday n)) ∧ w = w' := by
  by_cases h1 : n < 0
  · go_enter Tryd.func187, Tryd.ntmps187
    go_wp2
    go_ret
    exact ⟨ret_int (by unfold wday; rw [if_neg (by omega)]), rfl⟩
  by_cases h2 : 366 ≤ n
  · go_enter Tryd.func187, Tryd.ntmps187
    go_wp2
    go_ret
    exact ⟨ret_int (by unfold wday; rw [if_neg (by omega)]), rfl⟩
  go_enter Tryd.func187, Tryd.ntmps187
  go_wp2
  go_ret
  exact ⟨ret_int (by unfold wday; rw [if_pos (by omega)]), rfl⟩

theorem join_yes (d m : Int) (w : World) (h1 : 0 ≤ d) (h2 : d < 366) (h3 : 0 ≤ m) (h4 : m < 1440) :
    Calls Tryd.prog 89 #[.int .i64 d, .int .i64 m] w fun e w' => e = .returned (.tuple #[.int .i64 (d * 1440 + m), .int .i64 0]) ∧ w = w' := by
  go_enter Tryd.func89, Tryd.ntmps89
  go_wp2
  go_ret2
  exact ⟨rfl, rfl⟩

theorem rjoin_yes (d m : Int) (w : World) (h1 : 0 ≤ d) (h2 : d < 366) (h3 : 0 ≤ m) (h4 : m < 1440) :
    Calls Tryd.prog 166 #[.int .i64 d, .int .i64 m] w fun e w' => e = .returned (.tuple #[.int .i64 (d * 1440 + m), .int .i64 0]) ∧ w = w' := by
  go_enter Tryd.func166, Tryd.ntmps166
  go_wp2
  go_ret2
  exact ⟨rfl, rfl⟩

theorem join_no (d m : Int) (w : World) (h : d < 0 ∨ 366 ≤ d ∨ m < 0 ∨ 1440 ≤ m) :
    Calls Tryd.prog 89 #[.int .i64 d, .int .i64 m] w fun e w' => e = .returned (.tuple #[.int .i64 0, .int .i64 1]) ∧ w = w' := by
  by_cases h1 : d < 0
  · go_enter Tryd.func89, Tryd.ntmps89; go_wp2; go_ret2; exact ⟨rfl, rfl⟩
  by_cases h2 : 366 ≤ d
  · go_enter Tryd.func89, Tryd.ntmps89; go_wp2; go_ret2; exact ⟨rfl, rfl⟩
  by_cases h3 : m < 0
  · go_enter Tryd.func89, Tryd.ntmps89; go_wp2; go_ret2; exact ⟨rfl, rfl⟩
  have h4 : 1440 ≤ m := by omega
  clear h
  go_enter Tryd.func89, Tryd.ntmps89; go_wp2; go_ret2; exact ⟨rfl, rfl⟩

theorem rjoin_no (d m : Int) (w : World) (h : d < 0 ∨ 366 ≤ d ∨ m < 0 ∨ 1440 ≤ m) :
    Calls Tryd.prog 166 #[.int .i64 d, .int .i64 m] w fun e w' => e = .returned (.tuple #[.int .i64 0, .int .i64 1]) ∧ w = w' := by
  by_cases h1 : d < 0
  · go_enter Tryd.func166, Tryd.ntmps166; go_wp2; go_ret2; exact ⟨rfl, rfl⟩
  by_cases h2 : 366 ≤ d
  · go_enter Tryd.func166, Tryd.ntmps166; go_wp2; go_ret2; exact ⟨rfl, rfl⟩
  by_cases h3 : m < 0
  · go_enter Tryd.func166, Tryd.ntmps166; go_wp2; go_ret2; exact ⟨rfl, rfl⟩
  have h4 : 1440 ≤ m := by omega
  clear h
  go_enter Tryd.func166, Tryd.ntmps166; go_wp2; go_ret2; exact ⟨rfl, rfl⟩

theorem split_yes (n : Int) (w : World) (h1 : 0 ≤ n) (h2 : n < 527040) :
    Calls Tryd.prog 52 #[.int .i64 n] w fun e w' => e = .returned (.tuple #[.int .i64 (n / 1440), .int .i64 (n % 1440), .int .i64 0]) ∧ w = w' := by
  go_enter Tryd.func52, Tryd.ntmps52
  go_wp2
  go_ret3
  exact ⟨rfl, rfl⟩

theorem split_no (n : Int) (w : World) (h : n < 0 ∨ 527040 ≤ n) :
    Calls Tryd.prog 52 #[.int .i64 n] w fun e w' => e = .returned (.tuple #[.int .i64 0, .int .i64 0, .int .i64 1]) ∧ w = w' := by
  rcases h with h | h
  · go_enter Tryd.func52, Tryd.ntmps52; go_wp2; go_ret3; exact ⟨rfl, rfl⟩
  · have h2 : ¬ n < 0 := by omega
    go_enter Tryd.func52, Tryd.ntmps52; go_wp2; go_ret3; exact ⟨rfl, rfl⟩

theorem start_succ (m : Nat) : startN (m + 1) = startN m + lenN m := rfl

theorem start_12 : startN 12 = 366 := by decide

set_option maxHeartbeats 1000000 in
theorem rtext_any (D : Nat) (w : World) (h : D < 366) :
    Calls Tryd.prog 69 #[.int .i64 D] w fun e w' => e = .returned (.tuple #[.string (twoA (dayOf D + 1) ++ monA (monOf D)), .int .i64 0]) ∧ Below w.heap.size w w' := by
  go_enter Tryd.func69, Tryd.ntmps69
  go_wp2
  go_loop [4, 5] (fun n i => ∃ m : Nat, m ≤ 12 ∧ i = .int .i64 m ∧ n = .int .i64 (startN m) ∧ startN m ≤ D) (fun _ i => 12 - (intOf i).toNat)
  case atStart => exact ⟨0, by omega, rfl, rfl, Nat.zero_le _⟩
  case round =>
    obtain ⟨m, hm, rfl, rfl, hs⟩ := hrel
    have hm12 : m < 12 := by
      rcases Nat.lt_or_ge m 12 with h1 | h1
      · exact h1
      · have : m = 12 := by omega
        subst this
        rw [start_12] at hs
        omega
    obtain ⟨l1, l2, l3, l4⟩ := len_facts m hm12
    go_wp2_with (go_at_call 151; refine (month_any m _).mono ?_; rintro e w1 ⟨rfl, rfl⟩)
    go_loop [4, 8] (fun n i => ∃ k : Nat, 1 ≤ k ∧ k ≤ lenN m + 1 ∧ i = .int .i64 k ∧ n = .int .i64 ((startN m + (k - 1) : Nat) : Int) ∧ startN m + (k - 1) ≤ D) (fun _ i => lenN m + 1 - (intOf i).toNat)
    case atStart => exact ⟨1, by omega, by omega, rfl, rfl, hs⟩
    case round =>
      obtain ⟨k, hk1, hk2, rfl, rfl, hkD⟩ := hrel
      by_cases hlt : k ≤ lenN m
      · by_cases heq : startN m + (k - 1) = D
        · obtain ⟨f1, f2, f3⟩ := mon_facts m hm12 (k - 1) (by omega)
          rw [heq] at f2 f3
          have hq : (((startN m + (k - 1) : Nat) : Int) == (D : Int)) = true := by rw [heq]; simp
          have e1 : ((k : Int)).toNat = dayOf D + 1 := by omega
          have c1 : ∀ W : World, Calls Tryd.prog 152 #[.int .i64 (k : Int)] W fun e w' => e = .returned (.string (twoA (dayOf D + 1))) ∧ Below W.heap.size W w' := fun W => by
            have h0 := rtwo_any (k : Int) W (by omega) (by omega)
            rw [e1] at h0; exact h0
          have z1 := twoA_size (dayOf D + 1)
          have z2 := monA_size m
          have C1 := Lib.hid c1
          have F2 := Lib.hid f2
          generalize startN m + (k - 1) = x at hq
          clear c1 e1 f2 f3 heq f1
          go_wp2_with (go_at_call 152; (with_reducible refine (C1.out _).mono ?_); rintro e w1 ⟨rfl, hb⟩)
          go_ret2
          exact ⟨by rw [F2.out]; rfl, hb⟩
        · have hq : (((startN m + (k - 1) : Nat) : Int) == (D : Int)) = false := by rw [beq_eq_false_iff_ne]; omega
          have hx : startN m + (k - 1) + 1 = startN m + (k + 1 - 1) := by omega
          have hxl : startN m + (k - 1) < D := by omega
          have hxs : startN m + (k - 1) < 400 := by omega
          have HX := Lib.hid hx
          clear hx heq hkD
          generalize startN m + (k - 1) = x at hq HX hxl hxs ⊢
          go_wp2
          go_round
          case rel => exact ⟨k + 1, by omega, by omega, by go_num, by rw [← HX.out]; go_num, by rw [← HX.out]; omega⟩
          case measure => simp [intOf]; omega
      · have hx : startN m + (k - 1) = startN (m + 1) := by rw [start_succ]; omega
        rw [hx] at hkD ⊢
        clear hx
        go_wp2
        go_round
        case rel => exact ⟨m + 1, by omega, by go_num, rfl, hkD⟩
        case measure => simp [intOf]; omega

theorem lens_i0 (w : World) : (Instr.index 212 (.agg lensV) (.int .i64 0)).run Tryd.prog w = .ok (.int .i64 31) w := by kernel_rfl

theorem lens_i1 (w : World) : (Instr.index 212 (.agg lensV) (.int .i64 1)).run Tryd.prog w = .ok (.int .i64 29) w := by kernel_rfl

theorem lens_i2 (w : World) : (Instr.index 212 (.agg lensV) (.int .i64 2)).run Tryd.prog w = .ok (.int .i64 31) w := by kernel_rfl

theorem lens_i3 (w : World) : (Instr.index 212 (.agg lensV) (.int .i64 3)).run Tryd.prog w = .ok (.int .i64 30) w := by kernel_rfl

theorem lens_i4 (w : World) : (Instr.index 212 (.agg lensV) (.int .i64 4)).run Tryd.prog w = .ok (.int .i64 31) w := by kernel_rfl

theorem lens_i5 (w : World) : (Instr.index 212 (.agg lensV) (.int .i64 5)).run Tryd.prog w = .ok (.int .i64 30) w := by kernel_rfl

theorem lens_i6 (w : World) : (Instr.index 212 (.agg lensV) (.int .i64 6)).run Tryd.prog w = .ok (.int .i64 31) w := by kernel_rfl

theorem lens_i7 (w : World) : (Instr.index 212 (.agg lensV) (.int .i64 7)).run Tryd.prog w = .ok (.int .i64 31) w := by kernel_rfl

theorem lens_i8 (w : World) : (Instr.index 212 (.agg lensV) (.int .i64 8)).run Tryd.prog w = .ok (.int .i64 30) w := by kernel_rfl

theorem lens_i9 (w : World) : (Instr.index 212 (.agg lensV) (.int .i64 9)).run Tryd.prog w = .ok (.int .i64 31) w := by kernel_rfl

theorem lens_i10 (w : World) : (Instr.index 212 (.agg lensV) (.int .i64 10)).run Tryd.prog w = .ok (.int .i64 30) w := by kernel_rfl

theorem lens_i11 (w : World) : (Instr.index 212 (.agg lensV) (.int .i64 11)).run Tryd.prog w = .ok (.int .i64 31) w := by kernel_rfl

theorem lens_index (m : Nat) (hm : m < 12) (w : World) : (Instr.index 212 (.agg lensV) (.int .i64 m)).run Tryd.prog w = .ok (.int .i64 (lenN m)) w := by
  match m, hm with
  | 0, _ => exact lens_i0 w
  | 1, _ => exact lens_i1 w
  | 2, _ => exact lens_i2 w
  | 3, _ => exact lens_i3 w
  | 4, _ => exact lens_i4 w
  | 5, _ => exact lens_i5 w
  | 6, _ => exact lens_i6 w
  | 7, _ => exact lens_i7 w
  | 8, _ => exact lens_i8 w
  | 9, _ => exact lens_i9 w
  | 10, _ => exact lens_i10 w
  | 11, _ => exact lens_i11 w

theorem monFind_hit {m : Nat} {l : List UInt8} (hm : m < 12) (h : l = monL m) : monFind (12 - m) m l = some m := by
  rw [show 12 - m = (12 - (m + 1)) + 1 by omega, monFind, if_pos h]

theorem monFind_miss {m : Nat} {l : List UInt8} (hm : m < 12) (h : ¬ l = monL m) : monFind (12 - m) m l = monFind (12 - (m + 1)) (m + 1) l := by
  rw [show 12 - m = (12 - (m + 1)) + 1 by omega, monFind, if_neg h]

def optI (o : Option Nat) : Int := match o with
  | some d => (d : Int)
  | none => 0

set_option maxHeartbeats 4000000 in
theorem read_any (s : ByteArray) (w : World) (ht : LenTab w) :
    Calls Tryd.prog 175 #[.string s] w fun e w' => e = .returned (.tuple #[.int .i64 (optI (readS s.data.toList)), .bool (readS s.data.toList).isSome]) ∧ Below w.heap.size w w' := by
  have hlen : s.data.toList.length = s.size := by simp
  by_cases h5 : s.size = 5
  · have hne : ((s.size : Int) != 5) = false := by rw [h5]; rfl
    have e : readS s.data.toList = readM (monFind 12 0 (s.extract 2 s.size).data.toList) (numS (s.extract 0 2).data.toList) := by
      have h1 : (s.extract 2 s.size).data.toList = s.data.toList.drop 2 := by
        simp
        exact List.take_of_length_le (by simp)
      have h2 : (s.extract 0 2).data.toList = s.data.toList.take 2 := by simp
      rw [h1, h2]
      unfold readS
      rw [if_pos (by rw [hlen, h5])]
    have hnum := fun W => number_any (s.extract 0 2) W
    have hz : (s.extract 2 s.size).size = s.size - 2 := by simp
    rw [e]
    clear e
    have hn100 : numS (s.extract 0 2).data.toList ≤ 3000 ∧ -1 ≤ numS (s.extract 0 2).data.toList := by
      generalize (s.extract 0 2).data.toList = l
      unfold numS
      split
      · next a b =>
        have := byte_hi a; have := byte_hi b
        split
        · next hd =>
          simp only [isD, Bool.and_eq_true, decide_eq_true_eq] at hd
          omega
        · omega
      · omega
    generalize numS (s.extract 0 2).data.toList = x at hnum hn100 ⊢
    obtain ⟨hx1, hx2⟩ := hn100
    have g5 : (2 : Int) ≤ (s.size : Int) := by omega
    have g6 : 2 ≤ s.size := by omega
    have hgf : ∀ w1 : World, Below w.heap.size w w1 → ∃ tt fr, w1.heap[0]? = some (.cells lensV tt fr) := fun w1 hb => ht.keep hb
    have H5 := Lib.hid h5
    have HL := Lib.hid hlen
    have HN := Lib.hid hnum
    have HZ := Lib.hid hz
    have HG := Lib.hid hgf
    clear h5 hlen hnum hz hgf ht
    go_enter Tryd.func175, Tryd.ntmps175
    go_wp2_with (first
      | (go_at_call 178; refine (HN.out _).mono ?_; rintro e w1 ⟨rfl, hb⟩; obtain ⟨tt, fr, hg1⟩ := HG.out w1 hb)
      | (refine wpList_load_row rfl 212 _ rfl 0 rfl tt _ fr _ hg1 Tryd.underlying212 rfl (by kernel_rfl) ?_))
    go_loopw [5, 15] (fun y i wr => ∃ m : Nat, m ≤ 12 ∧ Below w.heap.size w wr ∧ i = .int .i64 m ∧ y = .int .i64 (startN m) ∧ monFind 12 0 (s.extract 2 s.size).data.toList = monFind (12 - m) m (s.extract 2 s.size).data.toList) (fun _ i _ => 12 - (intOf i).toNat)
    case atStart => exact ⟨0, by omega, hb, rfl, rfl, rfl⟩
    case round =>
      obtain ⟨m, hm, hbr, rfl, rfl, hf⟩ := hrel
      have HF := Lib.hid hf
      clear hf
      by_cases hm12 : m < 12
      · obtain ⟨l1, l2, l3, l4⟩ := len_facts m hm12
        have hix := lens_index m hm12
        have hcut := months_cut m hm12
        unfold months at hcut
        have q2 : IntKind.i64.wrap (3 * (m : Int)) = 3 * (m : Int) := IntWalk.i64_in _ (by omega)
        have q3 : IntKind.i64.wrap (3 * (m : Int) + 3) = 3 * (m : Int) + 3 := IntWalk.i64_in _ (by omega)
        have q4 : (3 * (m : Int)).toNat = 3 * m := by omega
        have q5 : (3 * (m : Int) + 3).toNat = 3 * m + 3 := by omega
        have q6 : (0 : Int) ≤ 3 * (m : Int) := by omega
        have q7 : 3 * (m : Int) + 3 ≤ 36 := by omega
        by_cases hl : (s.extract 2 s.size).data.toList = monL m
        · have hq : ((s.extract 2 s.size).toList == (monA m).toList) = true := by
            rw [ByteArray.toList_eq, ByteArray.toList_eq, hl, monA_list]; simp
          have hr : readM (monFind 12 0 (s.extract 2 s.size).data.toList) x = if 1 ≤ x ∧ x ≤ lenN m then some (startN m + x.toNat - 1) else none := by rw [HF.out, monFind_hit hm12 hl]; rfl
          have HR := Lib.hid hr
          clear hl hr
          by_cases hx3 : x < 1
          · go_wp2_with fail
            go_quiet (fail)
            clear q2 q3 q4 q5 q6 q7
            go_wp2
            go_ret2
            exact ⟨by rw [HR.out, if_neg (by omega)]; rfl, below_drewN hbr _⟩
          · by_cases hx4 : (lenN m : Int) < x
            · go_wp2_with fail
              go_quiet (fail)
              clear q2 q3 q4 q5 q6 q7
              go_wp2
              go_ret2
              exact ⟨by rw [HR.out, if_neg (by omega)]; rfl, below_drewN hbr _⟩
            · go_wp2_with fail
              go_quiet (fail)
              clear q2 q3 q4 q5 q6 q7
              go_wp2
              go_ret2
              refine ⟨?_, below_drewN hbr _⟩
              rw [HR.out, if_pos (by omega)]
              have e : (startN m : Int) + x - 1 = ((startN m + x.toNat - 1 : Nat) : Int) := by omega
              show Ending.returned (.tuple #[.int .i64 ((startN m : Int) + x - 1), .bool true]) = .returned (.tuple #[.int .i64 ((startN m + x.toNat - 1 : Nat) : Int), .bool true])
              rw [e]
        · have hq : ((s.extract 2 s.size).toList == (monA m).toList) = false := by
            rw [ByteArray.toList_eq, ByteArray.toList_eq, beq_eq_false_iff_ne, monA_list]; exact hl
          have hr := monFind_miss hm12 hl
          have HR := Lib.hid hr
          clear hl hr
          go_wp2_with fail
          go_quiet (fail)
          clear q2 q3 q4 q5 q6 q7
          go_wp2
          go_roundw
          case rel => exact ⟨m + 1, by omega, below_drewN hbr _, by go_num, by rw [start_succ]; go_num, by rw [HF.out, HR.out]⟩
          case measure => simp [intOf]; omega
      · have hr : readM (monFind 12 0 (s.extract 2 s.size).data.toList) x = none := by rw [HF.out, show m = 12 by omega]; rfl
        have HR := Lib.hid hr
        clear hr
        go_wp2
        go_ret2
        exact ⟨by rw [HR.out]; rfl, hbr⟩
  · have hne : ((s.size : Int) != 5) = true := by rw [bne_iff_ne]; omega
    have e : readS s.data.toList = none := by unfold readS; rw [if_neg (by rw [hlen]; exact h5)]
    have E := Lib.hid e
    clear e h5 hlen
    go_enter Tryd.func175, Tryd.ntmps175
    go_wp2
    go_ret2
    exact ⟨by rw [E.out]; rfl, Below.refl _ _⟩

theorem dtxt_at {m k : Nat} (hm : m < 12) (hk1 : 1 ≤ k) (hk2 : k ≤ lenN m) : dtxt (startN m + (k - 1)) = two k ++ monL m := by
  obtain ⟨f1, f2, f3⟩ := mon_facts m hm (k - 1) (by omega)
  unfold dtxt
  rw [f2, f3, show k - 1 + 1 = k by omega]

theorem dtxt_len (d : Nat) : (dtxt d).length = 5 := by
  unfold dtxt
  rw [List.length_append]
  have : (monL (monOf d)).length = 3 := by unfold monL; split <;> rfl
  rw [this]; rfl

theorem read_none {l : List UInt8} (h : ∀ d, d < 366 → dtxt d ≠ l) : readS l = none := by
  cases hr : readS l with
  | none => rfl
  | some d => exact absurd (read_only hr).2 (h d (read_only hr).1)

theorem read_some {l : List UInt8} {d : Nat} (hd : d < 366) (h : dtxt d = l) : readS l = some d := by rw [← h]; exact (day_facts d hd).2.2.2

theorem take_drop_eq {l a b : List UInt8} (ha : a.length = 2) : (a ++ b = l) ↔ (l.take 2 = a ∧ l.drop 2 = b) := by
  constructor
  · intro h; subst h; rw [← ha]; simp
  · intro ⟨h1, h2⟩; rw [← h1, ← h2, List.take_append_drop]

set_option maxHeartbeats 4000000 in
theorem rread_any (s : ByteArray) (w : World) :
    Calls Tryd.prog 183 #[.string s] w fun e w' => e = .returned (.tuple #[.int .i64 (optI (readS s.data.toList)), .bool (readS s.data.toList).isSome]) ∧ Below w.heap.size w w' := by
  have hlen : s.data.toList.length = s.size := by simp
  have h1 : s.size = 5 → (s.extract 2 s.size).data.toList = s.data.toList.drop 2 := by
    intro _
    simp
    exact List.take_of_length_le (by simp)
  have h2 : (s.extract 0 2).data.toList = s.data.toList.take 2 := by simp
  have H1 := Lib.hid h1
  have H2 := Lib.hid h2
  have HL := Lib.hid hlen
  clear h1 h2 hlen
  go_enter Tryd.func183, Tryd.ntmps183
  go_wp2
  go_loopw [4, 5] (fun n i wr => ∃ m : Nat, m ≤ 12 ∧ Below w.heap.size w wr ∧ i = .int .i64 m ∧ n = .int .i64 (startN m) ∧ ∀ d, d < startN m → dtxt d ≠ s.data.toList) (fun _ i _ => 12 - (intOf i).toNat)
  case atStart => exact ⟨0, by omega, Below.refl _ _, rfl, rfl, fun d hd => absurd hd (Nat.not_lt_zero d)⟩
  case round =>
    obtain ⟨m, hm, hb, rfl, rfl, hno⟩ := hrel
    have HNO := Lib.hid hno
    clear hno
    by_cases hm12 : m < 12
    · obtain ⟨l1, l2, l3, l4⟩ := len_facts m hm12
      obtain ⟨wo, rfl⟩ : ∃ wo : World, wo = wr := ⟨_, rfl⟩
      go_wp2_with (go_at_call 151; refine (month_any m _).mono ?_; rintro e w1 ⟨rfl, rfl⟩)
      go_loopw [4, 8] (fun n i wr => ∃ k : Nat, 1 ≤ k ∧ k ≤ lenN m + 1 ∧ Below w.heap.size w wr ∧ i = .int .i64 k ∧ n = .int .i64 ((startN m + (k - 1) : Nat) : Int) ∧ ∀ d, d < startN m + (k - 1) → dtxt d ≠ s.data.toList) (fun _ i _ => lenN m + 1 - (intOf i).toNat)
      case atStart => exact ⟨1, by omega, by omega, hb, rfl, rfl, HNO.out⟩
      case round =>
        obtain ⟨k, hk1, hk2, hbr, rfl, rfl, hno⟩ := hrel
        have HN2 := Lib.hid hno
        clear hno
        by_cases hlt : k ≤ lenN m
        · have hdt := dtxt_at hm12 hk1 hlt
          have hx : startN m + (k - 1) + 1 = startN m + (k + 1 - 1) := by omega
          have hx366 : startN m + (k - 1) < 366 := by omega
          have HX := Lib.hid hx
          have HD := Lib.hid hdt
          clear hx hdt
          generalize startN m + (k - 1) = x at HX HD HN2 hx366 ⊢
          by_cases h5 : s.size = 5
          · have g5 : ((s.size : Int) == 5) = true := by rw [h5]; rfl
            have g6 : (2 : Int) ≤ (s.size : Int) := by omega
            have g7 : 2 ≤ s.size := by omega
            have H5 := Lib.hid h5
            clear h5
            by_cases hn : (s.extract 2 s.size).data.toList = monL m
            · have hq : ((s.extract 2 s.size).toList == (monA m).toList) = true := by
                rw [ByteArray.toList_eq, ByteArray.toList_eq, hn, monA_list]; simp
              have HN := Lib.hid hn
              clear hn
              have e1 : ((k : Int)).toNat = k := by omega
              have c1 : ∀ W : World, Calls Tryd.prog 152 #[.int .i64 (k : Int)] W fun e w' => e = .returned (.string (twoA k)) ∧ Below W.heap.size W w' := fun W => by
                have h0 := rtwo_any (k : Int) W (by omega) (by omega)
                rw [e1] at h0; exact h0
              have C1 := Lib.hid c1
              clear c1 e1
              by_cases ht : (s.extract 0 2).data.toList = two k
              · have hq2 : ((s.extract 0 2).toList == (twoA k).toList) = true := by
                  rw [ByteArray.toList_eq, ByteArray.toList_eq, ht, twoA_list]; simp
                have hr : readS s.data.toList = some x := read_some hx366 (by rw [HD.out]; exact (take_drop_eq rfl).2 ⟨by rw [← H2.out]; exact ht, by rw [← H1.out H5.out]; exact HN.out⟩)
                have HR := Lib.hid hr
                clear hr ht
                go_wp2_with fail
                go_region_held3 (fun _ => True) (trivial) (first | (go_at_call 152; (with_reducible refine (C1.out _).mono ?_); rintro e w1 ⟨rfl, hb1⟩))
                all_goals go_wp2
                all_goals go_ret2
                all_goals exact ⟨by rw [HR.out]; rfl, (hbr.drew).trans (hb1.mono hbr.size)⟩
              · have hq2 : ((s.extract 0 2).toList == (twoA k).toList) = false := by
                  rw [ByteArray.toList_eq, ByteArray.toList_eq, beq_eq_false_iff_ne, twoA_list]; exact ht
                have hr : dtxt x ≠ s.data.toList := by rw [HD.out]; exact fun h => ht (by rw [H2.out]; exact ((take_drop_eq rfl).1 h).1)
                have HR := Lib.hid hr
                clear hr ht
                go_wp2_with fail
                go_region_held3 (fun _ => True) (trivial) (first | (go_at_call 152; (with_reducible refine (C1.out _).mono ?_); rintro e w1 ⟨rfl, hb1⟩))
                all_goals go_wp2
                all_goals go_roundw
                case rel => exact ⟨k + 1, by omega, by omega, (hbr.drew).trans (hb1.mono hbr.size), by go_num, by rw [← HX.out]; go_num, fun d hd => by (have hd2 : d < x + 1 := (by rw [HX.out]; exact hd)); rcases Nat.lt_or_ge d x with h | h; exact HN2.out d h; rw [show d = x by omega]; exact HR.out⟩
                case measure => simp [intOf]; omega
            · have hq : ((s.extract 2 s.size).toList == (monA m).toList) = false := by
                rw [ByteArray.toList_eq, ByteArray.toList_eq, beq_eq_false_iff_ne, monA_list]; exact hn
              have hr : dtxt x ≠ s.data.toList := by rw [HD.out]; exact fun h => hn (by rw [H1.out H5.out]; exact ((take_drop_eq rfl).1 h).2)
              have HR := Lib.hid hr
              clear hr hn
              go_wp2_with fail
              go_quiet (fail)
              go_wp2
              go_roundw
              case rel => exact ⟨k + 1, by omega, by omega, below_drewN hbr _, by go_num, by rw [← HX.out]; go_num, fun d hd => by (have hd2 : d < x + 1 := (by rw [HX.out]; exact hd)); rcases Nat.lt_or_ge d x with h | h; exact HN2.out d h; rw [show d = x by omega]; exact HR.out⟩
              case measure => simp [intOf]; omega
          · have g5 : ((s.size : Int) == 5) = false := by rw [beq_eq_false_iff_ne]; omega
            have hr : dtxt x ≠ s.data.toList := fun h => h5 (by rw [← HL.out, ← h]; exact dtxt_len x)
            have HR := Lib.hid hr
            clear hr h5
            go_wp2_with fail
            go_quiet (fail)
            go_wp2
            go_roundw
            case rel => exact ⟨k + 1, by omega, by omega, below_drewN hbr _, by go_num, by rw [← HX.out]; go_num, fun d hd => by (have hd2 : d < x + 1 := (by rw [HX.out]; exact hd)); rcases Nat.lt_or_ge d x with h | h; exact HN2.out d h; rw [show d = x by omega]; exact HR.out⟩
            case measure => simp [intOf]; omega
        · have hx : startN m + (k - 1) = startN (m + 1) := by rw [start_succ]; omega
          rw [hx] at HN2 ⊢
          clear hx
          go_wp2
          go_roundw
          case rel => exact ⟨m + 1, by omega, hbr, by go_num, rfl, HN2.out⟩
          case measure => simp [intOf]; omega
    · have hr := read_none (l := s.data.toList) (fun d hd => HNO.out d (by rw [show m = 12 by omega, start_12]; exact hd))
      have HR := Lib.hid hr
      clear hr
      go_wp2
      go_ret2
      exact ⟨by rw [HR.out]; rfl, hb⟩

def clk (x y : Int) : Option Nat := if 0 ≤ x ∧ x ≤ 23 ∧ 0 ≤ y ∧ y ≤ 59 then some (x.toNat * 60 + y.toNat) else none

theorem readC_clk {l : List UInt8} (h : l.length = 4) : readC l = clk (numS (l.take 2)) (numS (l.drop 2)) := by
  unfold readC clk
  rw [if_pos h]

set_option maxHeartbeats 1000000 in
theorem readClock_any (s : ByteArray) (w : World) :
    Calls Tryd.prog 136 #[.string s] w fun e w' => e = .returned (.tuple #[.int .i64 (optI (readC s.data.toList)), .bool (readC s.data.toList).isSome]) ∧ Below w.heap.size w w' := by
  have hlen : s.data.toList.length = s.size := by simp
  by_cases h4 : s.size = 4
  · have hne : ((s.size : Int) != 4) = false := by rw [h4]; rfl
    have e : readC s.data.toList = clk (numS (s.extract 0 2).data.toList) (numS (s.extract 2 s.size).data.toList) := by
      have h1 : (s.extract 2 s.size).data.toList = s.data.toList.drop 2 := by
        simp
        exact List.take_of_length_le (by simp)
      have h2 : (s.extract 0 2).data.toList = s.data.toList.take 2 := by simp
      rw [h1, h2]
      exact readC_clk (by rw [hlen, h4])
    have hn1 := fun W => number_q (s.extract 0 2) W
    have hn2 := fun W => number_q (s.extract 2 s.size) W
    rw [e]
    clear e
    obtain ⟨x1, x2⟩ := numS_hi (s.extract 0 2).data.toList
    obtain ⟨y1, y2⟩ := numS_hi (s.extract 2 s.size).data.toList
    generalize numS (s.extract 0 2).data.toList = x at hn1 x1 x2 ⊢
    generalize numS (s.extract 2 s.size).data.toList = y at hn2 y1 y2 ⊢
    have g5 : (2 : Int) ≤ (s.size : Int) := by omega
    have g6 : 2 ≤ s.size := by omega
    have N1 := Lib.hid hn1
    have N2 := Lib.hid hn2
    clear hn1 hn2 h4 hlen
    by_cases hx0 : x < 0
    · have e : clk x y = none := by unfold clk; rw [if_neg (by omega)]
      have E := Lib.hid e
      clear e
      go_enter Tryd.func136, Tryd.ntmps136
      go_wp2_with fail
      go_quiet (first | (go_at_call 178; (with_reducible refine Calls.quiet_of (N1.out _))) | (go_at_call 178; (with_reducible refine Calls.quiet_of (N2.out _))))
      go_wp2
      go_ret2
      exact ⟨by rw [E.out]; rfl, below_drewN (Below.refl _ _) _⟩
    by_cases hx1 : 23 < x
    · have e : clk x y = none := by unfold clk; rw [if_neg (by omega)]
      have E := Lib.hid e
      clear e
      go_enter Tryd.func136, Tryd.ntmps136
      go_wp2_with fail
      go_quiet (first | (go_at_call 178; (with_reducible refine Calls.quiet_of (N1.out _))) | (go_at_call 178; (with_reducible refine Calls.quiet_of (N2.out _))))
      go_wp2
      go_ret2
      exact ⟨by rw [E.out]; rfl, below_drewN (Below.refl _ _) _⟩
    by_cases hy0 : y < 0
    · have e : clk x y = none := by unfold clk; rw [if_neg (by omega)]
      have E := Lib.hid e
      clear e
      go_enter Tryd.func136, Tryd.ntmps136
      go_wp2_with fail
      go_quiet (first | (go_at_call 178; (with_reducible refine Calls.quiet_of (N1.out _))) | (go_at_call 178; (with_reducible refine Calls.quiet_of (N2.out _))))
      go_wp2
      go_ret2
      exact ⟨by rw [E.out]; rfl, below_drewN (Below.refl _ _) _⟩
    by_cases hy1 : 59 < y
    · have e : clk x y = none := by unfold clk; rw [if_neg (by omega)]
      have E := Lib.hid e
      clear e
      go_enter Tryd.func136, Tryd.ntmps136
      go_wp2_with fail
      go_quiet (first | (go_at_call 178; (with_reducible refine Calls.quiet_of (N1.out _))) | (go_at_call 178; (with_reducible refine Calls.quiet_of (N2.out _))))
      go_wp2
      go_ret2
      exact ⟨by rw [E.out]; rfl, below_drewN (Below.refl _ _) _⟩
    have e : clk x y = some (x.toNat * 60 + y.toNat) := by unfold clk; rw [if_pos (by omega)]
    have e2 : x * 60 + y = ((x.toNat * 60 + y.toNat : Nat) : Int) := by omega
    have E := Lib.hid e
    have E2 := Lib.hid e2
    clear e e2
    go_enter Tryd.func136, Tryd.ntmps136
    go_wp2_with fail
    go_quiet (first | (go_at_call 178; (with_reducible refine Calls.quiet_of (N1.out _))) | (go_at_call 178; (with_reducible refine Calls.quiet_of (N2.out _))))
    go_wp2
    go_ret2
    refine ⟨?_, below_drewN (Below.refl _ _) _⟩
    rw [E.out]
    show Ending.returned (.tuple #[.int .i64 (x * 60 + y), .bool true]) = .returned (.tuple #[.int .i64 ((x.toNat * 60 + y.toNat : Nat) : Int), .bool true])
    rw [E2.out]
  · have hne : ((s.size : Int) != 4) = true := by rw [bne_iff_ne]; omega
    have e : readC s.data.toList = none := by unfold readC; rw [if_neg (by rw [hlen]; exact h4)]
    have E := Lib.hid e
    clear e h4 hlen
    go_enter Tryd.func136, Tryd.ntmps136
    go_wp2
    go_ret2
    exact ⟨by rw [E.out]; rfl, Below.refl _ _⟩

theorem ctxt_at {h m : Nat} (hm : m < 60) : ctxt (h * 60 + m) = two h ++ two m := by
  unfold ctxt
  rw [show (h * 60 + m) / 60 = h by omega, show (h * 60 + m) % 60 = m by omega]

theorem ctxt_len (t : Nat) : (ctxt t).length = 4 := rfl

theorem readC_none {l : List UInt8} (h : ∀ t, t < 1440 → ctxt t ≠ l) : readC l = none := by
  cases hr : readC l with
  | none => rfl
  | some d => exact absurd (readC_only hr).2 (h d (readC_only hr).1)

theorem readC_some {l : List UInt8} {t : Nat} (hd : t < 1440) (h : ctxt t = l) : readC l = some t := by rw [← h]; exact clock_facts t hd

theorem skip_hour {l : List UInt8} {h : Nat} (hno : ∀ t, t < h * 60 → ctxt t ≠ l) (hh : l.length ≠ 4 ∨ l.take 2 ≠ two h) : ∀ t, t < (h + 1) * 60 → ctxt t ≠ l := by
  intro t ht
  rcases Nat.lt_or_ge t (h * 60) with h1 | h1
  · exact hno t h1
  · intro he
    rcases hh with hh | hh
    · exact hh (by rw [← he]; rfl)
    · have : ctxt t = two h ++ two (t - h * 60) := by
        rw [show t = h * 60 + (t - h * 60) by omega, ctxt_at (by omega), show h * 60 + (t - h * 60) - h * 60 = t - h * 60 by omega]
      rw [this] at he
      exact hh ((take_drop_eq rfl).1 he).1

set_option maxHeartbeats 4000000 in
theorem rreadClock_any (s : ByteArray) (w : World) :
    Calls Tryd.prog 144 #[.string s] w fun e w' => e = .returned (.tuple #[.int .i64 (optI (readC s.data.toList)), .bool (readC s.data.toList).isSome]) ∧ Below w.heap.size w w' := by
  have hlen : s.data.toList.length = s.size := by simp
  have h1 : s.size = 4 → (s.extract 2 s.size).data.toList = s.data.toList.drop 2 := by
    intro _
    simp
    exact List.take_of_length_le (by simp)
  have h2 : (s.extract 0 2).data.toList = s.data.toList.take 2 := by simp
  have H1 := Lib.hid h1
  have H2 := Lib.hid h2
  have HL := Lib.hid hlen
  clear h1 h2 hlen
  go_enter Tryd.func144, Tryd.ntmps144
  go_wp2
  go_loopw [4] (fun i wr => ∃ h : Nat, h ≤ 24 ∧ Below w.heap.size w wr ∧ i = .int .i64 h ∧ ∀ t, t < h * 60 → ctxt t ≠ s.data.toList) (fun i _ => 24 - (intOf i).toNat)
  case atStart => exact ⟨0, by omega, Below.refl _ _, rfl, fun d hd => absurd hd (by omega)⟩
  case round =>
    obtain ⟨h, hh, hb, rfl, hno⟩ := hrel
    have HNO := Lib.hid hno
    clear hno
    by_cases hh24 : h < 24
    · obtain ⟨wo, rfl⟩ : ∃ wo : World, wo = wr := ⟨_, rfl⟩
      by_cases h4 : s.size = 4
      · have g4 : ((s.size : Int) != 4) = false := by rw [h4]; rfl
        have g5 : (2 : Int) ≤ (s.size : Int) := by omega
        have g6 : 2 ≤ s.size := by omega
        have H4 := Lib.hid h4
        clear h4
        have e1 : ((h : Int)).toNat = h := by omega
        have c1 : ∀ W : World, Calls Tryd.prog 152 #[.int .i64 (h : Int)] W fun e w' => e = .returned (.string (twoA h)) ∧ Below W.heap.size W w' := fun W => by
          have h0 := rtwo_any (h : Int) W (by omega) (by omega)
          rw [e1] at h0; exact h0
        have C1 := Lib.hid c1
        clear c1 e1
        by_cases ht : (s.extract 0 2).data.toList = two h
        · have hq2 : ((s.extract 0 2).toList == (twoA h).toList) = true := by
            rw [ByteArray.toList_eq, ByteArray.toList_eq, ht, twoA_list]; simp
          have HT := Lib.hid ht
          clear ht
          go_wp2_with fail
          go_region_held3 (fun _ => True) (trivial) (first | (go_at_call 152; (with_reducible refine (C1.out _).mono ?_); rintro e w1 ⟨rfl, hb1⟩))
          have hb2 : Below w.heap.size w w1 := (hb.drew).trans (hb1.mono hb.size)
          clear hb1
          go_wp2
          go_loopw [5] (fun i wr => ∃ m : Nat, m ≤ 60 ∧ Below w.heap.size w wr ∧ i = .int .i64 m ∧ ∀ t, t < h * 60 + m → ctxt t ≠ s.data.toList) (fun i _ => 60 - (intOf i).toNat)
          case atStart => exact ⟨0, by omega, hb2, rfl, HNO.out⟩
          case round =>
            obtain ⟨m, hm, hbr, rfl, hno⟩ := hrel
            have HN2 := Lib.hid hno
            clear hno
            by_cases hm60 : m < 60
            · have e2 : ((m : Int)).toNat = m := by omega
              have c2 : ∀ W : World, Calls Tryd.prog 152 #[.int .i64 (m : Int)] W fun e w' => e = .returned (.string (twoA m)) ∧ Below W.heap.size W w' := fun W => by
                have h0 := rtwo_any (m : Int) W (by omega) (by omega)
                rw [e2] at h0; exact h0
              have C2 := Lib.hid c2
              clear c2 e2
              by_cases hd : (s.extract 2 s.size).data.toList = two m
              · have hq3 : ((s.extract 2 s.size).toList == (twoA m).toList) = true := by
                  rw [ByteArray.toList_eq, ByteArray.toList_eq, hd, twoA_list]; simp
                have hr : readC s.data.toList = some (h * 60 + m) := readC_some (by omega) (by rw [ctxt_at hm60]; exact (take_drop_eq rfl).2 ⟨by rw [← H2.out]; exact HT.out, by rw [← H1.out H4.out]; exact hd⟩)
                have HR := Lib.hid hr
                clear hr hd
                go_wp2_with fail
                go_region_held3 (fun _ => True) (trivial) (first | (go_at_call 152; (with_reducible refine (C2.out _).mono ?_); rintro e w2 ⟨rfl, hb1⟩))
                go_wp2
                go_ret2
                exact ⟨by rw [HR.out]; rfl, (hbr.drew).trans (hb1.mono hbr.size)⟩
              · have hq3 : ((s.extract 2 s.size).toList == (twoA m).toList) = false := by
                  rw [ByteArray.toList_eq, ByteArray.toList_eq, beq_eq_false_iff_ne, twoA_list]; exact hd
                have hr : ctxt (h * 60 + m) ≠ s.data.toList := by rw [ctxt_at hm60]; exact fun he => hd (by rw [H1.out H4.out]; exact ((take_drop_eq rfl).1 he).2)
                have HR := Lib.hid hr
                clear hr hd
                go_wp2_with fail
                go_region_held3 (fun _ => True) (trivial) (first | (go_at_call 152; (with_reducible refine (C2.out _).mono ?_); rintro e w2 ⟨rfl, hb1⟩))
                go_wp2
                go_roundw
                case rel => exact ⟨m + 1, by omega, (hbr.drew).trans (hb1.mono hbr.size), by go_num, fun t ht => by rcases Nat.lt_or_ge t (h * 60 + m) with hlo | hlo; exact HN2.out t hlo; rw [show t = h * 60 + m by omega]; exact HR.out⟩
                case measure => simp [intOf]; omega
            · go_wp2
              go_roundw
              case rel => exact ⟨h + 1, by omega, hbr, by go_num, fun t ht => HN2.out t (by omega)⟩
              case measure => simp [intOf]; omega
        · have hq2 : ((s.extract 0 2).toList == (twoA h).toList) = false := by
            rw [ByteArray.toList_eq, ByteArray.toList_eq, beq_eq_false_iff_ne, twoA_list]; exact ht
          have hs := skip_hour HNO.out (.inr (by rw [← H2.out]; exact ht))
          have HS := Lib.hid hs
          clear hs ht
          go_wp2_with fail
          go_region_held3 (fun _ => True) (trivial) (first | (go_at_call 152; (with_reducible refine (C1.out _).mono ?_); rintro e w1 ⟨rfl, hb1⟩))
          go_wp2
          go_roundw
          case rel => exact ⟨h + 1, by omega, (hb.drew).trans (hb1.mono hb.size), by go_num, HS.out⟩
          case measure => simp [intOf]; omega
      · have g4 : ((s.size : Int) != 4) = true := by rw [bne_iff_ne]; omega
        have hs := skip_hour HNO.out (.inl (by rw [HL.out]; exact h4))
        have HS := Lib.hid hs
        clear hs h4
        go_wp2_with fail
        go_quiet (fail)
        go_wp2
        go_roundw
        case rel => exact ⟨h + 1, by omega, below_drewN hb _, by go_num, HS.out⟩
        case measure => simp [intOf]; omega
    · have hr := readC_none (l := s.data.toList) (fun t ht => HNO.out t (by omega))
      have HR := Lib.hid hr
      clear hr
      go_wp2
      go_ret2
      exact ⟨by rw [HR.out]; rfl, hb⟩

def dA (D : Nat) : ByteArray := twoA (dayOf D + 1) ++ monA (monOf D)

def cA (t : Nat) : ByteArray := twoA (t / 60) ++ twoA (t % 60)

theorem dA_list (D : Nat) : (dA D).data.toList = dtxt D := by
  unfold dA dtxt
  rw [ByteArray.data_append, Array.toList_append, twoA_list, monA_list]

theorem cA_list (t : Nat) : (cA t).data.toList = ctxt t := by
  unfold cA ctxt
  rw [ByteArray.data_append, Array.toList_append, twoA_list, twoA_list]

theorem dA_size (D : Nat) : (dA D).size = 5 := by
  have h := dtxt_len D
  rw [← dA_list] at h
  simpa using h

theorem cA_size (t : Nat) : (cA t).size = 4 := by
  have h := ctxt_len t
  rw [← cA_list] at h
  simpa using h

def dS (n : Int) : ByteArray := if 0 ≤ n ∧ n < 366 then dA n.toNat else ⟨#[]⟩

def dE (n : Int) : Int := if 0 ≤ n ∧ n < 366 then 0 else 1

def cS (n : Int) : ByteArray := if 0 ≤ n ∧ n < 1440 then cA n.toNat else ⟨#[]⟩

def cE (n : Int) : Int := if 0 ≤ n ∧ n < 1440 then 0 else 1

theorem text_all (n : Int) (w : World) (ht : LenTab w) :
    Calls Tryd.prog 147 #[.int .i64 n] w fun e w' => e = .returned (.tuple #[.string (dS n), .int .i64 (dE n)]) ∧ Below w.heap.size w w' := by
  unfold dS dE
  by_cases h : 0 ≤ n ∧ n < 366
  · rw [if_pos h, if_pos h]
    obtain ⟨k, rfl⟩ := Int.eq_ofNat_of_zero_le h.1
    exact text_any k w (by omega) ht
  · rw [if_neg h, if_neg h]
    exact text_no n w (by omega)

theorem rtext_all (n : Int) (w : World) :
    Calls Tryd.prog 69 #[.int .i64 n] w fun e w' => e = .returned (.tuple #[.string (dS n), .int .i64 (dE n)]) ∧ Below w.heap.size w w' := by
  unfold dS dE
  by_cases h : 0 ≤ n ∧ n < 366
  · rw [if_pos h, if_pos h]
    obtain ⟨k, rfl⟩ := Int.eq_ofNat_of_zero_le h.1
    exact rtext_any k w (by omega)
  · rw [if_neg h, if_neg h]
    exact rtext_no n w (by omega)

theorem clock_all (n : Int) (w : World) :
    Calls Tryd.prog 148 #[.int .i64 n] w fun e w' => e = .returned (.tuple #[.string (cS n), .int .i64 (cE n)]) ∧ Below w.heap.size w w' := by
  unfold cS cE
  by_cases h : 0 ≤ n ∧ n < 1440
  · rw [if_pos h, if_pos h]
    obtain ⟨k, rfl⟩ := Int.eq_ofNat_of_zero_le h.1
    exact clock_any k w (by omega)
  · rw [if_neg h, if_neg h]
    exact clock_no n w (by omega)

theorem rclock_all (n : Int) (w : World) :
    Calls Tryd.prog 70 #[.int .i64 n] w fun e w' => e = .returned (.tuple #[.string (cS n), .int .i64 (cE n)]) ∧ Below w.heap.size w w' := by
  unfold cS cE
  by_cases h : 0 ≤ n ∧ n < 1440
  · rw [if_pos h, if_pos h]
    obtain ⟨k, rfl⟩ := Int.eq_ofNat_of_zero_le h.1
    exact rclock_any k w (by omega)
  · rw [if_neg h, if_neg h]
    exact rclock_no n w (by omega)

theorem text_in (D : Nat) (w : World) (h : D < 366) (ht : LenTab w) :
    Calls Tryd.prog 147 #[.int .i64 D] w fun e w' => e = .returned (.tuple #[.string (dA D), .int .i64 0]) ∧ Below w.heap.size w w' := text_any D w h ht

theorem clock_in (t : Nat) (w : World) (h : t < 1440) :
    Calls Tryd.prog 148 #[.int .i64 t] w fun e w' => e = .returned (.tuple #[.string (cA t), .int .i64 0]) ∧ Below w.heap.size w w' := clock_any t w h

theorem read_in (D : Nat) (w : World) (h : D < 366) (ht : LenTab w) :
    Calls Tryd.prog 175 #[.string (dA D)] w fun e w' => e = .returned (.tuple #[.int .i64 D, .bool true]) ∧ Below w.heap.size w w' := by
  have h0 := read_any (dA D) w ht
  rw [dA_list, (day_facts D h).2.2.2] at h0
  exact h0

theorem readClock_in (t : Nat) (w : World) (h : t < 1440) :
    Calls Tryd.prog 136 #[.string (cA t)] w fun e w' => e = .returned (.tuple #[.int .i64 t, .bool true]) ∧ Below w.heap.size w w' := by
  have h0 := readClock_any (cA t) w
  rw [cA_list, clock_facts t h] at h0
  exact h0

theorem t59 (w : World) (ht : LenTab w) : Calls Tryd.prog 147 #[.int .i64 59] w fun e w' => e = .returned (.tuple #[.string ⟨#[50, 57, 70, 69, 66]⟩, .int .i64 0]) ∧ Below w.heap.size w w' := by
  have h := text_in 59 w (by decide) ht
  rw [show dA 59 = ⟨#[50, 57, 70, 69, 66]⟩ by decide +kernel] at h
  exact h

theorem r60 (w : World) (ht : LenTab w) : Calls Tryd.prog 175 #[.string ⟨#[48, 49, 77, 65, 82]⟩] w fun e w' => e = .returned (.tuple #[.int .i64 60, .bool true]) ∧ Below w.heap.size w w' := by
  have h := read_in 60 w (by decide) ht
  rw [show dA 60 = ⟨#[48, 49, 77, 65, 82]⟩ by decide +kernel] at h
  exact h

theorem c570 (w : World) : Calls Tryd.prog 148 #[.int .i64 570] w fun e w' => e = .returned (.tuple #[.string ⟨#[48, 57, 51, 48]⟩, .int .i64 0]) ∧ Below w.heap.size w w' := by
  have h := clock_in 570 w (by decide)
  rw [show cA 570 = ⟨#[48, 57, 51, 48]⟩ by decide +kernel] at h
  exact h

theorem rc1439 (w : World) : Calls Tryd.prog 136 #[.string ⟨#[50, 51, 53, 57]⟩] w fun e w' => e = .returned (.tuple #[.int .i64 1439, .bool true]) ∧ Below w.heap.size w w' := by
  have h := readClock_in 1439 w (by decide)
  rw [show cA 1439 = ⟨#[50, 51, 53, 57]⟩ by decide +kernel] at h
  exact h

theorem w6 (w : World) : Calls Tryd.prog 187 #[.int .i64 6] w fun e w' => e = .returned (.int .i64 7) ∧ w = w' := by
  have h := week_any 6 w
  rw [show wday 6 = 7 by decide] at h
  exact h

theorem read_none_any (s : ByteArray) (w : World) (ht : LenTab w) (h : readS s.data.toList = none) :
    Calls Tryd.prog 175 #[.string s] w fun e w' => e = .returned (.tuple #[.int .i64 0, .bool false]) ∧ Below w.heap.size w w' := by
  have h0 := read_any s w ht
  rw [h] at h0
  exact h0

theorem read_some_any (s : ByteArray) (d : Nat) (w : World) (ht : LenTab w) (h : readS s.data.toList = some d) :
    Calls Tryd.prog 175 #[.string s] w fun e w' => e = .returned (.tuple #[.int .i64 d, .bool true]) ∧ Below w.heap.size w w' := by
  have h0 := read_any s w ht
  rw [h] at h0
  exact h0

theorem readC_none_any (s : ByteArray) (w : World) (h : readC s.data.toList = none) :
    Calls Tryd.prog 136 #[.string s] w fun e w' => e = .returned (.tuple #[.int .i64 0, .bool false]) ∧ Below w.heap.size w w' := by
  have h0 := readClock_any s w
  rw [h] at h0
  exact h0

theorem readC_some_any (s : ByteArray) (d : Nat) (w : World) (h : readC s.data.toList = some d) :
    Calls Tryd.prog 136 #[.string s] w fun e w' => e = .returned (.tuple #[.int .i64 d, .bool true]) ∧ Below w.heap.size w w' := by
  have h0 := readClock_any s w
  rw [h] at h0
  exact h0

theorem text_back (s : ByteArray) (d : Nat) (w : World) (ht : LenTab w) (h : readS s.data.toList = some d) :
    Calls Tryd.prog 147 #[.int .i64 d] w fun e w' => e = .returned (.tuple #[.string s, .int .i64 0]) ∧ Below w.heap.size w w' := by
  obtain ⟨h1, h2⟩ := read_only h
  have h0 := text_in d w h1 ht
  rw [bytes_eq ((dA_list d).trans h2)] at h0
  exact h0

theorem clock_back (s : ByteArray) (d : Nat) (w : World) (h : readC s.data.toList = some d) :
    Calls Tryd.prog 148 #[.int .i64 d] w fun e w' => e = .returned (.tuple #[.string s, .int .i64 0]) ∧ Below w.heap.size w w' := by
  obtain ⟨h1, h2⟩ := readC_only h
  have h0 := clock_in d w h1
  rw [bytes_eq ((cA_list d).trans h2)] at h0
  exact h0

end Go.Proofs.YtjahkaidinahpaaDoor.Da
