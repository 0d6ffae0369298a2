/- Days and times: the program's and the reference's texts, and what is read of texts. Entries: the plain grammar: what an entry is taken apart into; the plain facts of its parts. Entries: the plain laws of the grammar: what was taken apart is put together into the same entry; faults and their places; an entry with more behind it. Any number in decimal digits: strconv.Itoa (its contract laid by the shelf's plain mode), jetwayref08.Digits; the command's entry: entry.text. entry.text: what an entry of a command would be. -/
import Derived.Test.YtmhhbnnjilbdnaaGreatDoorKA
import Derived.Test.YtmhhbnnjilbdnaaGreatDoorRows
import Derived.WalkKit
import Derived.WalkSpells
import Derived.WalkLawsBesides
import Derived.Lib.ConvBytes
import Derived.Lib.Hide
import Derived.Lib.SliceRun
import Derived.IntWalk
import Derived.BigQuiet
import Derived.Deep.QuietTactic
import Derived.Deep.RegionWith
import Derived.Deep.RegionHeld3
import Derived.Deep.LoopGhost
import Derived.Deep.CutRange
import Derived.Deep.CutBlock
import Derived.Deep.MidRow
import Derived.Laws.OwnMore
import Derived.OwnWalk
import Derived.Laws.AppendOwnNone
import Derived.Laws.Rows
import Derived.Laws.MakeOwn
import Derived.Laws.CopyOwn
import Derived.Laws.BitsAllLaws
import Derived.DeepKeys5
import Derived.Maps.OwnOps
import Derived.Handy
import Derived.Lib.AppendStr
import Derived.StillTailTactics
import Derived.Deep.AppendLies
import Derived.ProofKit
import Derived.OpenShut
import Derived.SliceStrings
import Derived.Lib.SmallJoins
import Derived.Deep.SlicePairs
import Derived.ChangeSlices
import Derived.WideKeyEntry
import Derived.Tactics2
import Derived.Defers
import Derived.Recover
import Derived.Shelf.Strconv.Itoa0
import Derived.Shelf.Strconv.Itoa1
import Derived.Shelf.LaysM
import Derived.Shelf.Strconv.Itoa2
import Derived.Shelf.Strconv.Itoa3
namespace Go.Proofs.YtmhhbnnjilbdnaaGreatDoor.Da
open Go.RowKit
set_option linter.unusedSimpArgs false
set_option linter.unusedVariables false

def isD (c : UInt8) : Bool := decide (48 ≤ c.toNat ∧ c.toNat ≤ 57)

def two (n : Nat) : List UInt8 := [UInt8.ofNat (48 + n / 10), UInt8.ofNat (48 + n % 10)]

def monL : Nat → List UInt8
  | 0 => [74, 65, 78]
  | 1 => [70, 69, 66]
  | 2 => [77, 65, 82]
  | 3 => [65, 80, 82]
  | 4 => [77, 65, 89]
  | 5 => [74, 85, 78]
  | 6 => [74, 85, 76]
  | 7 => [65, 85, 71]
  | 8 => [83, 69, 80]
  | 9 => [79, 67, 84]
  | 10 => [78, 79, 86]
  | _ => [68, 69, 67]

def lenN : Nat → Nat
  | 0 => 31
  | 1 => 29
  | 2 => 31
  | 3 => 30
  | 4 => 31
  | 5 => 30
  | 6 => 31
  | 7 => 31
  | 8 => 30
  | 9 => 31
  | 10 => 30
  | _ => 31

def startN : Nat → Nat
  | 0 => 0
  | m + 1 => startN m + lenN m

/-- The month of what is left of a day, from month m on, at most f months. -/
def monGo : Nat → Nat → Nat → Nat × Nat
  | 0, m, d => (m, d)
  | f + 1, m, d => if lenN m ≤ d then monGo f (m + 1) (d - lenN m) else (m, d)

def monOf (d : Nat) : Nat := (monGo 12 0 d).1

def dayOf (d : Nat) : Nat := (monGo 12 0 d).2

def dtxt (d : Nat) : List UInt8 := two (dayOf d + 1) ++ monL (monOf d)

/-- The number of two digits; -1 of anything else. -/
def numS : List UInt8 → Int
  | [a, b] => if isD a && isD b then ((a.toNat : Int) - 48) * 10 + ((b.toNat : Int) - 48) else -1
  | _ => -1

/-- The month that a text names, from month m on, at most f months. -/
def monFind : Nat → Nat → List UInt8 → Option Nat
  | 0, _, _ => none
  | f + 1, m, l => if l = monL m then some m else monFind f (m + 1) l

def readM (o : Option Nat) (x : Int) : Option Nat :=
  match o with
  | some m => if 1 ≤ x ∧ x ≤ lenN m then some (startN m + x.toNat - 1) else none
  | none => none

def readS (l : List UInt8) : Option Nat := if l.length = 5 then readM (monFind 12 0 (l.drop 2)) (numS (l.take 2)) else none

def ctxt (t : Nat) : List UInt8 := two (t / 60) ++ two (t % 60)

def readC (l : List UInt8) : Option Nat :=
  if l.length = 4 then
    if 0 ≤ numS (l.take 2) ∧ numS (l.take 2) ≤ 23 ∧ 0 ≤ numS (l.drop 2) ∧ numS (l.drop 2) ≤ 59 then some ((numS (l.take 2)).toNat * 60 + (numS (l.drop 2)).toNat) else none
  else none

theorem day_facts : ∀ d, d < 366 → monOf d < 12 ∧ dayOf d < lenN (monOf d) ∧ startN (monOf d) + dayOf d = d ∧ readS (dtxt d) = some d := by
  decide +kernel

theorem mon_facts : ∀ m, m < 12 → ∀ k, k < lenN m → startN m + k < 366 ∧ monOf (startN m + k) = m ∧ dayOf (startN m + k) = k := by
  decide +kernel

theorem len_facts : ∀ m, m < 12 → 29 ≤ lenN m ∧ lenN m ≤ 31 ∧ startN m + lenN m ≤ 366 ∧ startN m ≤ 335 := by decide +kernel

theorem clock_facts : ∀ t, t < 1440 → readC (ctxt t) = some t := by decide +kernel

theorem ofNat_int (k : Nat) (h : k < 256) : ((UInt8.ofNat k).toNat : Int) = (k : Int) := by rw [UInt8.toNat_ofNat']; omega

/-- 'string([]byte{a, b})' of two bytes laid right ahead. -/
theorem two_conv (a b : UInt8) (w : World) :
    (convert 69 9 (.slice (some ⟨w.heap.size, 0, none⟩) 2 2)).run Tryz.prog (w.alloc (.cells #[.int .u8 (a.toNat : Int), .int .u8 (b.toNat : Int)] 5)) =
      .ok (.string ⟨#[a, b]⟩) (w.alloc (.cells #[.int .u8 (a.toNat : Int), .int .u8 (b.toNat : Int)] 5)) := by
  refine string_conv [a, b] _ w.heap.size 2 2 rfl fun j hj => ?_
  rw [World.cell?_alloc_new]
  match j, hj with
  | 0, _ => rfl
  | 1, _ => rfl

def twoA (n : Nat) : ByteArray := ⟨(two n).toArray⟩

theorem twoA_list (n : Nat) : (twoA n).data.toList = two n := by simp [twoA]

theorem twoA_size (n : Nat) : (twoA n).size = 2 := rfl

theorem twoA_conv (k : Nat) (w : World) (a b : Int) (hk : k < 100) (ha : a = 48 + (k : Int) / 10) (hb : b = 48 + (k : Int) % 10) :
    (convert 69 9 (.slice (some ⟨w.heap.size, 0, none⟩) 2 2)).run Tryz.prog (w.alloc (.cells #[.int .u8 a, .int .u8 b] 5)) =
      .ok (.string (twoA k)) (w.alloc (.cells #[.int .u8 a, .int .u8 b] 5)) := by
  have hc := two_conv (UInt8.ofNat (48 + k / 10)) (UInt8.ofNat (48 + k % 10)) w
  rw [ofNat_int _ (by omega), ofNat_int _ (by omega), show ((48 + k / 10 : Nat) : Int) = a by omega, show ((48 + k % 10 : Nat) : Int) = b by omega] at hc
  exact hc

theorem two_any (n : Int) (w : World) (h0 : 0 ≤ n) (h1 : n < 100) :
    Calls Tryz.prog 77 #[.int .i64 n] w fun e w' => e = .returned (.string (twoA n.toNat)) ∧ Below w.heap.size w w' := by
  obtain ⟨k, rfl⟩ := Int.eq_ofNat_of_zero_le h0
  rw [Int.toNat_natCast]
  have hc := twoA_conv k w _ _ (by omega) rfl rfl
  go_enter Tryz.func77, Tryz.ntmps77
  go_wp2
  go_ret
  exact ⟨rfl, (Below.refl _ _).alloc (Nat.le_refl _) _⟩

theorem rtwo_any (n : Int) (w : World) (h0 : 0 ≤ n) (h1 : n < 100) :
    Calls Tryz.prog 79 #[.int .i64 n] w fun e w' => e = .returned (.string (twoA n.toNat)) ∧ Below w.heap.size w w' := by
  obtain ⟨k, rfl⟩ := Int.eq_ofNat_of_zero_le h0
  rw [Int.toNat_natCast]
  have hc := twoA_conv k w (48 + (k : Int) / 10 % 10) (48 + (k : Int) % 10) (by omega) (by omega) rfl
  go_enter Tryz.func79, Tryz.ntmps79
  go_wp2
  go_ret
  exact ⟨rfl, (Below.refl _ _).alloc (Nat.le_refl _) _⟩

def monA (m : Nat) : ByteArray := ⟨(monL m).toArray⟩

theorem monA_list (m : Nat) : (monA m).data.toList = monL m := by simp [monA]

theorem monA_size (m : Nat) : (monA m).size = 3 := by
  show (monL m).length = 3
  unfold monL
  split <;> rfl

theorem month_any (m : Nat) (w : World) :
    Calls Tryz.prog 78 #[.int .i64 m] w fun e w' => e = .returned (.tuple #[.string (monA m), .int .i64 (lenN m)]) ∧ w = w' := by
  match m with
  | 0 => go_enter Tryz.func78, Tryz.ntmps78; go_wp2; go_ret2; exact ⟨rfl, rfl⟩
  | 1 => go_enter Tryz.func78, Tryz.ntmps78; go_wp2; go_ret2; exact ⟨rfl, rfl⟩
  | 2 => go_enter Tryz.func78, Tryz.ntmps78; go_wp2; go_ret2; exact ⟨rfl, rfl⟩
  | 3 => go_enter Tryz.func78, Tryz.ntmps78; go_wp2; go_ret2; exact ⟨rfl, rfl⟩
  | 4 => go_enter Tryz.func78, Tryz.ntmps78; go_wp2; go_ret2; exact ⟨rfl, rfl⟩
  | 5 => go_enter Tryz.func78, Tryz.ntmps78; go_wp2; go_ret2; exact ⟨rfl, rfl⟩
  | 6 => go_enter Tryz.func78, Tryz.ntmps78; go_wp2; go_ret2; exact ⟨rfl, rfl⟩
  | 7 => go_enter Tryz.func78, Tryz.ntmps78; go_wp2; go_ret2; exact ⟨rfl, rfl⟩
  | 8 => go_enter Tryz.func78, Tryz.ntmps78; go_wp2; go_ret2; exact ⟨rfl, rfl⟩
  | 9 => go_enter Tryz.func78, Tryz.ntmps78; go_wp2; go_ret2; exact ⟨rfl, rfl⟩
  | 10 => go_enter Tryz.func78, Tryz.ntmps78; go_wp2; go_ret2; exact ⟨rfl, rfl⟩
  | n + 11 =>
    generalize hm : n + 11 = m
    have h11 : (11 : Int) ≤ (m : Int) := by omega
    have hm1 : monA m = ⟨#[68, 69, 67]⟩ := by rw [← hm]; rfl
    have hm2 : lenN m = 31 := by rw [← hm]; rfl
    rw [hm1, hm2]
    clear hm hm1 hm2
    go_enter Tryz.func78, Tryz.ntmps78
    go_wp2
    go_ret2
    exact ⟨rfl, rfl⟩

def lensV : Array Value := #[.int .i64 31, .int .i64 29, .int .i64 31, .int .i64 30, .int .i64 31, .int .i64 30, .int .i64 31, .int .i64 31, .int .i64 30, .int .i64 31, .int .i64 30, .int .i64 31]

theorem lensV_at : ∀ m, m < 12 → lensV[m]? = some (.int .i64 (lenN m)) := by
  intro m h
  match m, h with
  | 0, _ => rfl
  | 1, _ => rfl
  | 2, _ => rfl
  | 3, _ => rfl
  | 4, _ => rfl
  | 5, _ => rfl
  | 6, _ => rfl
  | 7, _ => rfl
  | 8, _ => rfl
  | 9, _ => rfl
  | 10, _ => rfl
  | 11, _ => rfl

/-- The table of the months' lengths lies where it lay. -/
def LenTab (w : World) : Prop := ∃ t fr, w.heap[0]? = some (.cells lensV t fr)

theorem LenTab.pos {w : World} (h : LenTab w) : 0 < w.heap.size := by
  obtain ⟨t, fr, h⟩ := h
  rcases Nat.lt_or_ge 0 w.heap.size with h1 | h1
  · exact h1
  · rw [Array.getElem?_eq_none h1] at h
    cases h

theorem LenTab.keep {w w' : World} (h : LenTab w) (hb : Below w.heap.size w w') : LenTab w' := by
  have hp := h.pos
  obtain ⟨t, fr, h⟩ := h
  exact ⟨t, fr, (hb.block _ hp).trans h⟩

theorem LenTab.cell {w : World} (h : LenTab w) (m : Nat) (hm : m < 12) : w.cell? ⟨0, m, none⟩ = some (.int .i64 (lenN m)) := by
  obtain ⟨t, fr, h⟩ := h
  rw [cell_of_row w _ m lensV t fr h]
  exact lensV_at m hm

theorem monGo_ge : ∀ f m d, m ≤ (monGo f m d).1 := by
  intro f
  induction f with
  | zero => intro m d; exact Nat.le_refl _
  | succ f ih =>
    intro m d
    rw [monGo]
    split
    · exact Nat.le_trans (Nat.le_succ m) (ih _ _)
    · exact Nat.le_refl _

theorem monGo_more {m d D : Nat} (hm : m < 12) (h : monGo (12 - m) m d = (monOf D, dayOf D)) (hl : lenN m ≤ d) : monGo (12 - (m + 1)) (m + 1) (d - lenN m) = (monOf D, dayOf D) := by
  rw [show 12 - m = (12 - (m + 1)) + 1 by omega, monGo, if_pos hl] at h
  exact h

theorem monGo_done {m d D : Nat} (hm : m < 12) (h : monGo (12 - m) m d = (monOf D, dayOf D)) (hl : ¬ lenN m ≤ d) : m = monOf D ∧ d = dayOf D := by
  rw [show 12 - m = (12 - (m + 1)) + 1 by omega, monGo, if_neg hl] at h
  exact Prod.mk.inj h

def months : ByteArray := ⟨#[74, 65, 78, 70, 69, 66, 77, 65, 82, 65, 80, 82, 77, 65, 89, 74, 85, 78, 74, 85, 76, 65, 85, 71, 83, 69, 80, 79, 67, 84, 78, 79, 86, 68, 69, 67]⟩

theorem months_cut : ∀ m, m < 12 → months.extract (3 * m) (3 * m + 3) = monA m := by decide +kernel

theorem text_any (D : Nat) (w : World) (h : D < 366) (ht : LenTab w) :
    Calls Tryz.prog 56 #[.int .i64 D] w fun e w' => e = .returned (.tuple #[.string (twoA (dayOf D + 1) ++ monA (monOf D)), .int .i64 0]) ∧ Below w.heap.size w w' := by
  obtain ⟨f1, f2, _, _⟩ := day_facts D h
  have l1 := (len_facts (monOf D) f1).2.1
  go_enter Tryz.func56, Tryz.ntmps56
  go_wp2
  go_loop [0, 4] (fun x i => ∃ m d : Nat, i = .int .i64 m ∧ x = .int .i64 d ∧ d < 366 ∧ m ≤ monOf D ∧ monGo (12 - m) m d = (monOf D, dayOf D)) (fun _ i => 12 - (intOf i).toNat)
  case atStart => exact ⟨0, D, rfl, rfl, h, Nat.zero_le _, rfl⟩
  case round =>
    obtain ⟨m, d, rfl, rfl, hd, hm, hgo⟩ := hrel
    have hm12 : m < 12 := by omega
    have hc := ht.cell m hm12
    have HG := Lib.hid hgo
    have hll := len_facts m hm12
    clear hgo
    by_cases hl : lenN m ≤ d
    · have hg := monGo_more hm12 HG.out hl
      have hge := monGo_ge (12 - (m + 1)) (m + 1) (d - lenN m)
      rw [hg] at hge
      have hge2 : m + 1 ≤ monOf D := hge
      have HG2 := Lib.hid hg
      clear hg hge ht
      generalize lenN m = L at hc hl hll HG2
      obtain ⟨a1, a2, _, _⟩ := hll
      go_wp2
      go_round
      case rel => exact ⟨m + 1, d - L, by go_num, by go_num, by omega, by omega, HG2.out⟩
      case measure => simp [intOf]; omega
    · obtain ⟨rfl, rfl⟩ := monGo_done hm12 HG.out hl
      have hcut := months_cut (monOf D) hm12
      unfold months at hcut
      generalize hM : monOf D = m at *
      generalize hD : dayOf D = d at *
      have HM := Lib.hid hM
      have HD := Lib.hid hD
      clear ht hM hD
      go_wp2_with fail
      have q1 : IntKind.i64.wrap ((d : Int) + 1) = (d : Int) + 1 := IntWalk.i64_in _ (by omega)
      have q2 : IntKind.i64.wrap (3 * (m : Int)) = 3 * (m : Int) := IntWalk.i64_in _ (by omega)
      have q3 : IntKind.i64.wrap (3 * (m : Int) + 3) = 3 * (m : Int) + 3 := IntWalk.i64_in _ (by omega)
      have q4 : (3 * (m : Int)).toNat = 3 * m := by omega
      have q5 : (3 * (m : Int) + 3).toNat = 3 * m + 3 := by omega
      have q6 : (0 : Int) ≤ 3 * (m : Int) := by omega
      have q7 : 3 * (m : Int) + 3 ≤ 36 := by omega
      have q8 := monA_size m
      have q9 := twoA_size (d + 1)
      have q10 : ((d : Int) + 1).toNat = d + 1 := by omega
      go_region_with (go_at_call 77; refine (two_any ((d : Int) + 1) _ (by omega) (by omega)).mono ?_; rw [q10]; rintro e w1 ⟨rfl, hb⟩)
      all_goals clear q1 q2 q3 q4 q5 q6 q7 q8 q9
      all_goals go_wp2
      all_goals go_ret2
      all_goals refine ⟨?_, ((Below.refl _ _).drew).trans hb⟩
      all_goals rw [HM.out, HD.out]
      all_goals rfl

theorem text_no (n : Int) (w : World) (h : n < 0 ∨ 366 ≤ n) :
    Calls Tryz.prog 56 #[.int .i64 n] w fun e w' => e = .returned (.tuple #[.string ⟨#[]⟩, .int .i64 1]) ∧ Below w.heap.size w w' := by
  rcases h with h | h
  · go_enter Tryz.func56, Tryz.ntmps56
    go_wp2
    go_ret2
    exact ⟨rfl, Below.refl _ _⟩
  · have h2 : ¬ n < 0 := by omega
    go_enter Tryz.func56, Tryz.ntmps56
    go_wp2
    go_ret2
    exact ⟨rfl, Below.refl _ _⟩

theorem clock_no (n : Int) (w : World) (h : n < 0 ∨ 1440 ≤ n) :
    Calls Tryz.prog 74 #[.int .i64 n] w fun e w' => e = .returned (.tuple #[.string ⟨#[]⟩, .int .i64 1]) ∧ Below w.heap.size w w' := by
  rcases h with h | h
  · go_enter Tryz.func74, Tryz.ntmps74
    go_wp2
    go_ret2
    exact ⟨rfl, Below.refl _ _⟩
  · have h2 : ¬ n < 0 := by omega
    go_enter Tryz.func74, Tryz.ntmps74
    go_wp2
    go_ret2
    exact ⟨rfl, Below.refl _ _⟩

theorem clock_any (t : Nat) (w : World) (h : t < 1440) :
    Calls Tryz.prog 74 #[.int .i64 t] w fun e w' => e = .returned (.tuple #[.string (twoA (t / 60) ++ twoA (t % 60)), .int .i64 0]) ∧ Below w.heap.size w w' := by
  have e1 : ((t : Int) / 60).toNat = t / 60 := by omega
  have e2 : ((t : Int) % 60).toNat = t % 60 := by omega
  have z1 := twoA_size (t / 60)
  have z2 := twoA_size (t % 60)
  have hb := Below.refl w.heap.size w
  have c1 : ∀ W : World, Calls Tryz.prog 77 #[.int .i64 ((t : Int) / 60)] W fun e w' => e = .returned (.string (twoA (t / 60))) ∧ Below W.heap.size W w' := fun W => by
    have h0 := two_any ((t : Int) / 60) W (by omega) (by omega)
    rw [e1] at h0; exact h0
  have c2 : ∀ W : World, Calls Tryz.prog 77 #[.int .i64 ((t : Int) % 60)] W fun e w' => e = .returned (.string (twoA (t % 60))) ∧ Below W.heap.size W w' := fun W => by
    have h0 := two_any ((t : Int) % 60) W (by omega) (by omega)
    rw [e2] at h0; exact h0
  have C1 := Lib.hid c1
  have C2 := Lib.hid c2
  clear c1 c2 e1 e2
  go_enter Tryz.func74, Tryz.ntmps74
  go_wp2_with (first
    | (go_at_call 77; (with_reducible refine (C1.out _).mono ?_); rintro e w1 ⟨rfl, hb1⟩; replace hb := bel_trans hb hb1; clear hb1)
    | (go_at_call 77; (with_reducible refine (C2.out _).mono ?_); rintro e w1 ⟨rfl, hb1⟩; replace hb := bel_trans hb hb1; clear hb1))
  go_ret2
  exact ⟨rfl, hb⟩

theorem start_succ (m : Nat) : startN (m + 1) = startN m + lenN m := rfl

theorem start_12 : startN 12 = 366 := by decide

theorem dtxt_len (d : Nat) : (dtxt d).length = 5 := by
  unfold dtxt
  rw [List.length_append]
  have : (monL (monOf d)).length = 3 := by unfold monL; split <;> rfl
  rw [this]; rfl

theorem ctxt_len (t : Nat) : (ctxt t).length = 4 := rfl

def dA (D : Nat) : ByteArray := twoA (dayOf D + 1) ++ monA (monOf D)

def cA (t : Nat) : ByteArray := twoA (t / 60) ++ twoA (t % 60)

theorem dA_list (D : Nat) : (dA D).data.toList = dtxt D := by
  unfold dA dtxt
  rw [ByteArray.data_append, Array.toList_append, twoA_list, monA_list]

theorem cA_list (t : Nat) : (cA t).data.toList = ctxt t := by
  unfold cA ctxt
  rw [ByteArray.data_append, Array.toList_append, twoA_list, twoA_list]

def dS (n : Int) : ByteArray := if 0 ≤ n ∧ n < 366 then dA n.toNat else ⟨#[]⟩

def dE (n : Int) : Int := if 0 ≤ n ∧ n < 366 then 0 else 1

def cS (n : Int) : ByteArray := if 0 ≤ n ∧ n < 1440 then cA n.toNat else ⟨#[]⟩

def cE (n : Int) : Int := if 0 ≤ n ∧ n < 1440 then 0 else 1

theorem text_all (n : Int) (w : World) (ht : LenTab w) :
    Calls Tryz.prog 56 #[.int .i64 n] w fun e w' => e = .returned (.tuple #[.string (dS n), .int .i64 (dE n)]) ∧ Below w.heap.size w w' := by
  unfold dS dE
  by_cases h : 0 ≤ n ∧ n < 366
  · rw [if_pos h, if_pos h]
    obtain ⟨k, rfl⟩ := Int.eq_ofNat_of_zero_le h.1
    exact text_any k w (by omega) ht
  · rw [if_neg h, if_neg h]
    exact text_no n w (by omega)

theorem clock_all (n : Int) (w : World) :
    Calls Tryz.prog 74 #[.int .i64 n] w fun e w' => e = .returned (.tuple #[.string (cS n), .int .i64 (cE n)]) ∧ Below w.heap.size w w' := by
  unfold cS cE
  by_cases h : 0 ≤ n ∧ n < 1440
  · rw [if_pos h, if_pos h]
    obtain ⟨k, rfl⟩ := Int.eq_ofNat_of_zero_le h.1
    exact clock_any k w (by omega)
  · rw [if_neg h, if_neg h]
    exact clock_no n w (by omega)

end Go.Proofs.YtmhhbnnjilbdnaaGreatDoor.Da
namespace Go.Proofs.YtmhhbnnjilbdnaaGreatDoor.En
open Go.RowKit
set_option linter.unusedSimpArgs false
set_option linter.unusedVariables false

/-- The bytes of a text as a value. -/
abbrev txV (l : List UInt8) : Value := .string ⟨l.toArray⟩

end Go.Proofs.YtmhhbnnjilbdnaaGreatDoor.En
namespace Go.Proofs.YtmhhbnnjilbdnaaGreatDoor.En
open Go.RowKit
set_option linter.unusedSimpArgs false
set_option linter.unusedVariables false

def itoaL (n : Int) : List UInt8 := if n < 0 then 45 :: digL n.natAbs else digL n.toNat
def dTx (d : Int) : List UInt8 := if 0 ≤ d ∧ d < 366 then Da.dtxt d.toNat else []
def cTx (m : Int) : List UInt8 := if 0 ≤ m ∧ m < 1440 then Da.ctxt m.toNat else []
end Go.Proofs.YtmhhbnnjilbdnaaGreatDoor.En
namespace Go.Proofs.YtmhhbnnjilbdnaaGreatDoor.En
open Go.Shelf
def sh_laysM171_ren : Go.Shelf.Ren := ⟨fun | 171 => 28 | 243 => 55 | 246 => 76 | 283 => 90 | 284 => 91 | 285 => 92 | 286 => 93 | 129 => 103 | 317 => 102 | 318 => 104 | 319 => 105 | 320 => 106 | 337 => 113 | 338 => 114 | n => n, fun | 3 => 3 | 9 => 9 | 2 => 2 | 4 => 4 | 171 => 155 | 0 => 0 | 53 => 156 | 37 => 69 | 5 => 5 | 173 => 159 | 212 => 165 | 51 => 166 | 20 => 20 | 213 => 167 | 46 => 106 | 232 => 180 | 233 => 79 | n => n, fun | 17 => 1 | 18 => 5 | 19 => 6 | n => n⟩
theorem sh_laysM171 : Go.Proofs.LaysM.n171 Tryz.prog sh_laysM171_ren := {
  mixed := by kernel_rfl
  f129 := Tryz.func103.trans (congrArg some (by kernel_rfl))
  f171 := Tryz.func28.trans (congrArg some (by kernel_rfl))
  f243 := Tryz.func55.trans (congrArg some (by kernel_rfl))
  f246 := Tryz.func76.trans (congrArg some (by kernel_rfl))
  f283 := Tryz.func90.trans (congrArg some (by kernel_rfl))
  f284 := Tryz.func91.trans (congrArg some (by kernel_rfl))
  f285 := Tryz.func92.trans (congrArg some (by kernel_rfl))
  f286 := Tryz.func93.trans (congrArg some (by kernel_rfl))
  f317 := Tryz.func102.trans (congrArg some (by kernel_rfl))
  f318 := Tryz.func104.trans (congrArg some (by kernel_rfl))
  f319 := Tryz.func105.trans (congrArg some (by kernel_rfl))
  f320 := Tryz.func106.trans (congrArg some (by kernel_rfl))
  f337 := Tryz.func113.trans (congrArg some (by kernel_rfl))
  f338 := Tryz.func114.trans (congrArg some (by kernel_rfl))
  t0 := Tryz.underlying0
  a0 := Tryz.isAgg0
  z0 := Tryz.sizeOf0
  v0 := Tryz.zeroValue0
  t2 := Tryz.underlying2
  a2 := Tryz.isAgg2
  z2 := Tryz.sizeOf2
  v2 := Tryz.zeroValue2
  t3 := Tryz.underlying3
  a3 := Tryz.isAgg3
  z3 := Tryz.sizeOf3
  v3 := Tryz.zeroValue3
  t4 := Tryz.underlying4
  a4 := Tryz.isAgg4
  z4 := Tryz.sizeOf4
  v4 := Tryz.zeroValue4
  t5 := Tryz.underlying5
  a5 := Tryz.isAgg5
  z5 := Tryz.sizeOf5
  v5 := Tryz.zeroValue5
  t9 := Tryz.underlying9
  a9 := Tryz.isAgg9
  z9 := Tryz.sizeOf9
  v9 := Tryz.zeroValue9
  t20 := Tryz.underlying20
  a20 := Tryz.isAgg20
  z20 := Tryz.sizeOf20
  v20 := Tryz.zeroValue20
  t37 := Tryz.underlying69
  a37 := Tryz.isAgg69
  z37 := Tryz.sizeOf69
  v37 := Tryz.zeroValue69
  t46 := Tryz.underlying106
  a46 := Tryz.isAgg106
  z46 := Tryz.sizeOf106
  v46 := Tryz.zeroValue106
  t51 := Tryz.underlying166
  a51 := Tryz.isAgg166
  z51 := Tryz.sizeOf166
  v51 := Tryz.zeroValue166
  t53 := Tryz.underlying156
  a53 := Tryz.isAgg156
  z53 := Tryz.sizeOf156
  v53 := Tryz.zeroValue156
  t171 := Tryz.underlying155
  a171 := Tryz.isAgg155
  z171 := Tryz.sizeOf155
  v171 := Tryz.zeroValue155
  t173 := Tryz.underlying159
  a173 := Tryz.isAgg159
  z173 := Tryz.sizeOf159
  v173 := Tryz.zeroValue159
  t212 := Tryz.underlying165
  a212 := Tryz.isAgg165
  z212 := Tryz.sizeOf165
  v212 := Tryz.zeroValue165
  t213 := Tryz.underlying167
  a213 := Tryz.isAgg167
  z213 := Tryz.sizeOf167
  t232 := Tryz.underlying180
  a232 := Tryz.isAgg180
  z232 := Tryz.sizeOf180
  v232 := Tryz.zeroValue180
  t233 := Tryz.underlying79
  a233 := Tryz.isAgg79
  z233 := Tryz.sizeOf79
  v233 := Tryz.zeroValue79
  g17 := by kernel_rfl
  g18 := by kernel_rfl
  g19 := by kernel_rfl
  i0 := by kernel_rfl
  i2 := by kernel_rfl
  i3 := by kernel_rfl
  i4 := by kernel_rfl
  i5 := by kernel_rfl
  i9 := by kernel_rfl
  i20 := by kernel_rfl
  i37 := by kernel_rfl
  i46 := by kernel_rfl
  i51 := by kernel_rfl
  i53 := by kernel_rfl
  i171 := by kernel_rfl
  i173 := by kernel_rfl
  i212 := by kernel_rfl
  i232 := by kernel_rfl
  i233 := by kernel_rfl
  m17 := by kernel_rfl
  m18 := by kernel_rfl
  m19 := by kernel_rfl }
open Go.RowKit Go.Sort Go.Lib in
theorem sh_strconv_Itoa (n : Int) (h0 : -9223372036854775808 ≤ n) (h1 : n ≤ 9223372036854775807) (w : World) (htab : Lib.TabIs Tryz.prog w "internal/strconv.uint64pow10" .u64 Lib.pow10Tab) :
    Calls Tryz.prog 28 #[.int .i64 n] w fun e w' => e = .returned (.string ⟨(Lib.itoa n).toArray⟩) ∧ ∃ k os, w' = grow (w.drewN k) os := Any.strconv_Itoa sh_laysM171 n h0 h1 w htab

open Go.RowKit
set_option linter.unusedSimpArgs false
set_option linter.unusedVariables false
set_option maxRecDepth 100000

/-- The table of powers of ten lies where it lay. -/
def PowTab (w : World) : Prop := Lib.TabIs Tryz.prog w "internal/strconv.uint64pow10" .u64 Lib.pow10Tab
theorem powTab_keep {w w' : World} (h : PowTab w) (hb : Below w.heap.size w w') : PowTab w' := by
  unfold PowTab Lib.TabIs World.var? at h ⊢
  rw [Option.bind_eq_some_iff] at h ⊢
  obtain ⟨g, h1, h2⟩ := h
  refine ⟨g, h1, ?_⟩
  have hg : g < w.heap.size := by
    rcases Nat.lt_or_ge g w.heap.size with h3 | h3
    · exact h3
    · rw [Array.getElem?_eq_none h3] at h2
      cases h2
  rw [hb.block g hg]
  exact h2

theorem dec_dig (n : Nat) : Lib.decDigits n = digL n := by
  induction n using Nat.strongRecOn with
  | ind n ih =>
    rw [Lib.decDigits]
    by_cases h : n < 10
    · rw [dif_pos h, digL_lt h]
      unfold dch
      rw [show n % 10 = n by omega]
    · rw [dif_neg h, digL_ge h, ih (n / 10) (by omega)]
      rfl
theorem itoa_eq (n : Int) : Lib.itoa n = itoaL n := by
  unfold Lib.itoa itoaL
  rw [dec_dig, dec_dig]

theorem below_grow {w : World} (k : Nat) (os : Array Obj) : Below w.heap.size w (Sort.grow (w.drewN k) os) :=
  ⟨rfl, rfl, rfl, by simp [Sort.grow, World.drewN], fun i hi => by simp [Sort.grow, World.drewN, Array.getElem?_append, hi]⟩

theorem itoa_m (n : Int) (hn : (Lit.int .i64 n).wf = true) (w : World) (ht : PowTab w) : Calls Tryz.prog 28 #[.int .i64 n] w fun e w' => e = .returned (txV (itoaL n)) ∧ Below w.heap.size w w' := by
  have hb : -9223372036854775808 ≤ n ∧ n ≤ 9223372036854775807 := by
    have h := hn
    simp [Lit.wf, IntKind.min, IntKind.max, IntKind.signed, IntKind.bits] at h
    omega
  refine (sh_strconv_Itoa n hb.1 hb.2 w ht).mono ?_
  rintro e w' ⟨rfl, k, os, rfl⟩
  rw [itoa_eq]
  exact ⟨rfl, below_grow k os⟩
end Go.Proofs.YtmhhbnnjilbdnaaGreatDoor.En
namespace Go.Proofs.YtmhhbnnjilbdnaaGreatDoor.En
open Go.RowKit
set_option linter.unusedSimpArgs false
set_option linter.unusedVariables false
set_option maxRecDepth 100000

theorem digL_len : ∀ k n, n < 10 ^ (k + 1) → (digL n).length ≤ k + 1 := by
  intro k
  induction k with
  | zero => intro n h; rw [digL_lt (by omega)]; simp
  | succ k ih =>
    intro n h
    by_cases hn : n < 10
    · rw [digL_lt hn]; simp
    · rw [digL_ge hn, List.length_append]
      have := ih (n / 10) (by rw [Nat.pow_succ] at h; omega)
      simp; omega

theorem dTx_len (n : Int) : (dTx n).length ≤ 5 := by
  unfold dTx
  split
  · next h =>
    obtain ⟨d, rfl⟩ := Int.eq_ofNat_of_zero_le h.1
    have : ∀ d, d < 366 → (Da.dtxt d).length ≤ 5 := by decide +kernel
    exact this _ (by omega)
  · simp
theorem cTx_len (n : Int) : (cTx n).length ≤ 4 := by
  unfold cTx Da.ctxt Da.two
  split <;> simp
theorem itoaL_len (n : Int) (hn : (Lit.int .i64 n).wf = true) : (itoaL n).length ≤ 20 := by
  have hb : -9223372036854775808 ≤ n ∧ n ≤ 9223372036854775807 := by
    have h := hn
    simp [Lit.wf, IntKind.min, IntKind.max, IntKind.signed, IntKind.bits] at h
    omega
  unfold itoaL
  split
  · have := digL_len 18 n.natAbs (by omega)
    simp; omega
  · have := digL_len 18 n.toNat (by omega)
    omega
end Go.Proofs.YtmhhbnnjilbdnaaGreatDoor.En
