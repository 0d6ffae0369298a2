/- The contracts of date.Text, Clock, Weekday and of the reference's. -/
import Derived.Test.YtpfgmmmeofnkoaaDoorDateB
namespace Go.Proofs.YtpfgmmmeofnkoaaDoor
open Go.RowKit

def lensV : Array Value := #[.int .i64 31, .int .i64 29, .int .i64 31, .int .i64 30, .int .i64 31, .int .i64 30, .int .i64 31, .int .i64 31, .int .i64 30, .int .i64 31, .int .i64 30, .int .i64 31]
theorem lensV_at : ∀ m, m < 12 → lensV[m]? = some (.int .i64 (lenN m)) := by
  intro m h
  match m, h with
  | 0, _ => rfl
  | 1, _ => rfl
  | 2, _ => rfl
  | 3, _ => rfl
  | 4, _ => rfl
  | 5, _ => rfl
  | 6, _ => rfl
  | 7, _ => rfl
  | 8, _ => rfl
  | 9, _ => rfl
  | 10, _ => rfl
  | 11, _ => rfl
/-- The table of the months' lengths lies where it lay. -/
def LenTab (w : World) : Prop := ∃ t fr, w.heap[0]? = some (.cells lensV t fr)
theorem LenTab.pos {w : World} (h : LenTab w) : 0 < w.heap.size := by
  obtain ⟨t, fr, h⟩ := h
  rcases Nat.lt_or_ge 0 w.heap.size with h1 | h1
  · exact h1
  · rw [Array.getElem?_eq_none h1] at h
    cases h
theorem LenTab.keep {w w' : World} (h : LenTab w) (hb : Below w.heap.size w w') : LenTab w' := by
  have hp := h.pos
  obtain ⟨t, fr, h⟩ := h
  exact ⟨t, fr, (hb.block _ hp).trans h⟩
theorem LenTab.cell {w : World} (h : LenTab w) (m : Nat) (hm : m < 12) : w.cell? ⟨0, m, none⟩ = some (.int .i64 (lenN m)) := by
  obtain ⟨t, fr, h⟩ := h
  rw [cell_of_row w _ m lensV t fr h]
  exact lensV_at m hm

theorem monGo_ge : ∀ f m d, m ≤ (monGo f m d).1 := by
  intro f
  induction f with
  | zero => intro m d; exact Nat.le_refl _
  | succ f ih =>
    intro m d
    rw [monGo]
    split
    · exact Nat.le_trans (Nat.le_succ m) (ih _ _)
    · exact Nat.le_refl _
theorem monGo_more {m d D : Nat} (hm : m < 12) (h : monGo (12 - m) m d = (monOf D, dayOf D)) (hl : lenN m ≤ d) : monGo (12 - (m + 1)) (m + 1) (d - lenN m) = (monOf D, dayOf D) := by
  rw [show 12 - m = (12 - (m + 1)) + 1 by omega, monGo, if_pos hl] at h
  exact h
theorem monGo_done {m d D : Nat} (hm : m < 12) (h : monGo (12 - m) m d = (monOf D, dayOf D)) (hl : ¬ lenN m ≤ d) : m = monOf D ∧ d = dayOf D := by
  rw [show 12 - m = (12 - (m + 1)) + 1 by omega, monGo, if_neg hl] at h
  exact Prod.mk.inj h

def months : ByteArray := ⟨#[74, 65, 78, 70, 69, 66, 77, 65, 82, 65, 80, 82, 77, 65, 89, 74, 85, 78, 74, 85, 76, 65, 85, 71, 83, 69, 80, 79, 67, 84, 78, 79, 86, 68, 69, 67]⟩
theorem months_cut : ∀ m, m < 12 → months.extract (3 * m) (3 * m + 3) = monA m := by decide +kernel

theorem text_any (D : Nat) (w : World) (h : D < 366) (ht : LenTab w) :
    Calls Tryd.prog 9 #[.int .i64 D] w fun e w' => e = .returned (.tuple #[.string (twoA (dayOf D + 1) ++ monA (monOf D)), .int .i64 0]) ∧ Below w.heap.size w w' := by
  obtain ⟨f1, f2, _, _⟩ := day_facts D h
  have l1 := (len_facts (monOf D) f1).2.1
  go_enter Tryd.func9, Tryd.ntmps9
  go_wp2
  go_loop [0, 4] (fun x i => ∃ m d : Nat, i = .int .i64 m ∧ x = .int .i64 d ∧ d < 366 ∧ m ≤ monOf D ∧ monGo (12 - m) m d = (monOf D, dayOf D)) (fun _ i => 12 - (intOf i).toNat)
  case atStart => exact ⟨0, D, rfl, rfl, h, Nat.zero_le _, rfl⟩
  case round =>
    obtain ⟨m, d, rfl, rfl, hd, hm, hgo⟩ := hrel
    have hm12 : m < 12 := by omega
    have hc := ht.cell m hm12
    have HG := Lib.hid hgo
    have hll := len_facts m hm12
    clear hgo
    by_cases hl : lenN m ≤ d
    · have hg := monGo_more hm12 HG.out hl
      have hge := monGo_ge (12 - (m + 1)) (m + 1) (d - lenN m)
      rw [hg] at hge
      have hge2 : m + 1 ≤ monOf D := hge
      have HG2 := Lib.hid hg
      clear hg hge ht
      generalize lenN m = L at hc hl hll HG2
      obtain ⟨a1, a2, _, _⟩ := hll
      go_wp2
      go_round
      case rel => exact ⟨m + 1, d - L, by go_num, by go_num, by omega, by omega, HG2.out⟩
      case measure => simp [intOf]; omega
    · obtain ⟨rfl, rfl⟩ := monGo_done hm12 HG.out hl
      have hcut := months_cut (monOf D) hm12
      unfold months at hcut
      generalize hM : monOf D = m at *
      generalize hD : dayOf D = d at *
      have HM := Lib.hid hM
      have HD := Lib.hid hD
      clear ht hM hD
      go_wp2_with fail
      have q1 : IntKind.i64.wrap ((d : Int) + 1) = (d : Int) + 1 := IntWalk.i64_in _ (by omega)
      have q2 : IntKind.i64.wrap (3 * (m : Int)) = 3 * (m : Int) := IntWalk.i64_in _ (by omega)
      have q3 : IntKind.i64.wrap (3 * (m : Int) + 3) = 3 * (m : Int) + 3 := IntWalk.i64_in _ (by omega)
      have q4 : (3 * (m : Int)).toNat = 3 * m := by omega
      have q5 : (3 * (m : Int) + 3).toNat = 3 * m + 3 := by omega
      have q6 : (0 : Int) ≤ 3 * (m : Int) := by omega
      have q7 : 3 * (m : Int) + 3 ≤ 36 := by omega
      have q8 := monA_size m
      have q9 := twoA_size (d + 1)
      have q10 : ((d : Int) + 1).toNat = d + 1 := by omega
      go_region_with (go_at_call 22; refine (two_any ((d : Int) + 1) _ (by omega) (by omega)).mono ?_; rw [q10]; rintro e w1 ⟨rfl, hb⟩)
      all_goals clear q1 q2 q3 q4 q5 q6 q7 q8 q9
      all_goals go_wp2
      all_goals go_ret2
      all_goals refine ⟨?_, ((Below.refl _ _).drew).trans hb⟩
      all_goals rw [HM.out, HD.out]
      all_goals rfl
end Go.Proofs.YtpfgmmmeofnkoaaDoor
