/- told, long, awake. -/
import Derived.Test.YtjahkaidinahpaaDoorEW
import Derived.Test.YtjahkaidinahpaaDoorEZ
namespace Go.Proofs.YtjahkaidinahpaaDoor
open Go.RowKit Go.ChangeMaps
set_option linter.unusedSimpArgs false
set_option linter.unusedVariables false
set_option maxRecDepth 20000

theorem told_yes (v : Value) (bs : List UInt8) (w : World) (hv : HasE byteC w v bs) :
    Calls Tryd.prog 20 #[v, .int .i64 0, .string (strA bs), .bool true] w fun e w' => e = .returned (.bool true) ∧ w = w' := by
  have hc := conv_has hv
  unfold strA
  clear hv
  go_enter Tryd.func20, Tryd.ntmps20
  go_wp2
  go_ret
  exact ⟨rfl, rfl⟩

theorem told_no (t : ByteArray) (w : World) :
    Calls Tryd.prog 20 #[.slice none 0 0, .int .i64 4, .string t, .bool false] w fun e w' => e = .returned (.bool true) ∧ w = w' := by
  go_enter Tryd.func20, Tryd.ntmps20
  go_wp2
  go_ret
  exact ⟨rfl, rfl⟩

theorem long_any (p : Option Addr) (n c : Nat) (w : World) :
    Calls Tryd.prog 17 #[.slice p n c] w fun e w' => e = .returned (.bool (decide (20000 < n))) ∧ w = w' := by
  by_cases h : 20000 < n
  · have hi : (20000 : Int) < (n : Int) := by omega
    have hd := Lib.hid (decide_eq_true h)
    clear h
    go_enter Tryd.func17, Tryd.ntmps17
    go_wp2
    go_ret
    exact ⟨ret_bool hd.out.symm, rfl⟩
  · have hi : ¬ (20000 : Int) < (n : Int) := by omega
    have hd := Lib.hid (decide_eq_false h)
    clear h
    go_enter Tryd.func17, Tryd.ntmps17
    go_wp2
    go_ret
    exact ⟨ret_bool hd.out.symm, rfl⟩

def lq : List ByteArray := [⟨#[73, 73, 68, 73, 83, 77]⟩, ⟨#[83, 83, 72, 78, 67, 78]⟩]
theorem lq_has (w : World) : HasL (w.alloc (.cells #[.string ⟨#[73, 73, 68, 73, 83, 77]⟩, .string ⟨#[83, 83, 72, 78, 67, 78]⟩] 9)) (.slice (some ⟨w.heap.size, 0, none⟩) 2 2) lq := by
  refine .inr ⟨w.heap.size, 0, 2, rfl, Nat.le_refl _, by decide, fun j hj => ?_⟩
  match j, hj with
  | 0, _ => simp [lq]
  | 1, _ => simp [lq]

theorem lq_queue : queueB lq = some [81, 2, 0, 0, 0, 0, 0, 0, 0, 1] := awake_queue
theorem lq_read {l : List ByteArray} (h : readQ [81, 2, 0, 0, 0, 0, 0, 0, 0, 1] = some (l.map toL)) : l = lq := by
  rw [awake_read] at h
  injection h with h
  have h2 : lq.map toL = l.map toL := h
  exact (List.map_inj_right (fun a b e => toL_inj e)).1 h2.symm

set_option maxHeartbeats 16000000 in
theorem awake_any (w : World) : Calls Tryd.prog 13 #[] w fun e w' => e = .returned (.bool true) ∧ Below w.heap.size w w' := by
  have HQ : RowKit.Hid (Calls Tryd.prog 18 #[.slice (some ⟨w.heap.size, 0, none⟩) 2 2] (w.alloc (.cells #[.string ⟨#[73, 73, 68, 73, 83, 77]⟩, .string ⟨#[83, 83, 72, 78, 67, 78]⟩] 9)) fun e w' => ∃ v, e = .returned (.tuple #[v, .int .i64 0]) ∧ OwnB w' w.heap.size v [81, 2, 0, 0, 0, 0, 0, 0, 0, 1] ∧ Below w.heap.size w w') := Lib.hid (by
    refine (queue_any _ lq _ (lq_has w) (by intro s hs; simp [lq] at hs; rcases hs with rfl | rfl <;> decide)).mono ?_
    rintro e w' ⟨h1, h2⟩
    have hb : Below w.heap.size w w' := bel_trans ((Below.refl _ _).alloc (Nat.le_refl _) _) h2
    rw [lq_queue] at h1
    rcases h1 with ⟨bs, v, e1, rfl, h3⟩ | ⟨e1, _⟩
    · injection e1 with e1
      subst e1
      exact ⟨v, rfl, h3.low (by simp), hb⟩
    · cases e1)
  have HC : RowKit.Hid (∀ W, Calls Tryd.prog 21 #[.agg #[.int .i64 300, .int .i64 5]] W fun e w' => ∃ v, e = .returned (.tuple #[v, .int .i64 0]) ∧ HasE byteC w' v [67, 172, 2, 5] ∧ Below W.heap.size W w') := Lib.hid fun W => by
    refine (ofCount_any 300 5 W).mono ?_
    rintro e w' ⟨h1, h2⟩
    rw [awake_count] at h1
    rcases h1 with ⟨bs, v, e1, rfl, h3⟩ | ⟨e1, _⟩
    · injection e1 with e1
      subst e1
      exact ⟨v, rfl, h3.has, h2⟩
    · cases e1
  have HP : RowKit.Hid (∀ W, Calls Tryd.prog 39 #[.agg #[.string ⟨#[]⟩, .string ⟨#[]⟩, .slice none 0 0, .slice none 0 0, .slice none 0 0, .int .i64 0, .int .i64 0, .int .i64 0, .string ⟨#[]⟩, .slice none 0 0, .slice none 0 0, .bool false]] W fun e w' => ∃ v, e = .returned (.tuple #[v, .int .i64 0]) ∧ HasE byteC w' v (zB 9) ∧ Below W.heap.size W w') := Lib.hid fun W => by
    refine (pnr_zero W).mono ?_
    rintro e w' ⟨h1, h2⟩
    rcases h1 with ⟨bs, v, e1, rfl, h3⟩ | ⟨e1, _⟩
    · injection e1 with e1
      subst e1
      exact ⟨v, rfl, h3.has, h2⟩
    · cases e1
  have HR : RowKit.Hid (∀ W v, HasE byteC W v [81, 2, 0, 0, 0, 0, 0, 0, 0, 1] → Calls Tryd.prog 23 #[v] W fun e w' => ∃ v, e = .returned (.tuple #[v, .int .i64 0]) ∧ HasL w' v lq ∧ Below W.heap.size W w') := Lib.hid fun W v h => by
    refine (readQueue_any v _ W h (by decide)).mono ?_
    rintro e w' ⟨h1, h2⟩
    rcases h1 with ⟨l, v, e1, rfl, h3⟩ | ⟨e1, _⟩
    · have := lq_read e1
      subst this
      exact ⟨v, rfl, h3.has, h2⟩
    · rw [awake_read] at e1
      cases e1
  go_enter Tryd.func13, Tryd.ntmps13
  go_upto_region 5 with (first
    | (go_at_call 18; (with_reducible refine HQ.out.mono ?_); rintro e w1 ⟨v1, rfl, ho1, hb1⟩)
    | (go_at_call 21; (with_reducible refine (HC.out _).mono ?_); rintro e w2 ⟨v2, rfl, ho2, hb2⟩)
    | (go_at_call 39; (with_reducible refine (HP.out _).mono ?_); rintro e w3 ⟨v3, rfl, ho3, hb3⟩)
    | (go_at_call 23; (with_reducible refine (HR.out _ _ ((ho1.has.mono hb2).mono hb3)).mono ?_); rintro e w4 ⟨v4, rfl, ho4, hb4⟩))
  have hb : Below w.heap.size w w4 := bel_trans (bel_trans (bel_trans hb1 hb2) hb3) hb4
  have c1 := conv_has (((ho1.has.mono hb2).mono hb3).mono hb4)
  have c2 := conv_has ((ho2.mono hb3).mono hb4)
  have h3 := ho3.mono hb4
  obtain ⟨p3, q3, rfl⟩ := h3.len
  obtain ⟨g3, o3, rfl, k3⟩ := byte_at h3 (i := 0) (by decide)
  obtain ⟨p4, q4, rfl⟩ := own_len ho4
  obtain ⟨g4, o4, rfl, k4⟩ := str_at ho4 (i := 1) (by decide)
  clear HQ HC HP HR ho1 ho2 ho3 ho4 hb1 hb2 hb3 hb4 h3
  have k3b : w4.cell? ⟨g3, o3, none⟩ = some (.int .u8 80) := k3
  have k4b : w4.cell? ⟨g4, o4 + 1, none⟩ = some (.string ⟨#[83, 83, 72, 78, 67, 78]⟩) := k4
  clear k3 k4
  have e3 : (zB 9).length = 10 := by rw [zB_len]
  have e4 : lq.length = 2 := rfl
  rw [e3, e4]
  go_wp2
  go_ret
  exact ⟨rfl, hb⟩
end Go.Proofs.YtjahkaidinahpaaDoor
