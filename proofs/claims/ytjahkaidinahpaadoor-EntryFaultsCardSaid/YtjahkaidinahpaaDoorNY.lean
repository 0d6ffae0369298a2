/- Entries: the walk of EntryFaults (printed by gen_fl.py). -/
import Derived.Test.YtjahkaidinahpaaDoorNT
namespace Go.Proofs.YtjahkaidinahpaaDoor.En
open Go Go.RowKit
set_option linter.unusedSimpArgs false
set_option linter.unusedVariables false
set_option maxRecDepth 100000

set_option maxHeartbeats 8000000 in
theorem fl_long (s : ByteArray) (hs : s.size ≤ maxLen) (w : World) (ht : Da.LenTab w) (hp : PowTab w) (hl : 5000 < s.size) :
    Calls Tryd.prog 8 #[.string s] w fun e w' => e = .returned (.bool true) ∧ Below w.heap.size w w' := by
  have hsl : (toL s).length = s.size := by simp
  have HAW : RowKit.Hid (∀ W, Below w.heap.size w W → Calls Tryd.prog 28 #[] W fun e w' => e = .returned (.bool true) ∧ Below W.heap.size W w') := Lib.hid fun W hW => awake_m W (ht.keep hW) (powTab_keep hp hW)
  have hl2 : (5000 : Int) < (s.size : Int) := by omega
  clear ht hp hsl hl
  unfold maxLen at hs
  go_enter Tryd.func8, Tryd.ntmps8
  go_wp2_with (first
    | (go_at_call 28; (with_reducible refine (HAW.out _ (Below.refl _ _)).mono ?_); rintro e w1 ⟨rfl, hb1⟩))
  go_ret
  exact ⟨rfl, hb1⟩

set_option maxHeartbeats 8000000 in
theorem fl_ok (s : ByteArray) (hs : s.size ≤ maxLen) (w : World) (ht : Da.LenTab w) (hp : PowTab w) (c : CmdT) (hr : parse (toL s) = .ok c) :
    Calls Tryd.prog 8 #[.string s] w fun e w' => e = .returned (.bool true) ∧ Below w.heap.size w w' := by
  have hsl : (toL s).length = s.size := by simp
  have HAW : RowKit.Hid (∀ W, Below w.heap.size w W → Calls Tryd.prog 28 #[] W fun e w' => e = .returned (.bool true) ∧ Below W.heap.size W w') := Lib.hid fun W hW => awake_m W (ht.keep hW) (powTab_keep hp hW)
  have h5 := (parse_ok hr).2.2.2.2
  rw [hsl] at h5
  have hl2 : ¬ (5000 : Int) < (s.size : Int) := by omega
  have hl3 : ¬ (255 : Int) < (s.size : Int) := by omega
  have HP1 : RowKit.Hid (∀ W, Below w.heap.size w W → Calls Tryd.prog 29 #[.string s] W fun e w' => e = .returned (.tuple #[.agg #[.int .i64 c.kind, txV c.text, txV c.office, .int .i64 c.day, txV c.src, txV c.dst, .int .i64 c.minute, txV c.last, txV c.first, .int .i64 c.n, .int .i64 c.pax, .int .u8 c.cls.toNat, .int .i64 c.line, .int .i64 c.row, .int .u8 c.c.toNat], .agg #[.int .i64 0, .int .i64 0]]) ∧ RowKit.Hid (Below W.heap.size W w')) := Lib.hid fun W hW => (parse_yes s c W hs (ht.keep hW) hr).mono fun _ _ h => ⟨h.1, Lib.hid h.2⟩
  unfold maxLen at hs
  clear hr ht hp hsl h5
  go_enter Tryd.func8, Tryd.ntmps8
  go_upto_region 6 with (first
    | (go_at_call 28; (with_reducible refine (HAW.out _ (Below.refl _ _)).mono ?_); rintro e w1 ⟨rfl, hb1⟩))
  obtain ⟨wa, hx, q1, q3⟩ := box1 73 [.int .i64 0, .int .i64 0] w1
  try rw [hx]
  have N0 := Lib.hid q1
  have HLA := Lib.hid (bel_trans hb1 q3)
  clear hx q1 q3
  generalize w1.heap.size = g1 at *
  go_upto_region 7 with (first
    | (go_at_call 29; (with_reducible refine (HP1.out _ HLA.out).mono ?_); rintro e w2 ⟨rfl, hb2⟩))
  obtain ⟨wb, hx, q1, q2, q3⟩ := box2 [.int .i64 c.kind, txV c.text, txV c.office, .int .i64 c.day, txV c.src, txV c.dst, .int .i64 c.minute, txV c.last, txV c.first, .int .i64 c.n, .int .i64 c.pax, .int .u8 c.cls.toNat, .int .i64 c.line, .int .i64 c.row, .int .u8 c.c.toNat] [.int .i64 0, .int .i64 0] w2
  try rw [hx]
  have N1 := Lib.hid (N0.out.mono (bel_trans hb2.out q3))
  have C1 := Lib.hid q1
  have F1 := Lib.hid q2
  have HLB := Lib.hid (bel_trans (bel_trans HLA.out hb2.out) q3)
  clear hx q1 q2 q3
  generalize w2.heap.size = g2 at *
  have a0 := N1.out.cell 0
  have a1 := N1.out.cell 1
  have b0 := F1.out.cell 0
  have b1 := F1.out.cell 1
  simp only [List.getElem?_cons_zero, List.getElem?_cons_succ] at a0 a1 b0 b1
  go_wp2
  go_ret
  exact ⟨rfl, HLB.out⟩

set_option maxHeartbeats 8000000 in
theorem fl_255 (s : ByteArray) (hs : s.size ≤ maxLen) (w : World) (ht : Da.LenTab w) (hp : PowTab w) (hl : ¬ 5000 < s.size) (hl3 : 255 < s.size) (hr : parse (toL s) = .error (40, 255)) :
    Calls Tryd.prog 8 #[.string s] w fun e w' => e = .returned (.bool true) ∧ Below w.heap.size w w' := by
  have hsl : (toL s).length = s.size := by simp
  have HAW : RowKit.Hid (∀ W, Below w.heap.size w W → Calls Tryd.prog 28 #[] W fun e w' => e = .returned (.bool true) ∧ Below W.heap.size W w') := Lib.hid fun W hW => awake_m W (ht.keep hW) (powTab_keep hp hW)
  have hl2 : ¬ (5000 : Int) < (s.size : Int) := by omega
  have hl4 : (255 : Int) < (s.size : Int) := by omega
  have HP1 : RowKit.Hid (∀ W, Below w.heap.size w W → Calls Tryd.prog 29 #[.string s] W fun e w' => e = .returned (.tuple #[.agg #[.int .i64 0, .string ⟨#[]⟩, .string ⟨#[]⟩, .int .i64 0, .string ⟨#[]⟩, .string ⟨#[]⟩, .int .i64 0, .string ⟨#[]⟩, .string ⟨#[]⟩, .int .i64 0, .int .i64 0, .int .u8 0, .int .i64 0, .int .i64 0, .int .u8 0], .agg #[.int .i64 40, .int .i64 255]]) ∧ RowKit.Hid (Below W.heap.size W w')) := Lib.hid fun W hW => (parse_no s 40 255 W hs (ht.keep hW) hr).mono fun _ _ h => ⟨h.1, Lib.hid h.2⟩
  unfold maxLen at hs
  clear hr ht hp hsl hl hl3
  go_enter Tryd.func8, Tryd.ntmps8
  go_upto_region 6 with (first
    | (go_at_call 28; (with_reducible refine (HAW.out _ (Below.refl _ _)).mono ?_); rintro e w1 ⟨rfl, hb1⟩))
  obtain ⟨wa, hx, q1, q3⟩ := box1 73 [.int .i64 0, .int .i64 0] w1
  try rw [hx]
  have N0 := Lib.hid q1
  have HLA := Lib.hid (bel_trans hb1 q3)
  clear hx q1 q3
  generalize w1.heap.size = g1 at *
  go_upto_region 7 with (first
    | (go_at_call 29; (with_reducible refine (HP1.out _ HLA.out).mono ?_); rintro e w2 ⟨rfl, hb2⟩))
  obtain ⟨wb, hx, q1, q2, q3⟩ := box2 [.int .i64 0, .string ⟨#[]⟩, .string ⟨#[]⟩, .int .i64 0, .string ⟨#[]⟩, .string ⟨#[]⟩, .int .i64 0, .string ⟨#[]⟩, .string ⟨#[]⟩, .int .i64 0, .int .i64 0, .int .u8 0, .int .i64 0, .int .i64 0, .int .u8 0] [.int .i64 40, .int .i64 255] w2
  try rw [hx]
  have N1 := Lib.hid (N0.out.mono (bel_trans hb2.out q3))
  have C1 := Lib.hid q1
  have F1 := Lib.hid q2
  have HLB := Lib.hid (bel_trans (bel_trans HLA.out hb2.out) q3)
  clear hx q1 q2 q3
  generalize w2.heap.size = g2 at *
  have a0 := N1.out.cell 0
  have a1 := N1.out.cell 1
  have b0 := F1.out.cell 0
  have b1 := F1.out.cell 1
  simp only [List.getElem?_cons_zero, List.getElem?_cons_succ] at a0 a1 b0 b1
  go_wp2
  go_ret
  exact ⟨rfl, HLB.out⟩

set_option maxHeartbeats 8000000 in
theorem fl_41 (s : ByteArray) (hs : s.size ≤ maxLen) (w : World) (ht : Da.LenTab w) (hp : PowTab w) (hl : s.size ≤ 255) (p : Nat) (hr : parse (toL s) = .error (41, p)) :
    Calls Tryd.prog 8 #[.string s] w fun e w' => e = .returned (.bool true) ∧ Below w.heap.size w w' := by
  have hsl : (toL s).length = s.size := by simp
  have HAW : RowKit.Hid (∀ W, Below w.heap.size w W → Calls Tryd.prog 28 #[] W fun e w' => e = .returned (.bool true) ∧ Below W.heap.size W w') := Lib.hid fun W hW => awake_m W (ht.keep hW) (powTab_keep hp hW)
  obtain ⟨g1, g2, g3, g4, g5, g6, g7⟩ := parse_code hr
  have hp0 := g6 rfl
  subst hp0
  have hl2 : ¬ (5000 : Int) < (s.size : Int) := by omega
  have hl3 : ¬ (255 : Int) < (s.size : Int) := by omega
  have e5 : ¬ (s.size : Int) < 0 := by omega
  have HP1 : RowKit.Hid (∀ W, Below w.heap.size w W → Calls Tryd.prog 29 #[.string s] W fun e w' => e = .returned (.tuple #[.agg #[.int .i64 0, .string ⟨#[]⟩, .string ⟨#[]⟩, .int .i64 0, .string ⟨#[]⟩, .string ⟨#[]⟩, .int .i64 0, .string ⟨#[]⟩, .string ⟨#[]⟩, .int .i64 0, .int .i64 0, .int .u8 0, .int .i64 0, .int .i64 0, .int .u8 0], .agg #[.int .i64 41, .int .i64 0]]) ∧ RowKit.Hid (Below W.heap.size W w')) := Lib.hid fun W hW => (parse_no s 41 0 W hs (ht.keep hW) hr).mono fun _ _ h => ⟨h.1, Lib.hid h.2⟩
  unfold maxLen at hs
  clear hr ht hp hsl hl g1 g2 g3 g4 g5 g6 g7
  go_enter Tryd.func8, Tryd.ntmps8
  go_upto_region 6 with (first
    | (go_at_call 28; (with_reducible refine (HAW.out _ (Below.refl _ _)).mono ?_); rintro e w1 ⟨rfl, hb1⟩))
  obtain ⟨wa, hx, q1, q3⟩ := box1 73 [.int .i64 0, .int .i64 0] w1
  try rw [hx]
  have N0 := Lib.hid q1
  have HLA := Lib.hid (bel_trans hb1 q3)
  clear hx q1 q3
  generalize w1.heap.size = g1 at *
  go_upto_region 7 with (first
    | (go_at_call 29; (with_reducible refine (HP1.out _ HLA.out).mono ?_); rintro e w2 ⟨rfl, hb2⟩))
  obtain ⟨wb, hx, q1, q2, q3⟩ := box2 [.int .i64 0, .string ⟨#[]⟩, .string ⟨#[]⟩, .int .i64 0, .string ⟨#[]⟩, .string ⟨#[]⟩, .int .i64 0, .string ⟨#[]⟩, .string ⟨#[]⟩, .int .i64 0, .int .i64 0, .int .u8 0, .int .i64 0, .int .i64 0, .int .u8 0] [.int .i64 41, .int .i64 0] w2
  try rw [hx]
  have N1 := Lib.hid (N0.out.mono (bel_trans hb2.out q3))
  have C1 := Lib.hid q1
  have F1 := Lib.hid q2
  have HLB := Lib.hid (bel_trans (bel_trans HLA.out hb2.out) q3)
  clear hx q1 q2 q3
  generalize w2.heap.size = g2 at *
  have a0 := N1.out.cell 0
  have a1 := N1.out.cell 1
  have b0 := F1.out.cell 0
  have b1 := F1.out.cell 1
  simp only [List.getElem?_cons_zero, List.getElem?_cons_succ] at a0 a1 b0 b1
  go_wp2
  go_ret
  exact ⟨rfl, HLB.out⟩

set_option maxHeartbeats 8000000 in
theorem fl_er (s : ByteArray) (hs : s.size ≤ maxLen) (w : World) (ht : Da.LenTab w) (hp : PowTab w) (hl : s.size ≤ 255) (k : Int) (p : Nat) (hk1 : k ≠ 41) (hk2 : k ≠ 47) (hr : parse (toL s) = .error (k, p)) :
    Calls Tryd.prog 8 #[.string s] w fun e w' => e = .returned (.bool true) ∧ Below w.heap.size w w' := by
  have hsl : (toL s).length = s.size := by simp
  have HAW : RowKit.Hid (∀ W, Below w.heap.size w W → Calls Tryd.prog 28 #[] W fun e w' => e = .returned (.bool true) ∧ Below W.heap.size W w') := Lib.hid fun W hW => awake_m W (ht.keep hW) (powTab_keep hp hW)
  obtain ⟨g1, g2, g3, g4, g5, g6, g7⟩ := parse_code hr
  rw [hsl] at g3 g5
  have hk40 : ¬ k = 40 := by omega
  have hl2 : ¬ (5000 : Int) < (s.size : Int) := by omega
  have hl3 : ¬ (255 : Int) < (s.size : Int) := by omega
  have e0 : ¬ k = 0 := by omega
  have e1 : (k == 40) = false := by simp; omega
  have e2 : ¬ k < 40 := by omega
  have e3 : ¬ 47 < k := by omega
  have e4 : ¬ (p : Int) < 0 := by omega
  have e5 : ¬ (s.size : Int) < (p : Int) := by have := g5 (by omega); omega
  have e6 : (k == 41) = false := by simp; omega
  have e7 : (k != 47) = true := by simp; omega
  have HP1 : RowKit.Hid (∀ W, Below w.heap.size w W → Calls Tryd.prog 29 #[.string s] W fun e w' => e = .returned (.tuple #[.agg #[.int .i64 0, .string ⟨#[]⟩, .string ⟨#[]⟩, .int .i64 0, .string ⟨#[]⟩, .string ⟨#[]⟩, .int .i64 0, .string ⟨#[]⟩, .string ⟨#[]⟩, .int .i64 0, .int .i64 0, .int .u8 0, .int .i64 0, .int .i64 0, .int .u8 0], .agg #[.int .i64 k, .int .i64 (p : Nat)]]) ∧ RowKit.Hid (Below W.heap.size W w')) := Lib.hid fun W hW => (parse_no s k p W hs (ht.keep hW) hr).mono fun _ _ h => ⟨h.1, Lib.hid h.2⟩
  unfold maxLen at hs
  clear hr ht hp hsl hl g1 g2 g3 g4 g5 g6 g7 hk1 hk2 hk40
  go_enter Tryd.func8, Tryd.ntmps8
  go_upto_region 6 with (first
    | (go_at_call 28; (with_reducible refine (HAW.out _ (Below.refl _ _)).mono ?_); rintro e w1 ⟨rfl, hb1⟩))
  obtain ⟨wa, hx, q1, q3⟩ := box1 73 [.int .i64 0, .int .i64 0] w1
  try rw [hx]
  have N0 := Lib.hid q1
  have HLA := Lib.hid (bel_trans hb1 q3)
  clear hx q1 q3
  generalize w1.heap.size = g1 at *
  go_upto_region 7 with (first
    | (go_at_call 29; (with_reducible refine (HP1.out _ HLA.out).mono ?_); rintro e w2 ⟨rfl, hb2⟩))
  obtain ⟨wb, hx, q1, q2, q3⟩ := box2 [.int .i64 0, .string ⟨#[]⟩, .string ⟨#[]⟩, .int .i64 0, .string ⟨#[]⟩, .string ⟨#[]⟩, .int .i64 0, .string ⟨#[]⟩, .string ⟨#[]⟩, .int .i64 0, .int .i64 0, .int .u8 0, .int .i64 0, .int .i64 0, .int .u8 0] [.int .i64 k, .int .i64 (p : Nat)] w2
  try rw [hx]
  have N1 := Lib.hid (N0.out.mono (bel_trans hb2.out q3))
  have C1 := Lib.hid q1
  have F1 := Lib.hid q2
  have HLB := Lib.hid (bel_trans (bel_trans HLA.out hb2.out) q3)
  clear hx q1 q2 q3
  generalize w2.heap.size = g2 at *
  have a0 := N1.out.cell 0
  have a1 := N1.out.cell 1
  have b0 := F1.out.cell 0
  have b1 := F1.out.cell 1
  simp only [List.getElem?_cons_zero, List.getElem?_cons_succ] at a0 a1 b0 b1
  go_wp2
  go_ret
  exact ⟨rfl, HLB.out⟩

set_option maxHeartbeats 8000000 in
theorem fl_47 (s : ByteArray) (hs : s.size ≤ maxLen) (w : World) (ht : Da.LenTab w) (hp : PowTab w) (hl : s.size ≤ 255) (p : Nat) (hr : parse (toL s) = .error (47, p)) :
    Calls Tryd.prog 8 #[.string s] w fun e w' => e = .returned (.bool true) ∧ Below w.heap.size w w' := by
  have hsl : (toL s).length = s.size := by simp
  have HAW : RowKit.Hid (∀ W, Below w.heap.size w W → Calls Tryd.prog 28 #[] W fun e w' => e = .returned (.bool true) ∧ Below W.heap.size W w') := Lib.hid fun W hW => awake_m W (ht.keep hW) (powTab_keep hp hW)
  obtain ⟨g1, g2, g3, g4, g5, g6, g7⟩ := parse_code hr
  obtain ⟨hlt, c, hc⟩ := g7 rfl
  rw [hsl] at hlt
  have hl2 : ¬ (5000 : Int) < (s.size : Int) := by omega
  have hl3 : ¬ (255 : Int) < (s.size : Int) := by omega
  have e4 : ¬ (p : Int) < 0 := by omega
  have e5 : ¬ (s.size : Int) < (p : Int) := by omega
  have e8 : (p : Int) < (s.size : Int) := by omega
  have e9 : (p : Int) ≤ (s.size : Int) := by omega
  have e10 : (0 : Int) ≤ (p : Int) := by omega
  have e11 : p ≤ s.size := by omega
  have hcut : toL (s.extract 0 p) = (toL s).take p := by show (s.extract 0 p).data.toList = s.data.toList.take p; simp
  have hcs : (s.extract 0 p).size ≤ maxLen := by rw [ByteArray.size_extract]; omega
  have HP1 : RowKit.Hid (∀ W, Below w.heap.size w W → Calls Tryd.prog 29 #[.string s] W fun e w' => e = .returned (.tuple #[.agg #[.int .i64 0, .string ⟨#[]⟩, .string ⟨#[]⟩, .int .i64 0, .string ⟨#[]⟩, .string ⟨#[]⟩, .int .i64 0, .string ⟨#[]⟩, .string ⟨#[]⟩, .int .i64 0, .int .i64 0, .int .u8 0, .int .i64 0, .int .i64 0, .int .u8 0], .agg #[.int .i64 47, .int .i64 (p : Nat)]]) ∧ RowKit.Hid (Below W.heap.size W w')) := Lib.hid fun W hW => (parse_no s 47 p W hs (ht.keep hW) hr).mono fun _ _ h => ⟨h.1, Lib.hid h.2⟩
  have HP2 : RowKit.Hid (∀ W, Below w.heap.size w W → Calls Tryd.prog 29 #[.string (s.extract 0 p)] W fun e w' => e = .returned (.tuple #[.agg #[.int .i64 c.kind, txV c.text, txV c.office, .int .i64 c.day, txV c.src, txV c.dst, .int .i64 c.minute, txV c.last, txV c.first, .int .i64 c.n, .int .i64 c.pax, .int .u8 c.cls.toNat, .int .i64 c.line, .int .i64 c.row, .int .u8 c.c.toNat], .agg #[.int .i64 0, .int .i64 0]]) ∧ RowKit.Hid (Below W.heap.size W w')) := Lib.hid fun W hW => (parse_yes (s.extract 0 p) c W hcs (ht.keep hW) (by rw [hcut]; exact hc)).mono fun _ _ h => ⟨h.1, Lib.hid h.2⟩
  unfold maxLen at hs
  clear hr ht hp hsl hl g1 g2 g3 g4 g5 g6 g7 hc hcut hcs hlt
  go_enter Tryd.func8, Tryd.ntmps8
  go_upto_region 6 with (first
    | (go_at_call 28; (with_reducible refine (HAW.out _ (Below.refl _ _)).mono ?_); rintro e w1 ⟨rfl, hb1⟩))
  obtain ⟨wa, hx, q1, q3⟩ := box1 73 [.int .i64 0, .int .i64 0] w1
  try rw [hx]
  have N0 := Lib.hid q1
  have HLA := Lib.hid (bel_trans hb1 q3)
  clear hx q1 q3
  generalize w1.heap.size = g1 at *
  go_upto_region 7 with (first
    | (go_at_call 29; (with_reducible refine (HP1.out _ HLA.out).mono ?_); rintro e w2 ⟨rfl, hb2⟩))
  obtain ⟨wb, hx, q1, q2, q3⟩ := box2 [.int .i64 0, .string ⟨#[]⟩, .string ⟨#[]⟩, .int .i64 0, .string ⟨#[]⟩, .string ⟨#[]⟩, .int .i64 0, .string ⟨#[]⟩, .string ⟨#[]⟩, .int .i64 0, .int .i64 0, .int .u8 0, .int .i64 0, .int .i64 0, .int .u8 0] [.int .i64 47, .int .i64 (p : Nat)] w2
  try rw [hx]
  have N1 := Lib.hid (N0.out.mono (bel_trans hb2.out q3))
  have C1 := Lib.hid q1
  have F1 := Lib.hid q2
  have HLB := Lib.hid (bel_trans (bel_trans HLA.out hb2.out) q3)
  clear hx q1 q2 q3
  generalize w2.heap.size = g2 at *
  have a0 := N1.out.cell 0
  have a1 := N1.out.cell 1
  have b0 := F1.out.cell 0
  have b1 := F1.out.cell 1
  simp only [List.getElem?_cons_zero, List.getElem?_cons_succ] at a0 a1 b0 b1
  go_upto_region 16 with (first
    | (go_at_call 29; (with_reducible refine (HP2.out _ HLB.out).mono ?_); rintro e w4 ⟨rfl, hb4⟩))
  clear a0 a1 b0 b1
  obtain ⟨wd, hx, q1, q2, q3⟩ := box2 [.int .i64 c.kind, txV c.text, txV c.office, .int .i64 c.day, txV c.src, txV c.dst, .int .i64 c.minute, txV c.last, txV c.first, .int .i64 c.n, .int .i64 c.pax, .int .u8 c.cls.toNat, .int .i64 c.line, .int .i64 c.row, .int .u8 c.c.toNat] [.int .i64 0, .int .i64 0] w4
  try rw [hx]
  have hk := bel_trans hb4.out q3
  have M0 := N1.out.mono hk
  have M1 := F1.out.mono hk
  have HLD := Lib.hid (bel_trans HLB.out hk)
  have a0 := M0.cell 0
  have a1 := M0.cell 1
  have b0 := M1.cell 0
  have b1 := M1.cell 1
  have u0 := q2.cell 0
  have u1 := q2.cell 1
  simp only [List.getElem?_cons_zero, List.getElem?_cons_succ] at a0 a1 b0 b1 u0 u1
  clear hx q1 q2 q3 hk M0 M1
  go_wp2
  go_ret
  exact ⟨rfl, HLD.out⟩

theorem fl_walk (s : ByteArray) (hs : s.size ≤ maxLen) (w : World) (ht : Da.LenTab w) (hp : PowTab w) :
    Calls Tryd.prog 8 #[.string s] w fun e w' => e = .returned (.bool true) ∧ Below w.heap.size w w' := by
  have hsl : (toL s).length = s.size := by simp
  by_cases hl : 5000 < s.size
  · exact fl_long s hs w ht hp hl
  · cases hr : parse (toL s) with
    | ok c => exact fl_ok s hs w ht hp c hr
    | error f =>
      obtain ⟨k, p⟩ := f
      obtain ⟨g1, g2, g3, g4, g5, g6, g7⟩ := parse_code hr
      rw [hsl] at g3 g5
      by_cases h40 : k = 40
      · have hp' := g4 h40
        subst h40 hp'
        exact fl_255 s hs w ht hp hl (g3.1 rfl) hr
      · have hle : s.size ≤ 255 := by omega
        by_cases h41 : k = 41
        · subst h41; exact fl_41 s hs w ht hp hle p hr
        · by_cases h47 : k = 47
          · subst h47; exact fl_47 s hs w ht hp hle p hr
          · exact fl_er s hs w ht hp hle k p h41 h47 hr

end Go.Proofs.YtjahkaidinahpaaDoor.En
