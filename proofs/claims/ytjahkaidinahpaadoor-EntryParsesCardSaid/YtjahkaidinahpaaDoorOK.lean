/- Entries: the walks of EntryParses and EntryPrints (printed by gen_ep.py). -/
import Derived.Test.YtjahkaidinahpaaDoorOA
import Derived.Test.YtjahkaidinahpaaDoorOI
namespace Go.Proofs.YtjahkaidinahpaaDoor.En
open Go Go.RowKit
set_option linter.unusedSimpArgs false
set_option linter.unusedVariables false
set_option maxRecDepth 100000

theorem rparse_yes (s : ByteArray) (d : CmdT) (W : World) (hs : s.size ≤ maxLen) (h : parse (toL s) = .ok d) :
    Calls Tryd.prog 30 #[.string s] W fun e w' => e = .returned (.tuple #[.agg (cmdA d), .int .i64 0, .int .i64 0]) ∧ RowKit.Hid (Below W.heap.size W w') := by
  refine (rparse_m s W hs).mono fun e w' hh => ?_
  obtain ⟨⟨c, h1, h2⟩ | ⟨k, q, h1, _, h2⟩, hb⟩ := hh
  · have e1 := h1.out.symm.trans h
    injection e1 with e1
    subst e1
    exact ⟨h2, hb⟩
  · have e1 := h1.out.symm.trans h
    cases e1
theorem rparse_no (s : ByteArray) (k : Int) (p : Nat) (W : World) (hs : s.size ≤ maxLen) (h : parse (toL s) = .error (k, p)) :
    Calls Tryd.prog 30 #[.string s] W fun e w' => e = .returned (.tuple #[.agg zerA, .int .i64 k, .int .i64 (p : Nat)]) ∧ RowKit.Hid (Below W.heap.size W w') := by
  refine (rparse_m s W hs).mono fun e w' hh => ?_
  obtain ⟨⟨c, h1, h2⟩ | ⟨k', q, h1, _, h2⟩, hb⟩ := hh
  · have e1 := h1.out.symm.trans h
    cases e1
  · have e1 := h1.out.symm.trans h
    injection e1 with e1
    injection e1 with e1 e2
    subst e1 e2
    exact ⟨h2, hb⟩
set_option maxHeartbeats 8000000 in
theorem ep_long (s : ByteArray) (hs : s.size ≤ maxLen) (w : World) (ht : Da.LenTab w) (hp : PowTab w) (hl : 5000 < s.size) :
    Calls Tryd.prog 5 #[.string s] w fun e w' => e = .returned (.bool true) ∧ Below w.heap.size w w' := by
  have hsl : (toL s).length = s.size := by simp
  have HAW : RowKit.Hid (∀ W, Below w.heap.size w W → Calls Tryd.prog 28 #[] W fun e w' => e = .returned (.bool true) ∧ RowKit.Hid (Below W.heap.size W w')) := Lib.hid fun W hW => (awake_m W (ht.keep hW) (powTab_keep hp hW)).mono fun _ _ h => ⟨h.1, Lib.hid h.2⟩
  have hl2 : (5000 : Int) < (s.size : Int) := by omega
  clear ht hp hsl hl
  unfold maxLen at hs
  go_enter Tryd.func5, Tryd.ntmps5
  go_wp2_with (first
    | (go_at_call 28; (with_reducible refine (HAW.out _ (Below.refl _ _)).mono ?_); rintro e w1 ⟨rfl, hb1⟩))
  go_ret
  exact ⟨rfl, hb1.out⟩
set_option maxHeartbeats 8000000 in
theorem ep_ok (s : ByteArray) (hs : s.size ≤ maxLen) (w : World) (ht : Da.LenTab w) (hp : PowTab w) (hl : ¬ 5000 < s.size) (c : CmdT) (hr : parse (toL s) = .ok c) :
    Calls Tryd.prog 5 #[.string s] w fun e w' => e = .returned (.bool true) ∧ Below w.heap.size w w' := by
  have hsl : (toL s).length = s.size := by simp
  have HAW : RowKit.Hid (∀ W, Below w.heap.size w W → Calls Tryd.prog 28 #[] W fun e w' => e = .returned (.bool true) ∧ RowKit.Hid (Below W.heap.size W w')) := Lib.hid fun W hW => (awake_m W (ht.keep hW) (powTab_keep hp hW)).mono fun _ _ h => ⟨h.1, Lib.hid h.2⟩
  have hl2 : ¬ (5000 : Int) < (s.size : Int) := by omega
  have HP1 : RowKit.Hid (∀ W, Below w.heap.size w W → Calls Tryd.prog 29 #[.string s] W fun e w' => e = .returned (.tuple #[.agg #[.int .i64 c.kind, txV c.text, txV c.office, .int .i64 c.day, txV c.src, txV c.dst, .int .i64 c.minute, txV c.last, txV c.first, .int .i64 c.n, .int .i64 c.pax, .int .u8 c.cls.toNat, .int .i64 c.line, .int .i64 c.row, .int .u8 c.c.toNat], .agg #[.int .i64 0, .int .i64 0]]) ∧ RowKit.Hid (Below W.heap.size W w')) := Lib.hid fun W hW => (parse_yes s c W hs (ht.keep hW) hr).mono fun _ _ h => ⟨h.1, Lib.hid h.2⟩
  have HR1 : RowKit.Hid (∀ W, Calls Tryd.prog 30 #[.string s] W fun e w' => e = .returned (.tuple #[.agg #[.int .i64 c.kind, txV c.text, txV c.office, .int .i64 c.day, txV c.src, txV c.dst, .int .i64 c.minute, txV c.last, txV c.first, .int .i64 c.n, .int .i64 c.pax, .int .u8 c.cls.toNat, .int .i64 c.line, .int .i64 c.row, .int .u8 c.c.toNat], .int .i64 0, .int .i64 0]) ∧ RowKit.Hid (Below W.heap.size W w')) := Lib.hid fun W => rparse_yes s c W hs hr
  unfold maxLen at hs
  clear hr ht hp hsl hl
  go_enter Tryd.func5, Tryd.ntmps5
  go_upto_region 6 with (first
    | (go_at_call 28; (with_reducible refine (HAW.out _ (Below.refl _ _)).mono ?_); rintro e w1 ⟨rfl, hb1⟩)
    | (go_at_call 29; (with_reducible refine (HP1.out _ hb1.out).mono ?_); rintro e w2 ⟨rfl, hb2⟩))
  have HL2 := Lib.hid (bel_trans hb1.out hb2.out)
  clear hb1 hb2
  obtain ⟨wa, hx, q1, q2, q3⟩ := box2 [.int .i64 c.kind, txV c.text, txV c.office, .int .i64 c.day, txV c.src, txV c.dst, .int .i64 c.minute, txV c.last, txV c.first, .int .i64 c.n, .int .i64 c.pax, .int .u8 c.cls.toNat, .int .i64 c.line, .int .i64 c.row, .int .u8 c.c.toNat] [.int .i64 0, .int .i64 0] w2
  try rw [hx]
  have C1 := Lib.hid q1
  have F1 := Lib.hid q2
  have HLA := Lib.hid (bel_trans HL2.out q3)
  clear hx q1 q2 q3
  generalize w2.heap.size = g2 at *
  go_upto_region 7 with (first
    | (go_at_call 30; (with_reducible refine (HR1.out _).mono ?_); rintro e w4 ⟨rfl, hb4⟩))
  obtain ⟨wb, hx, q1, q3⟩ := box1 71 [.int .i64 c.kind, txV c.text, txV c.office, .int .i64 c.day, txV c.src, txV c.dst, .int .i64 c.minute, txV c.last, txV c.first, .int .i64 c.n, .int .i64 c.pax, .int .u8 c.cls.toNat, .int .i64 c.line, .int .i64 c.row, .int .u8 c.c.toNat] w4
  try rw [hx]
  have hk := bel_trans hb4.out q3
  have r1 := C1.out.mono hk
  have r2 := F1.out.mono hk
  have b0 := r2.cell 0
  have b1 := r2.cell 1
  simp only [List.getElem?_cons_zero, List.getElem?_cons_succ] at b0 b1
  have u0 := cb0 (c := c) q1
  have u1 := cb1 (c := c) q1
  have u2 := cb2 (c := c) q1
  have u3 := cb3 (c := c) q1
  have u4 := cb4 (c := c) q1
  have u5 := cb5 (c := c) q1
  have u6 := cb6 (c := c) q1
  have u7 := cb7 (c := c) q1
  have u8 := cb8 (c := c) q1
  have u9 := cb9 (c := c) q1
  have u10 := cb10 (c := c) q1
  have u11 := cb11 (c := c) q1
  have u12 := cb12 (c := c) q1
  have u13 := cb13 (c := c) q1
  have u14 := cb14 (c := c) q1
  have v0 := cb0 (c := c) r1
  have v1 := cb1 (c := c) r1
  have v2 := cb2 (c := c) r1
  have v3 := cb3 (c := c) r1
  have v4 := cb4 (c := c) r1
  have v5 := cb5 (c := c) r1
  have v6 := cb6 (c := c) r1
  have v7 := cb7 (c := c) r1
  have v8 := cb8 (c := c) r1
  have v9 := cb9 (c := c) r1
  have v10 := cb10 (c := c) r1
  have v11 := cb11 (c := c) r1
  have v12 := cb12 (c := c) r1
  have v13 := cb13 (c := c) r1
  have v14 := cb14 (c := c) r1
  have HLB := Lib.hid (bel_trans HLA.out hk)
  have heq : ∀ W : World, (binOp .eql 71 (.agg (cmdC c).toArray) (.agg (cmdC c).toArray)).run Tryd.prog W = .ok (.bool true) W := fun W => by rw [cmd_eql, cmdEq_yes]
  unfold cmdC at heq

  clear hx q1 q3 hk r1 r2
  generalize w4.heap.size = g4 at *
  go_wp2
  go_ret
  exact ⟨rfl, HLB.out⟩
set_option maxHeartbeats 8000000 in
theorem ep_er (s : ByteArray) (hs : s.size ≤ maxLen) (w : World) (ht : Da.LenTab w) (hp : PowTab w) (hl : ¬ 5000 < s.size) (k : Int) (p : Nat) (hr : parse (toL s) = .error (k, p)) :
    Calls Tryd.prog 5 #[.string s] w fun e w' => e = .returned (.bool true) ∧ Below w.heap.size w w' := by
  have hsl : (toL s).length = s.size := by simp
  have HAW : RowKit.Hid (∀ W, Below w.heap.size w W → Calls Tryd.prog 28 #[] W fun e w' => e = .returned (.bool true) ∧ RowKit.Hid (Below W.heap.size W w')) := Lib.hid fun W hW => (awake_m W (ht.keep hW) (powTab_keep hp hW)).mono fun _ _ h => ⟨h.1, Lib.hid h.2⟩
  have hl2 : ¬ (5000 : Int) < (s.size : Int) := by omega
  have HP1 : RowKit.Hid (∀ W, Below w.heap.size w W → Calls Tryd.prog 29 #[.string s] W fun e w' => e = .returned (.tuple #[.agg #[.int .i64 0, .string ⟨#[]⟩, .string ⟨#[]⟩, .int .i64 0, .string ⟨#[]⟩, .string ⟨#[]⟩, .int .i64 0, .string ⟨#[]⟩, .string ⟨#[]⟩, .int .i64 0, .int .i64 0, .int .u8 0, .int .i64 0, .int .i64 0, .int .u8 0], .agg #[.int .i64 k, .int .i64 (p : Nat)]]) ∧ RowKit.Hid (Below W.heap.size W w')) := Lib.hid fun W hW => (parse_no s k p W hs (ht.keep hW) hr).mono fun _ _ h => ⟨h.1, Lib.hid h.2⟩
  have HR1 : RowKit.Hid (∀ W, Calls Tryd.prog 30 #[.string s] W fun e w' => e = .returned (.tuple #[.agg #[.int .i64 0, .string ⟨#[]⟩, .string ⟨#[]⟩, .int .i64 0, .string ⟨#[]⟩, .string ⟨#[]⟩, .int .i64 0, .string ⟨#[]⟩, .string ⟨#[]⟩, .int .i64 0, .int .i64 0, .int .u8 0, .int .i64 0, .int .i64 0, .int .u8 0], .int .i64 k, .int .i64 (p : Nat)]) ∧ RowKit.Hid (Below W.heap.size W w')) := Lib.hid fun W => rparse_no s k p W hs hr
  unfold maxLen at hs
  clear hr ht hp hsl hl
  go_enter Tryd.func5, Tryd.ntmps5
  go_upto_region 6 with (first
    | (go_at_call 28; (with_reducible refine (HAW.out _ (Below.refl _ _)).mono ?_); rintro e w1 ⟨rfl, hb1⟩)
    | (go_at_call 29; (with_reducible refine (HP1.out _ hb1.out).mono ?_); rintro e w2 ⟨rfl, hb2⟩))
  have HL2 := Lib.hid (bel_trans hb1.out hb2.out)
  clear hb1 hb2
  obtain ⟨wa, hx, q1, q2, q3⟩ := box2 [.int .i64 0, .string ⟨#[]⟩, .string ⟨#[]⟩, .int .i64 0, .string ⟨#[]⟩, .string ⟨#[]⟩, .int .i64 0, .string ⟨#[]⟩, .string ⟨#[]⟩, .int .i64 0, .int .i64 0, .int .u8 0, .int .i64 0, .int .i64 0, .int .u8 0] [.int .i64 k, .int .i64 (p : Nat)] w2
  try rw [hx]
  have C1 := Lib.hid q1
  have F1 := Lib.hid q2
  have HLA := Lib.hid (bel_trans HL2.out q3)
  clear hx q1 q2 q3
  generalize w2.heap.size = g2 at *
  go_upto_region 7 with (first
    | (go_at_call 30; (with_reducible refine (HR1.out _).mono ?_); rintro e w4 ⟨rfl, hb4⟩))
  obtain ⟨wb, hx, q1, q3⟩ := box1 71 [.int .i64 0, .string ⟨#[]⟩, .string ⟨#[]⟩, .int .i64 0, .string ⟨#[]⟩, .string ⟨#[]⟩, .int .i64 0, .string ⟨#[]⟩, .string ⟨#[]⟩, .int .i64 0, .int .i64 0, .int .u8 0, .int .i64 0, .int .i64 0, .int .u8 0] w4
  try rw [hx]
  have hk := bel_trans hb4.out q3
  have r1 := C1.out.mono hk
  have r2 := F1.out.mono hk
  have b0 := r2.cell 0
  have b1 := r2.cell 1
  simp only [List.getElem?_cons_zero, List.getElem?_cons_succ] at b0 b1
  have u0 := cb0 (c := cmd0) q1
  have u1 := cb1 (c := cmd0) q1
  have u2 := cb2 (c := cmd0) q1
  have u3 := cb3 (c := cmd0) q1
  have u4 := cb4 (c := cmd0) q1
  have u5 := cb5 (c := cmd0) q1
  have u6 := cb6 (c := cmd0) q1
  have u7 := cb7 (c := cmd0) q1
  have u8 := cb8 (c := cmd0) q1
  have u9 := cb9 (c := cmd0) q1
  have u10 := cb10 (c := cmd0) q1
  have u11 := cb11 (c := cmd0) q1
  have u12 := cb12 (c := cmd0) q1
  have u13 := cb13 (c := cmd0) q1
  have u14 := cb14 (c := cmd0) q1
  have v0 := cb0 (c := cmd0) r1
  have v1 := cb1 (c := cmd0) r1
  have v2 := cb2 (c := cmd0) r1
  have v3 := cb3 (c := cmd0) r1
  have v4 := cb4 (c := cmd0) r1
  have v5 := cb5 (c := cmd0) r1
  have v6 := cb6 (c := cmd0) r1
  have v7 := cb7 (c := cmd0) r1
  have v8 := cb8 (c := cmd0) r1
  have v9 := cb9 (c := cmd0) r1
  have v10 := cb10 (c := cmd0) r1
  have v11 := cb11 (c := cmd0) r1
  have v12 := cb12 (c := cmd0) r1
  have v13 := cb13 (c := cmd0) r1
  have v14 := cb14 (c := cmd0) r1
  have HLB := Lib.hid (bel_trans HLA.out hk)
  have heq : ∀ W : World, (binOp .eql 71 (.agg (cmdC cmd0).toArray) (.agg (cmdC cmd0).toArray)).run Tryd.prog W = .ok (.bool true) W := fun W => by rw [cmd_eql, cmdEq_yes]
  unfold cmdC at heq
  unfold cmd0 at heq u0 u1 u2 u3 u4 u5 u6 u7 u8 u9 u10 u11 u12 u13 u14 v0 v1 v2 v3 v4 v5 v6 v7 v8 v9 v10 v11 v12 v13 v14
  clear hx q1 q3 hk r1 r2
  generalize w4.heap.size = g4 at *
  go_wp2
  go_ret
  exact ⟨rfl, HLB.out⟩

theorem ep_walk (s : ByteArray) (hs : s.size ≤ maxLen) (w : World) (ht : Da.LenTab w) (hp : PowTab w) :
    Calls Tryd.prog 5 #[.string s] w fun e w' => e = .returned (.bool true) ∧ Below w.heap.size w w' := by
  by_cases hl : 5000 < s.size
  · exact ep_long s hs w ht hp hl
  cases hr : parse (toL s) with
  | ok c => exact ep_ok s hs w ht hp hl c hr
  | error f => obtain ⟨k, p⟩ := f; exact ep_er s hs w ht hp hl k p hr

theorem long_of {l : List UInt8} : ((1000 : Int) < ((⟨l.toArray⟩ : ByteArray).size : Int)) = ((1000 : Int) < (l.length : Int)) := by rw [tx_size]

set_option maxHeartbeats 8000000 in
theorem pr_long0 (c : CmdT) (hf : Fits c) (w : World) (ht : Da.LenTab w) (hp : PowTab w)  (n0 : 1000 < c.text.length) :
    Calls Tryd.prog 6 #[.agg (cmdC c).toArray] w fun e w' => e = .returned (.bool true) ∧ Below w.heap.size w w' := by
  obtain ⟨w1, e1, b1, hb1, hz1⟩ := cmd_box c w
  have B1 := Lib.hid b1
  have HL1 := Lib.hid hb1
  clear b1 hb1 hz1
  have HAW : RowKit.Hid (∀ W, Below w.heap.size w W → Calls Tryd.prog 28 #[] W fun e w' => e = .returned (.bool true) ∧ RowKit.Hid (Below W.heap.size W w')) := Lib.hid fun W hW => (awake_m W (ht.keep hW) (powTab_keep hp hW)).mono fun _ _ h => ⟨h.1, Lib.hid h.2⟩
  have m0 : (1000 : Int) < (c.text.length : Int) := by omega
  have o0 := n0
  clear ht hp hf n0
  unfold cmdC
  go_enter Tryd.func6, Tryd.ntmps6
  go_wp2_with (first
    | (go_at_call 28; (with_reducible refine (HAW.out _ HL1.out).mono ?_); rintro e w2 ⟨rfl, hb2⟩; have a1 := cb1 (B1.out.mono hb2.out); have a2 := cb2 (B1.out.mono hb2.out); have a4 := cb4 (B1.out.mono hb2.out); have a5 := cb5 (B1.out.mono hb2.out); have a7 := cb7 (B1.out.mono hb2.out); have a8 := cb8 (B1.out.mono hb2.out)))
  go_ret
  exact ⟨rfl, bel_trans HL1.out hb2.out⟩
set_option maxHeartbeats 8000000 in
theorem pr_long1 (c : CmdT) (hf : Fits c) (w : World) (ht : Da.LenTab w) (hp : PowTab w) (n0 : ¬ 1000 < c.text.length) (n1 : 1000 < c.office.length) :
    Calls Tryd.prog 6 #[.agg (cmdC c).toArray] w fun e w' => e = .returned (.bool true) ∧ Below w.heap.size w w' := by
  obtain ⟨w1, e1, b1, hb1, hz1⟩ := cmd_box c w
  have B1 := Lib.hid b1
  have HL1 := Lib.hid hb1
  clear b1 hb1 hz1
  have HAW : RowKit.Hid (∀ W, Below w.heap.size w W → Calls Tryd.prog 28 #[] W fun e w' => e = .returned (.bool true) ∧ RowKit.Hid (Below W.heap.size W w')) := Lib.hid fun W hW => (awake_m W (ht.keep hW) (powTab_keep hp hW)).mono fun _ _ h => ⟨h.1, Lib.hid h.2⟩
  have m0 : ¬ (1000 : Int) < (c.text.length : Int) := by omega
  have o0 := n0
  have m1 : (1000 : Int) < (c.office.length : Int) := by omega
  have o1 := n1
  clear ht hp hf n0 n1
  unfold cmdC
  go_enter Tryd.func6, Tryd.ntmps6
  go_wp2_with (first
    | (go_at_call 28; (with_reducible refine (HAW.out _ HL1.out).mono ?_); rintro e w2 ⟨rfl, hb2⟩; have a1 := cb1 (B1.out.mono hb2.out); have a2 := cb2 (B1.out.mono hb2.out); have a4 := cb4 (B1.out.mono hb2.out); have a5 := cb5 (B1.out.mono hb2.out); have a7 := cb7 (B1.out.mono hb2.out); have a8 := cb8 (B1.out.mono hb2.out)))
  go_ret
  exact ⟨rfl, bel_trans HL1.out hb2.out⟩
set_option maxHeartbeats 8000000 in
theorem pr_long2 (c : CmdT) (hf : Fits c) (w : World) (ht : Da.LenTab w) (hp : PowTab w) (n0 : ¬ 1000 < c.text.length) (n1 : ¬ 1000 < c.office.length) (n2 : 1000 < c.src.length) :
    Calls Tryd.prog 6 #[.agg (cmdC c).toArray] w fun e w' => e = .returned (.bool true) ∧ Below w.heap.size w w' := by
  obtain ⟨w1, e1, b1, hb1, hz1⟩ := cmd_box c w
  have B1 := Lib.hid b1
  have HL1 := Lib.hid hb1
  clear b1 hb1 hz1
  have HAW : RowKit.Hid (∀ W, Below w.heap.size w W → Calls Tryd.prog 28 #[] W fun e w' => e = .returned (.bool true) ∧ RowKit.Hid (Below W.heap.size W w')) := Lib.hid fun W hW => (awake_m W (ht.keep hW) (powTab_keep hp hW)).mono fun _ _ h => ⟨h.1, Lib.hid h.2⟩
  have m0 : ¬ (1000 : Int) < (c.text.length : Int) := by omega
  have o0 := n0
  have m1 : ¬ (1000 : Int) < (c.office.length : Int) := by omega
  have o1 := n1
  have m2 : (1000 : Int) < (c.src.length : Int) := by omega
  have o2 := n2
  clear ht hp hf n0 n1 n2
  unfold cmdC
  go_enter Tryd.func6, Tryd.ntmps6
  go_wp2_with (first
    | (go_at_call 28; (with_reducible refine (HAW.out _ HL1.out).mono ?_); rintro e w2 ⟨rfl, hb2⟩; have a1 := cb1 (B1.out.mono hb2.out); have a2 := cb2 (B1.out.mono hb2.out); have a4 := cb4 (B1.out.mono hb2.out); have a5 := cb5 (B1.out.mono hb2.out); have a7 := cb7 (B1.out.mono hb2.out); have a8 := cb8 (B1.out.mono hb2.out)))
  go_ret
  exact ⟨rfl, bel_trans HL1.out hb2.out⟩
set_option maxHeartbeats 8000000 in
theorem pr_long3 (c : CmdT) (hf : Fits c) (w : World) (ht : Da.LenTab w) (hp : PowTab w) (n0 : ¬ 1000 < c.text.length) (n1 : ¬ 1000 < c.office.length) (n2 : ¬ 1000 < c.src.length) (n3 : 1000 < c.dst.length) :
    Calls Tryd.prog 6 #[.agg (cmdC c).toArray] w fun e w' => e = .returned (.bool true) ∧ Below w.heap.size w w' := by
  obtain ⟨w1, e1, b1, hb1, hz1⟩ := cmd_box c w
  have B1 := Lib.hid b1
  have HL1 := Lib.hid hb1
  clear b1 hb1 hz1
  have HAW : RowKit.Hid (∀ W, Below w.heap.size w W → Calls Tryd.prog 28 #[] W fun e w' => e = .returned (.bool true) ∧ RowKit.Hid (Below W.heap.size W w')) := Lib.hid fun W hW => (awake_m W (ht.keep hW) (powTab_keep hp hW)).mono fun _ _ h => ⟨h.1, Lib.hid h.2⟩
  have m0 : ¬ (1000 : Int) < (c.text.length : Int) := by omega
  have o0 := n0
  have m1 : ¬ (1000 : Int) < (c.office.length : Int) := by omega
  have o1 := n1
  have m2 : ¬ (1000 : Int) < (c.src.length : Int) := by omega
  have o2 := n2
  have m3 : (1000 : Int) < (c.dst.length : Int) := by omega
  have o3 := n3
  clear ht hp hf n0 n1 n2 n3
  unfold cmdC
  go_enter Tryd.func6, Tryd.ntmps6
  go_wp2_with (first
    | (go_at_call 28; (with_reducible refine (HAW.out _ HL1.out).mono ?_); rintro e w2 ⟨rfl, hb2⟩; have a1 := cb1 (B1.out.mono hb2.out); have a2 := cb2 (B1.out.mono hb2.out); have a4 := cb4 (B1.out.mono hb2.out); have a5 := cb5 (B1.out.mono hb2.out); have a7 := cb7 (B1.out.mono hb2.out); have a8 := cb8 (B1.out.mono hb2.out)))
  go_ret
  exact ⟨rfl, bel_trans HL1.out hb2.out⟩
set_option maxHeartbeats 8000000 in
theorem pr_long4 (c : CmdT) (hf : Fits c) (w : World) (ht : Da.LenTab w) (hp : PowTab w) (n0 : ¬ 1000 < c.text.length) (n1 : ¬ 1000 < c.office.length) (n2 : ¬ 1000 < c.src.length) (n3 : ¬ 1000 < c.dst.length) (n4 : 1000 < c.last.length) :
    Calls Tryd.prog 6 #[.agg (cmdC c).toArray] w fun e w' => e = .returned (.bool true) ∧ Below w.heap.size w w' := by
  obtain ⟨w1, e1, b1, hb1, hz1⟩ := cmd_box c w
  have B1 := Lib.hid b1
  have HL1 := Lib.hid hb1
  clear b1 hb1 hz1
  have HAW : RowKit.Hid (∀ W, Below w.heap.size w W → Calls Tryd.prog 28 #[] W fun e w' => e = .returned (.bool true) ∧ RowKit.Hid (Below W.heap.size W w')) := Lib.hid fun W hW => (awake_m W (ht.keep hW) (powTab_keep hp hW)).mono fun _ _ h => ⟨h.1, Lib.hid h.2⟩
  have m0 : ¬ (1000 : Int) < (c.text.length : Int) := by omega
  have o0 := n0
  have m1 : ¬ (1000 : Int) < (c.office.length : Int) := by omega
  have o1 := n1
  have m2 : ¬ (1000 : Int) < (c.src.length : Int) := by omega
  have o2 := n2
  have m3 : ¬ (1000 : Int) < (c.dst.length : Int) := by omega
  have o3 := n3
  have m4 : (1000 : Int) < (c.last.length : Int) := by omega
  have o4 := n4
  clear ht hp hf n0 n1 n2 n3 n4
  unfold cmdC
  go_enter Tryd.func6, Tryd.ntmps6
  go_wp2_with (first
    | (go_at_call 28; (with_reducible refine (HAW.out _ HL1.out).mono ?_); rintro e w2 ⟨rfl, hb2⟩; have a1 := cb1 (B1.out.mono hb2.out); have a2 := cb2 (B1.out.mono hb2.out); have a4 := cb4 (B1.out.mono hb2.out); have a5 := cb5 (B1.out.mono hb2.out); have a7 := cb7 (B1.out.mono hb2.out); have a8 := cb8 (B1.out.mono hb2.out)))
  go_ret
  exact ⟨rfl, bel_trans HL1.out hb2.out⟩
set_option maxHeartbeats 8000000 in
theorem pr_long5 (c : CmdT) (hf : Fits c) (w : World) (ht : Da.LenTab w) (hp : PowTab w) (n0 : ¬ 1000 < c.text.length) (n1 : ¬ 1000 < c.office.length) (n2 : ¬ 1000 < c.src.length) (n3 : ¬ 1000 < c.dst.length) (n4 : ¬ 1000 < c.last.length) (n5 : 1000 < c.first.length) :
    Calls Tryd.prog 6 #[.agg (cmdC c).toArray] w fun e w' => e = .returned (.bool true) ∧ Below w.heap.size w w' := by
  obtain ⟨w1, e1, b1, hb1, hz1⟩ := cmd_box c w
  have B1 := Lib.hid b1
  have HL1 := Lib.hid hb1
  clear b1 hb1 hz1
  have HAW : RowKit.Hid (∀ W, Below w.heap.size w W → Calls Tryd.prog 28 #[] W fun e w' => e = .returned (.bool true) ∧ RowKit.Hid (Below W.heap.size W w')) := Lib.hid fun W hW => (awake_m W (ht.keep hW) (powTab_keep hp hW)).mono fun _ _ h => ⟨h.1, Lib.hid h.2⟩
  have m0 : ¬ (1000 : Int) < (c.text.length : Int) := by omega
  have o0 := n0
  have m1 : ¬ (1000 : Int) < (c.office.length : Int) := by omega
  have o1 := n1
  have m2 : ¬ (1000 : Int) < (c.src.length : Int) := by omega
  have o2 := n2
  have m3 : ¬ (1000 : Int) < (c.dst.length : Int) := by omega
  have o3 := n3
  have m4 : ¬ (1000 : Int) < (c.last.length : Int) := by omega
  have o4 := n4
  have m5 : (1000 : Int) < (c.first.length : Int) := by omega
  have o5 := n5
  clear ht hp hf n0 n1 n2 n3 n4 n5
  unfold cmdC
  go_enter Tryd.func6, Tryd.ntmps6
  go_wp2_with (first
    | (go_at_call 28; (with_reducible refine (HAW.out _ HL1.out).mono ?_); rintro e w2 ⟨rfl, hb2⟩; have a1 := cb1 (B1.out.mono hb2.out); have a2 := cb2 (B1.out.mono hb2.out); have a4 := cb4 (B1.out.mono hb2.out); have a5 := cb5 (B1.out.mono hb2.out); have a7 := cb7 (B1.out.mono hb2.out); have a8 := cb8 (B1.out.mono hb2.out)))
  go_ret
  exact ⟨rfl, bel_trans HL1.out hb2.out⟩
set_option maxHeartbeats 8000000 in
theorem pr_yes (c : CmdT) (hf : Fits c) (w : World) (ht : Da.LenTab w) (hp : PowTab w) (n0 : ¬ 1000 < c.text.length) (n1 : ¬ 1000 < c.office.length) (n2 : ¬ 1000 < c.src.length) (n3 : ¬ 1000 < c.dst.length) (n4 : ¬ 1000 < c.last.length) (n5 : ¬ 1000 < c.first.length) (hpc : parse (textP c) = .ok c) :
    Calls Tryd.prog 6 #[.agg (cmdC c).toArray] w fun e w' => e = .returned (.bool true) ∧ Below w.heap.size w w' := by
  obtain ⟨w1, e1, b1, hb1, hz1⟩ := cmd_box c w
  have B1 := Lib.hid b1
  have HL1 := Lib.hid hb1
  clear b1 hb1 hz1
  have HAW : RowKit.Hid (∀ W, Below w.heap.size w W → Calls Tryd.prog 28 #[] W fun e w' => e = .returned (.bool true) ∧ RowKit.Hid (Below W.heap.size W w')) := Lib.hid fun W hW => (awake_m W (ht.keep hW) (powTab_keep hp hW)).mono fun _ _ h => ⟨h.1, Lib.hid h.2⟩
  have m0 : ¬ (1000 : Int) < (c.text.length : Int) := by omega
  have o0 := n0
  have m1 : ¬ (1000 : Int) < (c.office.length : Int) := by omega
  have o1 := n1
  have m2 : ¬ (1000 : Int) < (c.src.length : Int) := by omega
  have o2 := n2
  have m3 : ¬ (1000 : Int) < (c.dst.length : Int) := by omega
  have o3 := n3
  have m4 : ¬ (1000 : Int) < (c.last.length : Int) := by omega
  have o4 := n4
  have m5 : ¬ (1000 : Int) < (c.first.length : Int) := by omega
  have o5 := n5
  have hRP : textR c = textP c := (parse_ok hpc).2.1
  generalize hS : (⟨(textP c).toArray⟩ : ByteArray) = S
  have h9 : Fit9 c := ⟨by omega, by omega, by omega, by omega, by omega, by omega⟩
  have HPR : RowKit.Hid (∀ W, Below w.heap.size w W → Calls Tryd.prog 31 #[.agg (cmdC c).toArray] W fun e w' => e = .returned (.tuple #[.string S, .int .i64 0]) ∧ RowKit.Hid (Below W.heap.size W w')) := Lib.hid fun W hW => by
    refine (print_m c W hf (ht.keep hW) (powTab_keep hp hW) (textP_len hf)).mono fun e w' hh => ?_
    rcases hh with ⟨⟨h1, h2⟩ | ⟨h1, h2⟩, hb⟩
    · exact ⟨by rw [h2, ← hS], hb⟩
    · exact absurd hpc h1.out
  have HRR : RowKit.Hid (∀ W, Calls Tryd.prog 32 #[.agg (cmdC c).toArray] W fun e w' => e = .returned (.tuple #[.string S, .bool true]) ∧ RowKit.Hid (Below W.heap.size W w')) := Lib.hid fun W => by
    refine (rprint_m c W h9).mono fun e w' hh => ?_
    rw [hRP] at hh
    rcases hh with ⟨⟨h1, h2⟩ | ⟨h1, h2⟩, hb⟩
    · exact ⟨by rw [h2, ← hS], hb⟩
    · exact absurd hpc h1.out
  clear ht hp hf n0 n1 n2 n3 n4 n5 hRP h9 hpc hS
  unfold cmdC
  go_enter Tryd.func6, Tryd.ntmps6
  go_upto_region 5 with (first
    | (go_at_call 28; (with_reducible refine (HAW.out _ HL1.out).mono ?_); rintro e w2 ⟨rfl, hb2⟩; have a1 := cb1 (B1.out.mono hb2.out); have a2 := cb2 (B1.out.mono hb2.out); have a4 := cb4 (B1.out.mono hb2.out); have a5 := cb5 (B1.out.mono hb2.out); have a7 := cb7 (B1.out.mono hb2.out); have a8 := cb8 (B1.out.mono hb2.out)))
  have hr := (B1.out.mono hb2.out).range
  have HL2 := Lib.hid (bel_trans HL1.out hb2.out)
  go_upto_region 6 with (first
    | (refine wpList_load_mid rfl 71 (.tmp 1) rfl w.heap.size 0 rfl _ _ hr Tryd.underlying71 rfl info_cmd ?_)
    | (go_at_call 31; (with_reducible refine (HPR.out _ HL2.out).mono ?_); rintro e w3 ⟨rfl, hb3⟩))
  have hr3 := (B1.out.mono (bel_trans hb2.out hb3.out)).range
  go_wp2_with (first
    | (refine wpList_load_mid rfl 71 (.tmp 1) rfl w.heap.size 0 rfl _ _ hr3 Tryd.underlying71 rfl info_cmd ?_)
    | (go_at_call 32; (with_reducible refine (HRR.out _).mono ?_); rintro e w4 ⟨rfl, hb4⟩))
  go_ret
  exact ⟨rfl, bel_trans (bel_trans HL2.out hb3.out) hb4.out⟩
set_option maxHeartbeats 8000000 in
theorem pr_no (c : CmdT) (hf : Fits c) (w : World) (ht : Da.LenTab w) (hp : PowTab w) (n0 : ¬ 1000 < c.text.length) (n1 : ¬ 1000 < c.office.length) (n2 : ¬ 1000 < c.src.length) (n3 : ¬ 1000 < c.dst.length) (n4 : ¬ 1000 < c.last.length) (n5 : ¬ 1000 < c.first.length) (hpc : parse (textP c) ≠ .ok c) :
    Calls Tryd.prog 6 #[.agg (cmdC c).toArray] w fun e w' => e = .returned (.bool true) ∧ Below w.heap.size w w' := by
  obtain ⟨w1, e1, b1, hb1, hz1⟩ := cmd_box c w
  have B1 := Lib.hid b1
  have HL1 := Lib.hid hb1
  clear b1 hb1 hz1
  have HAW : RowKit.Hid (∀ W, Below w.heap.size w W → Calls Tryd.prog 28 #[] W fun e w' => e = .returned (.bool true) ∧ RowKit.Hid (Below W.heap.size W w')) := Lib.hid fun W hW => (awake_m W (ht.keep hW) (powTab_keep hp hW)).mono fun _ _ h => ⟨h.1, Lib.hid h.2⟩
  have m0 : ¬ (1000 : Int) < (c.text.length : Int) := by omega
  have o0 := n0
  have m1 : ¬ (1000 : Int) < (c.office.length : Int) := by omega
  have o1 := n1
  have m2 : ¬ (1000 : Int) < (c.src.length : Int) := by omega
  have o2 := n2
  have m3 : ¬ (1000 : Int) < (c.dst.length : Int) := by omega
  have o3 := n3
  have m4 : ¬ (1000 : Int) < (c.last.length : Int) := by omega
  have o4 := n4
  have m5 : ¬ (1000 : Int) < (c.first.length : Int) := by omega
  have o5 := n5
  have hRP : parse (textR c) ≠ .ok c := fun h => hpc (by rw [(parse_ok h).1]; exact h)
  have h9 : Fit9 c := ⟨by omega, by omega, by omega, by omega, by omega, by omega⟩
  have HPR : RowKit.Hid (∀ W, Below w.heap.size w W → Calls Tryd.prog 31 #[.agg (cmdC c).toArray] W fun e w' => e = .returned (.tuple #[.string ⟨#[]⟩, .int .i64 4]) ∧ RowKit.Hid (Below W.heap.size W w')) := Lib.hid fun W hW => by
    refine (print_m c W hf (ht.keep hW) (powTab_keep hp hW) (textP_len hf)).mono fun e w' hh => ?_
    rcases hh with ⟨⟨h1, h2⟩ | ⟨h1, h2⟩, hb⟩
    · exact absurd h1.out hpc
    · exact ⟨h2, hb⟩
  have HRR : RowKit.Hid (∀ W, Calls Tryd.prog 32 #[.agg (cmdC c).toArray] W fun e w' => e = .returned (.tuple #[.string ⟨#[]⟩, .bool false]) ∧ RowKit.Hid (Below W.heap.size W w')) := Lib.hid fun W => by
    refine (rprint_m c W h9).mono fun e w' hh => ?_
    skip
    rcases hh with ⟨⟨h1, h2⟩ | ⟨h1, h2⟩, hb⟩
    · exact absurd h1.out hRP
    · exact ⟨h2, hb⟩
  clear ht hp hf n0 n1 n2 n3 n4 n5 hRP h9 hpc
  unfold cmdC
  go_enter Tryd.func6, Tryd.ntmps6
  go_upto_region 5 with (first
    | (go_at_call 28; (with_reducible refine (HAW.out _ HL1.out).mono ?_); rintro e w2 ⟨rfl, hb2⟩; have a1 := cb1 (B1.out.mono hb2.out); have a2 := cb2 (B1.out.mono hb2.out); have a4 := cb4 (B1.out.mono hb2.out); have a5 := cb5 (B1.out.mono hb2.out); have a7 := cb7 (B1.out.mono hb2.out); have a8 := cb8 (B1.out.mono hb2.out)))
  have hr := (B1.out.mono hb2.out).range
  have HL2 := Lib.hid (bel_trans HL1.out hb2.out)
  go_upto_region 6 with (first
    | (refine wpList_load_mid rfl 71 (.tmp 1) rfl w.heap.size 0 rfl _ _ hr Tryd.underlying71 rfl info_cmd ?_)
    | (go_at_call 31; (with_reducible refine (HPR.out _ HL2.out).mono ?_); rintro e w3 ⟨rfl, hb3⟩))
  have hr3 := (B1.out.mono (bel_trans hb2.out hb3.out)).range
  go_wp2_with (first
    | (refine wpList_load_mid rfl 71 (.tmp 1) rfl w.heap.size 0 rfl _ _ hr3 Tryd.underlying71 rfl info_cmd ?_)
    | (go_at_call 32; (with_reducible refine (HRR.out _).mono ?_); rintro e w4 ⟨rfl, hb4⟩))
  go_ret
  exact ⟨rfl, bel_trans (bel_trans HL2.out hb3.out) hb4.out⟩

theorem pr_walk (c : CmdT) (hf : Fits c) (w : World) (ht : Da.LenTab w) (hp : PowTab w) :
    Calls Tryd.prog 6 #[.agg (cmdC c).toArray] w fun e w' => e = .returned (.bool true) ∧ Below w.heap.size w w' := by
  by_cases n0 : 1000 < c.text.length
  · exact pr_long0 c hf w ht hp n0
  by_cases n1 : 1000 < c.office.length
  · exact pr_long1 c hf w ht hp n0 n1
  by_cases n2 : 1000 < c.src.length
  · exact pr_long2 c hf w ht hp n0 n1 n2
  by_cases n3 : 1000 < c.dst.length
  · exact pr_long3 c hf w ht hp n0 n1 n2 n3
  by_cases n4 : 1000 < c.last.length
  · exact pr_long4 c hf w ht hp n0 n1 n2 n3 n4
  by_cases n5 : 1000 < c.first.length
  · exact pr_long5 c hf w ht hp n0 n1 n2 n3 n4 n5
  by_cases hpc : parse (textP c) = .ok c
  · exact pr_yes c hf w ht hp n0 n1 n2 n3 n4 n5 hpc
  · exact pr_no c hf w ht hp n0 n1 n2 n3 n4 n5 hpc
end Go.Proofs.YtjahkaidinahpaaDoor.En
