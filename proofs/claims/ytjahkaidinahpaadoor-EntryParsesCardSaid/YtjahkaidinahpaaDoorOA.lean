/- Entries: the walk of EntryBack (printed by gen_bk.py). -/
import Derived.Test.YtjahkaidinahpaaDoorNT
import Derived.Test.YtjahkaidinahpaaDoorNZ
namespace Go.Proofs.YtjahkaidinahpaaDoor.En
open Go Go.RowKit
set_option linter.unusedSimpArgs false
set_option linter.unusedVariables false
set_option maxRecDepth 100000

theorem print_yes (c : CmdT) (W : World) (hf : Fits c) (ht : Da.LenTab W) (hp : PowTab W) (hsz : (textP c).length ≤ 9223372036854775807) (h : parse (textP c) = .ok c) :
    Calls Tryd.prog 31 #[.agg (cmdC c).toArray] W fun e w' => e = .returned (.tuple #[txV (textP c), .int .i64 0]) ∧ RowKit.Hid (Below W.heap.size W w') := by
  refine (print_m c W hf ht hp hsz).mono fun e w' hh => ?_
  rcases hh with ⟨⟨_, h1⟩ | ⟨h1, _⟩, hb⟩
  · exact ⟨h1, hb⟩
  · exact absurd h h1.out
theorem print_no (c : CmdT) (W : World) (hf : Fits c) (ht : Da.LenTab W) (hp : PowTab W) (hsz : (textP c).length ≤ 9223372036854775807) (h : parse (textP c) ≠ .ok c) :
    Calls Tryd.prog 31 #[.agg (cmdC c).toArray] W fun e w' => e = .returned (.tuple #[.string ⟨#[]⟩, .int .i64 4]) ∧ RowKit.Hid (Below W.heap.size W w') := by
  refine (print_m c W hf ht hp hsz).mono fun e w' hh => ?_
  rcases hh with ⟨⟨h1, _⟩ | ⟨_, h1⟩, hb⟩
  · exact absurd h1.out h
  · exact ⟨h1, hb⟩
theorem textP_len {c : CmdT} (h : Fits c) : (textP c).length ≤ 9223372036854775807 := by
  have a1 := h.text
  have a2 := h.office
  have a3 := h.src
  have a4 := h.dst
  have a5 := h.last
  have a6 := h.first
  have b1 := itoaL_len c.n h.n
  have b2 := itoaL_len c.pax h.pax
  have b3 := itoaL_len c.line h.line
  have d1 := dTx_len c.day
  have d2 := cTx_len c.minute
  have e1 : (sTx c.row c.c).length ≤ 3 := seatT_len c.row c.c
  have w0 := wordOf_len
  have w1 := w0 1
  have w3 := w0 3
  have w4 := w0 4
  have w5 := w0 5
  have w7 := w0 7
  have w11 := w0 11
  have w13 := w0 13
  have wk := w0 c.kind
  clear w0
  unfold textP
  repeat' split
  all_goals
    simp only [List.length_append, List.length_cons, List.length_nil]
    omega

set_option maxHeartbeats 8000000 in
theorem bk_long (c : CmdT) (hf : Fits c) (s : ByteArray) (hs : s.size ≤ maxLen) (w : World) (ht : Da.LenTab w) (hp : PowTab w) (hl : 5000 < s.size) :
    Calls Tryd.prog 7 #[.agg (cmdC c).toArray, .string s] w fun e w' => e = .returned (.bool true) ∧ Below w.heap.size w w' := by
  have hsl : (toL s).length = s.size := by simp
  obtain ⟨w1, e1, b1, hb1, hz1⟩ := cmd_box c w
  have B1 := Lib.hid b1
  have HL1 := Lib.hid hb1
  clear b1 hb1 hz1
  have HAW : RowKit.Hid (∀ W, Below w.heap.size w W → Calls Tryd.prog 28 #[] W fun e w' => e = .returned (.bool true) ∧ RowKit.Hid (Below W.heap.size W w')) := Lib.hid fun W hW => (awake_m W (ht.keep hW) (powTab_keep hp hW)).mono fun _ _ h => ⟨h.1, Lib.hid h.2⟩
  have hl2 : (5000 : Int) < (s.size : Int) := by omega
  unfold maxLen at hs
  clear ht hp hf hsl hl
  unfold cmdC
  go_enter Tryd.func7, Tryd.ntmps7
  go_upto_region 4 with (first
    | (go_at_call 28; (with_reducible refine (HAW.out _ HL1.out).mono ?_); rintro e w2 ⟨rfl, hb2⟩))
  clear e1
  obtain ⟨wa, hx, q1, q3⟩ := box1 73 [.int .i64 0, .int .i64 0] w2
  try rw [hx]
  have N0 := Lib.hid q1
  have C0 := Lib.hid (B1.out.mono (bel_trans hb2.out q3))
  have HLA := Lib.hid (bel_trans (bel_trans HL1.out hb2.out) q3)
  have ctx := cb1 C0.out
  clear hx q1 q3
  generalize w2.heap.size = g2 at *
  go_wp2
  go_ret
  exact ⟨rfl, HLA.out⟩

set_option maxHeartbeats 8000000 in
theorem bk_text (c : CmdT) (hf : Fits c) (s : ByteArray) (hs : s.size ≤ maxLen) (w : World) (ht : Da.LenTab w) (hp : PowTab w) (hl : ¬ 5000 < s.size) (htx : 1000 < c.text.length) :
    Calls Tryd.prog 7 #[.agg (cmdC c).toArray, .string s] w fun e w' => e = .returned (.bool true) ∧ Below w.heap.size w w' := by
  have hsl : (toL s).length = s.size := by simp
  obtain ⟨w1, e1, b1, hb1, hz1⟩ := cmd_box c w
  have B1 := Lib.hid b1
  have HL1 := Lib.hid hb1
  clear b1 hb1 hz1
  have HAW : RowKit.Hid (∀ W, Below w.heap.size w W → Calls Tryd.prog 28 #[] W fun e w' => e = .returned (.bool true) ∧ RowKit.Hid (Below W.heap.size W w')) := Lib.hid fun W hW => (awake_m W (ht.keep hW) (powTab_keep hp hW)).mono fun _ _ h => ⟨h.1, Lib.hid h.2⟩
  have hl2 : ¬ (5000 : Int) < (s.size : Int) := by omega
  have hl3 : (1000 : Int) < (c.text.length : Int) := by omega
  unfold maxLen at hs
  clear ht hp hf hsl hl htx
  unfold cmdC
  go_enter Tryd.func7, Tryd.ntmps7
  go_upto_region 4 with (first
    | (go_at_call 28; (with_reducible refine (HAW.out _ HL1.out).mono ?_); rintro e w2 ⟨rfl, hb2⟩))
  clear e1
  obtain ⟨wa, hx, q1, q3⟩ := box1 73 [.int .i64 0, .int .i64 0] w2
  try rw [hx]
  have N0 := Lib.hid q1
  have C0 := Lib.hid (B1.out.mono (bel_trans hb2.out q3))
  have HLA := Lib.hid (bel_trans (bel_trans HL1.out hb2.out) q3)
  have ctx := cb1 C0.out
  clear hx q1 q3
  generalize w2.heap.size = g2 at *
  go_wp2
  go_ret
  exact ⟨rfl, HLA.out⟩

set_option maxHeartbeats 8000000 in
theorem bk_no_er (c : CmdT) (hf : Fits c) (s : ByteArray) (hs : s.size ≤ maxLen) (w : World) (ht : Da.LenTab w) (hp : PowTab w) (hl : ¬ 5000 < s.size) (htx : ¬ 1000 < c.text.length) (hpc : parse (textP c) ≠ .ok c) (k : Int) (p : Nat) (hr0 : parse (toL s) = .error (k, p)) :
    Calls Tryd.prog 7 #[.agg (cmdC c).toArray, .string s] w fun e w' => e = .returned (.bool true) ∧ Below w.heap.size w w' := by
  have hsl : (toL s).length = s.size := by simp
  obtain ⟨w1, e1, b1, hb1, hz1⟩ := cmd_box c w
  have B1 := Lib.hid b1
  have HL1 := Lib.hid hb1
  clear b1 hb1 hz1
  have HAW : RowKit.Hid (∀ W, Below w.heap.size w W → Calls Tryd.prog 28 #[] W fun e w' => e = .returned (.bool true) ∧ RowKit.Hid (Below W.heap.size W w')) := Lib.hid fun W hW => (awake_m W (ht.keep hW) (powTab_keep hp hW)).mono fun _ _ h => ⟨h.1, Lib.hid h.2⟩
  have hl2 : ¬ (5000 : Int) < (s.size : Int) := by omega
  have hl3 : ¬ (1000 : Int) < (c.text.length : Int) := by omega
  have HPC : RowKit.Hid (∀ W, Below w.heap.size w W → Calls Tryd.prog 31 #[.agg (cmdC c).toArray] W fun e w' => e = .returned (.tuple #[.string ⟨#[]⟩, .int .i64 4]) ∧ RowKit.Hid (Below W.heap.size W w')) := Lib.hid fun W hW => print_no c W hf (ht.keep hW) (powTab_keep hp hW) (textP_len hf) hpc
  have HPS : RowKit.Hid (∀ W, Below w.heap.size w W → Calls Tryd.prog 29 #[.string s] W fun e w' => e = .returned (.tuple #[.agg zerA, .agg #[.int .i64 k, .int .i64 (p : Nat)]]) ∧ RowKit.Hid (Below W.heap.size W w')) := Lib.hid fun W hW => (parse_no s k p W hs (ht.keep hW) hr0).mono fun _ _ h => ⟨h.1, Lib.hid h.2⟩
  unfold zerA at HPS
  have hk0 : ¬ k = 0 := by have := (parse_code hr0).1; omega
  unfold maxLen at hs
  clear ht hp hf hsl hl htx hpc hr0
  unfold cmdC
  go_enter Tryd.func7, Tryd.ntmps7
  go_upto_region 4 with (first
    | (go_at_call 28; (with_reducible refine (HAW.out _ HL1.out).mono ?_); rintro e w2 ⟨rfl, hb2⟩))
  clear e1
  obtain ⟨wa, hx, q1, q3⟩ := box1 73 [.int .i64 0, .int .i64 0] w2
  try rw [hx]
  have N0 := Lib.hid q1
  have C0 := Lib.hid (B1.out.mono (bel_trans hb2.out q3))
  have HLA := Lib.hid (bel_trans (bel_trans HL1.out hb2.out) q3)
  have ctx := cb1 C0.out
  clear hx q1 q3
  generalize w2.heap.size = g2 at *
  have hr := C0.out.range

  go_upto_region 11 with (first
    | (refine wpList_load_mid rfl 71 (.tmp 2) rfl w.heap.size 0 rfl _ _ hr Tryd.underlying71 rfl info_cmd ?_)
    | (go_at_call 31; (with_reducible refine (HPC.out _ HLA.out).mono ?_); rintro e w3 ⟨rfl, hb3⟩; have HL3 := Lib.hid (bel_trans HLA.out hb3.out)))
  have N3 := Lib.hid (N0.out.mono hb3.out)
  clear hr N0 C0 B1
  go_upto_region 12 with (first
    | (go_at_call 29; (with_reducible refine (HPS.out _ HL3.out).mono ?_); rintro e w5 ⟨rfl, hb5⟩))
  obtain ⟨wc, hx, q1, q2, q3⟩ := box2 [.int .i64 0, .string ⟨#[]⟩, .string ⟨#[]⟩, .int .i64 0, .string ⟨#[]⟩, .string ⟨#[]⟩, .int .i64 0, .string ⟨#[]⟩, .string ⟨#[]⟩, .int .i64 0, .int .i64 0, .int .u8 0, .int .i64 0, .int .i64 0, .int .u8 0] [.int .i64 k, .int .i64 (p : Nat)] w5
  try rw [hx]
  have hk := bel_trans hb5.out q3
  have N5 := Lib.hid (N3.out.mono hk)
  have D5 := Lib.hid q1
  have F5 := Lib.hid q2
  have HL5 := Lib.hid (bel_trans HL3.out hk)
  clear hx q1 q2 q3 hk N3
  generalize w5.heap.size = g5 at *
  go_upto_region 13 with fail
  obtain ⟨wd, hx, q1, q3⟩ := box1 71 [.int .i64 0, .string ⟨#[]⟩, .string ⟨#[]⟩, .int .i64 0, .string ⟨#[]⟩, .string ⟨#[]⟩, .int .i64 0, .string ⟨#[]⟩, .string ⟨#[]⟩, .int .i64 0, .int .i64 0, .int .u8 0, .int .i64 0, .int .i64 0, .int .u8 0] wc
  try rw [hx]
  have N6 := N5.out.mono q3
  have D6 := D5.out.mono q3
  have F6 := F5.out.mono q3
  have HL6 := Lib.hid (bel_trans HL5.out q3)
  have a0 := N6.cell 0
  have a1 := N6.cell 1
  have b0 := F6.cell 0
  have b1 := F6.cell 1
  simp only [List.getElem?_cons_zero, List.getElem?_cons_succ] at a0 a1 b0 b1
  have Z6 := q1
  have u0 := D6.cell 0
  have v0 := Z6.cell 0
  have u1 := D6.cell 1
  have v1 := Z6.cell 1
  have u2 := D6.cell 2
  have v2 := Z6.cell 2
  have u3 := D6.cell 3
  have v3 := Z6.cell 3
  have u4 := D6.cell 4
  have v4 := Z6.cell 4
  have u5 := D6.cell 5
  have v5 := Z6.cell 5
  have u6 := D6.cell 6
  have v6 := Z6.cell 6
  have u7 := D6.cell 7
  have v7 := Z6.cell 7
  have u8 := D6.cell 8
  have v8 := Z6.cell 8
  have u9 := D6.cell 9
  have v9 := Z6.cell 9
  have u10 := D6.cell 10
  have v10 := Z6.cell 10
  have u11 := D6.cell 11
  have v11 := Z6.cell 11
  have u12 := D6.cell 12
  have v12 := Z6.cell 12
  have u13 := D6.cell 13
  have v13 := Z6.cell 13
  have u14 := D6.cell 14
  have v14 := Z6.cell 14
  simp only [List.getElem?_cons_zero, List.getElem?_cons_succ] at u0 v0 u1 v1 u2 v2 u3 v3 u4 v4 u5 v5 u6 v6 u7 v7 u8 v8 u9 v9 u10 v10 u11 v11 u12 v12 u13 v13 u14 v14
  clear hx q1 q3 N6 D6 F6 Z6 N5 D5 F5
  go_wp2
  go_ret
  exact ⟨rfl, HL6.out⟩

set_option maxHeartbeats 8000000 in
theorem bk_no_ok (c : CmdT) (hf : Fits c) (s : ByteArray) (hs : s.size ≤ maxLen) (w : World) (ht : Da.LenTab w) (hp : PowTab w) (hl : ¬ 5000 < s.size) (htx : ¬ 1000 < c.text.length) (hpc : parse (textP c) ≠ .ok c) (d : CmdT) (hr0 : parse (toL s) = .ok d) :
    Calls Tryd.prog 7 #[.agg (cmdC c).toArray, .string s] w fun e w' => e = .returned (.bool true) ∧ Below w.heap.size w w' := by
  have hsl : (toL s).length = s.size := by simp
  obtain ⟨w1, e1, b1, hb1, hz1⟩ := cmd_box c w
  have B1 := Lib.hid b1
  have HL1 := Lib.hid hb1
  clear b1 hb1 hz1
  have HAW : RowKit.Hid (∀ W, Below w.heap.size w W → Calls Tryd.prog 28 #[] W fun e w' => e = .returned (.bool true) ∧ RowKit.Hid (Below W.heap.size W w')) := Lib.hid fun W hW => (awake_m W (ht.keep hW) (powTab_keep hp hW)).mono fun _ _ h => ⟨h.1, Lib.hid h.2⟩
  have hl2 : ¬ (5000 : Int) < (s.size : Int) := by omega
  have hl3 : ¬ (1000 : Int) < (c.text.length : Int) := by omega
  have HPC : RowKit.Hid (∀ W, Below w.heap.size w W → Calls Tryd.prog 31 #[.agg (cmdC c).toArray] W fun e w' => e = .returned (.tuple #[.string ⟨#[]⟩, .int .i64 4]) ∧ RowKit.Hid (Below W.heap.size W w')) := Lib.hid fun W hW => print_no c W hf (ht.keep hW) (powTab_keep hp hW) (textP_len hf) hpc
  have HPS : RowKit.Hid (∀ W, Below w.heap.size w W → Calls Tryd.prog 29 #[.string s] W fun e w' => e = .returned (.tuple #[.agg (cmdA d), .agg #[.int .i64 0, .int .i64 0]]) ∧ RowKit.Hid (Below W.heap.size W w')) := Lib.hid fun W hW => (parse_yes s d W hs (ht.keep hW) hr0).mono fun _ _ h => ⟨h.1, Lib.hid h.2⟩
  unfold cmdA at HPS
  have hpd := parse_ok hr0
  have HPD : RowKit.Hid (∀ W, Below w.heap.size w W → Calls Tryd.prog 31 #[.agg (cmdC d).toArray] W fun e w' => e = .returned (.tuple #[.string s, .int .i64 0]) ∧ RowKit.Hid (Below W.heap.size W w')) := Lib.hid fun W hW => by
    have hfd := parse_fits hr0
    have h := print_yes d W hfd (ht.keep hW) (powTab_keep hp hW) (textP_len hfd) (by rw [hpd.1]; exact hr0)
    rw [hpd.1] at h
    exact h
  have hkd1 : (1 : Int) ≤ d.kind := hpd.2.2.1
  have hkd2 : d.kind ≤ 29 := hpd.2.2.2.1
  unfold maxLen at hs
  clear ht hp hf hsl hl htx hpc hr0 hpd
  unfold cmdC
  go_enter Tryd.func7, Tryd.ntmps7
  go_upto_region 4 with (first
    | (go_at_call 28; (with_reducible refine (HAW.out _ HL1.out).mono ?_); rintro e w2 ⟨rfl, hb2⟩))
  clear e1
  obtain ⟨wa, hx, q1, q3⟩ := box1 73 [.int .i64 0, .int .i64 0] w2
  try rw [hx]
  have N0 := Lib.hid q1
  have C0 := Lib.hid (B1.out.mono (bel_trans hb2.out q3))
  have HLA := Lib.hid (bel_trans (bel_trans HL1.out hb2.out) q3)
  have ctx := cb1 C0.out
  clear hx q1 q3
  generalize w2.heap.size = g2 at *
  have hr := C0.out.range

  go_upto_region 11 with (first
    | (refine wpList_load_mid rfl 71 (.tmp 2) rfl w.heap.size 0 rfl _ _ hr Tryd.underlying71 rfl info_cmd ?_)
    | (go_at_call 31; (with_reducible refine (HPC.out _ HLA.out).mono ?_); rintro e w3 ⟨rfl, hb3⟩; have HL3 := Lib.hid (bel_trans HLA.out hb3.out)))
  have N3 := Lib.hid (N0.out.mono hb3.out)
  clear hr N0 C0 B1
  go_upto_region 12 with (first
    | (go_at_call 29; (with_reducible refine (HPS.out _ HL3.out).mono ?_); rintro e w5 ⟨rfl, hb5⟩))
  obtain ⟨wc, hx, q1, q2, q3⟩ := box2 [.int .i64 d.kind, txV d.text, txV d.office, .int .i64 d.day, txV d.src, txV d.dst, .int .i64 d.minute, txV d.last, txV d.first, .int .i64 d.n, .int .i64 d.pax, .int .u8 d.cls.toNat, .int .i64 d.line, .int .i64 d.row, .int .u8 d.c.toNat] [.int .i64 0, .int .i64 0] w5
  try rw [hx]
  have hk := bel_trans hb5.out q3
  have N5 := Lib.hid (N3.out.mono hk)
  have D5 := Lib.hid q1
  have F5 := Lib.hid q2
  have HL5 := Lib.hid (bel_trans HL3.out hk)
  clear hx q1 q2 q3 hk N3
  generalize w5.heap.size = g5 at *
  go_upto_region 13 with fail
  obtain ⟨wd, hx, q1, q3⟩ := box1 71 [.int .i64 0, .string ⟨#[]⟩, .string ⟨#[]⟩, .int .i64 0, .string ⟨#[]⟩, .string ⟨#[]⟩, .int .i64 0, .string ⟨#[]⟩, .string ⟨#[]⟩, .int .i64 0, .int .i64 0, .int .u8 0, .int .i64 0, .int .i64 0, .int .u8 0] wc
  try rw [hx]
  have N6 := N5.out.mono q3
  have D6 := D5.out.mono q3
  have F6 := F5.out.mono q3
  have HL6 := Lib.hid (bel_trans HL5.out q3)
  have a0 := N6.cell 0
  have a1 := N6.cell 1
  have b0 := F6.cell 0
  have b1 := F6.cell 1
  simp only [List.getElem?_cons_zero, List.getElem?_cons_succ] at a0 a1 b0 b1
  have hr := (show Blk wd g5 71 (cmdC d) from D6).range
  have v0 := cb0 (c := d) D6
  clear hx q1 q3 N6 F6 N5 D5 F5
  have DK := Lib.hid D6
  clear D6
  go_wp2_with (first
    | (refine wpList_load_mid rfl 71 (.tmp 10) rfl g5 0 rfl _ _ hr Tryd.underlying71 rfl info_cmd ?_)
    | (go_at_call 31; (with_reducible refine (HPD.out _ HL6.out).mono ?_); rintro e w7 ⟨rfl, hb7⟩; have v7 := cb0 (c := d) (DK.out.mono hb7.out)))
  go_ret
  exact ⟨rfl, bel_trans HL6.out hb7.out⟩

set_option maxHeartbeats 8000000 in
theorem bk_yes_er (c : CmdT) (hf : Fits c) (s : ByteArray) (hs : s.size ≤ maxLen) (w : World) (ht : Da.LenTab w) (hp : PowTab w) (hl : ¬ 5000 < s.size) (htx : ¬ 1000 < c.text.length) (hpc : parse (textP c) = .ok c) (k : Int) (p : Nat) (hr0 : parse (toL s) = .error (k, p)) :
    Calls Tryd.prog 7 #[.agg (cmdC c).toArray, .string s] w fun e w' => e = .returned (.bool true) ∧ Below w.heap.size w w' := by
  have hsl : (toL s).length = s.size := by simp
  obtain ⟨w1, e1, b1, hb1, hz1⟩ := cmd_box c w
  have B1 := Lib.hid b1
  have HL1 := Lib.hid hb1
  clear b1 hb1 hz1
  have HAW : RowKit.Hid (∀ W, Below w.heap.size w W → Calls Tryd.prog 28 #[] W fun e w' => e = .returned (.bool true) ∧ RowKit.Hid (Below W.heap.size W w')) := Lib.hid fun W hW => (awake_m W (ht.keep hW) (powTab_keep hp hW)).mono fun _ _ h => ⟨h.1, Lib.hid h.2⟩
  have hl2 : ¬ (5000 : Int) < (s.size : Int) := by omega
  have hl3 : ¬ (1000 : Int) < (c.text.length : Int) := by omega
  have hT255 := (parse_ok hpc).2.2.2.2
  obtain ⟨T, hT⟩ : ∃ T : ByteArray, (⟨(textP c).toArray⟩ : ByteArray) = T := ⟨_, rfl⟩
  have hTz : T.size = (textP c).length := by rw [← hT, tx_size]
  have hTs : ¬ (255 : Int) < (T.size : Int) := by omega
  have hTl : toL T = textP c := by rw [← hT]
  have HPC : RowKit.Hid (∀ W, Below w.heap.size w W → Calls Tryd.prog 31 #[.agg (cmdC c).toArray] W fun e w' => e = .returned (.tuple #[.string T, .int .i64 0]) ∧ RowKit.Hid (Below W.heap.size W w')) := Lib.hid fun W hW => by
    have h := print_yes c W hf (ht.keep hW) (powTab_keep hp hW) (textP_len hf) hpc
    unfold txV at h
    rw [hT] at h
    exact h
  have HPT : RowKit.Hid (∀ W, Below w.heap.size w W → Calls Tryd.prog 29 #[.string T] W fun e w' => e = .returned (.tuple #[.agg (cmdA c), .agg #[.int .i64 0, .int .i64 0]]) ∧ RowKit.Hid (Below W.heap.size W w')) := Lib.hid fun W hW => (parse_yes T c W (by rw [hTz]; unfold maxLen; omega) (ht.keep hW) (by rw [hTl]; exact hpc)).mono fun _ _ h => ⟨h.1, Lib.hid h.2⟩
  unfold cmdA at HPT
  clear hT hTl hT255 hTz
  have HPS : RowKit.Hid (∀ W, Below w.heap.size w W → Calls Tryd.prog 29 #[.string s] W fun e w' => e = .returned (.tuple #[.agg zerA, .agg #[.int .i64 k, .int .i64 (p : Nat)]]) ∧ RowKit.Hid (Below W.heap.size W w')) := Lib.hid fun W hW => (parse_no s k p W hs (ht.keep hW) hr0).mono fun _ _ h => ⟨h.1, Lib.hid h.2⟩
  unfold zerA at HPS
  have hk0 : ¬ k = 0 := by have := (parse_code hr0).1; omega
  unfold maxLen at hs
  clear ht hp hf hsl hl htx hpc hr0
  unfold cmdC
  go_enter Tryd.func7, Tryd.ntmps7
  go_upto_region 4 with (first
    | (go_at_call 28; (with_reducible refine (HAW.out _ HL1.out).mono ?_); rintro e w2 ⟨rfl, hb2⟩))
  clear e1
  obtain ⟨wa, hx, q1, q3⟩ := box1 73 [.int .i64 0, .int .i64 0] w2
  try rw [hx]
  have N0 := Lib.hid q1
  have C0 := Lib.hid (B1.out.mono (bel_trans hb2.out q3))
  have HLA := Lib.hid (bel_trans (bel_trans HL1.out hb2.out) q3)
  have ctx := cb1 C0.out
  clear hx q1 q3
  generalize w2.heap.size = g2 at *
  have hr := C0.out.range

  go_upto_region 9 with (first
    | (refine wpList_load_mid rfl 71 (.tmp 2) rfl w.heap.size 0 rfl _ _ hr Tryd.underlying71 rfl info_cmd ?_)
    | (go_at_call 31; (with_reducible refine (HPC.out _ HLA.out).mono ?_); rintro e w3 ⟨rfl, hb3⟩; have HL3 := Lib.hid (bel_trans HLA.out hb3.out))
    | (go_at_call 29; (with_reducible refine (HPT.out _ HL3.out).mono ?_); rintro e w4 ⟨rfl, hb4⟩))
  obtain ⟨wb, hx, q1, q2, q3⟩ := box2 [.int .i64 c.kind, txV c.text, txV c.office, .int .i64 c.day, txV c.src, txV c.dst, .int .i64 c.minute, txV c.last, txV c.first, .int .i64 c.n, .int .i64 c.pax, .int .u8 c.cls.toNat, .int .i64 c.line, .int .i64 c.row, .int .u8 c.c.toNat] [.int .i64 0, .int .i64 0] w4
  try rw [hx]
  have hk := bel_trans (bel_trans hb3.out hb4.out) q3
  have N1 := N0.out.mono hk
  have C1 := C0.out.mono hk
  have HL3b := Lib.hid (bel_trans (bel_trans HL3.out hb4.out) q3)
  have a0 := N1.cell 0
  have a1 := N1.cell 1
  have b0 := q2.cell 0
  have b1 := q2.cell 1
  simp only [List.getElem?_cons_zero, List.getElem?_cons_succ] at a0 a1 b0 b1
  have u0 := cb0 (c := c) q1
  have v0 := cb0 C1
  have u1 := cb1 (c := c) q1
  have v1 := cb1 C1
  have u2 := cb2 (c := c) q1
  have v2 := cb2 C1
  have u3 := cb3 (c := c) q1
  have v3 := cb3 C1
  have u4 := cb4 (c := c) q1
  have v4 := cb4 C1
  have u5 := cb5 (c := c) q1
  have v5 := cb5 C1
  have u6 := cb6 (c := c) q1
  have v6 := cb6 C1
  have u7 := cb7 (c := c) q1
  have v7 := cb7 C1
  have u8 := cb8 (c := c) q1
  have v8 := cb8 C1
  have u9 := cb9 (c := c) q1
  have v9 := cb9 C1
  have u10 := cb10 (c := c) q1
  have v10 := cb10 C1
  have u11 := cb11 (c := c) q1
  have v11 := cb11 C1
  have u12 := cb12 (c := c) q1
  have v12 := cb12 C1
  have u13 := cb13 (c := c) q1
  have v13 := cb13 C1
  have u14 := cb14 (c := c) q1
  have v14 := cb14 C1
  have N3 := Lib.hid N1
  clear hx q1 q2 q3 hk N1 C1 hr N0 C0 B1 HL3
  have HL3 := HL3b
  clear HL3b
  generalize w4.heap.size = g4 at *
  go_upto_region 11 with fail
  clear a0 a1 b0 b1 u0 v0 u1 v1 u2 v2 u3 v3 u4 v4 u5 v5 u6 v6 u7 v7 u8 v8 u9 v9 u10 v10 u11 v11 u12 v12 u13 v13 u14 v14
  go_upto_region 12 with (first
    | (go_at_call 29; (with_reducible refine (HPS.out _ HL3.out).mono ?_); rintro e w5 ⟨rfl, hb5⟩))
  obtain ⟨wc, hx, q1, q2, q3⟩ := box2 [.int .i64 0, .string ⟨#[]⟩, .string ⟨#[]⟩, .int .i64 0, .string ⟨#[]⟩, .string ⟨#[]⟩, .int .i64 0, .string ⟨#[]⟩, .string ⟨#[]⟩, .int .i64 0, .int .i64 0, .int .u8 0, .int .i64 0, .int .i64 0, .int .u8 0] [.int .i64 k, .int .i64 (p : Nat)] w5
  try rw [hx]
  have hk := bel_trans hb5.out q3
  have N5 := Lib.hid (N3.out.mono hk)
  have D5 := Lib.hid q1
  have F5 := Lib.hid q2
  have HL5 := Lib.hid (bel_trans HL3.out hk)
  clear hx q1 q2 q3 hk N3
  generalize w5.heap.size = g5 at *
  go_upto_region 13 with fail
  obtain ⟨wd, hx, q1, q3⟩ := box1 71 [.int .i64 0, .string ⟨#[]⟩, .string ⟨#[]⟩, .int .i64 0, .string ⟨#[]⟩, .string ⟨#[]⟩, .int .i64 0, .string ⟨#[]⟩, .string ⟨#[]⟩, .int .i64 0, .int .i64 0, .int .u8 0, .int .i64 0, .int .i64 0, .int .u8 0] wc
  try rw [hx]
  have N6 := N5.out.mono q3
  have D6 := D5.out.mono q3
  have F6 := F5.out.mono q3
  have HL6 := Lib.hid (bel_trans HL5.out q3)
  have a0 := N6.cell 0
  have a1 := N6.cell 1
  have b0 := F6.cell 0
  have b1 := F6.cell 1
  simp only [List.getElem?_cons_zero, List.getElem?_cons_succ] at a0 a1 b0 b1
  have Z6 := q1
  have u0 := D6.cell 0
  have v0 := Z6.cell 0
  have u1 := D6.cell 1
  have v1 := Z6.cell 1
  have u2 := D6.cell 2
  have v2 := Z6.cell 2
  have u3 := D6.cell 3
  have v3 := Z6.cell 3
  have u4 := D6.cell 4
  have v4 := Z6.cell 4
  have u5 := D6.cell 5
  have v5 := Z6.cell 5
  have u6 := D6.cell 6
  have v6 := Z6.cell 6
  have u7 := D6.cell 7
  have v7 := Z6.cell 7
  have u8 := D6.cell 8
  have v8 := Z6.cell 8
  have u9 := D6.cell 9
  have v9 := Z6.cell 9
  have u10 := D6.cell 10
  have v10 := Z6.cell 10
  have u11 := D6.cell 11
  have v11 := Z6.cell 11
  have u12 := D6.cell 12
  have v12 := Z6.cell 12
  have u13 := D6.cell 13
  have v13 := Z6.cell 13
  have u14 := D6.cell 14
  have v14 := Z6.cell 14
  simp only [List.getElem?_cons_zero, List.getElem?_cons_succ] at u0 v0 u1 v1 u2 v2 u3 v3 u4 v4 u5 v5 u6 v6 u7 v7 u8 v8 u9 v9 u10 v10 u11 v11 u12 v12 u13 v13 u14 v14
  clear hx q1 q3 N6 D6 F6 Z6 N5 D5 F5
  go_wp2
  go_ret
  exact ⟨rfl, HL6.out⟩

set_option maxHeartbeats 8000000 in
theorem bk_yes_ok (c : CmdT) (hf : Fits c) (s : ByteArray) (hs : s.size ≤ maxLen) (w : World) (ht : Da.LenTab w) (hp : PowTab w) (hl : ¬ 5000 < s.size) (htx : ¬ 1000 < c.text.length) (hpc : parse (textP c) = .ok c) (d : CmdT) (hr0 : parse (toL s) = .ok d) :
    Calls Tryd.prog 7 #[.agg (cmdC c).toArray, .string s] w fun e w' => e = .returned (.bool true) ∧ Below w.heap.size w w' := by
  have hsl : (toL s).length = s.size := by simp
  obtain ⟨w1, e1, b1, hb1, hz1⟩ := cmd_box c w
  have B1 := Lib.hid b1
  have HL1 := Lib.hid hb1
  clear b1 hb1 hz1
  have HAW : RowKit.Hid (∀ W, Below w.heap.size w W → Calls Tryd.prog 28 #[] W fun e w' => e = .returned (.bool true) ∧ RowKit.Hid (Below W.heap.size W w')) := Lib.hid fun W hW => (awake_m W (ht.keep hW) (powTab_keep hp hW)).mono fun _ _ h => ⟨h.1, Lib.hid h.2⟩
  have hl2 : ¬ (5000 : Int) < (s.size : Int) := by omega
  have hl3 : ¬ (1000 : Int) < (c.text.length : Int) := by omega
  have hT255 := (parse_ok hpc).2.2.2.2
  obtain ⟨T, hT⟩ : ∃ T : ByteArray, (⟨(textP c).toArray⟩ : ByteArray) = T := ⟨_, rfl⟩
  have hTz : T.size = (textP c).length := by rw [← hT, tx_size]
  have hTs : ¬ (255 : Int) < (T.size : Int) := by omega
  have hTl : toL T = textP c := by rw [← hT]
  have HPC : RowKit.Hid (∀ W, Below w.heap.size w W → Calls Tryd.prog 31 #[.agg (cmdC c).toArray] W fun e w' => e = .returned (.tuple #[.string T, .int .i64 0]) ∧ RowKit.Hid (Below W.heap.size W w')) := Lib.hid fun W hW => by
    have h := print_yes c W hf (ht.keep hW) (powTab_keep hp hW) (textP_len hf) hpc
    unfold txV at h
    rw [hT] at h
    exact h
  have HPT : RowKit.Hid (∀ W, Below w.heap.size w W → Calls Tryd.prog 29 #[.string T] W fun e w' => e = .returned (.tuple #[.agg (cmdA c), .agg #[.int .i64 0, .int .i64 0]]) ∧ RowKit.Hid (Below W.heap.size W w')) := Lib.hid fun W hW => (parse_yes T c W (by rw [hTz]; unfold maxLen; omega) (ht.keep hW) (by rw [hTl]; exact hpc)).mono fun _ _ h => ⟨h.1, Lib.hid h.2⟩
  unfold cmdA at HPT
  clear hT hTl hT255 hTz
  have HPS : RowKit.Hid (∀ W, Below w.heap.size w W → Calls Tryd.prog 29 #[.string s] W fun e w' => e = .returned (.tuple #[.agg (cmdA d), .agg #[.int .i64 0, .int .i64 0]]) ∧ RowKit.Hid (Below W.heap.size W w')) := Lib.hid fun W hW => (parse_yes s d W hs (ht.keep hW) hr0).mono fun _ _ h => ⟨h.1, Lib.hid h.2⟩
  unfold cmdA at HPS
  have hpd := parse_ok hr0
  have HPD : RowKit.Hid (∀ W, Below w.heap.size w W → Calls Tryd.prog 31 #[.agg (cmdC d).toArray] W fun e w' => e = .returned (.tuple #[.string s, .int .i64 0]) ∧ RowKit.Hid (Below W.heap.size W w')) := Lib.hid fun W hW => by
    have hfd := parse_fits hr0
    have h := print_yes d W hfd (ht.keep hW) (powTab_keep hp hW) (textP_len hfd) (by rw [hpd.1]; exact hr0)
    rw [hpd.1] at h
    exact h
  have hkd1 : (1 : Int) ≤ d.kind := hpd.2.2.1
  have hkd2 : d.kind ≤ 29 := hpd.2.2.2.1
  unfold maxLen at hs
  clear ht hp hf hsl hl htx hpc hr0 hpd
  unfold cmdC
  go_enter Tryd.func7, Tryd.ntmps7
  go_upto_region 4 with (first
    | (go_at_call 28; (with_reducible refine (HAW.out _ HL1.out).mono ?_); rintro e w2 ⟨rfl, hb2⟩))
  clear e1
  obtain ⟨wa, hx, q1, q3⟩ := box1 73 [.int .i64 0, .int .i64 0] w2
  try rw [hx]
  have N0 := Lib.hid q1
  have C0 := Lib.hid (B1.out.mono (bel_trans hb2.out q3))
  have HLA := Lib.hid (bel_trans (bel_trans HL1.out hb2.out) q3)
  have ctx := cb1 C0.out
  clear hx q1 q3
  generalize w2.heap.size = g2 at *
  have hr := C0.out.range

  go_upto_region 9 with (first
    | (refine wpList_load_mid rfl 71 (.tmp 2) rfl w.heap.size 0 rfl _ _ hr Tryd.underlying71 rfl info_cmd ?_)
    | (go_at_call 31; (with_reducible refine (HPC.out _ HLA.out).mono ?_); rintro e w3 ⟨rfl, hb3⟩; have HL3 := Lib.hid (bel_trans HLA.out hb3.out))
    | (go_at_call 29; (with_reducible refine (HPT.out _ HL3.out).mono ?_); rintro e w4 ⟨rfl, hb4⟩))
  obtain ⟨wb, hx, q1, q2, q3⟩ := box2 [.int .i64 c.kind, txV c.text, txV c.office, .int .i64 c.day, txV c.src, txV c.dst, .int .i64 c.minute, txV c.last, txV c.first, .int .i64 c.n, .int .i64 c.pax, .int .u8 c.cls.toNat, .int .i64 c.line, .int .i64 c.row, .int .u8 c.c.toNat] [.int .i64 0, .int .i64 0] w4
  try rw [hx]
  have hk := bel_trans (bel_trans hb3.out hb4.out) q3
  have N1 := N0.out.mono hk
  have C1 := C0.out.mono hk
  have HL3b := Lib.hid (bel_trans (bel_trans HL3.out hb4.out) q3)
  have a0 := N1.cell 0
  have a1 := N1.cell 1
  have b0 := q2.cell 0
  have b1 := q2.cell 1
  simp only [List.getElem?_cons_zero, List.getElem?_cons_succ] at a0 a1 b0 b1
  have u0 := cb0 (c := c) q1
  have v0 := cb0 C1
  have u1 := cb1 (c := c) q1
  have v1 := cb1 C1
  have u2 := cb2 (c := c) q1
  have v2 := cb2 C1
  have u3 := cb3 (c := c) q1
  have v3 := cb3 C1
  have u4 := cb4 (c := c) q1
  have v4 := cb4 C1
  have u5 := cb5 (c := c) q1
  have v5 := cb5 C1
  have u6 := cb6 (c := c) q1
  have v6 := cb6 C1
  have u7 := cb7 (c := c) q1
  have v7 := cb7 C1
  have u8 := cb8 (c := c) q1
  have v8 := cb8 C1
  have u9 := cb9 (c := c) q1
  have v9 := cb9 C1
  have u10 := cb10 (c := c) q1
  have v10 := cb10 C1
  have u11 := cb11 (c := c) q1
  have v11 := cb11 C1
  have u12 := cb12 (c := c) q1
  have v12 := cb12 C1
  have u13 := cb13 (c := c) q1
  have v13 := cb13 C1
  have u14 := cb14 (c := c) q1
  have v14 := cb14 C1
  have N3 := Lib.hid N1
  clear hx q1 q2 q3 hk N1 C1 hr N0 C0 B1 HL3
  have HL3 := HL3b
  clear HL3b
  generalize w4.heap.size = g4 at *
  go_upto_region 11 with fail
  clear a0 a1 b0 b1 u0 v0 u1 v1 u2 v2 u3 v3 u4 v4 u5 v5 u6 v6 u7 v7 u8 v8 u9 v9 u10 v10 u11 v11 u12 v12 u13 v13 u14 v14
  go_upto_region 12 with (first
    | (go_at_call 29; (with_reducible refine (HPS.out _ HL3.out).mono ?_); rintro e w5 ⟨rfl, hb5⟩))
  obtain ⟨wc, hx, q1, q2, q3⟩ := box2 [.int .i64 d.kind, txV d.text, txV d.office, .int .i64 d.day, txV d.src, txV d.dst, .int .i64 d.minute, txV d.last, txV d.first, .int .i64 d.n, .int .i64 d.pax, .int .u8 d.cls.toNat, .int .i64 d.line, .int .i64 d.row, .int .u8 d.c.toNat] [.int .i64 0, .int .i64 0] w5
  try rw [hx]
  have hk := bel_trans hb5.out q3
  have N5 := Lib.hid (N3.out.mono hk)
  have D5 := Lib.hid q1
  have F5 := Lib.hid q2
  have HL5 := Lib.hid (bel_trans HL3.out hk)
  clear hx q1 q2 q3 hk N3
  generalize w5.heap.size = g5 at *
  go_upto_region 13 with fail
  obtain ⟨wd, hx, q1, q3⟩ := box1 71 [.int .i64 0, .string ⟨#[]⟩, .string ⟨#[]⟩, .int .i64 0, .string ⟨#[]⟩, .string ⟨#[]⟩, .int .i64 0, .string ⟨#[]⟩, .string ⟨#[]⟩, .int .i64 0, .int .i64 0, .int .u8 0, .int .i64 0, .int .i64 0, .int .u8 0] wc
  try rw [hx]
  have N6 := N5.out.mono q3
  have D6 := D5.out.mono q3
  have F6 := F5.out.mono q3
  have HL6 := Lib.hid (bel_trans HL5.out q3)
  have a0 := N6.cell 0
  have a1 := N6.cell 1
  have b0 := F6.cell 0
  have b1 := F6.cell 1
  simp only [List.getElem?_cons_zero, List.getElem?_cons_succ] at a0 a1 b0 b1
  have hr := (show Blk wd g5 71 (cmdC d) from D6).range
  have v0 := cb0 (c := d) D6
  clear hx q1 q3 N6 F6 N5 D5 F5
  have DK := Lib.hid D6
  clear D6
  go_wp2_with (first
    | (refine wpList_load_mid rfl 71 (.tmp 10) rfl g5 0 rfl _ _ hr Tryd.underlying71 rfl info_cmd ?_)
    | (go_at_call 31; (with_reducible refine (HPD.out _ HL6.out).mono ?_); rintro e w7 ⟨rfl, hb7⟩; have v7 := cb0 (c := d) (DK.out.mono hb7.out)))
  go_ret
  exact ⟨rfl, bel_trans HL6.out hb7.out⟩

theorem bk_walk (c : CmdT) (hf : Fits c) (s : ByteArray) (hs : s.size ≤ maxLen) (w : World) (ht : Da.LenTab w) (hp : PowTab w) :
    Calls Tryd.prog 7 #[.agg (cmdC c).toArray, .string s] w fun e w' => e = .returned (.bool true) ∧ Below w.heap.size w w' := by
  by_cases hl : 5000 < s.size
  · exact bk_long c hf s hs w ht hp hl
  by_cases htx : 1000 < c.text.length
  · exact bk_text c hf s hs w ht hp hl htx
  by_cases hpc : parse (textP c) = .ok c
  · cases hr0 : parse (toL s) with
    | error f => obtain ⟨k, p⟩ := f; exact bk_yes_er c hf s hs w ht hp hl htx hpc k p hr0
    | ok d => exact bk_yes_ok c hf s hs w ht hp hl htx hpc d hr0
  · cases hr0 : parse (toL s) with
    | error f => obtain ⟨k, p⟩ := f; exact bk_no_er c hf s hs w ht hp hl htx hpc k p hr0
    | ok d => exact bk_no_ok c hf s hs w ht hp hl htx hpc d hr0

end Go.Proofs.YtjahkaidinahpaaDoor.En
