/- Entries: EntryMore where both are entries (printed by gen_nt.py). -/
import Derived.Test.YtjahkaidinahpaaDoorNT
namespace Go.Proofs.YtjahkaidinahpaaDoor.En
open Go Go.RowKit
set_option linter.unusedSimpArgs false
set_option linter.unusedVariables false
set_option maxRecDepth 100000

theorem more_ne {l m : List UInt8} {c d : CmdT} (h1 : parse l = .ok c) (h2 : parse m = .ok d) (h : l ≠ m) : cmdEq d c = false := by
  refine cmdEq_no fun e => h ?_
  rw [← (parse_ok h1).1, ← (parse_ok h2).1, e]

set_option maxHeartbeats 8000000 in
theorem more_two (s : ByteArray) (hs : s.size ≤ maxLen) (x : UInt8) (w : World) (ht : Da.LenTab w) (hp : PowTab w) (c d : CmdT) (hr : parse (toL s) = .ok c) (hl : ¬ 255 ≤ s.size) (hr2 : parse (toL s ++ [x]) = .ok d) :
    Calls Tryd.prog 9 #[.string s, .int .u8 x.toNat] w fun e w' => e = .returned (.bool true) ∧ Below w.heap.size w w' := by
  have hsl : (toL s).length = s.size := by simp
  have HAW : RowKit.Hid (∀ W, Below w.heap.size w W → Calls Tryd.prog 28 #[] W fun e w' => e = .returned (.bool true) ∧ Below W.heap.size W w') := Lib.hid fun W hW => awake_m W (ht.keep hW) (powTab_keep hp hW)
  have hl2 : ¬ (255 : Int) ≤ (s.size : Int) := by omega
  have hcv : ∀ (W : World) (b : Nat), W.cell? ⟨b, 0, none⟩ = some (.int .u8 x.toNat) → (convert 48 9 (.slice (some ⟨b, 0, none⟩) 1 1)).run Tryd.prog W = .ok (.string ⟨#[x]⟩) W := fun W b h => one_conv_at x W b h
  have hss : ¬ (9223372036854775807 < s.size + (⟨#[x]⟩ : ByteArray).size) := by
    have : (⟨#[x]⟩ : ByteArray).size = 1 := rfl
    omega
  have htl : toL (s ++ ⟨#[x]⟩) = toL s ++ [x] := by simp
  have hs2 : (s ++ ⟨#[x]⟩).size ≤ maxLen := by
    rw [ByteArray.size_append]
    have : (⟨#[x]⟩ : ByteArray).size = 1 := rfl
    unfold maxLen
    omega
  have HP1 : RowKit.Hid (∀ W, Below w.heap.size w W → Calls Tryd.prog 29 #[.string s] W fun e w' => e = .returned (.tuple #[.agg #[.int .i64 c.kind, txV c.text, txV c.office, .int .i64 c.day, txV c.src, txV c.dst, .int .i64 c.minute, txV c.last, txV c.first, .int .i64 c.n, .int .i64 c.pax, .int .u8 c.cls.toNat, .int .i64 c.line, .int .i64 c.row, .int .u8 c.c.toNat], .agg #[.int .i64 0, .int .i64 0]]) ∧ RowKit.Hid (Below W.heap.size W w')) := Lib.hid fun W hW => (parse_yes s c W hs (ht.keep hW) hr).mono fun _ _ h => ⟨h.1, Lib.hid h.2⟩
  have HNE : RowKit.Hid (cmdEq d c = false) := Lib.hid (more_ne hr hr2 (by intro e; have := congrArg List.length e; simp at this))
  have hr3 : parse (toL (s ++ (⟨#[x]⟩ : ByteArray))) = .ok d := by rw [htl]; exact hr2
  have HP2 := Lib.hid (parse_yes_x s x d w ht hs2 hr3)
  clear hr3
  have hng : ∀ (W : World), (binOp .neq 71 (.agg (cmdC d).toArray) (.agg (cmdC c).toArray)).run Tryd.prog W = .ok (.bool (!cmdEq d c)) W := fun W => cmd_neq d c W
  rw [HNE.out] at hng
  simp only [Bool.not_false] at hng
  unfold cmdC at hng
  have HNG := Lib.hid hng
  unfold maxLen at hs
  clear hr hr2 ht hp hl hng htl hs2 hsl HNE
  go_enter Tryd.func9, Tryd.ntmps9
  go_upto_region 4 with (first
    | (go_at_call 28; (with_reducible refine (HAW.out _ (Below.refl _ _)).mono ?_); rintro e w1 ⟨rfl, hb1⟩))
  obtain ⟨wa, hx, q1, q3⟩ := box1 73 [.int .i64 0, .int .i64 0] w1
  try rw [hx]
  have N0 := Lib.hid q1
  have HLA := Lib.hid (bel_trans hb1 q3)
  clear hx q1 q3
  generalize w1.heap.size = g1 at *
  go_upto_region 5 with (first
    | (go_at_call 29; (with_reducible refine (HP1.out _ HLA.out).mono ?_); rintro e w2 ⟨rfl, hb2⟩))
  obtain ⟨wb, hx, q1, q2, q3⟩ := box2 [.int .i64 c.kind, txV c.text, txV c.office, .int .i64 c.day, txV c.src, txV c.dst, .int .i64 c.minute, txV c.last, txV c.first, .int .i64 c.n, .int .i64 c.pax, .int .u8 c.cls.toNat, .int .i64 c.line, .int .i64 c.row, .int .u8 c.c.toNat] [.int .i64 0, .int .i64 0] w2
  try rw [hx]
  have N1 := Lib.hid (N0.out.mono (bel_trans hb2.out q3))
  have C1 := Lib.hid q1
  have F1 := Lib.hid q2
  have HLB := Lib.hid (bel_trans (bel_trans HLA.out hb2.out) q3)
  clear hx q1 q2 q3
  generalize w2.heap.size = g2 at *
  have a0 := N1.out.cell 0
  have a1 := N1.out.cell 1
  have b0 := F1.out.cell 0
  have b1 := F1.out.cell 1
  simp only [List.getElem?_cons_zero, List.getElem?_cons_succ] at a0 a1 b0 b1
  go_upto_region 7 with fail
  clear a0 a1 b0 b1
  obtain ⟨wc, hx, q1, q3⟩ := box1 5 [.int .u8 x.toNat] wb
  have hz0 := q1.cell 0
  simp only [List.getElem?_cons_zero] at hz0
  have HLC := Lib.hid (bel_trans HLB.out q3)
  have q3' := Lib.hid q3
  clear q1 q3
  go_upto_region 8 with (first
    | (go_at_call 29; (with_reducible refine (HP2.out _ HLC.out).mono ?_); rintro e w4 ⟨rfl, hb4⟩))
  clear hx hz0
  obtain ⟨wd, hx, q1, q2, q3⟩ := box2 [.int .i64 d.kind, txV d.text, txV d.office, .int .i64 d.day, txV d.src, txV d.dst, .int .i64 d.minute, txV d.last, txV d.first, .int .i64 d.n, .int .i64 d.pax, .int .u8 d.cls.toNat, .int .i64 d.line, .int .i64 d.row, .int .u8 d.c.toNat] [.int .i64 0, .int .i64 0] w4
  try rw [hx]
  have hk := bel_trans (bel_trans q3'.out hb4.out) q3
  have M0 := N1.out.mono hk
  have M1 := C1.out.mono hk
  have HLD := Lib.hid (bel_trans (bel_trans HLC.out hb4.out) q3)
  have a0 := M0.cell 0
  have a1 := M0.cell 1
  have b0 := q2.cell 0
  have b1 := q2.cell 1
  simp only [List.getElem?_cons_zero, List.getElem?_cons_succ] at a0 a1 b0 b1
  have u0 := q1.cell 0
  have v0 := M1.cell 0
  have u1 := q1.cell 1
  have v1 := M1.cell 1
  have u2 := q1.cell 2
  have v2 := M1.cell 2
  have u3 := q1.cell 3
  have v3 := M1.cell 3
  have u4 := q1.cell 4
  have v4 := M1.cell 4
  have u5 := q1.cell 5
  have v5 := M1.cell 5
  have u6 := q1.cell 6
  have v6 := M1.cell 6
  have u7 := q1.cell 7
  have v7 := M1.cell 7
  have u8 := q1.cell 8
  have v8 := M1.cell 8
  have u9 := q1.cell 9
  have v9 := M1.cell 9
  have u10 := q1.cell 10
  have v10 := M1.cell 10
  have u11 := q1.cell 11
  have v11 := M1.cell 11
  have u12 := q1.cell 12
  have v12 := M1.cell 12
  have u13 := q1.cell 13
  have v13 := M1.cell 13
  have u14 := q1.cell 14
  have v14 := M1.cell 14
  simp only [List.getElem?_cons_zero, List.getElem?_cons_succ] at u0 v0 u1 v1 u2 v2 u3 v3 u4 v4 u5 v5 u6 v6 u7 v7 u8 v8 u9 v9 u10 v10 u11 v11 u12 v12 u13 v13 u14 v14
  have hng := HNG.out
  clear hx q1 q2 q3 hk M0 M1
  go_wp2
  go_ret
  exact ⟨rfl, HLD.out⟩

end Go.Proofs.YtjahkaidinahpaaDoor.En
