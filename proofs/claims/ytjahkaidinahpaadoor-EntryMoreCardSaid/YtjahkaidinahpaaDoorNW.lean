/- Entries: EntryMore where the longer one is refused, no free text (printed by gen_nt.py). -/
import Derived.Test.YtjahkaidinahpaaDoorNT
namespace Go.Proofs.YtjahkaidinahpaaDoor.En
open Go Go.RowKit
set_option linter.unusedSimpArgs false
set_option linter.unusedVariables false
set_option maxRecDepth 100000

set_option maxHeartbeats 8000000 in
theorem more_rest (s : ByteArray) (hs : s.size ≤ maxLen) (x : UInt8) (w : World) (ht : Da.LenTab w) (hp : PowTab w) (c : CmdT) (hr : parse (toL s) = .ok c) (hl : ¬ 255 ≤ s.size) (k : Int) (p : Nat) (hr2 : parse (toL s ++ [x]) = .error (k, p)) (hkd : ¬ (c.kind = 6 ∨ c.kind = 9 ∨ c.kind = 10)) :
    Calls Tryd.prog 9 #[.string s, .int .u8 x.toNat] w fun e w' => e = .returned (.bool true) ∧ Below w.heap.size w w' := by
  have hsl : (toL s).length = s.size := by simp
  have HAW : RowKit.Hid (∀ W, Below w.heap.size w W → Calls Tryd.prog 28 #[] W fun e w' => e = .returned (.bool true) ∧ Below W.heap.size W w') := Lib.hid fun W hW => awake_m W (ht.keep hW) (powTab_keep hp hW)
  have hl2 : ¬ (255 : Int) ≤ (s.size : Int) := by omega
  have hcv : ∀ (W : World) (b : Nat), W.cell? ⟨b, 0, none⟩ = some (.int .u8 x.toNat) → (convert 48 9 (.slice (some ⟨b, 0, none⟩) 1 1)).run Tryd.prog W = .ok (.string ⟨#[x]⟩) W := fun W b h => one_conv_at x W b h
  have hss : ¬ (9223372036854775807 < s.size + (⟨#[x]⟩ : ByteArray).size) := by
    have : (⟨#[x]⟩ : ByteArray).size = 1 := rfl
    omega
  have htl : toL (s ++ ⟨#[x]⟩) = toL s ++ [x] := by simp
  have hs2 : (s ++ ⟨#[x]⟩).size ≤ maxLen := by
    rw [ByteArray.size_append]
    have : (⟨#[x]⟩ : ByteArray).size = 1 := rfl
    unfold maxLen
    omega
  have HP1 : RowKit.Hid (∀ W, Below w.heap.size w W → Calls Tryd.prog 29 #[.string s] W fun e w' => e = .returned (.tuple #[.agg #[.int .i64 c.kind, txV c.text, txV c.office, .int .i64 c.day, txV c.src, txV c.dst, .int .i64 c.minute, txV c.last, txV c.first, .int .i64 c.n, .int .i64 c.pax, .int .u8 c.cls.toNat, .int .i64 c.line, .int .i64 c.row, .int .u8 c.c.toNat], .agg #[.int .i64 0, .int .i64 0]]) ∧ RowKit.Hid (Below W.heap.size W w')) := Lib.hid fun W hW => (parse_yes s c W hs (ht.keep hW) hr).mono fun _ _ h => ⟨h.1, Lib.hid h.2⟩
  obtain ⟨g1, g2, g3, g4, g5, g6, g7⟩ := parse_code hr2
  have hlen : (toL s ++ [x]).length = s.size + 1 := by simp
  rw [hlen] at g3 g5
  have hk0 : ¬ k = 0 := by omega
  have hk40 : (k != 40) = true := by simp; omega
  have hple : (p : Int) ≤ (s.size : Int) + 1 := by have := g5 (by omega); omega
  have n6 : (c.kind == 6) = false := by simp; omega
  have n9 : (c.kind == 9) = false := by simp; omega
  have n10 : (c.kind == 10) = false := by simp; omega
  have HN := Lib.hid (And.intro n6 (And.intro n9 n10))
  have hr3 : parse (toL (s ++ (⟨#[x]⟩ : ByteArray))) = .error (k, p) := by rw [htl]; exact hr2
  have HP2 := Lib.hid (parse_no_x s x k p w ht hs2 hr3)
  clear hr3
  unfold maxLen at hs
  clear hr hr2 ht hp hl htl hs2 hsl g1 g2 g3 g4 g5 g6 g7 hlen hkd n6 n9 n10
  go_enter Tryd.func9, Tryd.ntmps9
  go_upto_region 4 with (first
    | (go_at_call 28; (with_reducible refine (HAW.out _ (Below.refl _ _)).mono ?_); rintro e w1 ⟨rfl, hb1⟩))
  obtain ⟨wa, hx, q1, q3⟩ := box1 73 [.int .i64 0, .int .i64 0] w1
  try rw [hx]
  have N0 := Lib.hid q1
  have HLA := Lib.hid (bel_trans hb1 q3)
  clear hx q1 q3
  generalize w1.heap.size = g1 at *
  go_upto_region 5 with (first
    | (go_at_call 29; (with_reducible refine (HP1.out _ HLA.out).mono ?_); rintro e w2 ⟨rfl, hb2⟩))
  obtain ⟨wb, hx, q1, q2, q3⟩ := box2 [.int .i64 c.kind, txV c.text, txV c.office, .int .i64 c.day, txV c.src, txV c.dst, .int .i64 c.minute, txV c.last, txV c.first, .int .i64 c.n, .int .i64 c.pax, .int .u8 c.cls.toNat, .int .i64 c.line, .int .i64 c.row, .int .u8 c.c.toNat] [.int .i64 0, .int .i64 0] w2
  try rw [hx]
  have N1 := Lib.hid (N0.out.mono (bel_trans hb2.out q3))
  have C1 := Lib.hid q1
  have F1 := Lib.hid q2
  have HLB := Lib.hid (bel_trans (bel_trans HLA.out hb2.out) q3)
  clear hx q1 q2 q3
  generalize w2.heap.size = g2 at *
  have a0 := N1.out.cell 0
  have a1 := N1.out.cell 1
  have b0 := F1.out.cell 0
  have b1 := F1.out.cell 1
  simp only [List.getElem?_cons_zero, List.getElem?_cons_succ] at a0 a1 b0 b1
  go_upto_region 7 with fail
  clear a0 a1 b0 b1
  obtain ⟨wc, hx, q1, q3⟩ := box1 5 [.int .u8 x.toNat] wb
  have hz0 := q1.cell 0
  simp only [List.getElem?_cons_zero] at hz0
  have HLC := Lib.hid (bel_trans HLB.out q3)
  have q3' := Lib.hid q3
  clear q1 q3
  go_upto_region 8 with (first
    | (go_at_call 29; (with_reducible refine (HP2.out _ HLC.out).mono ?_); rintro e w4 ⟨rfl, hb4⟩))
  clear hx hz0
  obtain ⟨wd, hx, q1, q2, q3⟩ := box2 [.int .i64 0, .string ⟨#[]⟩, .string ⟨#[]⟩, .int .i64 0, .string ⟨#[]⟩, .string ⟨#[]⟩, .int .i64 0, .string ⟨#[]⟩, .string ⟨#[]⟩, .int .i64 0, .int .i64 0, .int .u8 0, .int .i64 0, .int .i64 0, .int .u8 0] [.int .i64 k, .int .i64 (p : Nat)] w4
  try rw [hx]
  have hk := bel_trans (bel_trans q3'.out hb4.out) q3
  have M0 := N1.out.mono hk
  have M1 := C1.out.mono hk
  have HLD := Lib.hid (bel_trans (bel_trans HLC.out hb4.out) q3)
  have a0 := M0.cell 0
  have a1 := M0.cell 1
  have b0 := q2.cell 0
  have b1 := q2.cell 1
  simp only [List.getElem?_cons_zero, List.getElem?_cons_succ] at a0 a1 b0 b1
  have v0 := M1.cell 0
  simp only [List.getElem?_cons_zero] at v0
  obtain ⟨n6, n9, n10⟩ := HN.out
  clear hx q1 q2 q3 hk M0 M1
  go_wp2
  go_ret
  exact ⟨rfl, HLD.out⟩

end Go.Proofs.YtjahkaidinahpaaDoor.En
