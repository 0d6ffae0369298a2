/- Entries: Parse two ways; the laws' first test; the walk of EntryMore. -/
import Derived.Test.YtjahkaidinahpaaDoorNR
namespace Go.Proofs.YtjahkaidinahpaaDoor.En
open Go Go.RowKit
set_option linter.unusedSimpArgs false
set_option linter.unusedVariables false
set_option maxRecDepth 100000

/-- The cells of a command, written out. -/
abbrev cmdA (d : CmdT) : Array Value := #[.int .i64 d.kind, txV d.text, txV d.office, .int .i64 d.day, txV d.src, txV d.dst, .int .i64 d.minute, txV d.last, txV d.first, .int .i64 d.n, .int .i64 d.pax, .int .u8 d.cls.toNat, .int .i64 d.line, .int .i64 d.row, .int .u8 d.c.toNat]
abbrev zerA : Array Value := #[.int .i64 0, .string ⟨#[]⟩, .string ⟨#[]⟩, .int .i64 0, .string ⟨#[]⟩, .string ⟨#[]⟩, .int .i64 0, .string ⟨#[]⟩, .string ⟨#[]⟩, .int .i64 0, .int .i64 0, .int .u8 0, .int .i64 0, .int .i64 0, .int .u8 0]

theorem parse_yes (s : ByteArray) (d : CmdT) (W : World) (hs : s.size ≤ maxLen) (ht : Da.LenTab W) (h : parse (toL s) = .ok d) :
    Calls Tryd.prog 29 #[.string s] W fun e w' => e = .returned (.tuple #[.agg (cmdA d), .agg #[.int .i64 0, .int .i64 0]]) ∧ Below W.heap.size W w' := by
  have h1 := parse_any s W hs ht
  rw [h] at h1
  exact h1
theorem parse_no (s : ByteArray) (k : Int) (p : Nat) (W : World) (hs : s.size ≤ maxLen) (ht : Da.LenTab W) (h : parse (toL s) = .error (k, p)) :
    Calls Tryd.prog 29 #[.string s] W fun e w' => e = .returned (.tuple #[.agg zerA, .agg #[.int .i64 k, .int .i64 (p : Nat)]]) ∧ Below W.heap.size W w' := by
  have h1 := parse_any s W hs ht
  rw [h] at h1
  exact h1

/-- Two boxes: a command, a fault. -/
theorem box2 (X Y : List Value) (W : World) : ∃ wx, ((W.alloc (.cells X.toArray 71)).alloc (.cells Y.toArray 73)) = wx ∧ Blk wx W.heap.size 71 X ∧ Blk wx (W.heap.size + 1) 73 Y ∧ Below W.heap.size W wx := by
  refine ⟨_, rfl, (Blk.new W _ X).alloc _, ?_, bel_trans ((Below.refl _ _).alloc (Nat.le_refl _) _) ((Below.refl _ _).alloc (Nat.le_refl _) _)⟩
  have := Blk.new (W.alloc (.cells X.toArray 71)) 73 Y
  rwa [show (W.alloc (.cells X.toArray 71)).heap.size = W.heap.size + 1 by simp] at this
theorem box1 (T : TypeId) (X : List Value) (W : World) : ∃ wx, W.alloc (.cells X.toArray T) = wx ∧ Blk wx W.heap.size T X ∧ Below W.heap.size W wx :=
  ⟨_, rfl, Blk.new W _ X, (Below.refl _ _).alloc (Nat.le_refl _) _⟩

def aw1 : CmdT := ⟨12, [], [], 0, [], [], 0, [], [], 1, 2, 0, 0, 12, 65⟩
def aw2 : CmdT := ⟨4, [], [], 0, [], [], 0, [], [], 1, 0, 89, 12, 0, 0⟩
theorem aw1_p : parse [52, 71, 49, 47, 49, 50, 65, 45, 50] = .ok aw1 := by rfl
theorem aw2_t : textP aw2 = [48, 49, 89, 49, 50] := by
  have h1 : digL 1 = [49] := by rw [digL_lt (by decide)]; rfl
  have h2 : digL 12 = [49, 50] := by rw [digL_ge (by decide), digL_lt (by decide)]; rfl
  unfold textP aw2
  simp [itoaL, wordOf, wordsL, h1, h2]
theorem aw2_p : parse [48, 49, 89, 49, 50] = .ok aw2 := by rfl
theorem aw3_p : parse [69, 82, 88] = .error (47, 2) := by rfl
theorem aw2_f : Fits aw2 := ⟨by decide, by decide, by decide, by decide, by decide, by decide, by decide, by decide, by decide, by decide, by decide⟩

set_option maxHeartbeats 8000000 in
theorem awake_m (w : World) (ht : Da.LenTab w) (hp : PowTab w) : Calls Tryd.prog 28 #[] w fun e w' => e = .returned (.bool true) ∧ Below w.heap.size w w' := by
  have H1 : RowKit.Hid (∀ W, Below w.heap.size w W → Calls Tryd.prog 29 #[.string ⟨#[52, 71, 49, 47, 49, 50, 65, 45, 50]⟩] W fun e w' => e = .returned (.tuple #[.agg #[.int .i64 12, .string ⟨#[]⟩, .string ⟨#[]⟩, .int .i64 0, .string ⟨#[]⟩, .string ⟨#[]⟩, .int .i64 0, .string ⟨#[]⟩, .string ⟨#[]⟩, .int .i64 1, .int .i64 2, .int .u8 0, .int .i64 0, .int .i64 12, .int .u8 65], .agg #[.int .i64 0, .int .i64 0]]) ∧ RowKit.Hid (Below W.heap.size W w')) := Lib.hid fun W hW => (parse_yes ⟨#[52, 71, 49, 47, 49, 50, 65, 45, 50]⟩ aw1 W (by decide) (ht.keep hW) aw1_p).mono fun _ _ h => ⟨h.1, Lib.hid h.2⟩
  have H2 : RowKit.Hid (∀ W, Below w.heap.size w W → Calls Tryd.prog 31 #[.agg #[.int .i64 4, .string ⟨#[]⟩, .string ⟨#[]⟩, .int .i64 0, .string ⟨#[]⟩, .string ⟨#[]⟩, .int .i64 0, .string ⟨#[]⟩, .string ⟨#[]⟩, .int .i64 1, .int .i64 0, .int .u8 89, .int .i64 12, .int .i64 0, .int .u8 0]] W fun e w' => e = .returned (.tuple #[.string ⟨#[48, 49, 89, 49, 50]⟩, .int .i64 0]) ∧ RowKit.Hid (Below W.heap.size W w')) := Lib.hid fun W hW => by
    refine (print_m aw2 W aw2_f (ht.keep hW) (powTab_keep hp hW) (by rw [aw2_t]; decide)).mono fun e w' h => ?_
    rcases h with ⟨⟨_, h⟩ | ⟨h, _⟩, hb⟩
    · rw [aw2_t] at h
      exact ⟨h, hb⟩
    · exact absurd (by rw [aw2_t]; exact aw2_p) h.out
  have H3 : RowKit.Hid (∀ W, Below w.heap.size w W → Calls Tryd.prog 29 #[.string ⟨#[69, 82, 88]⟩] W fun e w' => e = .returned (.tuple #[.agg zerA, .agg #[.int .i64 47, .int .i64 2]]) ∧ RowKit.Hid (Below W.heap.size W w')) := Lib.hid fun W hW => (parse_no ⟨#[69, 82, 88]⟩ 47 2 W (by decide) (ht.keep hW) aw3_p).mono fun _ _ h => ⟨h.1, Lib.hid h.2⟩
  unfold zerA at H3
  clear ht hp
  go_enter Tryd.func28, Tryd.ntmps28
  go_upto_region 2 with (first
    | (go_at_call 29; (with_reducible refine (H1.out _ (Below.refl _ _)).mono ?_); rintro e w2 ⟨rfl, hb2⟩))
  obtain ⟨wa, hx, q1, q2, q3⟩ := box2 [.int .i64 12, .string ⟨#[]⟩, .string ⟨#[]⟩, .int .i64 0, .string ⟨#[]⟩, .string ⟨#[]⟩, .int .i64 0, .string ⟨#[]⟩, .string ⟨#[]⟩, .int .i64 1, .int .i64 2, .int .u8 0, .int .i64 0, .int .i64 12, .int .u8 65] [.int .i64 0, .int .i64 0] w2
  have hla := bel_trans hb2.out q3
  rw [hx]
  have Q1 := Lib.hid q1
  have Q2 := Lib.hid q2
  have HLA := Lib.hid hla
  clear hx q1 q2 q3 hla
  generalize w2.heap.size = g2 at *
  go_upto_region 4 with (first
    | (go_at_call 31; (with_reducible refine (H2.out _ HLA.out).mono ?_); rintro e w3 ⟨rfl, hb3⟩; have hl3 := Lib.hid (bel_trans HLA.out hb3.out))
    | (go_at_call 29; (with_reducible refine (H3.out _ hl3.out).mono ?_); rintro e w4 ⟨rfl, hb4⟩; have hl4 := Lib.hid (bel_trans hl3.out hb4.out)))
  obtain ⟨wb, hx, q1, q2, q3⟩ := box2 [.int .i64 0, .string ⟨#[]⟩, .string ⟨#[]⟩, .int .i64 0, .string ⟨#[]⟩, .string ⟨#[]⟩, .int .i64 0, .string ⟨#[]⟩, .string ⟨#[]⟩, .int .i64 0, .int .i64 0, .int .u8 0, .int .i64 0, .int .i64 0, .int .u8 0] [.int .i64 47, .int .i64 2] w4
  rw [hx]
  have R1 := Lib.hid (Q1.out.mono (bel_trans (bel_trans hb3.out hb4.out) q3))
  have R2 := Lib.hid (Q2.out.mono (bel_trans (bel_trans hb3.out hb4.out) q3))
  have R4 := Lib.hid q2
  have hlb := Lib.hid (bel_trans hl4.out q3)
  clear hx q1 q2 q3
  generalize w4.heap.size = g4 at *
  go_upto_region 5 with fail
  obtain ⟨wc, hx, q1, q3⟩ := box1 73 [.int .i64 0, .int .i64 0] wb
  rw [hx]
  have x0 := (R1.out.mono q3).cell 0
  have x9 := (R1.out.mono q3).cell 9
  have x10 := (R1.out.mono q3).cell 10
  have x13 := (R1.out.mono q3).cell 13
  have y0 := (R2.out.mono q3).cell 0
  have y1 := (R2.out.mono q3).cell 1
  have u0 := (R4.out.mono q3).cell 0
  have u1 := (R4.out.mono q3).cell 1
  have z0 := q1.cell 0
  have z1 := q1.cell 1
  simp only [List.getElem?_cons_zero, List.getElem?_cons_succ] at x0 x9 x10 x13 y0 y1 z0 z1 u0 u1
  have hlc := Lib.hid (bel_trans hlb.out q3)
  clear hx q1 q3
  go_wp2
  go_ret
  exact ⟨rfl, hlc.out⟩
end Go.Proofs.YtjahkaidinahpaaDoor.En
