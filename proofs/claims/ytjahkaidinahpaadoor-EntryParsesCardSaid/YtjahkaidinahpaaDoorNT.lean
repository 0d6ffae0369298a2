/- Entries: the walks of EntryMore and EntryFaults (printed by gen_nt.py). -/
import Derived.Test.YtjahkaidinahpaaDoorNS
namespace Go.Proofs.YtjahkaidinahpaaDoor.En
open Go Go.RowKit
set_option linter.unusedSimpArgs false
set_option linter.unusedVariables false
set_option maxRecDepth 100000

theorem parse_code {l : List UInt8} {k : Int} {p : Nat} (h : parse l = .error (k, p)) : 40 ≤ k ∧ k ≤ 47 ∧ (k = 40 ↔ 255 < l.length) ∧ (k = 40 → p = 255) ∧ (l.length ≤ 255 → p ≤ l.length) ∧ (k = 41 → p = 0) ∧ (k = 47 → p < l.length ∧ ∃ c, parse (l.take p) = .ok c) := by
  rcases parse_er h with ⟨hl, e⟩ | ⟨hl, e | e | ⟨k', p', c, q, hb, hq, hlt, e⟩⟩
  · injection e with e1 e2; subst e1 e2
    exact ⟨by decide, by decide, ⟨fun _ => hl, fun _ => rfl⟩, fun _ => rfl, fun h => by omega, fun h => by omega, fun h => by omega⟩
  · injection e with e1 e2; subst e1 e2
    exact ⟨by decide, by decide, ⟨fun h => by omega, fun h => by omega⟩, fun h => by omega, fun _ => Nat.zero_le _, fun _ => rfl, fun h => by omega⟩
  · obtain ⟨e1, e2, e3⟩ := e
    simp only at e1 e2 e3
    exact ⟨by omega, by omega, ⟨fun h => by omega, fun h => by omega⟩, fun h => by omega, fun _ => e3, fun h => by omega, fun h => by omega⟩
  · injection e with e1 e2; subst e1 e2
    exact ⟨by decide, by decide, ⟨fun h => by omega, fun h => by omega⟩, fun h => by omega, fun _ => by omega, fun h => by omega, fun _ => ⟨hlt, c, more_cut hl hb hq hlt⟩⟩

set_option maxHeartbeats 8000000 in
theorem more_err (s : ByteArray) (hs : s.size ≤ maxLen) (x : UInt8) (w : World) (ht : Da.LenTab w) (hp : PowTab w) (k : Int) (p : Nat) (hr : parse (toL s) = .error (k, p)) :
    Calls Tryd.prog 9 #[.string s, .int .u8 x.toNat] w fun e w' => e = .returned (.bool true) ∧ Below w.heap.size w w' := by
  have hsl : (toL s).length = s.size := by simp
  have HAW : RowKit.Hid (∀ W, Below w.heap.size w W → Calls Tryd.prog 28 #[] W fun e w' => e = .returned (.bool true) ∧ Below W.heap.size W w') := Lib.hid fun W hW => awake_m W (ht.keep hW) (powTab_keep hp hW)
  have hk := (parse_code hr).1
  have hk0 : ¬ k = 0 := by omega
  have HP1 : RowKit.Hid (∀ W, Below w.heap.size w W → Calls Tryd.prog 29 #[.string s] W fun e w' => e = .returned (.tuple #[.agg #[.int .i64 0, .string ⟨#[]⟩, .string ⟨#[]⟩, .int .i64 0, .string ⟨#[]⟩, .string ⟨#[]⟩, .int .i64 0, .string ⟨#[]⟩, .string ⟨#[]⟩, .int .i64 0, .int .i64 0, .int .u8 0, .int .i64 0, .int .i64 0, .int .u8 0], .agg #[.int .i64 k, .int .i64 (p : Nat)]]) ∧ RowKit.Hid (Below W.heap.size W w')) := Lib.hid fun W hW => (parse_no s k p W hs (ht.keep hW) hr).mono fun _ _ h => ⟨h.1, Lib.hid h.2⟩
  unfold maxLen at hs
  clear hr ht hp hk hsl
  go_enter Tryd.func9, Tryd.ntmps9
  go_upto_region 4 with (first
    | (go_at_call 28; (with_reducible refine (HAW.out _ (Below.refl _ _)).mono ?_); rintro e w1 ⟨rfl, hb1⟩))
  obtain ⟨wa, hx, q1, q3⟩ := box1 73 [.int .i64 0, .int .i64 0] w1
  try rw [hx]
  have N0 := Lib.hid q1
  have HLA := Lib.hid (bel_trans hb1 q3)
  clear hx q1 q3
  generalize w1.heap.size = g1 at *
  go_upto_region 5 with (first
    | (go_at_call 29; (with_reducible refine (HP1.out _ HLA.out).mono ?_); rintro e w2 ⟨rfl, hb2⟩))
  obtain ⟨wb, hx, q1, q2, q3⟩ := box2 [.int .i64 0, .string ⟨#[]⟩, .string ⟨#[]⟩, .int .i64 0, .string ⟨#[]⟩, .string ⟨#[]⟩, .int .i64 0, .string ⟨#[]⟩, .string ⟨#[]⟩, .int .i64 0, .int .i64 0, .int .u8 0, .int .i64 0, .int .i64 0, .int .u8 0] [.int .i64 k, .int .i64 (p : Nat)] w2
  try rw [hx]
  have N1 := Lib.hid (N0.out.mono (bel_trans hb2.out q3))
  have C1 := Lib.hid q1
  have F1 := Lib.hid q2
  have HLB := Lib.hid (bel_trans (bel_trans HLA.out hb2.out) q3)
  clear hx q1 q2 q3
  generalize w2.heap.size = g2 at *
  have a0 := N1.out.cell 0
  have a1 := N1.out.cell 1
  have b0 := F1.out.cell 0
  have b1 := F1.out.cell 1
  simp only [List.getElem?_cons_zero, List.getElem?_cons_succ] at a0 a1 b0 b1
  by_cases hl : 255 ≤ s.size
  · have hl2 : (255 : Int) ≤ (s.size : Int) := by omega
    go_wp2
    go_ret
    exact ⟨rfl, HLB.out⟩
  · have hl2 : ¬ (255 : Int) ≤ (s.size : Int) := by omega
    go_wp2
    go_ret
    exact ⟨rfl, HLB.out⟩

set_option maxHeartbeats 8000000 in
theorem more_long (s : ByteArray) (hs : s.size ≤ maxLen) (x : UInt8) (w : World) (ht : Da.LenTab w) (hp : PowTab w) (c : CmdT) (hr : parse (toL s) = .ok c) (hl : 255 ≤ s.size) :
    Calls Tryd.prog 9 #[.string s, .int .u8 x.toNat] w fun e w' => e = .returned (.bool true) ∧ Below w.heap.size w w' := by
  have hsl : (toL s).length = s.size := by simp
  have HAW : RowKit.Hid (∀ W, Below w.heap.size w W → Calls Tryd.prog 28 #[] W fun e w' => e = .returned (.bool true) ∧ Below W.heap.size W w') := Lib.hid fun W hW => awake_m W (ht.keep hW) (powTab_keep hp hW)
  have hl2 : (255 : Int) ≤ (s.size : Int) := by omega
  have HP1 : RowKit.Hid (∀ W, Below w.heap.size w W → Calls Tryd.prog 29 #[.string s] W fun e w' => e = .returned (.tuple #[.agg #[.int .i64 c.kind, txV c.text, txV c.office, .int .i64 c.day, txV c.src, txV c.dst, .int .i64 c.minute, txV c.last, txV c.first, .int .i64 c.n, .int .i64 c.pax, .int .u8 c.cls.toNat, .int .i64 c.line, .int .i64 c.row, .int .u8 c.c.toNat], .agg #[.int .i64 0, .int .i64 0]]) ∧ RowKit.Hid (Below W.heap.size W w')) := Lib.hid fun W hW => (parse_yes s c W hs (ht.keep hW) hr).mono fun _ _ h => ⟨h.1, Lib.hid h.2⟩
  unfold maxLen at hs
  clear hr ht hp hl hsl
  go_enter Tryd.func9, Tryd.ntmps9
  go_upto_region 4 with (first
    | (go_at_call 28; (with_reducible refine (HAW.out _ (Below.refl _ _)).mono ?_); rintro e w1 ⟨rfl, hb1⟩))
  obtain ⟨wa, hx, q1, q3⟩ := box1 73 [.int .i64 0, .int .i64 0] w1
  try rw [hx]
  have N0 := Lib.hid q1
  have HLA := Lib.hid (bel_trans hb1 q3)
  clear hx q1 q3
  generalize w1.heap.size = g1 at *
  go_upto_region 5 with (first
    | (go_at_call 29; (with_reducible refine (HP1.out _ HLA.out).mono ?_); rintro e w2 ⟨rfl, hb2⟩))
  obtain ⟨wb, hx, q1, q2, q3⟩ := box2 [.int .i64 c.kind, txV c.text, txV c.office, .int .i64 c.day, txV c.src, txV c.dst, .int .i64 c.minute, txV c.last, txV c.first, .int .i64 c.n, .int .i64 c.pax, .int .u8 c.cls.toNat, .int .i64 c.line, .int .i64 c.row, .int .u8 c.c.toNat] [.int .i64 0, .int .i64 0] w2
  try rw [hx]
  have N1 := Lib.hid (N0.out.mono (bel_trans hb2.out q3))
  have C1 := Lib.hid q1
  have F1 := Lib.hid q2
  have HLB := Lib.hid (bel_trans (bel_trans HLA.out hb2.out) q3)
  clear hx q1 q2 q3
  generalize w2.heap.size = g2 at *
  have a0 := N1.out.cell 0
  have a1 := N1.out.cell 1
  have b0 := F1.out.cell 0
  have b1 := F1.out.cell 1
  simp only [List.getElem?_cons_zero, List.getElem?_cons_succ] at a0 a1 b0 b1
  go_wp2
  go_ret
  exact ⟨rfl, HLB.out⟩

theorem parse_no_x (s : ByteArray) (x : UInt8) (k : Int) (p : Nat) (w : World) (ht : Da.LenTab w) (hs2 : (s ++ (⟨#[x]⟩ : ByteArray)).size ≤ maxLen) (hr3 : parse (toL (s ++ (⟨#[x]⟩ : ByteArray))) = .error (k, p)) : ∀ W, Below w.heap.size w W → Calls Tryd.prog 29 #[.string (s ++ (⟨#[x]⟩ : ByteArray))] W fun e w' => e = .returned (.tuple #[.agg zerA, .agg #[.int .i64 k, .int .i64 (p : Nat)]]) ∧ RowKit.Hid (Below W.heap.size W w') := by
  generalize s ++ (⟨#[x]⟩ : ByteArray) = r at *
  intro W hW
  exact (parse_no r k p W hs2 (ht.keep hW) hr3).mono fun _ _ h => ⟨h.1, Lib.hid h.2⟩
theorem parse_yes_x (s : ByteArray) (x : UInt8) (d : CmdT) (w : World) (ht : Da.LenTab w) (hs2 : (s ++ (⟨#[x]⟩ : ByteArray)).size ≤ maxLen) (hr3 : parse (toL (s ++ (⟨#[x]⟩ : ByteArray))) = .ok d) : ∀ W, Below w.heap.size w W → Calls Tryd.prog 29 #[.string (s ++ (⟨#[x]⟩ : ByteArray))] W fun e w' => e = .returned (.tuple #[.agg (cmdA d), .agg #[.int .i64 0, .int .i64 0]]) ∧ RowKit.Hid (Below W.heap.size W w') := by
  generalize s ++ (⟨#[x]⟩ : ByteArray) = r at *
  intro W hW
  exact (parse_yes r d W hs2 (ht.keep hW) hr3).mono fun _ _ h => ⟨h.1, Lib.hid h.2⟩

end Go.Proofs.YtjahkaidinahpaaDoor.En
