/- Entries: the reference's Print (printed by gen_rprint.py). -/
import Derived.Test.YtjahkaidinahpaaDoorOH
namespace Go.Proofs.YtjahkaidinahpaaDoor.En
open Go Go.RowKit
set_option linter.unusedSimpArgs false
set_option linter.unusedVariables false
set_option maxRecDepth 100000

theorem rdayT_any (n : Int) (w : World) : Calls Tryd.prog 69 #[.int .i64 n] w fun e w' => (∃ z, e = .returned (.tuple #[txV (dTx n), .int .i64 z])) ∧ RowKit.Hid (Below w.heap.size w w') := by
  unfold dTx
  by_cases h : 0 ≤ n ∧ n < 366
  · obtain ⟨d, rfl⟩ := Int.eq_ofNat_of_zero_le h.1
    rw [if_pos h]
    refine (Da.rtext_any d w (by omega)).mono ?_
    rintro e w' ⟨rfl, hb⟩
    refine ⟨⟨0, ?_⟩, Lib.hid hb⟩
    have e : Da.twoA (Da.dayOf d + 1) ++ Da.monA (Da.monOf d) = ⟨(Da.dtxt d).toArray⟩ := bytes_inj (Da.dA_list d)
    rw [e]
    rfl
  · rw [if_neg h]
    refine (Da.rtext_no n w (by omega)).mono ?_
    rintro e w' ⟨rfl, hb⟩
    exact ⟨⟨1, rfl⟩, Lib.hid hb⟩
theorem rclockT_any (n : Int) (w : World) : Calls Tryd.prog 70 #[.int .i64 n] w fun e w' => (∃ z, e = .returned (.tuple #[txV (cTx n), .int .i64 z])) ∧ RowKit.Hid (Below w.heap.size w w') := by
  unfold cTx
  by_cases h : 0 ≤ n ∧ n < 1440
  · obtain ⟨d, rfl⟩ := Int.eq_ofNat_of_zero_le h.1
    rw [if_pos h]
    refine (Da.rclock_any d w (by omega)).mono ?_
    rintro e w' ⟨rfl, hb⟩
    refine ⟨⟨0, ?_⟩, Lib.hid hb⟩
    have e : Da.twoA (d / 60) ++ Da.twoA (d % 60) = ⟨(Da.ctxt d).toArray⟩ := bytes_inj (Da.cA_list d)
    rw [e]
    rfl
  · rw [if_neg h]
    refine (Da.rclock_no n w (by omega)).mono ?_
    rintro e w' ⟨rfl, hb⟩
    exact ⟨⟨1, rfl⟩, Lib.hid hb⟩
theorem dgR_len (n : Int) : (dgR n).length ≤ 2 := by
  unfold dgR
  split
  · have := digL_len 1 n.toNat (by omega); omega
  · simp
theorem d1R_len {m : Int} (n : Int) (hm : m ≤ 99) : (d1R m n).length ≤ 2 := by
  unfold d1R
  split
  · have := digL_len 1 n.toNat (by omega); omega
  · simp
/-- Texts that the law goes through. -/
structure Fit9 (c : CmdT) : Prop where
  text : c.text.length ≤ 1000
  office : c.office.length ≤ 1000
  src : c.src.length ≤ 1000
  dst : c.dst.length ≤ 1000
  last : c.last.length ≤ 1000
  first : c.first.length ≤ 1000
theorem textR_len {c : CmdT} (h : Fit9 c) : (textR c).length ≤ 9223372036854775807 := by
  have a1 := h.text
  have a2 := h.office
  have a3 := h.src
  have a4 := h.dst
  have a5 := h.last
  have a6 := h.first
  have b1 := dgR_len c.n
  have b2 := d1R_len (m := 9) c.pax (by decide)
  have b3 := d1R_len (m := 99) c.line (by decide)
  have d1 := dTx_len c.day
  have d2 := cTx_len c.minute
  have e1 : (sTx c.row c.c).length ≤ 3 := seatT_len c.row c.c
  have w0 := wordOf_len
  have w1 := w0 1
  have w3 := w0 3
  have w4 := w0 4
  have w5 := w0 5
  have w7 := w0 7
  have w11 := w0 11
  have w13 := w0 13
  have wk := w0 c.kind
  clear w0
  unfold textR
  repeat' split
  all_goals
    simp only [List.length_append, List.length_cons, List.length_nil]
    omega
theorem tx_of {r : ByteArray} {l : List UInt8} (h : r.data.toList = l) : (.string r : Value) = txV l := by
  rw [show r = ⟨l.toArray⟩ from bytes_inj (by simpa using h)]

set_option maxHeartbeats 32000000 in
theorem rprint_m (c : CmdT) (w : World) (hf : Fit9 c) :
    Calls Tryd.prog 32 #[.agg (cmdC c).toArray] w fun e w' => ((RowKit.Hid (parse (textR c) = .ok c) ∧ e = .returned (.tuple #[txV (textR c), .bool true])) ∨ (RowKit.Hid (parse (textR c) ≠ .ok c) ∧ e = .returned (.tuple #[txV [], .bool false]))) ∧ RowKit.Hid (Below w.heap.size w w') := by
  obtain ⟨w1, e1, b1, hb1, hz1⟩ := cmd_box c w
  have HDA : RowKit.Hid (∀ W, Calls Tryd.prog 69 #[.int .i64 c.day] W fun e w' => (∃ z, e = .returned (.tuple #[txV (dTx c.day), .int .i64 z])) ∧ RowKit.Hid (Below W.heap.size W w')) := Lib.hid fun W => rdayT_any c.day W
  have HCL : RowKit.Hid (∀ W, Calls Tryd.prog 70 #[.int .i64 c.minute] W fun e w' => (∃ z, e = .returned (.tuple #[txV (cTx c.minute), .int .i64 z])) ∧ RowKit.Hid (Below W.heap.size W w')) := Lib.hid fun W => rclockT_any c.minute W
  have HDG : RowKit.Hid (∀ n W, 0 ≤ n → n ≤ 99 → Calls Tryd.prog 71 #[.int .i64 n] W fun e w' => e = .returned (.string (digA n.toNat)) ∧ RowKit.Hid (Below W.heap.size W w')) := Lib.hid fun n W h0 h1 => by
    have h := digits_any n.toNat W (by omega)
    rw [Int.toNat_of_nonneg h0] at h
    exact h.mono fun _ _ h => ⟨h.1, Lib.hid h.2⟩
  have HWD : RowKit.Hid (∀ W, Calls Tryd.prog 72 #[.int .i64 c.kind] W fun e w' => e = .returned (txV (wordOf c.kind)) ∧ W = w') := Lib.hid fun W => word_m c.kind W
  have HST : RowKit.Hid (∀ W, Calls Tryd.prog 73 #[.agg #[.int .i64 c.row, .int .u8 c.c.toNat]] W fun e w' => e = .returned (txV (sTx c.row c.c)) ∧ RowKit.Hid (Below W.heap.size W w')) := Lib.hid fun W => (refText_any c.row c.c W).mono fun e w' h => ⟨by rw [h.1]; exact congrArg Ending.returned (tx_of rfl), Lib.hid h.2⟩
  have HPS : RowKit.Hid (∀ W, Calls Tryd.prog 30 #[txV (textR c)] W fun e w' => ((∃ d, RowKit.Hid (parse (textR c) = .ok d) ∧ e = .returned (.tuple #[.agg (cmdC d).toArray, .int .i64 0, .int .i64 0])) ∨ (∃ k q, RowKit.Hid (parse (textR c) = .error (k, q)) ∧ k ≠ 0 ∧ e = .returned (.tuple #[.agg (cmdC cmd0).toArray, .int .i64 k, .int .i64 (q : Nat)]))) ∧ RowKit.Hid (Below W.heap.size W w')) := Lib.hid fun W => by
    have h := rparse_m ⟨(textR c).toArray⟩ W (by rw [tx_size]; exact textR_len hf)
    rw [show toL ⟨(textR c).toArray⟩ = textR c from tx_li _] at h
    exact h
  have hng : ∀ (d : CmdT) (W : World), (binOp .neq 71 (.agg (cmdC d).toArray) (.agg (cmdC c).toArray)).run Tryd.prog W = .ok (.bool (!cmdEq d c)) W := fun d W => cmd_neq d c W
  have HNG := Lib.hid hng
  have HF := Lib.hid hf
  have HB1 := Lib.hid b1
  have HL1 := Lib.hid hb1
  have c3 := cb3 b1
  have c6 := cb6 b1
  clear b1 hb1 hz1 hng hf
  unfold cmdC at HNG HPS ⊢
  unfold cmd0 at HPS
  go_enter Tryd.func32, Tryd.ntmps32
  go_upto_region 3 with (first
    | (go_at_call 69; (with_reducible refine (HDA.out _).mono ?_); rintro e w2 ⟨⟨z2, rfl⟩, hb2⟩; have c6' := cb6 (HB1.out.mono hb2.out))
    | (go_at_call 70; (with_reducible refine (HCL.out _).mono ?_); rintro e w3 ⟨⟨z3, rfl⟩, hb3⟩))
  have HB3 := Lib.hid (bel_trans hb2.out hb3.out)
  have c8 := cb9 (HB1.out.mono HB3.out)
  clear c3 c6 c6' hb2 hb3
  go_upto_region 4 with fail
  go_cut [34] from 27 to 34 (fun st wx => st = .bool (decide (0 ≤ c.n ∧ c.n ≤ 99)) ∧ w3 = wx)
  case first =>
    by_cases h1 : c.n ≥ 0
    · by_cases h2 : c.n ≤ 99
      · go_wp2
        go_meet
        exact ⟨congrArg Value.bool (decide_eq_true (by omega)).symm, rfl⟩
      · go_wp2
        go_meet
        exact ⟨congrArg Value.bool (decide_eq_false (by omega)).symm, rfl⟩
    · go_wp2
      go_meet
      exact ⟨congrArg Value.bool (decide_eq_false (by omega)).symm, rfl⟩
  obtain ⟨rfl, rfl⟩ := hcut
  go_upto_if 34 with fail
  go_cut [8] from 27 to 37 (fun s8 w4 => s8 = txV (dgR c.n) ∧ RowKit.Hid (Below w3.heap.size w3 w4))
  case first =>
    by_cases h : 0 ≤ c.n ∧ c.n ≤ 99
    · have HT : RowKit.Hid ((.string (digA c.n.toNat) : Value) = txV (dgR c.n)) := Lib.hid (by unfold dgR; rw [if_pos h]; rfl)
      have hd := decide_eq_true h
      have g1 : 0 ≤ c.n := by omega
      have g2 : c.n ≤ 99 := by omega
      go_wp2_with (first
        | (go_at_call 71; (with_reducible refine (HDG.out _ _ g1 g2).mono ?_); rintro e w4 ⟨rfl, hb4⟩))
      go_meet
      exact ⟨HT.out, hb4⟩
    · have HT : RowKit.Hid (txV [] = txV (dgR c.n)) := Lib.hid (by unfold dgR; rw [if_neg h])
      have hd := decide_eq_false h
      go_wp2
      go_meet
      exact ⟨HT.out, Lib.hid (Below.refl _ _)⟩
  obtain ⟨rfl, hb4⟩ := hcut
  rename World => w4
  have HB4 := Lib.hid (bel_trans HB3.out hb4.out)
  have c9 := cb10 (HB1.out.mono HB4.out)
  clear c8 hb4
  go_upto_region 7 with fail
  go_cut [45] from 38 to 45 (fun st wx => st = .bool (decide (1 ≤ c.pax ∧ c.pax ≤ 9)) ∧ w4 = wx)
  case first =>
    by_cases h1 : c.pax ≥ 1
    · by_cases h2 : c.pax ≤ 9
      · go_wp2
        go_meet
        exact ⟨congrArg Value.bool (decide_eq_true (by omega)).symm, rfl⟩
      · go_wp2
        go_meet
        exact ⟨congrArg Value.bool (decide_eq_false (by omega)).symm, rfl⟩
    · go_wp2
      go_meet
      exact ⟨congrArg Value.bool (decide_eq_false (by omega)).symm, rfl⟩
  obtain ⟨rfl, rfl⟩ := hcut
  go_upto_if 45 with fail
  go_cut [9] from 38 to 48 (fun s9 w5 => s9 = txV (d1R 9 c.pax) ∧ RowKit.Hid (Below w4.heap.size w4 w5))
  case first =>
    by_cases h : 1 ≤ c.pax ∧ c.pax ≤ 9
    · have HT : RowKit.Hid ((.string (digA c.pax.toNat) : Value) = txV (d1R 9 c.pax)) := Lib.hid (by unfold d1R; rw [if_pos h]; rfl)
      have hd := decide_eq_true h
      have g1 : 0 ≤ c.pax := by omega
      have g2 : c.pax ≤ 99 := by omega
      go_wp2_with (first
        | (go_at_call 71; (with_reducible refine (HDG.out _ _ g1 g2).mono ?_); rintro e w4 ⟨rfl, hb4⟩))
      go_meet
      exact ⟨HT.out, hb4⟩
    · have HT : RowKit.Hid (txV [] = txV (d1R 9 c.pax)) := Lib.hid (by unfold d1R; rw [if_neg h])
      have hd := decide_eq_false h
      go_wp2
      go_meet
      exact ⟨HT.out, Lib.hid (Below.refl _ _)⟩
  obtain ⟨rfl, hb5⟩ := hcut
  rename World => w5
  have HB5 := Lib.hid (bel_trans HB4.out hb5.out)
  clear c9 hb5
  have k0 := cb0 (HB1.out.mono HB5.out)
  have k1 := cb1 (HB1.out.mono HB5.out)
  have f1 := HF.out.text
  have f2 := HF.out.office
  have f3 := HF.out.src
  have f4 := HF.out.dst
  have f5 := HF.out.last
  have f6 := HF.out.first
  have g1 := dgR_len c.n
  have g2 := d1R_len (m := 9) c.pax (by decide)
  have g3 := d1R_len (m := 99) c.line (by decide)
  have g4 := dTx_len c.day
  have g5 := cTx_len c.minute
  have g6 := wordOf_len c.kind
  have g7 : (sTx c.row c.c).length ≤ 3 := seatT_len c.row c.c
  have hs0 : ¬ (9223372036854775807 < (⟨(wordOf c.kind).toArray⟩ : ByteArray).size + (⟨(c.text).toArray⟩ : ByteArray).size) := by simp [ByteArray.size] <;> omega
  go_upto_region 9 with fail
  go_quiet (first | (go_at_call 72; (with_reducible refine Calls.quiet_of_same ((HWD.out _).mono fun _ _ h => ⟨h.1, h.2.symm⟩))))
  rename Nat => nq
  have HB6 := Lib.hid (bel_trans HB5.out (below_drewN (Below.refl w5.heap.size w5) nq))
  clear k0 k1
  generalize w5.drewN nq = w6 at *
  have k0 := cb0 (HB1.out.mono HB6.out)
  have k1 := cb1 (HB1.out.mono HB6.out)
  have k2 := cb2 (HB1.out.mono HB6.out)
  have k3 := cb3 (HB1.out.mono HB6.out)
  have k4 := cb4 (HB1.out.mono HB6.out)
  have k5 := cb5 (HB1.out.mono HB6.out)
  have k6 := cb6 (HB1.out.mono HB6.out)
  have k7 := cb7 (HB1.out.mono HB6.out)
  have k8 := cb8 (HB1.out.mono HB6.out)
  have k9 := cb9 (HB1.out.mono HB6.out)
  have k10 := cb10 (HB1.out.mono HB6.out)
  have k11 := cb11 (HB1.out.mono HB6.out)
  have k12 := cb12 (HB1.out.mono HB6.out)
  have k13 := cb13 (HB1.out.mono HB6.out)
  have k14 := cb14 (HB1.out.mono HB6.out)
  go_upto_block 0 with fail
  go_cut [10] from 57 to 152 (fun s10 w8 => s10 = txV (textR c) ∧ RowKit.Hid (Below w6.heap.size w6 w8))
  case first =>
    by_cases hk : c.kind = 1
    · have hs1 : ¬ (9223372036854775807 < ((⟨(wordOf c.kind).toArray⟩ : ByteArray) ++ (⟨(c.text).toArray⟩ : ByteArray)).size + ((⟨#[47]⟩ : ByteArray)).size) := by simp [ByteArray.size] <;> omega
      have hs2 : ¬ (9223372036854775807 < ((⟨(wordOf c.kind).toArray⟩ : ByteArray) ++ (⟨(c.text).toArray⟩ : ByteArray) ++ (⟨#[47]⟩ : ByteArray)).size + ((⟨(c.office).toArray⟩ : ByteArray)).size) := by simp [ByteArray.size] <;> omega
      have HT : RowKit.Hid (txV (textR c) = .string ((⟨(wordOf c.kind).toArray⟩ : ByteArray) ++ (⟨(c.text).toArray⟩ : ByteArray) ++ (⟨#[47]⟩ : ByteArray) ++ (⟨(c.office).toArray⟩ : ByteArray))) := Lib.hid (by unfold textR; rw [hk]; exact (tx_of (by simp [hk])).symm)
      have hkb : (c.kind == 1) = true := by rw [hk]; rfl
      clear hk
      go_wp2
      go_meet
      exact ⟨HT.out.symm, Lib.hid (Below.refl _ _)⟩
    have n1 : (c.kind == 1) = false := by simpa using hk
    have m1 := Lib.hid hk
    clear hk
    by_cases hk : c.kind = 3
    · have hs1 : ¬ (9223372036854775807 < ((⟨(wordOf c.kind).toArray⟩ : ByteArray) ++ (⟨(c.text).toArray⟩ : ByteArray)).size + ((⟨(dTx c.day).toArray⟩ : ByteArray)).size) := by simp [ByteArray.size] <;> omega
      have hs2 : ¬ (9223372036854775807 < ((⟨(wordOf c.kind).toArray⟩ : ByteArray) ++ (⟨(c.text).toArray⟩ : ByteArray) ++ (⟨(dTx c.day).toArray⟩ : ByteArray)).size + ((⟨(c.src).toArray⟩ : ByteArray)).size) := by simp [ByteArray.size] <;> omega
      have hs3 : ¬ (9223372036854775807 < ((⟨(wordOf c.kind).toArray⟩ : ByteArray) ++ (⟨(c.text).toArray⟩ : ByteArray) ++ (⟨(dTx c.day).toArray⟩ : ByteArray) ++ (⟨(c.src).toArray⟩ : ByteArray)).size + ((⟨(c.dst).toArray⟩ : ByteArray)).size) := by simp [ByteArray.size] <;> omega
      have HT : RowKit.Hid (txV (textR c) = .string ((⟨(wordOf c.kind).toArray⟩ : ByteArray) ++ (⟨(c.text).toArray⟩ : ByteArray) ++ (⟨(dTx c.day).toArray⟩ : ByteArray) ++ (⟨(c.src).toArray⟩ : ByteArray) ++ (⟨(c.dst).toArray⟩ : ByteArray))) := Lib.hid (by unfold textR; rw [hk]; exact (tx_of (by simp [hk])).symm)
      have hkb : (c.kind == 3) = true := by rw [hk]; rfl
      clear hk
      go_wp2
      go_meet
      exact ⟨HT.out.symm, Lib.hid (Below.refl _ _)⟩
    have n3 : (c.kind == 3) = false := by simpa using hk
    have m3 := Lib.hid hk
    clear hk
    by_cases hk : c.kind = 4
    · have hs1 : ¬ (9223372036854775807 < ((⟨(wordOf c.kind).toArray⟩ : ByteArray) ++ (⟨(c.text).toArray⟩ : ByteArray)).size + ((⟨(dgR c.n).toArray⟩ : ByteArray)).size) := by simp [ByteArray.size] <;> omega
      have hs2 : ¬ (9223372036854775807 < ((⟨(wordOf c.kind).toArray⟩ : ByteArray) ++ (⟨(c.text).toArray⟩ : ByteArray) ++ (⟨(dgR c.n).toArray⟩ : ByteArray)).size + (⟨#[c.cls]⟩ : ByteArray).size) := by simp [ByteArray.size] <;> omega
      have HT : RowKit.Hid (textR c = (wordOf c.kind ++ c.text) ++ dgR c.n ++ [c.cls] ++ d1R 99 c.line) := Lib.hid (by unfold textR; rw [hk]; rfl)
      have hkb : (c.kind == 4) = true := by rw [hk]; rfl
      clear hk
      by_cases h : 1 ≤ c.line ∧ c.line ≤ 99
      · have HL : RowKit.Hid ((digA c.line.toNat).data.toList = d1R 99 c.line) := Lib.hid (by unfold d1R; rw [if_pos h, digA_list])
        have hs3 : ¬ (9223372036854775807 < ((⟨(wordOf c.kind).toArray⟩ : ByteArray) ++ (⟨(c.text).toArray⟩ : ByteArray) ++ (⟨(dgR c.n).toArray⟩ : ByteArray) ++ (⟨#[c.cls]⟩ : ByteArray)).size + (digA c.line.toNat).size) := by
          have e : (digA c.line.toNat).size = (d1R 99 c.line).length := by rw [← HL.out]; simp
          rw [e]
          simp [ByteArray.size] <;> omega
        obtain ⟨h1, h2⟩ := h
        have hg : c.line ≥ 1 := h1
        have g8 : 0 ≤ c.line := by omega
        go_wp2_with (first
          | (go_at_call 71; (with_reducible refine (HDG.out _ _ g8 h2).mono ?_); rintro e w7 ⟨rfl, hb7⟩; have m11 := cb11 ((HB1.out.mono HB6.out).mono hb7.out); have hcx := one_conv_at c.cls (w7.alloc (.cells #[.int .u8 c.cls.toNat] 5)) w7.heap.size (World.cell?_alloc_new w7 _ _ _)))
        go_meet
        exact ⟨tx_of (by rw [HT.out, ← HL.out]; simp), Lib.hid (bel_trans hb7.out ((Below.refl _ _).alloc (Nat.le_refl _) _))⟩
      · have HL : RowKit.Hid (d1R 99 c.line = []) := Lib.hid (by unfold d1R; rw [if_neg h])
        have hs3 : ¬ (9223372036854775807 < ((⟨(wordOf c.kind).toArray⟩ : ByteArray) ++ (⟨(c.text).toArray⟩ : ByteArray) ++ (⟨(dgR c.n).toArray⟩ : ByteArray) ++ (⟨#[c.cls]⟩ : ByteArray)).size + (⟨#[]⟩ : ByteArray).size) := by simp [ByteArray.size] <;> omega
        by_cases h1 : c.line ≥ 1
        · have h2 : ¬ c.line ≤ 99 := by omega
          clear h
          have hcx := one_conv_at c.cls (w6.alloc (.cells #[.int .u8 c.cls.toNat] 5)) w6.heap.size (World.cell?_alloc_new w6 _ _ _)
          go_wp2
          go_meet
          exact ⟨tx_of (by rw [HT.out, HL.out]; simp), Lib.hid ((Below.refl _ _).alloc (Nat.le_refl _) _)⟩
        · clear h
          have hcx := one_conv_at c.cls (w6.alloc (.cells #[.int .u8 c.cls.toNat] 5)) w6.heap.size (World.cell?_alloc_new w6 _ _ _)
          go_wp2
          go_meet
          exact ⟨tx_of (by rw [HT.out, HL.out]; simp), Lib.hid ((Below.refl _ _).alloc (Nat.le_refl _) _)⟩
    have n4 : (c.kind == 4) = false := by simpa using hk
    have m4 := Lib.hid hk
    clear hk
    by_cases hk : c.kind = 5
    · have hs1 : ¬ (9223372036854775807 < ((⟨(wordOf c.kind).toArray⟩ : ByteArray) ++ (⟨(c.text).toArray⟩ : ByteArray)).size + ((⟨(c.last).toArray⟩ : ByteArray)).size) := by simp [ByteArray.size] <;> omega
      have hs2 : ¬ (9223372036854775807 < ((⟨(wordOf c.kind).toArray⟩ : ByteArray) ++ (⟨(c.text).toArray⟩ : ByteArray) ++ (⟨(c.last).toArray⟩ : ByteArray)).size + ((⟨#[47]⟩ : ByteArray)).size) := by simp [ByteArray.size] <;> omega
      have hs3 : ¬ (9223372036854775807 < ((⟨(wordOf c.kind).toArray⟩ : ByteArray) ++ (⟨(c.text).toArray⟩ : ByteArray) ++ (⟨(c.last).toArray⟩ : ByteArray) ++ (⟨#[47]⟩ : ByteArray)).size + ((⟨(c.first).toArray⟩ : ByteArray)).size) := by simp [ByteArray.size] <;> omega
      have HT : RowKit.Hid (txV (textR c) = .string ((⟨(wordOf c.kind).toArray⟩ : ByteArray) ++ (⟨(c.text).toArray⟩ : ByteArray) ++ (⟨(c.last).toArray⟩ : ByteArray) ++ (⟨#[47]⟩ : ByteArray) ++ (⟨(c.first).toArray⟩ : ByteArray))) := Lib.hid (by unfold textR; rw [hk]; exact (tx_of (by simp [hk])).symm)
      have hkb : (c.kind == 5) = true := by rw [hk]; rfl
      clear hk
      go_wp2
      go_meet
      exact ⟨HT.out.symm, Lib.hid (Below.refl _ _)⟩
    have n5 : (c.kind == 5) = false := by simpa using hk
    have m5 := Lib.hid hk
    clear hk
    by_cases hk : c.kind = 7
    · have hs1 : ¬ (9223372036854775807 < ((⟨(wordOf c.kind).toArray⟩ : ByteArray) ++ (⟨(c.text).toArray⟩ : ByteArray)).size + ((⟨(dTx c.day).toArray⟩ : ByteArray)).size) := by simp [ByteArray.size] <;> omega
      have hs2 : ¬ (9223372036854775807 < ((⟨(wordOf c.kind).toArray⟩ : ByteArray) ++ (⟨(c.text).toArray⟩ : ByteArray) ++ (⟨(dTx c.day).toArray⟩ : ByteArray)).size + ((⟨#[47]⟩ : ByteArray)).size) := by simp [ByteArray.size] <;> omega
      have hs3 : ¬ (9223372036854775807 < ((⟨(wordOf c.kind).toArray⟩ : ByteArray) ++ (⟨(c.text).toArray⟩ : ByteArray) ++ (⟨(dTx c.day).toArray⟩ : ByteArray) ++ (⟨#[47]⟩ : ByteArray)).size + ((⟨(cTx c.minute).toArray⟩ : ByteArray)).size) := by simp [ByteArray.size] <;> omega
      have HT : RowKit.Hid (txV (textR c) = .string ((⟨(wordOf c.kind).toArray⟩ : ByteArray) ++ (⟨(c.text).toArray⟩ : ByteArray) ++ (⟨(dTx c.day).toArray⟩ : ByteArray) ++ (⟨#[47]⟩ : ByteArray) ++ (⟨(cTx c.minute).toArray⟩ : ByteArray))) := Lib.hid (by unfold textR; rw [hk]; exact (tx_of (by simp [hk])).symm)
      have hkb : (c.kind == 7) = true := by rw [hk]; rfl
      clear hk
      go_wp2
      go_meet
      exact ⟨HT.out.symm, Lib.hid (Below.refl _ _)⟩
    have n7 : (c.kind == 7) = false := by simpa using hk
    have m7 := Lib.hid hk
    clear hk
    by_cases hk : c.kind = 11
    · have hs1 : ¬ (9223372036854775807 < ((⟨(wordOf c.kind).toArray⟩ : ByteArray) ++ (⟨(c.text).toArray⟩ : ByteArray)).size + ((⟨(dgR c.n).toArray⟩ : ByteArray)).size) := by simp [ByteArray.size] <;> omega
      have hs2 : ¬ (9223372036854775807 < ((⟨(wordOf c.kind).toArray⟩ : ByteArray) ++ (⟨(c.text).toArray⟩ : ByteArray) ++ (⟨(dgR c.n).toArray⟩ : ByteArray)).size + ((⟨#[42]⟩ : ByteArray)).size) := by simp [ByteArray.size] <;> omega
      have HT : RowKit.Hid (txV (textR c) = .string ((⟨(wordOf c.kind).toArray⟩ : ByteArray) ++ (⟨(c.text).toArray⟩ : ByteArray) ++ (⟨(dgR c.n).toArray⟩ : ByteArray) ++ (⟨#[42]⟩ : ByteArray))) := Lib.hid (by unfold textR; rw [hk]; exact (tx_of (by simp [hk])).symm)
      have hkb : (c.kind == 11) = true := by rw [hk]; rfl
      clear hk
      go_wp2
      go_meet
      exact ⟨HT.out.symm, Lib.hid (Below.refl _ _)⟩
    have n11 : (c.kind == 11) = false := by simpa using hk
    have m11 := Lib.hid hk
    clear hk
    by_cases hk : c.kind = 12
    · have hs1 : ¬ (9223372036854775807 < ((⟨#[52, 71]⟩ : ByteArray)).size + ((⟨(dgR c.n).toArray⟩ : ByteArray)).size) := by simp [ByteArray.size] <;> omega
      have hs2 : ¬ (9223372036854775807 < ((⟨#[52, 71]⟩ : ByteArray) ++ (⟨(dgR c.n).toArray⟩ : ByteArray)).size + ((⟨#[47]⟩ : ByteArray)).size) := by simp [ByteArray.size] <;> omega
      have hs3 : ¬ (9223372036854775807 < ((⟨#[52, 71]⟩ : ByteArray) ++ (⟨(dgR c.n).toArray⟩ : ByteArray) ++ (⟨#[47]⟩ : ByteArray)).size + ((⟨(sTx c.row c.c).toArray⟩ : ByteArray)).size) := by simp [ByteArray.size] <;> omega
      have hs4 : ¬ (9223372036854775807 < ((⟨#[52, 71]⟩ : ByteArray) ++ (⟨(dgR c.n).toArray⟩ : ByteArray) ++ (⟨#[47]⟩ : ByteArray) ++ (⟨(sTx c.row c.c).toArray⟩ : ByteArray)).size + ((⟨#[45]⟩ : ByteArray)).size) := by simp [ByteArray.size] <;> omega
      have hs5 : ¬ (9223372036854775807 < ((⟨#[52, 71]⟩ : ByteArray) ++ (⟨(dgR c.n).toArray⟩ : ByteArray) ++ (⟨#[47]⟩ : ByteArray) ++ (⟨(sTx c.row c.c).toArray⟩ : ByteArray) ++ (⟨#[45]⟩ : ByteArray)).size + ((⟨(d1R 9 c.pax).toArray⟩ : ByteArray)).size) := by simp [ByteArray.size] <;> omega
      have HT : RowKit.Hid (textR c = [52, 71] ++ dgR c.n ++ [47] ++ sTx c.row c.c ++ [45] ++ d1R 9 c.pax) := Lib.hid (by unfold textR; rw [hk]; rfl)
      have hkb : (c.kind == 12) = true := by rw [hk]; rfl
      clear hk
      go_wp2_with (first
        | (go_at_call 73; (with_reducible refine (HST.out _).mono ?_); rintro e w7 ⟨rfl, hb7⟩))
      go_meet
      exact ⟨tx_of (by rw [HT.out]; simp), hb7⟩
    have n12 : (c.kind == 12) = false := by simpa using hk
    have m12 := Lib.hid hk
    clear hk
    by_cases hk : c.kind = 13
    · have hs1 : ¬ (9223372036854775807 < ((⟨(wordOf c.kind).toArray⟩ : ByteArray) ++ (⟨(c.text).toArray⟩ : ByteArray)).size + ((⟨(dgR c.n).toArray⟩ : ByteArray)).size) := by simp [ByteArray.size] <;> omega
      have hs2 : ¬ (9223372036854775807 < ((⟨(wordOf c.kind).toArray⟩ : ByteArray) ++ (⟨(c.text).toArray⟩ : ByteArray) ++ (⟨(dgR c.n).toArray⟩ : ByteArray)).size + ((⟨#[45]⟩ : ByteArray)).size) := by simp [ByteArray.size] <;> omega
      have hs3 : ¬ (9223372036854775807 < ((⟨(wordOf c.kind).toArray⟩ : ByteArray) ++ (⟨(c.text).toArray⟩ : ByteArray) ++ (⟨(dgR c.n).toArray⟩ : ByteArray) ++ (⟨#[45]⟩ : ByteArray)).size + ((⟨(d1R 9 c.pax).toArray⟩ : ByteArray)).size) := by simp [ByteArray.size] <;> omega
      have HT : RowKit.Hid (txV (textR c) = .string ((⟨(wordOf c.kind).toArray⟩ : ByteArray) ++ (⟨(c.text).toArray⟩ : ByteArray) ++ (⟨(dgR c.n).toArray⟩ : ByteArray) ++ (⟨#[45]⟩ : ByteArray) ++ (⟨(d1R 9 c.pax).toArray⟩ : ByteArray))) := Lib.hid (by unfold textR; rw [hk]; exact (tx_of (by simp [hk])).symm)
      have hkb : (c.kind == 13) = true := by rw [hk]; rfl
      clear hk
      go_wp2
      go_meet
      exact ⟨HT.out.symm, Lib.hid (Below.refl _ _)⟩
    have n13 : (c.kind == 13) = false := by simpa using hk
    have m13 := Lib.hid hk
    clear hk
    by_cases hk : c.kind = 14
    · have hs1 : ¬ (9223372036854775807 < ((⟨(wordOf c.kind).toArray⟩ : ByteArray) ++ (⟨(c.text).toArray⟩ : ByteArray)).size + ((⟨(dgR c.n).toArray⟩ : ByteArray)).size) := by simp [ByteArray.size] <;> omega
      have HT : RowKit.Hid (txV (textR c) = .string ((⟨(wordOf c.kind).toArray⟩ : ByteArray) ++ (⟨(c.text).toArray⟩ : ByteArray) ++ (⟨(dgR c.n).toArray⟩ : ByteArray))) := Lib.hid (by unfold textR; rw [hk]; exact (tx_of (by simp [hk])).symm)
      have hkb : (c.kind == 14) = true := by rw [hk]; rfl
      clear hk
      go_wp2
      go_meet
      exact ⟨HT.out.symm, Lib.hid (Below.refl _ _)⟩
    have n14 : (c.kind == 14) = false := by simpa using hk
    have m14 := Lib.hid hk
    clear hk
    by_cases hk : c.kind = 23
    · have hs1 : ¬ (9223372036854775807 < ((⟨(wordOf c.kind).toArray⟩ : ByteArray) ++ (⟨(c.text).toArray⟩ : ByteArray)).size + ((⟨(dgR c.n).toArray⟩ : ByteArray)).size) := by simp [ByteArray.size] <;> omega
      have HT : RowKit.Hid (txV (textR c) = .string ((⟨(wordOf c.kind).toArray⟩ : ByteArray) ++ (⟨(c.text).toArray⟩ : ByteArray) ++ (⟨(dgR c.n).toArray⟩ : ByteArray))) := Lib.hid (by unfold textR; rw [hk]; exact (tx_of (by simp [hk])).symm)
      have hkb : (c.kind == 23) = true := by rw [hk]; rfl
      clear hk
      go_wp2
      go_meet
      exact ⟨HT.out.symm, Lib.hid (Below.refl _ _)⟩
    have n23 : (c.kind == 23) = false := by simpa using hk
    have m23 := Lib.hid hk
    clear hk
    by_cases hk : c.kind = 24
    · have hs1 : ¬ (9223372036854775807 < ((⟨(wordOf c.kind).toArray⟩ : ByteArray) ++ (⟨(c.text).toArray⟩ : ByteArray)).size + ((⟨(dgR c.n).toArray⟩ : ByteArray)).size) := by simp [ByteArray.size] <;> omega
      have HT : RowKit.Hid (txV (textR c) = .string ((⟨(wordOf c.kind).toArray⟩ : ByteArray) ++ (⟨(c.text).toArray⟩ : ByteArray) ++ (⟨(dgR c.n).toArray⟩ : ByteArray))) := Lib.hid (by unfold textR; rw [hk]; exact (tx_of (by simp [hk])).symm)
      have hkb : (c.kind == 24) = true := by rw [hk]; rfl
      clear hk
      go_wp2
      go_meet
      exact ⟨HT.out.symm, Lib.hid (Below.refl _ _)⟩
    have n24 : (c.kind == 24) = false := by simpa using hk
    have m24 := Lib.hid hk
    clear hk
    by_cases hk : c.kind = 17
    · have HT : RowKit.Hid (textR c = [42, 82]) := Lib.hid (by unfold textR; rw [hk]; rfl)
      have hkb : (c.kind == 17) = true := by rw [hk]; rfl
      clear hk
      go_wp2
      go_meet
      exact ⟨tx_of (by rw [HT.out]), Lib.hid (Below.refl _ _)⟩
    have n17 : (c.kind == 17) = false := by simpa using hk
    have m17 := Lib.hid hk
    clear hk
    have HT : RowKit.Hid (textR c = wordOf c.kind ++ c.text) := Lib.hid (by
      unfold textR
      rw [if_neg m1.out, if_neg m3.out, if_neg m4.out, if_neg m5.out, if_neg m7.out, if_neg m11.out, if_neg m12.out, if_neg m13.out, if_neg (by have := m14.out; have := m23.out; have := m24.out; omega), if_neg m17.out])
    go_wp2
    go_meet
    exact ⟨tx_of (by simp [HT.out]), Lib.hid (Below.refl _ _)⟩
  obtain ⟨rfl, hb8⟩ := hcut
  rename World => w8
  have HL8 := Lib.hid (bel_trans HB6.out hb8.out)
  clear hb8 k0 k1 k2 k3 k4 k5 k6 k7 k8 k9 k10 k11 k12 k13 k14 hs0 f1 f2 f3 f4 f5 f6 g1 g2 g3 g4 g5 g6 g7
  go_upto_region 37 with (first
    | (go_at_call 30; (with_reducible refine (HPS.out _).mono ?_); rintro e w9 ⟨⟨d, h3, rfl⟩ | ⟨k, q, h3, hk3, rfl⟩, hb9⟩))
  · obtain ⟨wx, hx, q1, q3⟩ := box1 71 [.int .i64 d.kind, txV d.text, txV d.office, .int .i64 d.day, txV d.src, txV d.dst, .int .i64 d.minute, txV d.last, txV d.first, .int .i64 d.n, .int .i64 d.pax, .int .u8 d.cls.toNat, .int .i64 d.line, .int .i64 d.row, .int .u8 d.c.toNat] w9
    rw [hx]
    have hlx : RowKit.Hid (Below w.heap.size w wx) := Lib.hid (bel_trans (bel_trans (bel_trans HL1.out HL8.out) hb9.out) q3)
    have q0 := HB1.out.mono (bel_trans (bel_trans HL8.out hb9.out) q3)
    have x0 := cb0 q1
    have x1 := cb1 q1
    have x2 := cb2 q1
    have x3 := cb3 q1
    have x4 := cb4 q1
    have x5 := cb5 q1
    have x6 := cb6 q1
    have x7 := cb7 q1
    have x8 := cb8 q1
    have x9 := cb9 q1
    have x10 := cb10 q1
    have x11 := cb11 q1
    have x12 := cb12 q1
    have x13 := cb13 q1
    have x14 := cb14 q1
    have y0 := cb0 q0
    have y1 := cb1 q0
    have y2 := cb2 q0
    have y3 := cb3 q0
    have y4 := cb4 q0
    have y5 := cb5 q0
    have y6 := cb6 q0
    have y7 := cb7 q0
    have y8 := cb8 q0
    have y9 := cb9 q0
    have y10 := cb10 q0
    have y11 := cb11 q0
    have y12 := cb12 q0
    have y13 := cb13 q0
    have y14 := cb14 q0
    have hng := HNG.out d
    clear hx q0 q1 q3
    by_cases hd : d = c
    · have HE : RowKit.Hid (cmdEq d c = true) := Lib.hid (by rw [hd]; exact cmdEq_yes c)
      have HPA : RowKit.Hid (parse (textR c) = .ok c) := Lib.hid (by rw [h3.out, hd])
      rw [HE.out] at hng
      simp only [Bool.not_true] at hng
      clear hd HE
      go_wp2
      go_ret2
      exact ⟨.inl ⟨HPA, rfl⟩, hlx⟩
    · have HE : RowKit.Hid (cmdEq d c = false) := Lib.hid (cmdEq_no hd)
      have HPA : RowKit.Hid (parse (textR c) ≠ .ok c) := Lib.hid (by rw [h3.out]; intro e; injection e with e; exact hd e)
      rw [HE.out] at hng
      simp only [Bool.not_false] at hng
      clear hd HE
      go_wp2
      go_ret2
      exact ⟨.inr ⟨HPA, rfl⟩, hlx⟩
  · have HPA : RowKit.Hid (parse (textR c) ≠ .ok c) := Lib.hid (by rw [h3.out]; intro e; cases e)
    have hk0 : (k != 0) = true := by simpa using hk3
    go_wp2
    go_ret2
    exact ⟨.inr ⟨HPA, rfl⟩, Lib.hid ((bel_trans (bel_trans HL1.out HL8.out) hb9.out).trans (by first | exact ((Below.refl _ _).alloc (bel_trans (bel_trans HL1.out HL8.out) hb9.out).size _) | exact Below.refl _ _))⟩
end Go.Proofs.YtjahkaidinahpaaDoor.En
