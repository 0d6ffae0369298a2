/- entry.text: what an entry of a command would be. -/
import Derived.Test.YtjahkaidinahpaaDoorNL
namespace Go.Proofs.YtjahkaidinahpaaDoor.En
open Go.RowKit
set_option linter.unusedSimpArgs false
set_option linter.unusedVariables false
set_option maxRecDepth 100000

/-- Texts of a command that can be put together. -/
structure Fits (c : CmdT) : Prop where
  text : c.text.length ≤ 1125899906842624
  office : c.office.length ≤ 1125899906842624
  src : c.src.length ≤ 1125899906842624
  dst : c.dst.length ≤ 1125899906842624
  last : c.last.length ≤ 1125899906842624
  first : c.first.length ≤ 1125899906842624
  day : (Lit.int .i64 c.day).wf = true
  minute : (Lit.int .i64 c.minute).wf = true
  n : (Lit.int .i64 c.n).wf = true
  pax : (Lit.int .i64 c.pax).wf = true
  line : (Lit.int .i64 c.line).wf = true

theorem dayT_any (n : Int) (w : World) (ht : Da.LenTab w) : Calls Tryd.prog 147 #[.int .i64 n] w fun e w' => (∃ z, e = .returned (.tuple #[txV (dTx n), .int .i64 z])) ∧ Below w.heap.size w w' := by
  unfold dTx
  by_cases h : 0 ≤ n ∧ n < 366
  · obtain ⟨d, rfl⟩ := Int.eq_ofNat_of_zero_le h.1
    rw [if_pos h]
    refine (Da.text_any d w (by omega) ht).mono ?_
    rintro e w' ⟨rfl, hb⟩
    refine ⟨⟨0, ?_⟩, hb⟩
    have e : Da.twoA (Da.dayOf d + 1) ++ Da.monA (Da.monOf d) = ⟨(Da.dtxt d).toArray⟩ := bytes_inj (Da.dA_list d)
    rw [e]
    rfl
  · rw [if_neg h]
    refine (Da.text_no n w (by omega)).mono ?_
    rintro e w' ⟨rfl, hb⟩
    exact ⟨⟨1, rfl⟩, hb⟩
theorem clockT_any (n : Int) (w : World) : Calls Tryd.prog 148 #[.int .i64 n] w fun e w' => (∃ z, e = .returned (.tuple #[txV (cTx n), .int .i64 z])) ∧ Below w.heap.size w w' := by
  unfold cTx
  by_cases h : 0 ≤ n ∧ n < 1440
  · obtain ⟨d, rfl⟩ := Int.eq_ofNat_of_zero_le h.1
    rw [if_pos h]
    refine (Da.clock_any d w (by omega)).mono ?_
    rintro e w' ⟨rfl, hb⟩
    refine ⟨⟨0, ?_⟩, hb⟩
    have e : Da.twoA (d / 60) ++ Da.twoA (d % 60) = ⟨(Da.ctxt d).toArray⟩ := bytes_inj (Da.cA_list d)
    rw [e]
    rfl
  · rw [if_neg h]
    refine (Da.clock_no n w (by omega)).mono ?_
    rintro e w' ⟨rfl, hb⟩
    exact ⟨⟨1, rfl⟩, hb⟩

theorem digL_len : ∀ k n, n < 10 ^ (k + 1) → (digL n).length ≤ k + 1 := by
  intro k
  induction k with
  | zero => intro n h; rw [digL_lt (by omega)]; simp
  | succ k ih =>
    intro n h
    by_cases hn : n < 10
    · rw [digL_lt hn]; simp
    · rw [digL_ge hn, List.length_append]
      have := ih (n / 10) (by rw [Nat.pow_succ] at h; omega)
      simp; omega

theorem dTx_len (n : Int) : (dTx n).length ≤ 5 := by
  unfold dTx
  split
  · next h =>
    obtain ⟨d, rfl⟩ := Int.eq_ofNat_of_zero_le h.1
    have : ∀ d, d < 366 → (Da.dtxt d).length ≤ 5 := by decide +kernel
    exact this _ (by omega)
  · simp
theorem cTx_len (n : Int) : (cTx n).length ≤ 4 := by
  unfold cTx Da.ctxt Da.two
  split <;> simp
theorem itoaL_len (n : Int) (hn : (Lit.int .i64 n).wf = true) : (itoaL n).length ≤ 20 := by
  have hb : -9223372036854775808 ≤ n ∧ n ≤ 9223372036854775807 := by
    have h := hn
    simp [Lit.wf, IntKind.min, IntKind.max, IntKind.signed, IntKind.bits] at h
    omega
  unfold itoaL
  split
  · have := digL_len 18 n.natAbs (by omega)
    simp; omega
  · have := digL_len 18 n.toNat (by omega)
    omega
theorem wordOf_len (k : Int) : (wordOf k).length ≤ 4 := by
  unfold wordOf
  cases h : wordsL.find? fun x => x.2 == k with
  | none => simp
  | some x =>
    have := List.mem_of_find?_eq_some h
    have h4 : ∀ y ∈ wordsL, y.1.length ≤ 4 := by decide +kernel
    exact h4 x this

theorem seatT_len (r : Int) (c : UInt8) : (seatT r c).size ≤ 3 := by
  unfold seatT
  split
  · next h =>
    have := digA_small (n := r.toNat) (by omega)
    rw [ByteArray.size_append]
    show (digA r.toNat).size + 1 ≤ 3
    omega
  · exact Nat.zero_le _

/-- The last of the first k words that has this kind. -/
def wAcc (kd : Int) : Nat → List UInt8
  | 0 => []
  | k + 1 => if (wordAt k).2 = kd then (wordAt k).1 else wAcc kd k
theorem wAcc_no (kd : Int) : ∀ k, (∀ j, j < k → (wordAt j).2 ≠ kd) → wAcc kd k = []
  | 0, _ => rfl
  | k + 1, h => by rw [wAcc, if_neg (h k (by omega))]; exact wAcc_no kd k fun j hj => h j (by omega)
theorem wAcc_all (kd : Int) : wAcc kd 27 = wordOf kd := by
  by_cases h : ∃ j, j < 27 ∧ (wordAt j).2 = kd
  · obtain ⟨j, hj, rfl⟩ := h
    have : ∀ j, j < 27 → wAcc (wordAt j).2 27 = wordOf (wordAt j).2 := by decide +kernel
    exact this j hj
  · have h' : ∀ j, j < 27 → (wordAt j).2 ≠ kd := fun j hj e => h ⟨j, hj, e⟩
    rw [wAcc_no kd 27 h']
    unfold wordOf
    rw [find_no (fun x : List UInt8 × Int => x.2 == kd) ([], 0) wordsL fun j hj => by
      rw [beq_eq_false_iff_ne]
      exact h' j hj]
    rfl

theorem tx_app (a b : List UInt8) : (⟨a.toArray⟩ : ByteArray) ++ ⟨b.toArray⟩ = ⟨(a ++ b).toArray⟩ := bytes_inj (by simp)
theorem ret_tx {r : ByteArray} {l : List UInt8} (h : r.data.toList = l) : Ending.returned (.string r) = .returned (txV l) := by
  rw [show r = ⟨l.toArray⟩ from bytes_inj (by simpa using h)]

section
variable {w : World} {g : Nat} {T : TypeId} {c : CmdT}
theorem cb0 (h : Blk w g T (cmdC c)) : w.cell? ⟨g, 0, none⟩ = some (.int .i64 c.kind) := Blk.cell h 0
theorem cb1 (h : Blk w g T (cmdC c)) : w.cell? ⟨g, 1, none⟩ = some (txV c.text) := Blk.cell h 1
theorem cb2 (h : Blk w g T (cmdC c)) : w.cell? ⟨g, 2, none⟩ = some (txV c.office) := Blk.cell h 2
theorem cb3 (h : Blk w g T (cmdC c)) : w.cell? ⟨g, 3, none⟩ = some (.int .i64 c.day) := Blk.cell h 3
theorem cb4 (h : Blk w g T (cmdC c)) : w.cell? ⟨g, 4, none⟩ = some (txV c.src) := Blk.cell h 4
theorem cb5 (h : Blk w g T (cmdC c)) : w.cell? ⟨g, 5, none⟩ = some (txV c.dst) := Blk.cell h 5
theorem cb6 (h : Blk w g T (cmdC c)) : w.cell? ⟨g, 6, none⟩ = some (.int .i64 c.minute) := Blk.cell h 6
theorem cb7 (h : Blk w g T (cmdC c)) : w.cell? ⟨g, 7, none⟩ = some (txV c.last) := Blk.cell h 7
theorem cb8 (h : Blk w g T (cmdC c)) : w.cell? ⟨g, 8, none⟩ = some (txV c.first) := Blk.cell h 8
theorem cb9 (h : Blk w g T (cmdC c)) : w.cell? ⟨g, 9, none⟩ = some (.int .i64 c.n) := Blk.cell h 9
theorem cb10 (h : Blk w g T (cmdC c)) : w.cell? ⟨g, 10, none⟩ = some (.int .i64 c.pax) := Blk.cell h 10
theorem cb11 (h : Blk w g T (cmdC c)) : w.cell? ⟨g, 11, none⟩ = some (.int .u8 c.cls.toNat) := Blk.cell h 11
theorem cb12 (h : Blk w g T (cmdC c)) : w.cell? ⟨g, 12, none⟩ = some (.int .i64 c.line) := Blk.cell h 12
theorem cb13 (h : Blk w g T (cmdC c)) : w.cell? ⟨g, 13, none⟩ = some (.int .i64 c.row) := Blk.cell h 13
theorem cb14 (h : Blk w g T (cmdC c)) : w.cell? ⟨g, 14, none⟩ = some (.int .u8 c.c.toNat) := Blk.cell h 14
end
/-- A command boxed. -/
theorem cmd_box (c : CmdT) (w : World) : ∃ w1, w.alloc (.cells #[.int .i64 c.kind, txV c.text, txV c.office, .int .i64 c.day, txV c.src, txV c.dst, .int .i64 c.minute, txV c.last, txV c.first, .int .i64 c.n, .int .i64 c.pax, .int .u8 c.cls.toNat, .int .i64 c.line, .int .i64 c.row, .int .u8 c.c.toNat] 71) = w1 ∧ Blk w1 w.heap.size 71 (cmdC c) ∧ Below w.heap.size w w1 ∧ w1.heap.size = w.heap.size + 1 :=
  ⟨_, rfl, Blk.new w _ (cmdC c), (Below.refl _ _).alloc (Nat.le_refl _) _, by simp⟩

set_option maxHeartbeats 8000000 in
theorem text_m (c : CmdT) (w : World) (hf : Fits c) (ht : Da.LenTab w) (hpw : PowTab w) :
    Calls Tryd.prog 68 #[.agg (cmdC c).toArray] w fun e w' => e = .returned (txV (textP c)) ∧ Below w.heap.size w w' := by
  obtain ⟨w1, e1, b1, hb1, hz1⟩ := cmd_box c w
  have HD : RowKit.Hid (∀ W, Below w1.heap.size w1 W → Calls Tryd.prog 147 #[.int .i64 c.day] W fun e w' => (∃ z, e = .returned (.tuple #[txV (dTx c.day), .int .i64 z])) ∧ Below W.heap.size W w') := Lib.hid fun W hW => dayT_any c.day W ((ht.keep hb1).keep hW)
  have HC : RowKit.Hid (∀ W, Calls Tryd.prog 148 #[.int .i64 c.minute] W fun e w' => (∃ z, e = .returned (.tuple #[txV (cTx c.minute), .int .i64 z])) ∧ Below W.heap.size W w') := Lib.hid (clockT_any c.minute)
  have HIT : RowKit.Hid (∀ (n : Int) W, (Lit.int .i64 n).wf = true → Below w1.heap.size w1 W → Calls Tryd.prog 149 #[.int .i64 n] W fun e w' => e = .returned (txV (itoaL n)) ∧ Below W.heap.size W w') := Lib.hid fun n W hn hW => itoa_m n hn W (powTab_keep (powTab_keep hpw hb1) hW)
  have HWD : RowKit.Hid (∀ W, Calls Tryd.prog 122 #[] W fun e w' => e = .returned (.slice (some ⟨W.heap.size, 0, none⟩) 27 27) ∧ Blk w' W.heap.size 190 wordsV ∧ Below W.heap.size W w') := Lib.hid words_any
  have HF := Lib.hid hf
  have HB1 := Lib.hid b1
  have HL1 := Lib.hid hb1
  have HZ := Lib.hid hz1
  have k3 : w1.cell? ⟨w.heap.size, 3, none⟩ = some (.int .i64 c.day) := b1.cell 3
  clear ht hpw hf b1 hb1 hz1
  unfold cmdC
  go_enter Tryd.func68, Tryd.ntmps68
  go_upto_region 3 with (first
    | (go_at_call 147; (with_reducible refine (HD.out _ (Below.refl _ _)).mono ?_); rintro e w2 ⟨⟨z2, rfl⟩, hb2⟩; have hL2 := Lib.hid hb2; have k6 := cb6 (HB1.out.mono hb2))
    | (go_at_call 148; (with_reducible refine (HC.out _).mono ?_); rintro e w3 ⟨⟨z3, rfl⟩, hb3⟩; have hL3 := Lib.hid (bel_trans hL2.out hb3)))
  have HS : RowKit.Hid (∀ (n : Int) W, (Lit.int .i64 n).wf = true → (RowKit.Hid (Below w1.heap.size w1 W) ∧ W.cell? ⟨w.heap.size, 9, none⟩ = some (.int .i64 c.n) ∧ W.cell? ⟨w.heap.size, 10, none⟩ = some (.int .i64 c.pax)) → Calls Tryd.prog 149 #[.int .i64 n] W fun e w' => e = .returned (txV (itoaL n)) ∧ (RowKit.Hid (Below w1.heap.size w1 w') ∧ w'.cell? ⟨w.heap.size, 9, none⟩ = some (.int .i64 c.n) ∧ w'.cell? ⟨w.heap.size, 10, none⟩ = some (.int .i64 c.pax))) := Lib.hid fun n W hn hW => by
    refine (HIT.out n W hn hW.1.out).mono ?_
    rintro e w' ⟨rfl, hb⟩
    have hb' := bel_trans hW.1.out hb
    exact ⟨rfl, Lib.hid hb', cb9 (HB1.out.mono hb'), cb10 (HB1.out.mono hb')⟩
  have hst : RowKit.Hid (Below w1.heap.size w1 w3.drew) ∧ w3.drew.cell? ⟨w.heap.size, 9, none⟩ = some (.int .i64 c.n) ∧ w3.drew.cell? ⟨w.heap.size, 10, none⟩ = some (.int .i64 c.pax) := ⟨Lib.hid hL3.out.drew, cb9 (HB1.out.mono hL3.out.drew), cb10 (HB1.out.mono hL3.out.drew)⟩
  have hn1 := HF.out.n
  have hn2 := HF.out.pax
  clear k3 k6
  go_region_held3 (fun W => RowKit.Hid (Below w1.heap.size w1 W) ∧ W.cell? ⟨w.heap.size, 9, none⟩ = some (.int .i64 c.n) ∧ W.cell? ⟨w.heap.size, 10, none⟩ = some (.int .i64 c.pax)) (first | assumption | exact hst) (first
    | (go_at_call 149; (with_reducible refine (HS.out c.n _ hn1 (by assumption)).mono ?_); rintro e w4 ⟨rfl, hw4⟩)
    | (go_at_call 149; (with_reducible refine (HS.out c.pax _ hn2 (by assumption)).mono ?_); rintro e w5 ⟨rfl, hw5⟩))
  have hL5 := hw5.1
  clear hw4 hw5 hst hn1 hn2 HS
  go_wp2_with (first
    | (go_at_call 122; (with_reducible refine (HWD.out _).mono ?_); rintro e w6 ⟨rfl, hv6, hb6⟩))
  have hg1 : w.heap.size < w1.heap.size := by have := HZ.out; omega
  have hg5 : w1.heap.size ≤ w5.heap.size := hL5.out.size
  have hL6 : RowKit.Hid (Below w1.heap.size w1 w6) := Lib.hid (bel_trans hL5.out hb6)
  have hv6' := Lib.hid hv6
  clear hb6 hv6
  generalize w5.heap.size = g5 at *
  go_loopw [9, 32] (fun x i wr => ∃ k : Nat, k ≤ 27 ∧ i = .int .i64 k ∧ x = txV (wAcc c.kind k) ∧ Blk wr g5 190 wordsV ∧ Below w1.heap.size w1 wr) (fun _ i _ => 27 - (intOf i).toNat)
  case atStart => exact ⟨0, by omega, rfl, rfl, hv6'.out, hL6.out⟩
  case round =>
    obtain ⟨k, hk, rfl, rfl, h2, h3⟩ := hrel
    have HB := Lib.hid h3
    have HV := Lib.hid h2
    by_cases hlt : k < 27
    · obtain ⟨v1, v2, v3⟩ := wordsV_at k hlt
      have c1 : wr.cell? ⟨g5, k * 2, none⟩ = some (txV (wordAt k).1) := (h2.cell (k * 2)).trans v1
      have c2 : wr.cell? ⟨g5, k * 2 + 1, none⟩ = some (.int .i64 (wordAt k).2) := (h2.cell (k * 2 + 1)).trans v2
      have c3 := cb0 (HB1.out.mono h3)
      have hw1 : wAcc c.kind (k + 1) = if (wordAt k).2 = c.kind then (wordAt k).1 else wAcc c.kind k := rfl
      have HW := Lib.hid hw1
      have HA := Lib.hid ((Below.refl w1.heap.size wr).alloc h3.size (.cells #[txV (wordAt k).1, .int .i64 (wordAt k).2] 190))
      obtain ⟨wx, hx, x1, x2, x3, hV, hA⟩ : ∃ wx, wr.alloc (.cells #[txV (wordAt k).1, .int .i64 (wordAt k).2] 190) = wx ∧ wx.cell? ⟨wr.heap.size, 0, none⟩ = some (txV (wordAt k).1) ∧ wx.cell? ⟨wr.heap.size, 1, none⟩ = some (.int .i64 (wordAt k).2) ∧ wx.cell? ⟨w.heap.size, 0, none⟩ = some (.int .i64 c.kind) ∧ RowKit.Hid (Blk wx g5 190 wordsV) ∧ RowKit.Hid (Below w1.heap.size w1 wx) :=
        ⟨_, rfl, World.cell?_alloc_new _ _ _ _, World.cell?_alloc_new _ _ _ _, cb0 ((HB1.out.mono h3).alloc _), Lib.hid (h2.alloc _), Lib.hid (h3.trans HA.out)⟩
      clear v1 v2 v3 h2 h3 hw1 HA
      generalize (wordAt k).1 = q at *
      generalize (wordAt k).2 = kd at *
      generalize wAcc c.kind k = a0 at *
      by_cases he : kd = c.kind
      · have hE : (kd == c.kind) = true := by simpa using he
        have HW2 : RowKit.Hid (wAcc c.kind (k + 1) = q) := Lib.hid (HW.out.trans (if_pos he))
        clear he HW
        go_wp2
        go_roundw
        case rel => exact ⟨k + 1, by omega, by go_num, by rw [HW2.out], hV.out, hA.out⟩
        case measure => simp [intOf]; omega
      · have hE : (kd == c.kind) = false := by simpa using he
        have HW2 : RowKit.Hid (wAcc c.kind (k + 1) = a0) := Lib.hid (HW.out.trans (if_neg he))
        clear he HW
        go_wp2
        go_roundw
        case rel => exact ⟨k + 1, by omega, by go_num, by rw [HW2.out], hV.out, hA.out⟩
        case measure => simp [intOf]; omega
    · have hk27 : k = 27 := by omega
      subst hk27
      have hbw := HB1.out.mono h3
      have hwl : (wAcc c.kind 27).length ≤ 4 := by rw [wAcc_all]; exact wordOf_len _
      have HWO := Lib.hid (wAcc_all c.kind)
      have HR3 := Lib.hid h3
      have hl0 : RowKit.Hid (Below w.heap.size w wr) := Lib.hid (bel_trans HL1.out h3)
      generalize wAcc c.kind 27 = wd at *
      have c0 := cb0 hbw
      have c1 := cb1 hbw
      have c2 := cb2 hbw
      have c3 := cb3 hbw
      have c4 := cb4 hbw
      have c5 := cb5 hbw
      have c6 := cb6 hbw
      have c7 := cb7 hbw
      have c8 := cb8 hbw
      have c9 := cb9 hbw
      have c10 := cb10 hbw
      have c11 := cb11 hbw
      have c12 := cb12 hbw
      have c13 := cb13 hbw
      have c14 := cb14 hbw
      have hdl := dTx_len c.day
      have hcl := cTx_len c.minute
      have hnl := itoaL_len c.n HF.out.n
      have hpl := itoaL_len c.pax HF.out.pax
      have f1 := HF.out.text
      have f2 := HF.out.office
      have f3 := HF.out.src
      have f4 := HF.out.dst
      have f5 := HF.out.last
      have f6 := HF.out.first
      clear h2 h3 hbw hv6' hL6 hL5
      by_cases hk : c.kind = 1
      · rw [hk] at c0
        have HT : RowKit.Hid (textP c = wd ++ (c.text ++ ([47] ++ c.office))) := Lib.hid (by unfold textP; rw [HWO.out, hk]; simp [wordOf, wordsL])
        have hs1 : ¬ (9223372036854775807 < ((⟨(wd).toArray⟩ : ByteArray)).size + ((⟨(c.text).toArray⟩ : ByteArray)).size) := by simp [ByteArray.size]; omega
        have hs2 : ¬ (9223372036854775807 < ((⟨(wd).toArray⟩ : ByteArray) ++ (⟨(c.text).toArray⟩ : ByteArray)).size + ((⟨#[47]⟩ : ByteArray)).size) := by simp [ByteArray.size]; omega
        have hs3 : ¬ (9223372036854775807 < ((⟨(wd).toArray⟩ : ByteArray) ++ (⟨(c.text).toArray⟩ : ByteArray) ++ (⟨#[47]⟩ : ByteArray)).size + ((⟨(c.office).toArray⟩ : ByteArray)).size) := by simp [ByteArray.size]; omega
        clear hk HWO hwl hdl hcl hnl hpl f1 f2 f3 f4 f5 f6
        go_wp2
        go_ret
        exact ⟨ret_tx (by rw [HT.out]; simp), hl0.out⟩
      have n1 : (c.kind == 1) = false := by simpa using hk
      clear hk
      by_cases hk : c.kind = 3
      · rw [hk] at c0
        have HT : RowKit.Hid (textP c = wd ++ (dTx c.day ++ (c.src ++ c.dst))) := Lib.hid (by unfold textP; rw [HWO.out, hk]; simp [wordOf, wordsL])
        have hs1 : ¬ (9223372036854775807 < ((⟨(wd).toArray⟩ : ByteArray)).size + ((⟨(dTx c.day).toArray⟩ : ByteArray)).size) := by simp [ByteArray.size]; omega
        have hs2 : ¬ (9223372036854775807 < ((⟨(wd).toArray⟩ : ByteArray) ++ (⟨(dTx c.day).toArray⟩ : ByteArray)).size + ((⟨(c.src).toArray⟩ : ByteArray)).size) := by simp [ByteArray.size]; omega
        have hs3 : ¬ (9223372036854775807 < ((⟨(wd).toArray⟩ : ByteArray) ++ (⟨(dTx c.day).toArray⟩ : ByteArray) ++ (⟨(c.src).toArray⟩ : ByteArray)).size + ((⟨(c.dst).toArray⟩ : ByteArray)).size) := by simp [ByteArray.size]; omega
        clear hk HWO hwl hdl hcl hnl hpl f1 f2 f3 f4 f5 f6
        go_wp2
        go_ret
        exact ⟨ret_tx (by rw [HT.out]; simp), hl0.out⟩
      have n3 : (c.kind == 3) = false := by simpa using hk
      clear hk
      by_cases hk : c.kind = 5
      · rw [hk] at c0
        have HT : RowKit.Hid (textP c = wd ++ (c.last ++ ([47] ++ c.first))) := Lib.hid (by unfold textP; rw [HWO.out, hk]; simp [wordOf, wordsL])
        have hs1 : ¬ (9223372036854775807 < ((⟨(wd).toArray⟩ : ByteArray)).size + ((⟨(c.last).toArray⟩ : ByteArray)).size) := by simp [ByteArray.size]; omega
        have hs2 : ¬ (9223372036854775807 < ((⟨(wd).toArray⟩ : ByteArray) ++ (⟨(c.last).toArray⟩ : ByteArray)).size + ((⟨#[47]⟩ : ByteArray)).size) := by simp [ByteArray.size]; omega
        have hs3 : ¬ (9223372036854775807 < ((⟨(wd).toArray⟩ : ByteArray) ++ (⟨(c.last).toArray⟩ : ByteArray) ++ (⟨#[47]⟩ : ByteArray)).size + ((⟨(c.first).toArray⟩ : ByteArray)).size) := by simp [ByteArray.size]; omega
        clear hk HWO hwl hdl hcl hnl hpl f1 f2 f3 f4 f5 f6
        go_wp2
        go_ret
        exact ⟨ret_tx (by rw [HT.out]; simp), hl0.out⟩
      have n5 : (c.kind == 5) = false := by simpa using hk
      clear hk
      by_cases hk : c.kind = 7
      · rw [hk] at c0
        have HT : RowKit.Hid (textP c = wd ++ (dTx c.day ++ ([47] ++ cTx c.minute))) := Lib.hid (by unfold textP; rw [HWO.out, hk]; simp [wordOf, wordsL])
        have hs1 : ¬ (9223372036854775807 < ((⟨(wd).toArray⟩ : ByteArray)).size + ((⟨(dTx c.day).toArray⟩ : ByteArray)).size) := by simp [ByteArray.size]; omega
        have hs2 : ¬ (9223372036854775807 < ((⟨(wd).toArray⟩ : ByteArray) ++ (⟨(dTx c.day).toArray⟩ : ByteArray)).size + ((⟨#[47]⟩ : ByteArray)).size) := by simp [ByteArray.size]; omega
        have hs3 : ¬ (9223372036854775807 < ((⟨(wd).toArray⟩ : ByteArray) ++ (⟨(dTx c.day).toArray⟩ : ByteArray) ++ (⟨#[47]⟩ : ByteArray)).size + ((⟨(cTx c.minute).toArray⟩ : ByteArray)).size) := by simp [ByteArray.size]; omega
        clear hk HWO hwl hdl hcl hnl hpl f1 f2 f3 f4 f5 f6
        go_wp2
        go_ret
        exact ⟨ret_tx (by rw [HT.out]; simp), hl0.out⟩
      have n7 : (c.kind == 7) = false := by simpa using hk
      clear hk
      by_cases hk : c.kind = 11
      · rw [hk] at c0
        have HT : RowKit.Hid (textP c = wd ++ (itoaL c.n ++ [42])) := Lib.hid (by unfold textP; rw [HWO.out, hk]; simp [wordOf, wordsL])
        have hs1 : ¬ (9223372036854775807 < ((⟨(wd).toArray⟩ : ByteArray)).size + ((⟨(itoaL c.n).toArray⟩ : ByteArray)).size) := by simp [ByteArray.size]; omega
        have hs2 : ¬ (9223372036854775807 < ((⟨(wd).toArray⟩ : ByteArray) ++ (⟨(itoaL c.n).toArray⟩ : ByteArray)).size + ((⟨#[42]⟩ : ByteArray)).size) := by simp [ByteArray.size]; omega
        clear hk HWO hwl hdl hcl hnl hpl f1 f2 f3 f4 f5 f6
        go_wp2
        go_ret
        exact ⟨ret_tx (by rw [HT.out]; simp), hl0.out⟩
      have n11 : (c.kind == 11) = false := by simpa using hk
      clear hk
      by_cases hk : c.kind = 13
      · rw [hk] at c0
        have HT : RowKit.Hid (textP c = wd ++ (itoaL c.n ++ ([45] ++ itoaL c.pax))) := Lib.hid (by unfold textP; rw [HWO.out, hk]; simp [wordOf, wordsL])
        have hs1 : ¬ (9223372036854775807 < ((⟨(wd).toArray⟩ : ByteArray)).size + ((⟨(itoaL c.n).toArray⟩ : ByteArray)).size) := by simp [ByteArray.size]; omega
        have hs2 : ¬ (9223372036854775807 < ((⟨(wd).toArray⟩ : ByteArray) ++ (⟨(itoaL c.n).toArray⟩ : ByteArray)).size + ((⟨#[45]⟩ : ByteArray)).size) := by simp [ByteArray.size]; omega
        have hs3 : ¬ (9223372036854775807 < ((⟨(wd).toArray⟩ : ByteArray) ++ (⟨(itoaL c.n).toArray⟩ : ByteArray) ++ (⟨#[45]⟩ : ByteArray)).size + ((⟨(itoaL c.pax).toArray⟩ : ByteArray)).size) := by simp [ByteArray.size]; omega
        clear hk HWO hwl hdl hcl hnl hpl f1 f2 f3 f4 f5 f6
        go_wp2
        go_ret
        exact ⟨ret_tx (by rw [HT.out]; simp), hl0.out⟩
      have n13 : (c.kind == 13) = false := by simpa using hk
      clear hk
      by_cases hk : c.kind = 14
      · rw [hk] at c0
        have HT : RowKit.Hid (textP c = wd ++ itoaL c.n) := Lib.hid (by unfold textP; rw [HWO.out, hk]; simp [wordOf, wordsL])
        have hs1 : ¬ (9223372036854775807 < ((⟨(wd).toArray⟩ : ByteArray)).size + ((⟨(itoaL c.n).toArray⟩ : ByteArray)).size) := by simp [ByteArray.size]; omega
        clear hk HWO hwl hdl hcl hnl hpl f1 f2 f3 f4 f5 f6
        go_wp2
        go_ret
        exact ⟨ret_tx (by rw [HT.out]; simp), hl0.out⟩
      have n14 : (c.kind == 14) = false := by simpa using hk
      clear hk
      by_cases hk : c.kind = 23
      · rw [hk] at c0
        have HT : RowKit.Hid (textP c = wd ++ itoaL c.n) := Lib.hid (by unfold textP; rw [HWO.out, hk]; simp [wordOf, wordsL])
        have hs1 : ¬ (9223372036854775807 < ((⟨(wd).toArray⟩ : ByteArray)).size + ((⟨(itoaL c.n).toArray⟩ : ByteArray)).size) := by simp [ByteArray.size]; omega
        clear hk HWO hwl hdl hcl hnl hpl f1 f2 f3 f4 f5 f6
        go_wp2
        go_ret
        exact ⟨ret_tx (by rw [HT.out]; simp), hl0.out⟩
      have n23 : (c.kind == 23) = false := by simpa using hk
      clear hk
      by_cases hk : c.kind = 24
      · rw [hk] at c0
        have HT : RowKit.Hid (textP c = wd ++ itoaL c.n) := Lib.hid (by unfold textP; rw [HWO.out, hk]; simp [wordOf, wordsL])
        have hs1 : ¬ (9223372036854775807 < ((⟨(wd).toArray⟩ : ByteArray)).size + ((⟨(itoaL c.n).toArray⟩ : ByteArray)).size) := by simp [ByteArray.size]; omega
        clear hk HWO hwl hdl hcl hnl hpl f1 f2 f3 f4 f5 f6
        go_wp2
        go_ret
        exact ⟨ret_tx (by rw [HT.out]; simp), hl0.out⟩
      have n24 : (c.kind == 24) = false := by simpa using hk
      clear hk
      by_cases hk : c.kind = 17
      · rw [hk] at c0
        have HT : RowKit.Hid (textP c = [42, 82]) := Lib.hid (by unfold textP; rw [hk]; simp)
        clear hk HWO hwl hdl hcl hnl hpl f1 f2 f3 f4 f5 f6
        go_wp2
        go_ret
        exact ⟨by rw [HT.out]; rfl, hl0.out⟩
      have n17 : (c.kind == 17) = false := by simpa using hk
      clear hk
      by_cases hk : c.kind = 12
      · rw [hk] at c0
        have HT : RowKit.Hid (textP c = [52, 71] ++ (itoaL c.n ++ ([47] ++ (sTx c.row c.c ++ ([45] ++ itoaL c.pax))))) := Lib.hid (by unfold textP; rw [hk]; simp)
        have hsl : (seatT c.row c.c).size ≤ 3 := seatT_len c.row c.c
        have HST : RowKit.Hid (Calls Tryd.prog 150 #[.agg #[.int .i64 c.row, .int .u8 c.c.toNat]] wr fun e w' => e = .returned (.string (seatT c.row c.c)) ∧ Below wr.heap.size wr w') := Lib.hid (text_any c.row c.c wr)
        have HSE : RowKit.Hid ((seatT c.row c.c).data.toList = sTx c.row c.c) := Lib.hid rfl
        generalize seatT c.row c.c = st at *
        have z2 : (⟨#[52, 71]⟩ : ByteArray).size = 2 := rfl
        have z47 : (⟨#[47]⟩ : ByteArray).size = 1 := rfl
        have z45 : (⟨#[45]⟩ : ByteArray).size = 1 := rfl
        have hs1 : ¬ (9223372036854775807 < (⟨#[52, 71]⟩ : ByteArray).size + (⟨(itoaL c.n).toArray⟩ : ByteArray).size) := by simp only [ByteArray.size_append, tx_size, z2, z47, z45]; omega
        have hs2 : ¬ (9223372036854775807 < ((⟨#[52, 71]⟩ : ByteArray) ++ (⟨(itoaL c.n).toArray⟩ : ByteArray)).size + (⟨#[47]⟩ : ByteArray).size) := by simp only [ByteArray.size_append, tx_size, z2, z47, z45]; omega
        have hs3 : ¬ (9223372036854775807 < ((⟨#[52, 71]⟩ : ByteArray) ++ (⟨(itoaL c.n).toArray⟩ : ByteArray) ++ (⟨#[47]⟩ : ByteArray)).size + st.size) := by simp only [ByteArray.size_append, tx_size, z2, z47, z45]; omega
        have hs4 : ¬ (9223372036854775807 < ((⟨#[52, 71]⟩ : ByteArray) ++ (⟨(itoaL c.n).toArray⟩ : ByteArray) ++ (⟨#[47]⟩ : ByteArray) ++ st).size + (⟨#[45]⟩ : ByteArray).size) := by simp only [ByteArray.size_append, tx_size, z2, z47, z45]; omega
        have hs5 : ¬ (9223372036854775807 < ((⟨#[52, 71]⟩ : ByteArray) ++ (⟨(itoaL c.n).toArray⟩ : ByteArray) ++ (⟨#[47]⟩ : ByteArray) ++ st ++ (⟨#[45]⟩ : ByteArray)).size + (⟨(itoaL c.pax).toArray⟩ : ByteArray).size) := by simp only [ByteArray.size_append, tx_size, z2, z47, z45]; omega
        clear z2 z47 z45
        clear hk HWO hwl hdl hcl hnl hpl f1 f2 f3 f4 f5 f6
        go_wp2_with (first
          | (go_at_call 150; (with_reducible refine HST.out.mono ?_); rintro e w7 ⟨rfl, hb7⟩))
        go_ret
        exact ⟨ret_tx (by rw [HT.out, ← HSE.out]; simp), bel_trans hl0.out hb7⟩
      have n12 : (c.kind == 12) = false := by simpa using hk
      clear hk
      by_cases hk : c.kind = 4
      · rw [hk] at c0
        have HT : RowKit.Hid (textP c = wd ++ (itoaL c.n ++ ([c.cls] ++ itoaL c.line))) := Lib.hid (by unfold textP; rw [HWO.out, hk]; simp [wordOf, wordsL])
        have hll := itoaL_len c.line HF.out.line
        have hwf := HF.out.line
        obtain ⟨A, hA⟩ : ∃ A : ByteArray, A = ⟨wd.toArray⟩ := ⟨_, rfl⟩
        obtain ⟨N, hN⟩ : ∃ A : ByteArray, A = ⟨(itoaL c.n).toArray⟩ := ⟨_, rfl⟩
        obtain ⟨Z, hZ⟩ : ∃ A : ByteArray, A = ⟨(itoaL c.line).toArray⟩ := ⟨_, rfl⟩
        obtain ⟨O, hO⟩ : ∃ A : ByteArray, A = ⟨#[c.cls]⟩ := ⟨_, rfl⟩
        have zA : A.size = wd.length := by rw [hA, tx_size]
        have zN : N.size = (itoaL c.n).length := by rw [hN, tx_size]
        have zZ : Z.size = (itoaL c.line).length := by rw [hZ, tx_size]
        have zO : O.size = 1 := by rw [hO]; rfl
        have hs1 : ¬ (9223372036854775807 < A.size + N.size) := by omega
        have hs2 : ¬ (9223372036854775807 < A.size + N.size + O.size) := by omega
        have hs3 : ¬ (9223372036854775807 < A.size + N.size + O.size + Z.size) := by omega
        have HT2 : RowKit.Hid ((A ++ N ++ O ++ Z).data.toList = textP c) := Lib.hid (by rw [HT.out, hA, hN, hO, hZ]; simp)
        have gA : txV wd = .string A := by rw [hA]
        have gN : txV (itoaL c.n) = .string N := by rw [hN]
        rw [gA, gN]
        clear gA gN zA zN zZ zO
        have hcv : ∀ (W : World) (b : Nat), W.cell? ⟨b, 0, none⟩ = some (.int .u8 c.cls.toNat) → (convert 48 9 (.slice (some ⟨b, 0, none⟩) 1 1)).run Tryd.prog W = .ok (.string O) W := fun W b h => by rw [hO]; exact one_conv_at c.cls W b h
        have HS4 : RowKit.Hid (∀ W, (RowKit.Hid (Below w1.heap.size w1 W) ∧ W.cell? ⟨w.heap.size, 11, none⟩ = some (.int .u8 c.cls.toNat) ∧ W.cell? ⟨w.heap.size, 12, none⟩ = some (.int .i64 c.line)) → Calls Tryd.prog 149 #[.int .i64 c.line] W fun e w' => e = .returned (.string Z) ∧ (RowKit.Hid (Below w1.heap.size w1 w') ∧ w'.cell? ⟨w.heap.size, 11, none⟩ = some (.int .u8 c.cls.toNat) ∧ w'.cell? ⟨w.heap.size, 12, none⟩ = some (.int .i64 c.line)) ∧ (∀ a v, W.cell? a = some v → w'.cell? a = some v)) := Lib.hid fun W hW => by
          refine (HIT.out c.line W hwf hW.1.out).mono ?_
          rintro e w' ⟨rfl, hb⟩
          have hb' := bel_trans hW.1.out hb
          exact ⟨by rw [hZ], ⟨Lib.hid hb', cb11 (HB1.out.mono hb'), cb12 (HB1.out.mono hb')⟩, fun a v h => (hb.cell (World.block_lt_of_cell? W a h)).trans h⟩
        have hst : RowKit.Hid (Below w1.heap.size w1 wr.drew) ∧ wr.drew.cell? ⟨w.heap.size, 11, none⟩ = some (.int .u8 c.cls.toNat) ∧ wr.drew.cell? ⟨w.heap.size, 12, none⟩ = some (.int .i64 c.line) := ⟨Lib.hid HR3.out.drew, cb11 (HB1.out.mono HR3.out.drew), cb12 (HB1.out.mono HR3.out.drew)⟩
        have hbA := (HR3.out.alloc HR3.out.size (.cells #[.int .u8 c.cls.toNat] 5)).drew
        have hsA : RowKit.Hid (Below w1.heap.size w1 (wr.alloc (.cells #[.int .u8 c.cls.toNat] 5)).drew) ∧ (wr.alloc (.cells #[.int .u8 c.cls.toNat] 5)).drew.cell? ⟨w.heap.size, 11, none⟩ = some (.int .u8 c.cls.toNat) ∧ (wr.alloc (.cells #[.int .u8 c.cls.toNat] 5)).drew.cell? ⟨w.heap.size, 12, none⟩ = some (.int .i64 c.line) := ⟨Lib.hid hbA, cb11 (HB1.out.mono hbA), cb12 (HB1.out.mono hbA)⟩
        have hnA : (wr.alloc (.cells #[.int .u8 c.cls.toNat] 5)).drew.cell? ⟨wr.heap.size, 0, none⟩ = some (.int .u8 c.cls.toNat) := World.cell?_alloc_new _ _ _ _
        have HST := Lib.hid hst
        have HSA := Lib.hid hsA
        have HNA := Lib.hid hnA
        have hst1 := hst.2.1
        have hst2 := hst.2.2
        have hsA2 := hsA.2.2
        have HLA : RowKit.Hid (∀ W, Below w1.heap.size w1 W → Below w1.heap.size w1 (W.alloc (.cells #[.int .u8 c.cls.toNat] 5))) := Lib.hid fun W h => h.alloc h.size _
        clear hst hsA hnA hbA
        clear hk HWO hwl hdl hcl hnl hpl f1 f2 f3 f4 f5 f6 hll hwf hA hN hZ hO
        go_wp2_with fail
        go_region_law (first
          | (go_simp; go_at_call 149; (with_reducible refine (HS4.out _ (by first | exact HST.out | exact HSA.out)).mono ?_); rintro e w7 ⟨rfl, ⟨hw7, hw8, hw9⟩, hk7⟩; (first | (have hq7 := hk7 _ _ HNA.out) | (have hq7 := trivial)); clear hk7))
        all_goals
          go_wp2
          go_ret
        all_goals first
          | exact ⟨ret_tx HT2.out, bel_trans HL1.out hw7.out⟩
          | exact ⟨ret_tx HT2.out, bel_trans HL1.out (HLA.out _ hw7.out)⟩
      have n4 : (c.kind == 4) = false := by simpa using hk
      have HT : RowKit.Hid (textP c = wd ++ c.text) := Lib.hid (by
        simp only [beq_eq_false_iff_ne] at n1 n3 n5 n7 n11 n13 n14 n23 n24 n17 n12
        unfold textP
        rw [HWO.out, if_neg n1, if_neg n3, if_neg hk, if_neg n5, if_neg n7, if_neg n11, if_neg n12, if_neg n13, if_neg (by omega), if_neg n17])
      have hs1 : ¬ (9223372036854775807 < (⟨wd.toArray⟩ : ByteArray).size + (⟨c.text.toArray⟩ : ByteArray).size) := by simp [ByteArray.size]; omega
      clear hk HWO hwl hdl hcl hnl hpl f1 f2 f3 f4 f5 f6
      go_wp2
      go_ret
      exact ⟨ret_tx (by rw [HT.out]; simp), hl0.out⟩
end Go.Proofs.YtjahkaidinahpaaDoor.En
