/- The law CodecRows: the walk. -/
import Derived.Test.YtjahkaidinahpaaDoorMD
namespace Go.Proofs.YtjahkaidinahpaaDoor
open Go.RowKit Go.ChangeMaps
set_option linter.unusedSimpArgs false
set_option linter.unusedVariables false
set_option maxRecDepth 20000

set_option maxHeartbeats 16000000 in
theorem codecRows_walk (v : Value) (l : List ByteArray) (n : Int) (hn : (Lit.int .i64 n).wf = true) (m : Int) (hm : (Lit.int .i64 m).wf = true) (vb : Value) (b : List UInt8) (w : World) (h : Texts w v l) (hb : Bytes w vb b) :
    Calls Tryd.prog 4 #[v, .int .i64 n, .int .i64 m, vb] w fun e w' => e = .returned (.bool true) ∧ Below w.heap.size w w' := by
  obtain ⟨h1, _, h2⟩ := h
  obtain ⟨p, c, rfl⟩ := own_len h1
  obtain ⟨p3, c3, rfl⟩ := HasE.len hb
  have HAW := Lib.hid awake_any
  have HLO := Lib.hid (long_any p3 b.length c3)
  by_cases hl : 100 < l.length
  · have hi : (100 : Int) < (l.length : Int) := by omega
    clear h1 h2 hb hl HLO
    go_enter Tryd.func4, Tryd.ntmps4
    go_wp2_with (first
      | (go_at_call 13; (with_reducible refine (HAW.out _).mono ?_); rintro e w1 ⟨rfl, hb1⟩))
    go_ret
    exact ⟨rfl, hb1⟩
  have hi : ¬ (100 : Int) < (l.length : Int) := by omega
  by_cases hlo : 20000 < b.length
  · have hd := decide_eq_true hlo
    rw [hd] at HLO
    clear h1 h2 hb hl hlo hd
    go_enter Tryd.func4, Tryd.ntmps4
    go_wp2_with (first
      | (go_at_call 13; (with_reducible refine (HAW.out _).mono ?_); rintro e w1 ⟨rfl, hb1⟩)
      | (go_at_call 17; (with_reducible refine (HLO.out _).mono ?_); rintro e w2 ⟨rfl, rfl⟩))
    go_ret
    exact ⟨rfl, hb1⟩
  have hd := decide_eq_false hlo
  rw [hd] at HLO
  have H1 := Lib.hid h1
  have HB := Lib.hid hb
  have HTA : (toL (⟨b.toArray⟩ : ByteArray)) = b := strA_toL b
  have HQ : RowKit.Hid (∀ W v', OwnL W W.heap.size v' l ∨ HasL W v' l → Calls Tryd.prog 18 #[v'] W fun e w' => byP W.heap.size (queueB l) e w' ∧ Below W.heap.size W w') := Lib.hid fun W v' h => queue_any v' l W (by rcases h with h | h; exact h.has; exact h) h2
  have HQ1 : RowKit.Hid (∀ W v', HasL W v' l → Calls Tryd.prog 18 #[v'] W fun e w' => byP W.heap.size (queueB l) e w' ∧ Below W.heap.size W w') := Lib.hid fun W v' h => queue_any v' l W h h2
  have HRQ : RowKit.Hid (∀ W, HasL W (.slice p l.length c) l → Calls Tryd.prog 19 #[.slice p l.length c] W fun e w' => stP (queueB l) e ∧ Below W.heap.size W w') := Lib.hid fun W h => refQueue_any _ l W h h2
  have HC : RowKit.Hid (∀ W, Calls Tryd.prog 21 #[.agg #[.int .i64 n, .int .i64 m]] W fun e w' => byP W.heap.size (countF n m) e w' ∧ Below W.heap.size W w') := Lib.hid fun W => ofCount_any n m W
  have HRC : RowKit.Hid (∀ W, Calls Tryd.prog 22 #[.int .i64 n, .int .i64 m] W fun e w' => stP (countF n m) e ∧ Below W.heap.size W w') := Lib.hid fun W => refOfCount_any n m W
  have HR : RowKit.Hid (∀ W, HasE byteC W (.slice p3 b.length c3) b → Calls Tryd.prog 23 #[.slice p3 b.length c3] W fun e w' => liP W.heap.size (readQ b) e w' ∧ Below W.heap.size W w') := Lib.hid fun W h => readQueue_any _ b W h (by omega)
  have HRR : RowKit.Hid (∀ W, Calls Tryd.prog 24 #[.string ⟨b.toArray⟩] W fun e w' => rliP W.heap.size (readQ b) e w' ∧ Below W.heap.size W w') := Lib.hid fun W => by
    have := refReadQueue_any ⟨b.toArray⟩ W (by show b.toArray.size ≤ _; simp; omega)
    rw [HTA] at this
    exact this
  have HN : RowKit.Hid (∀ W, HasE byteC W (.slice p3 b.length c3) b → Calls Tryd.prog 26 #[.slice p3 b.length c3] W fun e w' => ctP (readCt b) e ∧ Below W.heap.size W w') := Lib.hid fun W h => readCount_any _ b W h (by omega)
  have HRN : RowKit.Hid (∀ W, Calls Tryd.prog 27 #[.string ⟨b.toArray⟩] W fun e w' => rctP (readCt b) e ∧ Below W.heap.size W w') := Lib.hid fun W => by
    have := refReadCount_any ⟨b.toArray⟩ W (by show b.toArray.size ≤ _; simp; omega)
    rw [HTA] at this
    exact this
  have HCV : RowKit.Hid (∀ W, HasE byteC W (.slice p3 b.length c3) b → (convert 48 9 (.slice p3 b.length c3)).run Tryd.prog W = .ok (.string ⟨b.toArray⟩) W) := Lib.hid fun W h => conv_has h
  have hl1 : l.length ≤ 1000000 := by omega
  clear h1 hb hl hlo hd h2 HTA
  generalize hX : b.length = X at *
  generalize hY : l.length = Y at *
  have HX := Lib.hid hX
  have HY := Lib.hid hY
  clear hX hY
  go_enter Tryd.func4, Tryd.ntmps4
  go_upto_region 15 with (first
    | (go_at_call 13; (with_reducible refine (HAW.out _).mono ?_); rintro e w1 ⟨rfl, hb1⟩)
    | (go_at_call 17; (with_reducible refine (HLO.out _).mono ?_); rintro e w2 ⟨rfl, rfl⟩)
    | (at_builtin; refine wpList_copied_strs rfl _ _ rfl rfl (.slice p Y c) l rfl (H1.out.mono hb1) (by rw [HY.out]; exact hl1) ?_; intro v3 w3 ho3 hb3)
    | (go_at_call 18; (with_reducible refine (HQ1.out _ _ ho3.has).mono ?_); rintro e4 w4 ⟨hq4, hb4⟩; obtain ⟨v4, z4, e4b⟩ := byP_form hq4; subst e4b; have hb14 := bel_trans (bel_trans hb1 hb3) hb4)
    | (go_at_call 19; (with_reducible refine (HRQ.out _ (H1.out.mono hb14)).mono ?_); rintro e5 w5 ⟨hq5, hb5⟩; obtain ⟨v4', z4', t5, y5, e4c, rfl, hto5⟩ := toldB hq4 hq5; cases e4c; have HTO5 := Lib.hid (hto5 w5 hb5); clear hto5 hq4 hq5)
    | (go_at_call 20; (with_reducible refine HTO5.out.mono ?_); rintro e w6 ⟨rfl, rfl⟩)
    | (go_at_call 21; (with_reducible refine (HC.out _).mono ?_); rintro e7 w7 ⟨hq7, hb7⟩; obtain ⟨v7, z7, e7b⟩ := byP_form hq7; subst e7b)
    | (go_at_call 22; (with_reducible refine (HRC.out _).mono ?_); rintro e8 w8 ⟨hq8, hb8⟩; obtain ⟨v7', z7', t8, y8, e7c, rfl, hto8⟩ := toldB hq7 hq8; cases e7c; have HTO8 := Lib.hid (hto8 w8 hb8); clear hto8 hq7 hq8; have hb18 := bel_trans (bel_trans (bel_trans hb14 hb5) hb7) hb8; have hh8 := HB.out.mono hb18)
    | (go_at_call 20; (with_reducible refine HTO8.out.mono ?_); rintro e w9 ⟨rfl, rfl⟩)
    | (go_at_call 23; (with_reducible refine (HR.out _ hh8).mono ?_); rintro eA wA ⟨hqA, hbA⟩; have hcv := HCV.out _ (hh8.mono hbA); obtain ⟨vA, zA, eAb⟩ := liP_form hqA; subst eAb)
    | (go_at_call 24; (with_reducible refine (HRR.out _).mono ?_); rintro eB wB ⟨hqB, hbB⟩; obtain ⟨vA', zA', vB, yB, eAc, rfl, hsB, hzB⟩ := readB rfl hqA hqB hbB; cases eAc; have HSB := Lib.hid hsB; have HZB := Lib.hid hzB; clear hsB hzB hqA hqB hcv hh8))
  have hb1B := bel_trans (bel_trans hb18 hbA) hbB
  have HWB := Lib.hid hb1B
  have HHB := Lib.hid (HB.out.mono hb1B)
  clear HQ HQ1 HRQ HC HRC HR HRR HTO5 HTO8 hb1 hb3 hb4 hb14 hb5 hb7 hb8 hb18 hbA hbB hb1B
  rcases HZB.out with ⟨rfl, rfl⟩ | ⟨rfl, rfl⟩
  all_goals (
    go_upto_region 18 with (first
      | (go_at_call 25; (with_reducible refine (HSB.out _ (Below.refl _ _)).mono ?_); rintro e wC ⟨rfl, hbC⟩)
      | (go_at_call 26; (with_reducible refine (HN.out _ (HHB.out.mono hbC)).mono ?_); rintro eD wD ⟨hqD, hbD⟩; obtain ⟨nD, mD, zD, eDb⟩ := ctP_form hqD; subst eDb))
    have hal : Below wD.heap.size wD (wD.alloc (.cells #[.int .i64 nD, .int .i64 mD] 58)) := (Below.refl _ _).alloc (Nat.le_refl _) _
    have HBK := Lib.hid (Blk.new wD 58 [.int .i64 nD, .int .i64 mD])
    have hcv := HCV.out _ (((HHB.out.mono hbC).mono hbD).mono hal)
    have hbe := bel_trans (bel_trans (bel_trans HWB.out hbC) hbD) hal
    generalize wD.alloc (.cells #[.int .i64 nD, .int .i64 mD] 58) = wA2 at *
    go_upto_region 19 with (first
      | (go_at_call 27; (with_reducible refine (HRN.out _).mono ?_); rintro eE wE ⟨hqE, hbE⟩; obtain ⟨nE, mE, zE, yE, eDc, rfl, hzE⟩ := countB hqD hqE; cases eDc; have hk0 := ((HBK.out.mono hbE).cell 0).trans rfl; have hk1 := ((HBK.out.mono hbE).cell 1).trans rfl))
    rcases hzE with ⟨rfl, rfl⟩ | ⟨rfl, rfl⟩
    all_goals (
      go_wp2
      go_ret
      exact ⟨rfl, bel_trans hbe hbE⟩))
end Go.Proofs.YtjahkaidinahpaaDoor
