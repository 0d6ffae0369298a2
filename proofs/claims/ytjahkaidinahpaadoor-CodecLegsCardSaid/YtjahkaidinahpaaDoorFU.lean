/- The law CodecLegs: the walk. -/
import Derived.Test.YtjahkaidinahpaaDoorFV
namespace Go.Proofs.YtjahkaidinahpaaDoor
open Go.RowKit Go.ChangeMaps
set_option linter.unusedSimpArgs false
set_option linter.unusedVariables false
set_option maxRecDepth 20000

theorem readLg_sound {b : List UInt8} {s : List SoldT} {h : List HeldT} (k : readLg b = some (s, h)) : SoundL s h ∧ legF s h = some b := by
  unfold readLg at k
  cases hp : pLeg b with
  | none => rw [hp] at k; cases k
  | some x =>
    obtain ⟨s', h'⟩ := x
    rw [hp] at k
    simp only at k
    by_cases hq : legF s' h' = some b
    · rw [if_pos hq] at k
      injection k with k
      injection k with k1 k2
      subst k1 k2
      refine ⟨?_, hq⟩
      by_cases hs : SoundL s' h'
      · exact hs
      · rw [legF_no hs] at hq; cases hq
    · rw [if_neg hq] at k; cases k

theorem lgP_form {o : Option (List SoldT × List HeldT)} {e : Ending} {w : World} (h : lgP o e w) : ∃ (p : Option Addr) (n c : Nat) (q : Option Addr) (m d : Nat) (z : Int), e = .returned (.tuple #[.agg #[.slice p n c, .slice q m d], .int .i64 z]) := by
  rcases h with ⟨s, h, vs, vh, _, rfl, h1, h2, _⟩ | ⟨_, rfl⟩
  · obtain ⟨p, c, rfl⟩ := h1.len
    obtain ⟨q, d, rfl⟩ := h2.len
    exact ⟨_, _, _, _, _, _, _, rfl⟩
  · exact ⟨_, _, _, _, _, _, _, rfl⟩

theorem lgB {b : List UInt8} {e1 e2 : Ending} {w1 w2 : World} (h1 : lgP (readLg b) e1 w1) (h2 : rlgP (readLg b) e2 w2) (hb : Below w1.heap.size w1 w2) :
    ∃ (p : Option Addr) (n c : Nat) (q : Option Addr) (m d : Nat) (z : Int) (p2 : Option Addr) (n2 c2 : Nat) (q2 : Option Addr) (m2 d2 : Nat) (y : Bool), e1 = .returned (.tuple #[.agg #[.slice p n c, .slice q m d], .int .i64 z]) ∧ e2 = .returned (.tuple #[.agg #[.slice p2 n2 c2, .slice q2 m2 d2], .bool y]) ∧
      (∀ W, Below w2.heap.size w2 W → Calls Tryd.prog 38 #[.agg #[.slice p n c, .slice q m d], .agg #[.slice p2 n2 c2, .slice q2 m2 d2]] W fun e w' => e = .returned (.bool true) ∧ Below W.heap.size W w') ∧ (y = true ∧ z = 0 ∨ y = false ∧ z = 4) := by
  rcases h1 with ⟨s, h, vs, vh, ho, rfl, k1, k2, _⟩ | ⟨ho, rfl⟩
  · rcases h2 with ⟨s', h', vs', vh', ho', rfl, k1', k2', _⟩ | ⟨ho', _⟩
    · rw [ho] at ho'
      injection ho' with ho'
      injection ho' with e1 e2
      subst e1 e2
      have hsd := (readLg_sound ho).1
      have l1 := hsd.1
      have l2 := hsd.2.1
      obtain ⟨p, c, rfl⟩ := k1.len
      obtain ⟨q, d, rfl⟩ := k2.len
      obtain ⟨p', c', rfl⟩ := k1'.len
      obtain ⟨q', d', rfl⟩ := k2'.len
      exact ⟨_, _, _, _, _, _, _, _, _, _, _, _, _, _, rfl, rfl, fun W hW => sameLeg_true s h _ _ _ _ W ((k1.mono hb).mono hW) ((k2.mono hb).mono hW) (k1'.mono hW) (k2'.mono hW) (by omega) (by omega), .inl ⟨rfl, rfl⟩⟩
    · rw [ho] at ho'; cases ho'
  · rcases h2 with ⟨s', h', vs', vh', ho', rfl, k1', k2', _⟩ | ⟨ho', rfl⟩
    · rw [ho] at ho'; cases ho'
    · exact ⟨_, _, _, _, _, _, _, _, _, _, _, _, _, _, rfl, rfl, fun W hW => sameLeg_true [] [] _ _ _ _ W (HasE.nil _) (HasE.nil _) (HasE.nil _) (HasE.nil _) (by simp) (by simp), .inr ⟨rfl, rfl⟩⟩

set_option maxHeartbeats 16000000 in
theorem codecLegs_walk (v : Value) (a : List SoldT × List HeldT) (vb : Value) (b : List UInt8) (w : World) (h : LegIn w v a) (hb : Bytes w vb b) :
    Calls Tryd.prog 10 #[v, vb] w fun e w' => e = .returned (.bool true) ∧ Below w.heap.size w w' := by
  obtain ⟨s, h'⟩ := a
  obtain ⟨vs, vh, rfl, hs, hh, hz⟩ := h
  simp only at hs hh hz
  obtain ⟨ps, cs, rfl⟩ := hs.len
  obtain ⟨ph, ch, rfl⟩ := hh.len
  obtain ⟨p3, c3, rfl⟩ := HasE.len hb
  obtain ⟨w1, e1, a0, a1, hb1, hz1⟩ := leg_boxed w 88 (.slice ps s.length cs) (.slice ph h'.length ch)
  have HAW := Lib.hid awake_any
  have HLO := Lib.hid (long_any p3 b.length c3)
  have HB1 := Lib.hid hb1
  by_cases hl1 : 100 < s.length
  · have hi : (100 : Int) < (s.length : Int) := by omega
    clear hs hh hz hb hl1 HLO
    go_enter Tryd.func10, Tryd.ntmps10
    go_wp2_with (first
      | (go_at_call 13; (with_reducible refine (HAW.out _).mono ?_); rintro e w2 ⟨rfl, hb2⟩; have c0 := cell_bel hb2 a0; have c1 := cell_bel hb2 a1))
    go_ret
    exact ⟨rfl, below_w HB1.out hb2⟩
  have hi : ¬ (100 : Int) < (s.length : Int) := by omega
  by_cases hl2 : 700 < h'.length
  · have hi2 : (700 : Int) < (h'.length : Int) := by omega
    clear hs hh hz hb hl1 hl2 HLO
    go_enter Tryd.func10, Tryd.ntmps10
    go_wp2_with (first
      | (go_at_call 13; (with_reducible refine (HAW.out _).mono ?_); rintro e w2 ⟨rfl, hb2⟩; have c0 := cell_bel hb2 a0; have c1 := cell_bel hb2 a1))
    go_ret
    exact ⟨rfl, below_w HB1.out hb2⟩
  have hi2 : ¬ (700 : Int) < (h'.length : Int) := by omega
  by_cases hlo : 20000 < b.length
  · have hd := decide_eq_true hlo
    rw [hd] at HLO
    clear hs hh hz hb hl1 hl2 hlo hd
    go_enter Tryd.func10, Tryd.ntmps10
    go_wp2_with (first
      | (go_at_call 13; (with_reducible refine (HAW.out _).mono ?_); rintro e w2 ⟨rfl, hb2⟩; have c0 := cell_bel hb2 a0; have c1 := cell_bel hb2 a1)
      | (go_at_call 17; (with_reducible refine (HLO.out _).mono ?_); rintro e w3 ⟨rfl, rfl⟩))
    go_ret
    exact ⟨rfl, below_w HB1.out hb2⟩
  have hd := decide_eq_false hlo
  rw [hd] at HLO
  have HTA : (toL (⟨b.toArray⟩ : ByteArray)) = b := strA_toL b
  have HS1 := Lib.hid (hs.mono hb1)
  have HH1 := Lib.hid (hh.mono hb1)
  have HBB := Lib.hid (HasE.mono hb hb1)
  have HLG : RowKit.Hid (∀ W, Below w1.heap.size w1 W → Calls Tryd.prog 34 #[.agg #[.slice ps s.length cs, .slice ph h'.length ch]] W fun e w' => (∃ vs' vh', e = .returned (.agg #[vs', vh']) ∧ HasE soldC w' vs' s ∧ HasE heldC w' vh' h') ∧ Below W.heap.size W w') := Lib.hid fun W hb => leg_any s h' _ _ W (HS1.out.mono hb) (HH1.out.mono hb) (by omega) (by omega)
  have HOF : RowKit.Hid (∀ W v1 v2, HasE soldC W v1 s → HasE heldC W v2 h' → Calls Tryd.prog 33 #[.agg #[v1, v2]] W fun e w' => byP W.heap.size (legF s h') e w' ∧ Below W.heap.size W w') := Lib.hid fun W v1 v2 k1 k2 => ofLeg_any s h' v1 v2 W k1 k2 hz
  have HRO : RowKit.Hid (∀ W, Below w1.heap.size w1 W → Calls Tryd.prog 35 #[.agg #[.slice ps s.length cs, .slice ph h'.length ch]] W fun e w' => stP (legF s h') e ∧ Below W.heap.size W w') := Lib.hid fun W hb => refOfLeg_any s h' _ _ W (HS1.out.mono hb) (HH1.out.mono hb) hz
  have HR : RowKit.Hid (∀ W, HasE byteC W (.slice p3 b.length c3) b → Calls Tryd.prog 36 #[.slice p3 b.length c3] W fun e w' => lgP (readLg b) e w' ∧ Below W.heap.size W w') := Lib.hid fun W h => readLeg_any _ b W h (by omega)
  have HRR : RowKit.Hid (∀ W, Calls Tryd.prog 37 #[.string ⟨b.toArray⟩] W fun e w' => rlgP (readLg b) e w' ∧ Below W.heap.size W w') := Lib.hid fun W => by
    have := refReadLeg_any ⟨b.toArray⟩ W (by show b.toArray.size ≤ _; simp; omega)
    rw [HTA] at this
    exact this
  have HCV : RowKit.Hid (∀ W, HasE byteC W (.slice p3 b.length c3) b → (convert 48 9 (.slice p3 b.length c3)).run Tryd.prog W = .ok (.string ⟨b.toArray⟩) W) := Lib.hid fun W h => conv_has h
  clear hs hh hz hb hl1 hl2 hlo hd HTA
  generalize b.length = X at *
  generalize s.length = N at *
  generalize h'.length = M at *
  go_enter Tryd.func10, Tryd.ntmps10
  go_upto_region 9 with (first
    | (go_at_call 13; (with_reducible refine (HAW.out _).mono ?_); rintro e w2 ⟨rfl, hb2⟩; have c0 := cell_bel hb2 a0; have c1 := cell_bel hb2 a1)
    | (go_at_call 17; (with_reducible refine (HLO.out _).mono ?_); rintro e w3 ⟨rfl, rfl⟩)
    | (go_at_call 34; (with_reducible refine (HLG.out _ hb2).mono ?_); rintro e w4 ⟨⟨v1, v2, rfl, k1, k2⟩, hb4⟩; have HK1 := Lib.hid k1; have HK2 := Lib.hid k2; clear k1 k2; have hb24 := bel_trans hb2 hb4)
    | (go_at_call 33; (with_reducible refine (HOF.out _ _ _ HK1.out HK2.out).mono ?_); rintro e5 w5 ⟨hq5, hb5⟩; obtain ⟨v5, z5, e5b⟩ := byP_form hq5; subst e5b; have hb25 := bel_trans hb24 hb5; have d0 := cell_bel hb25 a0; have d1 := cell_bel hb25 a1)
    | (go_at_call 35; (with_reducible refine (HRO.out _ hb25).mono ?_); rintro e6 w6 ⟨hq6, hb6⟩; obtain ⟨v5', z5', t6, y6, e5c, rfl, hto6⟩ := toldB hq5 hq6; cases e5c; have HTO6 := Lib.hid (hto6 w6 hb6); clear hto6 hq5 hq6; have hb26 := bel_trans hb25 hb6)
    | (go_at_call 20; (with_reducible refine HTO6.out.mono ?_); rintro e w7 ⟨rfl, rfl⟩))
  have hh6 := HBB.out.mono hb26
  have HB6 := Lib.hid (below_w HB1.out hb26)
  clear hb2 hb4 hb24 hb5 hb25 hb6 hb26 c0 c1 d0 d1 HTO6 HOF HRO HLG HK1 HK2
  go_upto_region 10 with (first
    | (go_at_call 36; (with_reducible refine (HR.out _ hh6).mono ?_); rintro eA wA ⟨hqA, hbA⟩; obtain ⟨qp, qn, qc, qq, qm, qd, zA, eAb⟩ := lgP_form hqA; subst eAb; have HQA := Lib.hid hqA; clear hqA)
    | (refine wpList_store_blk rfl 90 (.tmp 9) (.tmp 49) rfl wA.heap.size 90 [.slice none 0 0, .slice none 0 0] [.slice qp qn qc, .slice qq qm qd] rfl rfl (Blk.new wA 90 [.slice none 0 0, .slice none 0 0]) rfl info_leg two_one ?_; intro wB hkB hbB _))
  try dsimp only [Act.put]
  have hbAB : Below wA.heap.size wA wB := ((Below.refl _ _).alloc (Nat.le_refl _) _).trans hbB
  have HKB := Lib.hid hkB
  have HAB := Lib.hid hbAB
  have hcv := HCV.out _ ((hh6.mono hbA).mono hbAB)
  have HB7 := Lib.hid (bel_trans (bel_trans HB6.out hbA) hbAB)
  clear hh6 hbA hkB hbB hbAB
  go_upto_region 11 with (first
    | (go_at_call 37; (with_reducible refine (HRR.out _).mono ?_); rintro eC wC ⟨hqC, hbC⟩; obtain ⟨qp', qn', qc', qq', qm', qd', zA', rp, rn, rc, rq, rm, rd, yA, eAc, rfl, hsC, hzC⟩ := lgB HQA.out hqC (HAB.out.trans (hbC.mono HAB.out.size)); cases eAc; have HSC := Lib.hid hsC; have HZC := Lib.hid hzC; clear hsC hzC hqC)
    | (refine wpList_store_blk rfl 88 (.tmp 11) (.tmp 55) rfl wC.heap.size 88 [.slice none 0 0, .slice none 0 0] [.slice rp rn rc, .slice rq rm rd] rfl rfl (Blk.new wC 88 [.slice none 0 0, .slice none 0 0]) rfl info_rleg two_one ?_; intro wD hkD hbD _))
  try dsimp only [Act.put]
  have hbCD : Below wC.heap.size wC wD := ((Below.refl _ _).alloc (Nat.le_refl _) _).trans hbD
  have HKA := Lib.hid ((HKB.out.mono hbC).mono hbCD)
  have HKD := Lib.hid hkD
  have HCD := Lib.hid hbCD
  have HBD := Lib.hid (bel_trans (bel_trans HB7.out hbC) hbCD)
  have x0 : wD.cell? ⟨wA.heap.size, 0, none⟩ = some (.slice qp qn qc) := (HKA.out.cell 0).trans rfl
  have x1 : wD.cell? ⟨wA.heap.size, 1, none⟩ = some (.slice qq qm qd) := (HKA.out.cell 1).trans rfl
  have y0 : wD.cell? ⟨wC.heap.size, 0, none⟩ = some (.slice rp rn rc) := (HKD.out.cell 0).trans rfl
  have y1 : wD.cell? ⟨wC.heap.size, 1, none⟩ = some (.slice rq rm rd) := (HKD.out.cell 1).trans rfl
  clear hbC hkD hbD hbCD HQA hcv
  generalize wC.heap.size = gC at *
  generalize wA.heap.size = gA at *
  rcases HZC.out with ⟨rfl, rfl⟩ | ⟨rfl, rfl⟩
  all_goals (
    go_wp2_with (first
      | (go_at_call 38; (with_reducible refine (HSC.out _ HCD.out).mono ?_); rintro e wE ⟨rfl, hbE⟩))
    go_ret
    exact ⟨rfl, bel_trans HBD.out hbE⟩)
end Go.Proofs.YtjahkaidinahpaaDoor
