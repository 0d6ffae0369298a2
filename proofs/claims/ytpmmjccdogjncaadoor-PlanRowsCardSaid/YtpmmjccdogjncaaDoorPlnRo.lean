/- The law PlanRows: the walk. -/
import Derived.Test.YtpmmjccdogjncaaDoorPlnSe
import Derived.Test.YtpmmjccdogjncaaDoorPlnPl
namespace Go.Proofs.YtpmmjccdogjncaaDoor
open Go.RowKit Go.ChangeMaps
set_option linter.unusedSimpArgs false
set_option linter.unusedVariables false

theorem atL_nonneg {P : List St} {s : St} (h : s ∈ P) : ¬ atL P s < 0 := by
  unfold atL
  rw [if_pos h]
  omega

theorem has_blk {p : Pl} {l : List UInt8} {s : St} (h : hasB p l s = false) (hs : s ∈ placesL p.first p.last l) : s ∈ p.bks := by
  unfold hasB at h
  rw [decide_eq_true hs] at h
  simpa using h

theorem has_none {p : Pl} {l : List UInt8} {s : St} (h : ¬ (p.first ≤ s.1 ∧ s.1 ≤ p.last ∧ s.2 ∈ l)) : hasB p l s = false := by
  unfold hasB
  rw [decide_eq_false (fun hs => h (mem_placesL.1 hs))]
  rfl

theorem okRow_small {r : Int} (h1 : -1000 ≤ r) (h2 : r ≤ 1000) : okRow r := by
  unfold okRow
  simp [Lit.wf, IntKind.min, IntKind.max, show IntKind.i64.signed = true from rfl, show IntKind.i64.bits = 64 from rfl]
  omega

theorem mksT_size {p : Pl} {l : List UInt8} {s : St} : (mksT p l s).size ≤ p.exits.length + 2 := by
  unfold mksT
  split
  · show (marksL p.lets.data.toList p.exits s).length ≤ _
    unfold marksL
    rw [List.length_append]
    have h1 := baseL_len p.lets.data.toList (p.lets.data.toList.idxOf s.2)
    have h2 : (exE p.exits s.1).length ≤ p.exits.length := by
      unfold exE
      rw [List.length_map]
      exact List.length_filter_le _ _
    show (baseL p.lets.data.toList (p.lets.data.toList.idxOf s.2)).length + (exE p.exits s.1).length ≤ _
    omega
  · exact Nat.zero_le _

theorem any_take {l : List Int} {j : Nat} {r : Int} (h : j < l.length) : ((l.take (j + 1)).any fun y => decide (y = r)) = (((l.take j).any fun y => decide (y = r)) || decide (l.getD j 0 = r)) := by
  have hg : l[j]? = some (l.getD j 0) := by rw [List.getD_eq_getElem?_getD, List.getElem?_eq_getElem h]; rfl
  rw [List.take_add_one, hg, List.any_append]
  simp

/-- The marks' text, for the walk. -/
theorem text_ends (T : ByteArray) (bW bE : Bool) (h1 : decide (0 < T.data.toList.length ∧ (T.data.toList.getD 0 0).toNat = 87) = bW) (h2 : decide (0 < T.data.toList.length ∧ (T.data.toList.getD (T.data.toList.length - 1) 0).toNat = 69) = bE) :
    (T.size = 0 ∧ bW = false ∧ bE = false) ∨ ∃ m, T.size = m + 1 ∧ decide ((T.data.toList.getD 0 0).toNat = 87) = bW ∧ decide ((T.data.toList.getD m 0).toNat = 69) = bE := by
  have hl : T.data.toList.length = T.size := by simp
  rw [hl] at h1 h2
  cases hs : T.size with
  | zero =>
    left
    rw [hs] at h1 h2
    exact ⟨rfl, by rw [← h1]; simp, by rw [← h2]; simp⟩
  | succ m =>
    right
    rw [hs] at h1 h2
    refine ⟨m, rfl, ?_, ?_⟩
    · rw [← h1]; simp
    · rw [← h2]; simp

set_option maxRecDepth 20000 in
set_option maxHeartbeats 16000000 in
theorem planRows_walk (v : Value) (p : Pl) (w : World) (h : PlanIn w v p) :
    Calls Tryd.prog 6 #[v] w fun e w' => e = .returned (.bool true) ∧ Below w.heap.size w w' := by
  obtain ⟨ve, vb, rfl, ⟨he, _⟩, ⟨hb, _⟩, _, _, _⟩ := h
  have HA : RowKit.Hid (∀ W, Calls Tryd.prog 14 #[] W fun e w' => e = .returned (.bool true) ∧ Below W.heap.size W w') := Lib.hid fun W => awakeP_any W
  have HF : RowKit.Hid (∀ W, HasE intC W ve p.exits → HasE stC W vb p.bks → Calls Tryd.prog 19 #[planV p ve vb] W fun e w' => e = .returned (.bool (fewP p)) ∧ Below W.heap.size W w') := Lib.hid fun W h1 h2 => fewP_any p ve vb W h1 h2
  have HBL := Lib.hid (planC_blk w p ve vb)
  cases hf : fewP p with
  | false =>
    rw [hf] at HF
    obtain ⟨a, b, q, x, bk⟩ := p
    obtain ⟨pe, ce, rfl⟩ := he.len
    obtain ⟨pb, cb, rfl⟩ := hb.len
    simp only at he hb HF ⊢
    obtain ⟨w1, e1, a0, a1, a2, a3, a4, hb1, hz1⟩ := plan_boxed w a b q (.slice pe x.length ce) (.slice pb bk.length cb)
    unfold planC at HBL
    simp only at HBL
    rw [e1] at HBL
    have HE := Lib.hid (he.mono hb1)
    have HS := Lib.hid (hb.mono hb1)
    have HB := Lib.hid hb1
    unfold planV at HF ⊢
    clear he hb hb1 hz1 hf a0 a1 a2 a3 a4
    go_enter Tryd.func6, Tryd.ntmps6
    go_wp2_with (first
      | (go_at_call 14; (with_reducible refine (HA.out _).mono ?_); rintro e w3 ⟨rfl, hb3⟩)
      | (refine wpList_load_mid rfl 32 (.tmp 1) rfl w.heap.size 0 rfl _ _ (HBL.out.mono hb3).range Tryd.underlying32 rfl info_plan ?_)
      | (go_at_call 19; (with_reducible refine (HF.out _ (HE.out.mono hb3) (HS.out.mono hb3)).mono ?_); rintro e w4 ⟨rfl, hb4⟩))
    go_ret
    exact ⟨rfl, bel_trans HB.out (bel_trans hb3 hb4)⟩
  | true =>
    obtain ⟨f1, f2, f3⟩ := of_decide_eq_true hf
    rw [hf] at HF
    cases hr : rightB p with
    | false =>
      have HM : RowKit.Hid (∀ W, HasE intC W ve p.exits → HasE stC W vb p.bks → Calls Tryd.prog 23 #[planV p ve vb] W fun e w' => ∃ v, e = .returned (.tuple #[v, .bool false]) ∧ Below W.heap.size W w') := Lib.hid fun W h1 h2 => made_no p ve vb W h1 h2 hf hr
      obtain ⟨a, b, q, x, bk⟩ := p
      obtain ⟨pe, ce, rfl⟩ := he.len
      obtain ⟨pb, cb, rfl⟩ := hb.len
      simp only at he hb HF HM ⊢
      obtain ⟨w1, e1, a0, a1, a2, a3, a4, hb1, hz1⟩ := plan_boxed w a b q (.slice pe x.length ce) (.slice pb bk.length cb)
      unfold planC at HBL
      simp only at HBL
      rw [e1] at HBL
      have HE := Lib.hid (he.mono hb1)
      have HS := Lib.hid (hb.mono hb1)
      have HB := Lib.hid hb1
      unfold planV at HF HM ⊢
      clear he hb hb1 hz1 hf a0 a1 a2 a3 a4 hr f1 f2 f3
      go_enter Tryd.func6, Tryd.ntmps6
      go_wp2_with (first
        | (go_at_call 14; (with_reducible refine (HA.out _).mono ?_); rintro e w3 ⟨rfl, hb3⟩)
        | (refine wpList_load_mid rfl 32 (.tmp 1) rfl w.heap.size 0 rfl _ _ (HBL.out.mono hb3).range Tryd.underlying32 rfl info_plan ?_)
        | (go_at_call 19; (with_reducible refine (HF.out _ (HE.out.mono hb3) (HS.out.mono hb3)).mono ?_); rintro e w4 ⟨rfl, hb4⟩; have hb24 := bel_trans hb3 hb4; clear hb3 hb4)
        | (refine wpList_load_mid rfl 32 (.tmp 1) rfl w.heap.size 0 rfl _ _ (HBL.out.mono hb24).range Tryd.underlying32 rfl info_plan ?_)
        | (go_at_call 23; (with_reducible refine (HM.out _ (HE.out.mono hb24) (HS.out.mono hb24)).mono ?_); rintro e w5 ⟨v5, rfl, hb5⟩; have hb25 := bel_trans hb24 hb5; clear hb24 hb5))
      go_ret
      exact ⟨rfl, bel_trans HB.out hb25⟩
    | true =>
      obtain ⟨l, hk, hrp⟩ := okP_few hf hr
      have HM : RowKit.Hid (∀ W, HasE intC W ve p.exits → HasE stC W vb p.bks → Calls Tryd.prog 23 #[planV p ve vb] W fun e w' => ∃ g b vl, e = .returned (.tuple #[.pointer (some ⟨g, 0, none⟩), .bool true]) ∧ MapK w' g b vl p l ∧ Below W.heap.size W w') := Lib.hid fun W h1 h2 => made_ok p ve vb l W h1 h2 hf hr hk.hl
      obtain ⟨n1, n2, _⟩ := letF_some hk.hl
      have HH : RowKit.Hid (∀ W W' g b vl s, MapK W g b vl p l → okRow s.1 → Below W.heap.size W W' → Calls Tryd.prog 28 #[.pointer (some ⟨g, 0, none⟩), .agg #[.int .i64 s.1, .int .u8 s.2.toNat]] W' fun e w' => e = .returned (.bool (hasB p l s)) ∧ Below W'.heap.size W' w') := Lib.hid fun W W' g b vl s h h1 hb => (h.mono hb).callHas s h1
      have HNU : RowKit.Hid (∀ W W' g b vl s, MapK W g b vl p l → okRow s.1 → Below W.heap.size W W' → Calls Tryd.prog 30 #[.pointer (some ⟨g, 0, none⟩), .agg #[.int .i64 s.1, .int .u8 s.2.toNat]] W' fun e w' => e = .returned (.int .i64 (atL (placesL p.first p.last l) s)) ∧ Below W'.heap.size W' w') := Lib.hid fun W W' g b vl s h h1 hb => (h.mono hb).callNumber s h1
      have HMA : RowKit.Hid (∀ W W' g b vl s, MapK W g b vl p l → okRow s.1 → Below W.heap.size W W' → Calls Tryd.prog 32 #[.pointer (some ⟨g, 0, none⟩), .agg #[.int .i64 s.1, .int .u8 s.2.toNat]] W' fun e w' => e = .returned (.string (mksT p l s)) ∧ Below W'.heap.size W' w') := Lib.hid fun W W' g b vl s h h1 hb => (h.mono hb).callMarks s h1
      have HAT : RowKit.Hid (∀ W s, HasE stC W vb p.bks → Calls Tryd.prog 31 #[vb, .agg #[.int .i64 s.1, .int .u8 s.2.toNat]] W fun e w' => e = .returned (.int .i64 (atL p.bks s)) ∧ Below W.heap.size W w') := Lib.hid fun W s h => at_any p.bks vb s W h (by omega)
      have h1 := hk.h1
      have h2 := hk.h2
      have h12 := hrp.2.1
      have HL := Lib.hid hk.hl
      have hbl : p.lets.data.toList.length = p.lets.size := by simp
      have HBLen := Lib.hid hbl
      have hlpos : 0 < p.lets.size := by
        have h3 := cntL_all hk.hl
        have h4 := cntL_le p.lets.data.toList p.lets.data.toList.length
        omega
      have hg0 := get_list p.lets 0 hlpos
      obtain ⟨pe, ce, rfl⟩ := he.len
      obtain ⟨pb, cb, rfl⟩ := hb.len
      obtain ⟨w1, e1, a0, a1, a2, a3, a4, hb1, hz1⟩ := plan_boxed w p.first p.last p.lets (.slice pe p.exits.length ce) (.slice pb p.bks.length cb)
      unfold planC at HBL
      rw [e1] at HBL
      have HE := Lib.hid (he.mono hb1)
      have HS := Lib.hid (hb.mono hb1)
      have HB := Lib.hid hb1
      unfold planV at HF HM ⊢
      clear he hb hb1 hf hr f3 hrp hk
      go_enter Tryd.func6, Tryd.ntmps6
      go_upto_region 8 with (first
        | (go_at_call 14; (with_reducible refine (HA.out _).mono ?_); rintro e w3 ⟨rfl, hb3⟩)
        | (refine wpList_load_mid rfl 32 (.tmp 1) rfl w.heap.size 0 rfl _ _ (HBL.out.mono hb3).range Tryd.underlying32 rfl info_plan ?_)
        | (go_at_call 19; (with_reducible refine (HF.out _ (HE.out.mono hb3) (HS.out.mono hb3)).mono ?_); rintro e w4 ⟨rfl, hb4⟩; have hb24 := bel_trans hb3 hb4; clear hb3 hb4)
        | (refine wpList_load_mid rfl 32 (.tmp 1) rfl w.heap.size 0 rfl _ _ (HBL.out.mono hb24).range Tryd.underlying32 rfl info_plan ?_)
        | (go_at_call 23; (with_reducible refine (HM.out _ (HE.out.mono hb24) (HS.out.mono hb24)).mono ?_); rintro e w5 ⟨g, bm, vl, rfl, hmk, hb5⟩; have hb25 := bel_trans hb24 hb5; clear hb24 hb5))
      have HMK := Lib.hid hmk
      -- what holds in each world from here on
      have HST : RowKit.Hid (∀ W, Below w5.heap.size w5 W → W.cell? ⟨w.heap.size, 0, none⟩ = some (.int .i64 p.first) ∧ W.cell? ⟨w.heap.size, 1, none⟩ = some (.int .i64 p.last) ∧ W.cell? ⟨w.heap.size, 2, none⟩ = some (.string p.lets) ∧ W.cell? ⟨w.heap.size, 3, none⟩ = some (.slice pe p.exits.length ce) ∧ W.cell? ⟨w.heap.size, 4, none⟩ = some (.slice pb p.bks.length cb)) := Lib.hid fun W h => by
        have h2 := bel_trans hb25 h
        exact ⟨cell_bel h2 a0, cell_bel h2 a1, cell_bel h2 a2, cell_bel h2 a3, cell_bel h2 a4⟩
      have HBZ := Lib.hid (bel_trans HB.out hb25)
      have HE5 := Lib.hid (HE.out.mono hb25)
      have HS5 := Lib.hid (HS.out.mono hb25)
      clear hmk hb25 a0 a1 a2 a3 a4 HM HF HA HBL HB HE HS e1
      generalize hR : (p.last + 1 - p.first).toNat = R at *
      generalize hLL : l.length = L at *
      have HLL := Lib.hid hLL
      have hR60 : R ≤ 60 := by omega
      clear hLL
      obtain ⟨b0, b1, b2, b3, b4⟩ := HST.out w5 (Below.refl _ _)
      go_wp2
      clear b0 b1 b2 b3 b4
      go_loopg [5, 6] R (fun g0 s5 s6 wr => ∃ k : Nat, k ≤ R ∧ g0 = R - k ∧ s5 = .int .i64 ((k * L : Nat) : Int) ∧ s6 = .int .i64 (p.first + (k : Int)) ∧ Below w5.heap.size w5 wr)
      case atStart => exact ⟨0, Nat.zero_le _, rfl, by rw [Nat.zero_mul]; rfl, by go_num, Below.refl _ _⟩
      case round =>
        obtain ⟨k, hk, rfl, rfl, rfl, hbw⟩ := hrel
        obtain ⟨b0, b1, b2, b3, b4⟩ := HST.out wr hbw
        by_cases hlt : k < R
        · have hir : p.first + (k : Int) ≤ p.last := by omega
          have hkL : k * L ≤ 590 := by
            have : k * L ≤ 59 * 10 := Nat.mul_le_mul (by omega) (by omega)
            omega
          have HKS : RowKit.Hid (k * L + L = (k + 1) * L) := Lib.hid (Nat.succ_mul k L).symm
          have HNUk : RowKit.Hid (∀ i, i < p.lets.size → (p.lets.data.toList.getD i 0).toNat ≠ 46 → atL (placesL p.first p.last l) (p.first + (k : Int), p.lets.data.toList.getD i 0) = ((k * L + cntL p.lets.data.toList i : Nat) : Int) ∧ (p.first + (k : Int), p.lets.data.toList.getD i 0) ∈ placesL p.first p.last l) := Lib.hid fun i hi h46 => by
            have hi' : i < p.lets.data.toList.length := by rw [HBLen.out]; exact hi
            rw [← HLL.out]
            exact ⟨number_at HL.out hir hi' h46, place_at HL.out hir hi' h46⟩
          generalize hrow : p.first + (k : Int) = row at *
          generalize hkk : k * L = kL at *
          have HROW := Lib.hid hrow
          have HKK := Lib.hid hkk
          have hrow1 : 1 ≤ row := by omega
          have hrow2 : row ≤ 60 := by omega
          have hok : okRow row := okRow_small (by omega) (by omega)
          clear hrow hkk
          go_upto_region 12 with fail
          clear b0 b1 b2 b3 b4
          obtain ⟨wq, rfl⟩ : ∃ y : World, y = wr := ⟨_, rfl⟩
          go_wp2
          go_loopg [5, 7] p.lets.size (fun g0 s5 s7 wx => ∃ i : Nat, i ≤ p.lets.size ∧ g0 = p.lets.size - i ∧ s5 = .int .i64 ((kL + cntL p.lets.data.toList i : Nat) : Int) ∧ s7 = .int .i64 (i : Int) ∧ Below w5.heap.size w5 wx)
          case atStart => exact ⟨0, Nat.zero_le _, rfl, by rw [show cntL p.lets.data.toList 0 = 0 from rfl, Nat.add_zero], rfl, hbw⟩
          case round =>
            obtain ⟨i, hi, rfl, rfl, rfl, hbx⟩ := hrel
            obtain ⟨b0, b1, b2, b3, b4⟩ := HST.out _ hbx
            by_cases hin : i < p.lets.size
            · have hii : (i : Int) < (p.lets.size : Int) := by omega
              have hi0 : (0 : Int) ≤ (i : Int) := by omega
              have hgi := get_list p.lets i hin
              have HCN := cntL_next (bs := p.lets.data.toList) (i := i) (by rw [HBLen.out]; exact hin)
              by_cases h46 : (p.lets.data.toList.getD i 0).toNat = 46
              · rw [if_pos h46] at HCN
                have HCN2 := Lib.hid HCN
                have hb46 : (((p.lets.data.toList.getD i 0).toNat : Int) == 46) = true := by rw [beq_iff_eq]; omega
                generalize p.lets.data.toList.getD i 0 = c at *
                clear h46 HCN
                go_wp2
                go_roundg (p.lets.size - (i + 1))
                case measure => omega
                case rel => exact ⟨i + 1, by omega, rfl, by rw [HCN2.out]; rfl, by go_num, hbx⟩
              · rw [if_neg h46] at HCN
                obtain ⟨hat, hpl⟩ := HNUk.out i hin h46
                have hcle := cntL_le p.lets.data.toList i
                have HCN2 := Lib.hid HCN
                have hb46 : (((p.lets.data.toList.getD i 0).toNat : Int) == 46) = false := by rw [beq_eq_false_iff_ne]; omega
                have HMY : RowKit.Hid (hasB p l (row, p.lets.data.toList.getD i 0) = true → _) := Lib.hid fun h => marks_yes (p := p) (l := l) HL.out (r := row) (i := i) (by rw [HBLen.out]; exact hin) h46 h
                rw [HBLen.out] at HMY
                have HBK := Lib.hid fun h => atL_nonneg (has_blk (p := p) (l := l) h hpl)
                have HMN := Lib.hid fun h => marks_no (p := p) (l := l) (s := (row, p.lets.data.toList.getD i 0)) h
                have CN : RowKit.Hid (∀ W, Below w5.heap.size w5 W → Calls Tryd.prog 30 #[.pointer (some ⟨g, 0, none⟩), .agg #[.int .i64 row, .int .u8 (p.lets.data.toList.getD i 0).toNat]] W fun e w' => e = .returned (.int .i64 ((kL + cntL p.lets.data.toList i : Nat) : Int)) ∧ Below W.heap.size W w') := Lib.hid fun W h => by
                  have := HNU.out w5 W g bm vl (row, p.lets.data.toList.getD i 0) HMK.out hok h
                  rw [hat] at this
                  exact this
                have CH : RowKit.Hid (∀ W, Below w5.heap.size w5 W → Calls Tryd.prog 28 #[.pointer (some ⟨g, 0, none⟩), .agg #[.int .i64 row, .int .u8 (p.lets.data.toList.getD i 0).toNat]] W fun e w' => e = .returned (.bool (hasB p l (row, p.lets.data.toList.getD i 0))) ∧ Below W.heap.size W w') := Lib.hid fun W h => HH.out w5 W g bm vl (row, p.lets.data.toList.getD i 0) HMK.out hok h
                have CM : RowKit.Hid (∀ W, Below w5.heap.size w5 W → Calls Tryd.prog 32 #[.pointer (some ⟨g, 0, none⟩), .agg #[.int .i64 row, .int .u8 (p.lets.data.toList.getD i 0).toNat]] W fun e w' => e = .returned (.string (mksT p l (row, p.lets.data.toList.getD i 0))) ∧ Below W.heap.size W w') := Lib.hid fun W h => HMA.out w5 W g bm vl (row, p.lets.data.toList.getD i 0) HMK.out hok h
                have CA : RowKit.Hid (∀ W, Below w5.heap.size w5 W → Calls Tryd.prog 31 #[.slice pb p.bks.length cb, .agg #[.int .i64 row, .int .u8 (p.lets.data.toList.getD i 0).toNat]] W fun e w' => e = .returned (.int .i64 (atL p.bks (row, p.lets.data.toList.getD i 0))) ∧ Below W.heap.size W w') := Lib.hid fun W h => HAT.out W (row, p.lets.data.toList.getD i 0) (HS5.out.mono h)
                have hts := mksT_size (p := p) (l := l) (s := (row, p.lets.data.toList.getD i 0))
                generalize p.lets.data.toList.getD i 0 = c at *
                generalize hasB p l (row, c) = hbv at *
                generalize mksT p l (row, c) = T at *
                generalize atL p.bks (row, c) = za at *
                generalize hcn : cntL p.lets.data.toList i = cn at *
                have hneq : (((kL + cn : Nat) : Int) != ((kL + cn : Nat) : Int)) = false := by simp
                clear h46 HCN hat hpl
                have HTS : RowKit.Hid (T.size ≤ p.exits.length + 2) := Lib.hid hts
                clear hts
                go_upto_region 17 with (first
                  | (refine wpList_store_blk rfl 23 (.tmp 8) (.tmp 51) rfl wr.heap.size 23 (seatC 0 0) (seatC row c) rfl rfl (Blk.new wr 23 (seatC 0 0)) rfl info_seat seatC_one ?_; intro w8 hb8 hl8 _))
                dsimp only [Act.put]
                have h18 : Below wr.heap.size wr w8 := ((Below.refl _ _).alloc (Nat.le_refl _) _).trans hl8
                have hb58 := bel_trans hbx h18
                have s0 : w8.cell? ⟨wr.heap.size, 0, none⟩ = some (.int .i64 row) := (hb8.cell 0).trans rfl
                have s1 : w8.cell? ⟨wr.heap.size, 1, none⟩ = some (.int .u8 c.toNat) := (hb8.cell 1).trans rfl
                have HSR : RowKit.Hid (∀ W, Below w8.heap.size w8 W → W.cell? ⟨wr.heap.size, 0, none⟩ = some (.int .i64 row) ∧ W.cell? ⟨wr.heap.size, 1, none⟩ = some (.int .u8 c.toNat) ∧ W.cell? ⟨w.heap.size, 2, none⟩ = some (.string p.lets) ∧ W.cell? ⟨w.heap.size, 3, none⟩ = some (.slice pe p.exits.length ce) ∧ W.cell? ⟨w.heap.size, 4, none⟩ = some (.slice pb p.bks.length cb)) := Lib.hid fun W h => by
                  obtain ⟨_, _, d2, d3, d4⟩ := HST.out W (bel_trans hb58 h)
                  exact ⟨cell_bel h s0, cell_bel h s1, d2, d3, d4⟩
                clear b0 b1 b2 b3 b4 hb8 hl8
                cases hbv with
                | false =>
                  have hza := HBK.out rfl
                  have hT := HMN.out rfl
                  subst hT
                  go_wp2_with (first
                    | (go_at_call 30; (with_reducible refine (CN.out _ hb58).mono ?_); rintro e w9 ⟨rfl, hb9⟩; obtain ⟨t0, t1, _, _, _⟩ := HSR.out w9 hb9)
                    | (go_at_call 28; (with_reducible refine (CH.out _ (bel_trans hb58 hb9)).mono ?_); rintro e wA ⟨rfl, hbA⟩; have h8A := bel_trans hb9 hbA; obtain ⟨x0, x1, _, _, _⟩ := HSR.out wA h8A)
                    | (go_at_call 32; (with_reducible refine (CM.out _ (bel_trans hb58 h8A)).mono ?_); rintro e wB ⟨rfl, hbB⟩; have h8B := bel_trans h8A hbB; obtain ⟨y0, y1, y2, y3, y4⟩ := HSR.out wB h8B)
                    | (go_at_call 31; (with_reducible refine (CA.out _ (bel_trans hb58 h8B)).mono ?_); rintro e wC ⟨rfl, hbC⟩))
                  go_roundg (p.lets.size - (i + 1))
                  case measure => omega
                  case rel => exact ⟨i + 1, by omega, rfl, by rw [HCN2.out]; go_num, by go_num, bel_trans (bel_trans hb58 h8B) hbC⟩
                | true =>
                  obtain ⟨hW, hE⟩ := HMY.out rfl
                  generalize hbW : decide (i = 0 ∨ i + 1 = p.lets.size) = bW at *
                  generalize hbE : (p.exits.any fun y => decide (y = row)) = bE at *
                  have hte := text_ends T bW bE hW hE
                  have HBW := Lib.hid hbW
                  have HBE := Lib.hid hbE
                  clear hW hE hbW hbE
                  go_upto_region 24 with (first
                    | (go_at_call 30; (with_reducible refine (CN.out _ hb58).mono ?_); rintro e w9 ⟨rfl, hb9⟩; obtain ⟨t0, t1, _, _, _⟩ := HSR.out w9 hb9)
                    | (go_at_call 28; (with_reducible refine (CH.out _ (bel_trans hb58 hb9)).mono ?_); rintro e wA ⟨rfl, hbA⟩; have h8A := bel_trans hb9 hbA; obtain ⟨x0, x1, _, _, _⟩ := HSR.out wA h8A)
                    | (go_at_call 32; (with_reducible refine (CM.out _ (bel_trans hb58 h8A)).mono ?_); rintro e wB ⟨rfl, hbB⟩; have h8B := bel_trans h8A hbB))
                  clear t0 t1 x0 x1 s0 s1
                  go_cut [10] from 34 to 129 (fun s10 wx => s10 = .bool bW ∧ wB = wx)
                  case first =>
                    rcases hte with ⟨hs0, hw0, he0⟩ | ⟨m, hsm, hwm, hem⟩
                    · have hsi : ¬ (0 : Int) < (T.size : Int) := by omega
                      subst hw0
                      clear hs0 he0
                      go_wp2
                      go_meet
                      exact ⟨rfl, rfl⟩
                    · have hsi : (0 : Int) < (T.size : Int) := by omega
                      have hpos : 0 < T.size := by omega
                      have hg0 := get_list T 0 hpos
                      clear hsm hem
                      by_cases h87 : (T.data.toList.getD 0 0).toNat = 87
                      · have hb87 : (((T.data.toList.getD 0 0).toNat : Int) == 87) = true := by rw [beq_iff_eq]; omega
                        have hq : bW = true := by rw [← hwm]; exact decide_eq_true h87
                        subst hq
                        generalize T.data.toList.getD 0 0 = y at *
                        clear hwm h87
                        go_wp2
                        go_meet
                        exact ⟨rfl, rfl⟩
                      · have hb87 : (((T.data.toList.getD 0 0).toNat : Int) == 87) = false := by rw [beq_eq_false_iff_ne]; omega
                        have hq : bW = false := by rw [← hwm]; exact decide_eq_false h87
                        subst hq
                        generalize T.data.toList.getD 0 0 = y at *
                        clear hwm h87
                        go_wp2
                        go_meet
                        exact ⟨rfl, rfl⟩
                  case rest =>
                    obtain ⟨rfl, rfl⟩ := hcut
                    go_upto_region 25 with fail
                    go_cut [11] from 34 to 129 (fun s11 wx => s11 = .bool bE ∧ wB = wx)
                    case first =>
                      rcases hte with ⟨hs0, hw0, he0⟩ | ⟨m, hsm, hwm, hem⟩
                      · have hsi : ¬ (0 : Int) < (T.size : Int) := by omega
                        subst he0
                        clear hs0 hw0
                        go_wp2
                        go_meet
                        exact ⟨rfl, rfl⟩
                      · have hsi : (0 : Int) < (T.size : Int) := by omega
                        have hmT : m < T.size := by omega
                        have hgm := get_list T m hmT
                        have hm0 : (0 : Int) ≤ (m : Int) := by omega
                        have hmi : (m : Int) < (T.size : Int) := by omega
                        have hwm1 : IntKind.i64.wrap ((T.size : Int) - 1) = (m : Int) := by
                          have := HTS.out
                          rw [IntKind.wrap_i64]; omega
                        clear hsm hwm
                        by_cases h69 : (T.data.toList.getD m 0).toNat = 69
                        · have hb69 : (((T.data.toList.getD m 0).toNat : Int) == 69) = true := by rw [beq_iff_eq]; omega
                          have hq : bE = true := by rw [← hem]; exact decide_eq_true h69
                          subst hq
                          generalize T.data.toList.getD m 0 = y at *
                          clear hem h69
                          go_wp2
                          go_meet
                          exact ⟨rfl, rfl⟩
                        · have hb69 : (((T.data.toList.getD m 0).toNat : Int) == 69) = false := by rw [beq_eq_false_iff_ne]; omega
                          have hq : bE = false := by rw [← hem]; exact decide_eq_false h69
                          subst hq
                          generalize T.data.toList.getD m 0 = y at *
                          clear hem h69
                          go_wp2
                          go_meet
                          exact ⟨rfl, rfl⟩
                    case rest =>
                      obtain ⟨rfl, rfl⟩ := hcut
                      obtain ⟨_, _, y2, y3, _⟩ := HSR.out wB h8B
                      have HE8 := Lib.hid (HE5.out.mono (bel_trans hb58 h8B))
                      clear hte
                      go_wp2
                      go_loopg [12, 13] p.exits.length (fun g0 s12 s13 wx => ∃ j : Nat, j ≤ p.exits.length ∧ g0 = p.exits.length - j ∧ s12 = .bool ((p.exits.take j).any fun y => decide (y = row)) ∧ s13 = .int .i64 (j : Int) ∧ wB = wx)
                      case atStart => exact ⟨0, Nat.zero_le _, rfl, rfl, rfl, rfl⟩
                      case round =>
                        obtain ⟨j, hj, rfl, rfl, rfl, rfl⟩ := hrel
                        by_cases hlt : j < p.exits.length
                        · have hji : (j : Int) < (p.exits.length : Int) := by omega
                          have hj0 : (0 : Int) ≤ (j : Int) := by omega
                          obtain ⟨be, oe, rfl, ce0⟩ := int_at HE8.out hlt
                          have HAN := Lib.hid (any_take (r := row) hlt)
                          generalize p.exits.getD j 0 = x at *
                          generalize ((p.exits.take j).any fun y => decide (y = row)) = bb at *
                          cases bb with
                          | true =>
                            go_wp2
                            go_roundg (p.exits.length - (j + 1))
                            case measure => omega
                            case rel => exact ⟨j + 1, by omega, rfl, by rw [HAN.out]; rfl, by go_num, rfl⟩
                          | false =>
                            by_cases hx : x = row
                            · have hxb : (x == row) = true := by rw [beq_iff_eq]; exact hx
                              have HD := Lib.hid (decide_eq_true hx)
                              clear hx
                              go_wp2
                              go_roundg (p.exits.length - (j + 1))
                              case measure => omega
                              case rel => exact ⟨j + 1, by omega, rfl, by rw [HAN.out, HD.out]; rfl, by go_num, rfl⟩
                            · have hxb : (x == row) = false := by rw [beq_eq_false_iff_ne]; exact hx
                              have HD := Lib.hid (decide_eq_false hx)
                              clear hx
                              go_wp2
                              go_roundg (p.exits.length - (j + 1))
                              case measure => omega
                              case rel => exact ⟨j + 1, by omega, rfl, by rw [HAN.out, HD.out]; rfl, by go_num, rfl⟩
                        · have hje : j = p.exits.length := by omega
                          subst hje
                          have hji : ¬ (p.exits.length : Int) < (p.exits.length : Int) := by omega
                          have hbe : ((p.exits.take p.exits.length).any fun y => decide (y = row)) = bE := by rw [List.take_length]; exact HBE.out
                          rw [hbe]
                          clear hbe
                          have HBW2 : RowKit.Hid (bW = decide (i = 0 ∨ i + 1 = p.lets.size)) := Lib.hid HBW.out.symm
                          have hsz1 : IntKind.i64.wrap ((p.lets.size : Int) - 1) = (p.lets.size : Int) - 1 := by rw [IntKind.wrap_i64]; omega
                          have hbEE : (bE != bE) = false := by simp
                          by_cases hi1 : i = 0
                          · have hz : ((i : Int) == 0) = true := by rw [beq_iff_eq]; omega
                            have hq : bW = true := by rw [HBW2.out]; exact decide_eq_true (.inl hi1)
                            subst hq
                            clear hi1
                            go_wp2
                            go_roundg (p.lets.size - (i + 1))
                            case measure => omega
                            case rel => exact ⟨i + 1, by omega, rfl, by rw [HCN2.out]; go_num, by go_num, bel_trans hb58 h8B⟩
                          · have hz : ((i : Int) == 0) = false := by rw [beq_eq_false_iff_ne]; omega
                            by_cases hi2 : i + 1 = p.lets.size
                            · have hz2 : ((i : Int) == (p.lets.size : Int) - 1) = true := by rw [beq_iff_eq]; omega
                              have hq : bW = true := by rw [HBW2.out]; exact decide_eq_true (.inr hi2)
                              subst hq
                              clear hi1 hi2
                              go_wp2
                              go_roundg (p.lets.size - (i + 1))
                              case measure => omega
                              case rel => exact ⟨i + 1, by omega, rfl, by rw [HCN2.out]; go_num, by go_num, bel_trans hb58 h8B⟩
                            · have hz2 : ((i : Int) == (p.lets.size : Int) - 1) = false := by rw [beq_eq_false_iff_ne]; omega
                              have hq : bW = false := by rw [HBW2.out]; exact decide_eq_false (fun h => by rcases h with h | h; exact hi1 h; exact hi2 h)
                              subst hq
                              clear hi1 hi2
                              go_wp2
                              go_roundg (p.lets.size - (i + 1))
                              case measure => omega
                              case rel => exact ⟨i + 1, by omega, rfl, by rw [HCN2.out]; go_num, by go_num, bel_trans hb58 h8B⟩
            · have hie : i = p.lets.size := by omega
              subst hie
              have hii : ¬ (p.lets.size : Int) < (p.lets.size : Int) := by omega
              have HCE : RowKit.Hid (cntL p.lets.data.toList p.lets.size = L) := Lib.hid (by
                have := cntL_all HL.out
                rw [HBLen.out, HLL.out] at this
                exact this)
              go_wp2
              go_roundg (R - (k + 1))
              case measure => omega
              case rel => exact ⟨k + 1, by omega, rfl, by rw [HCE.out, ← HKS.out]; go_num, by have := HROW.out; subst this; go_num, hbx⟩
        · have hke : k = R := by omega
          subst hke
          have hir : ¬ p.first + (k : Int) ≤ p.last := by omega
          have hw1 : IntKind.i64.wrap (p.first - 1) = p.first - 1 := by rw [IntKind.wrap_i64]; omega
          have hw2 : IntKind.i64.wrap (p.last + 1) = p.last + 1 := by rw [IntKind.wrap_i64]; omega
          have hsz0 : (0 : Int) < (p.lets.size : Int) := by omega
          have C1 : RowKit.Hid (∀ W, Below w5.heap.size w5 W → Calls Tryd.prog 28 #[.pointer (some ⟨g, 0, none⟩), .agg #[.int .i64 p.first, .int .u8 46]] W fun e w' => e = .returned (.bool false) ∧ Below W.heap.size W w') := Lib.hid fun W h => by
            have := HH.out w5 W g bm vl (p.first, 46) HMK.out (okRow_small (by simp only; omega) (by simp only; omega)) h
            rw [has_none (fun hx => let_not46 HL.out hx.2.2 rfl)] at this
            exact this
          have C2 : RowKit.Hid (∀ W, Below w5.heap.size w5 W → Calls Tryd.prog 28 #[.pointer (some ⟨g, 0, none⟩), .agg #[.int .i64 (p.first - 1), .int .u8 (p.lets.data.toList.getD 0 0).toNat]] W fun e w' => e = .returned (.bool false) ∧ Below W.heap.size W w') := Lib.hid fun W h => by
            have := HH.out w5 W g bm vl (p.first - 1, p.lets.data.toList.getD 0 0) HMK.out (okRow_small (by simp only; omega) (by simp only; omega)) h
            rw [has_none (fun hx => by have := hx.1; simp only at this; omega)] at this
            exact this
          have C3 : RowKit.Hid (∀ W, Below w5.heap.size w5 W → Calls Tryd.prog 28 #[.pointer (some ⟨g, 0, none⟩), .agg #[.int .i64 (p.last + 1), .int .u8 (p.lets.data.toList.getD 0 0).toNat]] W fun e w' => e = .returned (.bool false) ∧ Below W.heap.size W w') := Lib.hid fun W h => by
            have := HH.out w5 W g bm vl (p.last + 1, p.lets.data.toList.getD 0 0) HMK.out (okRow_small (by simp only; omega) (by simp only; omega)) h
            rw [has_none (fun hx => by have := hx.2.1; simp only at this; omega)] at this
            exact this
          have HSX : RowKit.Hid (∀ W, Below w5.heap.size w5 W → W.cell? ⟨w.heap.size, 0, none⟩ = some (.int .i64 p.first) ∧ W.cell? ⟨w.heap.size, 1, none⟩ = some (.int .i64 p.last) ∧ W.cell? ⟨w.heap.size, 2, none⟩ = some (.string p.lets) ∧ Below w5.heap.size w5 W) := Lib.hid fun W h => by
            obtain ⟨d0, d1, d2, _, _⟩ := HST.out W h
            exact ⟨d0, d1, d2, h⟩
          generalize p.lets.data.toList.getD 0 0 = c0 at *
          go_upto_region 33 with fail
          have hS0 := HSX.out wr.drew hbw.drew
          clear b0 b1 b2 b3 b4
          go_region_held3 (fun W => W.cell? ⟨w.heap.size, 0, none⟩ = some (.int .i64 p.first) ∧ W.cell? ⟨w.heap.size, 1, none⟩ = some (.int .i64 p.last) ∧ W.cell? ⟨w.heap.size, 2, none⟩ = some (.string p.lets) ∧ Below w5.heap.size w5 W)
            (first
              | exact hS0
              | assumption
              | exact HSX.out _ (bel_trans (show _ ∧ _ ∧ _ ∧ Below w5.heap.size w5 _ by assumption).2.2.2 hc1)
              | exact HSX.out _ (bel_trans (show _ ∧ _ ∧ _ ∧ Below w5.heap.size w5 _ by assumption).2.2.2 hc2)
              | exact HSX.out _ (bel_trans (show _ ∧ _ ∧ _ ∧ Below w5.heap.size w5 _ by assumption).2.2.2 hc3))
            (first
              | (go_at_call 28; (with_reducible refine (C1.out _ (show _ ∧ _ ∧ _ ∧ Below w5.heap.size w5 _ by assumption).2.2.2).mono ?_); rintro e y1 ⟨rfl, hc1⟩)
              | (go_at_call 28; (with_reducible refine (C2.out _ (show _ ∧ _ ∧ _ ∧ Below w5.heap.size w5 _ by assumption).2.2.2).mono ?_); rintro e y2 ⟨rfl, hc2⟩)
              | (go_at_call 28; (with_reducible refine (C3.out _ (show _ ∧ _ ∧ _ ∧ Below w5.heap.size w5 _ by assumption).2.2.2).mono ?_); rintro e y3 ⟨rfl, hc3⟩))
          have hy : Below w5.heap.size w5 y3 := (show _ ∧ _ ∧ _ ∧ Below w5.heap.size w5 y3 by assumption).2.2.2
          go_wp2
          go_ret
          exact ⟨rfl, bel_trans HBZ.out hy⟩
end Go.Proofs.YtpmmjccdogjncaaDoor
