/- What is shown of a place: the reference's. -/
import Derived.Test.YtahghakpmjfefaaDoorKN
import Derived.Test.YtahghakpmjfefaaDoorPlnT
namespace Go.Proofs.YtahghakpmjfefaaDoor.Sh
open Go.RowKit Go.ChangeMaps En
set_option linter.unusedSimpArgs false
set_option linter.unusedVariables false
set_option maxRecDepth 20000

theorem lit_seat (d : Nat) (s : St) (h : okRow s.1) : Tryd.prog.keyLits (d + 2) 80 [.int .i64 s.1, .int .u8 s.2.toNat] = some [.int .i64 s.1, .int .u8 s.2.toNat] := by
  have he : ∃ f0 f1 : Field, Tryd.prog.underlying 80 = some (.struct #[f0, f1]) ∧ f0.offset = 0 ∧ f1.offset = 1 ∧ f0.type = 3 ∧ f1.type = 5 ∧ (f0.name != "_") = true ∧ (f1.name != "_") = true := ⟨_, _, Tryd.underlying80, rfl, rfl, rfl, rfl, rfl, rfl⟩
  obtain ⟨f0, f1, he, o0, o1, t0, t1, n0, n1⟩ := he
  have hc : Tryd.prog.cellsOf 80 = 2 := by kernel_rfl
  have c0 : Tryd.prog.cellsOf 3 = 1 := by kernel_rfl
  have c1 : Tryd.prog.cellsOf 5 = 1 := by kernel_rfl
  have h0 : Tryd.prog.keyLits (d + 1) 3 [.int .i64 s.1] = some [.int .i64 s.1] := by
    unfold Program.keyLits
    simp only [Tryd.underlying3]
    rw [if_pos ⟨trivial, h⟩]
  have h1 : Tryd.prog.keyLits (d + 1) 5 [.int .u8 s.2.toNat] = some [.int .u8 s.2.toNat] := by
    unfold Program.keyLits
    simp only [Tryd.underlying5]
    rw [if_pos ⟨trivial, u8_wf s.2⟩]
  unfold Program.keyLits
  simp [he, hc, o0, o1, t0, t1, c0, c1, n0, n1, h0, h1]
theorem key_seat : Tryd.prog.keyTypeAt 2 80 = true := by kernel_rfl
/-- Two seats are equal just if they are. -/
theorem st_eq (a b : St) (ha : okRow a.1) (hb : okRow b.1) (w : World) : (Op.equalIn 10000 80 (.agg #[.int .i64 a.1, .int .u8 a.2.toNat]) (.agg #[.int .i64 b.1, .int .u8 b.2.toNat])).run Tryd.prog w = .ok (decide (a = b)) w := by
  have hf : ∀ s : St, (Value.agg #[.int .i64 s.1, .int .u8 s.2.toNat]).formed Tryd.prog 80 = true := by
    intro s
    have he : ∃ f : Array Field, Tryd.prog.underlying 80 = some (.struct f) := ⟨_, Tryd.underlying80⟩
    obtain ⟨f, he⟩ := he
    have hc : Tryd.prog.cellsOf 80 = 2 := by kernel_rfl
    simp [Value.formed, he, hc]
  obtain ⟨r, hr, hiff⟩ := run_equalIn_deep (P := Tryd.prog) 9998 2 80 key_seat w 2 2 _ _ _ _ (hf a) (hf b) (lit_seat 0 a ha) (lit_seat 0 b hb)
  have e : r = decide (a = b) := by
    have key : ([.int .i64 a.1, .int .u8 (a.2.toNat : Int)] : List Lit) = [.int .i64 b.1, .int .u8 (b.2.toNat : Int)] ↔ a = b := by
      constructor
      · intro h
        simp at h
        obtain ⟨h1, h2⟩ := h
        exact Prod.ext h1 (UInt8.toNat_inj.1 (by omega))
      · rintro rfl
        rfl
    cases r
    · symm
      rw [decide_eq_false_iff_not]
      intro e
      have := hiff.2 (key.2 e)
      cases this
    · symm
      rw [decide_eq_true_eq]
      exact key.1 (hiff.1 rfl)
  rw [← e]
  exact hr

theorem who_none {held : List HeT} {s : St} {i : Nat} (hi : i = held.length) (h : ∀ j, j < i → (held.getD j hl0).1 ≠ s) : whoH held s = none := by
  unfold whoH
  rw [List.find?_eq_none]
  intro x hx
  obtain ⟨j, hj, rfl⟩ := List.mem_iff_getElem.1 hx
  have := h j (by omega)
  rw [List.getD_eq_getElem?_getD, List.getElem?_eq_getElem hj] at this
  simpa using this
theorem who_first {s : St} : ∀ {held : List HeT} {i : Nat}, i < held.length → (∀ j, j < i → (held.getD j hl0).1 ≠ s) → (held.getD i hl0).1 = s → whoH held s = some (held.getD i hl0)
  | a :: t, 0, _, _, h => by
    rw [whoH_cons]
    have h : a.1 = s := h
    rw [if_pos h]
    rfl
  | a :: t, i + 1, hi, hn, h => by
    rw [whoH_cons]
    have h0 : ¬ a.1 = s := hn 0 (Nat.succ_pos _)
    rw [if_neg h0]
    exact who_first (held := t) (i := i) (by simpa using hi) (fun j hj => hn (j + 1) (by omega)) h

set_option maxHeartbeats 8000000 in
theorem mark_any (p : Pl) (l : List UInt8) (ve vb vh : Value) (held : List HeT) (loc : ByteArray) (s : St) (w : World) (hk : OkP p l) (hb : HasE stC w vb p.bks) (hh : HasE heC w vh held) (hhl : held.length ≤ 1000) (hs : okRow s.1) (hok : ∀ x ∈ held, okRow x.1.1) :
    Calls Tryd.prog 46 #[planV p ve vb, seatK_c s, vh, .string loc] w fun e w' => e = .returned (.string ⟨#[markC p l held loc s]⟩) ∧ Below w.heap.size w w' := by
  have HHS : RowKit.Hid (∀ W, Below w.heap.size w W → Calls Tryd.prog 64 #[planV p ve vb, seatK_c s] W fun e w' => e = .returned (.bool (hasB p l s)) ∧ Below W.heap.size W w') := Lib.hid fun W hW => rhas_any p ve vb s l W hk (hb.mono hW)
  have HWN : RowKit.Hid (∀ i, i = held.length → (∀ j, j < i → (held.getD j hl0).1 ≠ s) → whoH held s = none) := Lib.hid fun i h1 h2 => who_none h1 h2
  have HWF : RowKit.Hid (∀ i, i < held.length → (∀ j, j < i → (held.getD j hl0).1 ≠ s) → (held.getD i hl0).1 = s → whoH held s = some (held.getD i hl0)) := Lib.hid fun i h1 h2 h3 => who_first h1 h2 h3
  have HOK := Lib.hid hok
  have HSO := Lib.hid hs
  have HH := Lib.hid hh
  obtain ⟨ph, ch, rfl⟩ := hh.len
  have HBL := Lib.hid (planC_blk w p ve vb)
  have hb1 : Below w.heap.size w (w.alloc (.cells (planC p ve vb).toArray 53)) := (Below.refl _ _).alloc (Nat.le_refl _) _
  obtain ⟨r, c⟩ := s
  unfold planC at HBL hb1
  unfold planV seatK_c seatV at HHS ⊢
  simp only [List.toArray] at HBL hb1 HHS ⊢
  generalize hw1 : w.alloc (.cells #[.int .i64 p.first, .int .i64 p.last, .string p.lets, ve, vb] 53) = w1 at HBL hb1
  obtain ⟨w2, e2, k1, k2, kb, ks⟩ := seat_boxed w1 r c
  have HB2 := Lib.hid (bel_trans hb1 kb)
  have hr2 := (HBL.out.mono kb).range
  generalize hNH : held.length = NH at *
  have HNH := Lib.hid hNH
  clear hk hb hh hNH hb1 kb ks hs hok
  generalize hw1s : w1.heap.size = g1 at *
  go_enter Tryd.func46, Tryd.ntmps46
  go_upto_region 1 with fail
  try rw [hw1]
  try rw [hw1s]
  try rw [e2]
  clear hw1 e2
  by_cases h46 : c.toNat = 46
  · have hc : ((c.toNat : Int) == 46) = true := by rw [h46]; rfl
    have HK : RowKit.Hid (markC p l held loc (r, c) = 32) := Lib.hid (mark_dot (s := (r, c)) h46)
    clear h46
    go_wp2
    go_ret
    exact ⟨by rw [HK.out]; rfl, HB2.out⟩
  have hc : ((c.toNat : Int) == 46) = false := by rw [beq_eq_false_iff_ne]; omega
  have HN := Lib.hid h46
  have HC2 := Lib.hid (HHS.out w2 HB2.out)
  clear h46
  cases hB : hasB p l (r, c) with
  | false =>
    have HK : RowKit.Hid (markC p l held loc (r, c) = 35) := Lib.hid (mark_none (s := (r, c)) HN.out hB)
    rw [hB] at HC2
    clear hB
    go_wp2_with (first
      | (refine wpList_load_mid rfl 53 (.tmp 4) rfl w.heap.size 0 rfl _ _ hr2 Tryd.underlying53 rfl info_plan2 ?_)
      | (go_at_call 64; (with_reducible refine HC2.out.mono ?_); rintro e w3 ⟨rfl, hb3⟩))
    go_ret
    exact ⟨by rw [HK.out]; rfl, bel_trans HB2.out hb3⟩
  | true =>
    have HHB := Lib.hid hB
    rw [hB] at HC2
    clear hB
    go_upto_region 5 with (first
      | (refine wpList_load_mid rfl 53 (.tmp 4) rfl w.heap.size 0 rfl _ _ hr2 Tryd.underlying53 rfl info_plan2 ?_)
      | (go_at_call 64; (with_reducible refine HC2.out.mono ?_); rintro e w3 ⟨rfl, hb3⟩))
    have HB3 := Lib.hid (bel_trans HB2.out hb3)
    have HKS : RowKit.Hid (∀ W, Below w3.heap.size w3 W → W.cell? ⟨g1, 0, none⟩ = some (.int .i64 r) ∧ W.cell? ⟨g1, 1, none⟩ = some (.int .u8 c.toNat)) := Lib.hid fun W h => ⟨cell_bel (bel_trans hb3 h) k1, cell_bel (bel_trans hb3 h) k2⟩
    clear hb3 k1 k2 hr2 HC2
    go_wp2
    go_loopg [9] NH (fun g0 s9 wr => ∃ i : Nat, i ≤ NH ∧ g0 = NH - i ∧ s9 = .int .i64 (i : Int) ∧ Below w3.heap.size w3 wr ∧ RowKit.Hid (∀ j, j < i → (held.getD j hl0).1 ≠ (r, c)))
    case atStart => exact ⟨0, Nat.zero_le _, rfl, rfl, Below.refl _ _, Lib.hid fun j hj => absurd hj (Nat.not_lt_zero _)⟩
    case round =>
      obtain ⟨i, hiN, rfl, rfl, hbw, HNO⟩ := hrel
      rename World => wr
      have HBW := Lib.hid hbw
      clear hbw
      by_cases hlt : i < NH
      · have hii : (i : Int) < (NH : Int) := by omega
        have hi0 : (0 : Int) ≤ (i : Int) := by omega
        have hiN2 : i < held.length := by rw [HNH.out]; exact hlt
        obtain ⟨bb, of2, rfl, y0, y1, y2, y3⟩ := he_at (HH.out.mono (bel_trans HB3.out HBW.out)) hiN2
        have HFX : RowKit.Hid ((held.getD i hl0).1 = (r, c) → whoH held (r, c) = some (held.getD i hl0)) := Lib.hid fun h => HWF.out i (by omega) HNO.out h
        have HNX : RowKit.Hid (¬ (held.getD i hl0).1 = (r, c) → ∀ j, j < i + 1 → (held.getD j hl0).1 ≠ (r, c)) := Lib.hid fun h j hj => by
          rcases Nat.lt_or_ge j i with h1 | h1
          · exact HNO.out j h1
          · have : j = i := by omega
            subst this
            exact h
        have HOX := Lib.hid (HOK.out _ (List.mem_of_getElem? (getD_at hl0 hiN2)))
        generalize held.getD i hl0 = x at *
        obtain ⟨⟨xr, xc⟩, xl, xp⟩ := x
        simp only at y0 y1 y2 y3
        obtain ⟨x0, x1⟩ := HKS.out wr HBW.out
        go_upto_region 8 with fail
        have heq := st_eq (xr, xc) (r, c) HOX.out HSO.out
        simp only at heq
        by_cases he : (xr, xc) = (r, c)
        · have hed : decide ((xr, xc) = (r, c)) = true := decide_eq_true he
          rw [hed] at heq
          have HWH := Lib.hid (HFX.out he)
          clear he hed HNX HFX
          by_cases hlo : xl = loc
          · have hle : (xl.toList == loc.toList) = true := by rw [hlo]; exact beq_self_eq_true _
            have HK : RowKit.Hid (markC p l held loc (r, c) = 43) := Lib.hid (mark_mine (s := (r, c)) HN.out HHB.out (by rw [HWH.out]; rfl) (by unfold hoOf; rw [HWH.out]; exact hlo))
            clear hlo
            go_quiet (fail)
            go_wp2
            go_ret
            exact ⟨by rw [HK.out]; rfl, bel_trans HB3.out (below_drewN HBW.out nq)⟩
          · have hle : (xl.toList == loc.toList) = false := by rw [beq_eq_false_iff_ne]; exact fun e => hlo (toList_inj e)
            have HK : RowKit.Hid (markC p l held loc (r, c) = 88) := Lib.hid (mark_other (s := (r, c)) HN.out HHB.out (by rw [HWH.out]; rfl) (by unfold hoOf; rw [HWH.out]; exact hlo))
            clear hlo
            go_quiet (fail)
            go_upto_region 10 with fail
            go_quiet (fail)
            go_wp2
            go_ret
            exact ⟨by rw [HK.out]; rfl, bel_trans HB3.out (by first | exact below_drewN HBW.out _ | exact below_drewN (below_drewN HBW.out _) _ | exact below_drewN (below_drewN HBW.out _).drew _ | exact (below_drewN (below_drewN HBW.out _) _).drew)⟩
        · have hed : decide ((xr, xc) = (r, c)) = false := decide_eq_false he
          rw [hed] at heq
          have HNN := Lib.hid (HNX.out he)
          clear he hed HNX HFX
          go_quiet (fail)
          go_upto_region 10 with fail
          go_quiet (fail)
          go_wp2
          go_roundg (NH - (i + 1))
          case measure => omega
          case rel => exact ⟨i + 1, by omega, rfl, by go_num, (by first | exact below_drewN HBW.out _ | exact below_drewN (below_drewN HBW.out _) _ | exact below_drewN (below_drewN HBW.out _).drew _), HNN⟩
      · have hie : i = NH := by omega
        subst hie
        have hii : ¬ (i : Int) < (i : Int) := by omega
        have HK : RowKit.Hid (markC p l held loc (r, c) = 111) := Lib.hid (mark_free (s := (r, c)) HN.out HHB.out (by rw [HWN.out i rfl HNO.out]; rfl))
        go_wp2
        go_ret
        exact ⟨by rw [HK.out]; rfl, bel_trans HB3.out HBW.out⟩
end Go.Proofs.YtahghakpmjfefaaDoor.Sh
