/- The law QueuePlays: the walk. -/
import Derived.Test.YtpfgmmmeofnkoaaQLawP
import Derived.Deep.LoopGhost
import Derived.Deep.CutRange
import Derived.Deep.CutBlock
import Derived.Laws.OwnMore
namespace Go.Proofs.Ytpfgmmmeofnkoaa
open Go.RowKit

theorem gby_trans {a b c : World} {row : Option Nat} (h : a.grownBy b row) (k : b.grownBy c row) : a.grownBy c row := by
  obtain ⟨h1, h2, h3, h4, h5⟩ := h
  obtain ⟨k1, k2, k3, k4, k5⟩ := k
  exact ⟨k1.trans h1, k2.trans h2, k3.trans h3, Nat.le_trans h4 k4, fun j hj hr => (k5 j (Nat.lt_of_lt_of_le hj h4) hr).trans (h5 j hj hr)⟩

theorem strV_cells {w : World} {b off : Nat} {l : List ByteArray} (h : ∀ j, j < l.length → w.cell? ⟨b, off + j, none⟩ = some (.string (l.getD j ByteArray.empty))) :
    ∀ (j : Nat) (u : Value), (strV l)[j]? = some u → w.cell? (Addr.add ⟨b, off, none⟩ j) = some u := by
  intro j u hj
  have hjl : j < l.length := by
    have := (List.getElem?_eq_some_iff.1 hj).1
    rwa [strV_len] at this
  rw [strV_get hjl] at hj
  injection hj with hj
  subst hj
  rw [Addr.add_lit]
  exact h j hjl

set_option maxRecDepth 20000 in
set_option maxHeartbeats 16000000 in
theorem queuePlays_walk (v : Value) (l : List ByteArray) (va : Value) (a : Nat × (Nat → Int) × (Nat → ByteArray)) (w : World) (h : Texts w v l) (ha : Acts w va a) :
    Calls Try.prog 5 #[v, va] w fun e w' => e = .returned (.bool true) ∧ Below w.heap.size w w' := by
  have HA : RowKit.Hid (∀ W, Calls Try.prog 7 #[] W fun e w' => e = .returned (.bool true) ∧ Below W.heap.size W w') := Lib.hid fun W => awake_any W
  have CF : ∀ W, HasL W v l → Calls Try.prog 8 #[v] W fun e w' => e = .returned (.bool (fewB l)) ∧ W = w' := fun W hh => few_any l v W hh h.2.1
  have HV : RowKit.Hid (HasL w v l) := Lib.hid h.1
  obtain ⟨n, K, S⟩ := a
  obtain ⟨pa, ca, rfl, hnm, hact⟩ := ha
  have HACT := Lib.hid hact
  clear hact
  cases hf : fewB l
  · rw [hf] at CF
    have HF := Lib.hid CF
    clear CF hf h
    go_enter Try.func5, Try.ntmps5
    go_wp2_with (first
      | (go_at_call 7; (with_reducible refine (HA.out _).mono ?_); rintro e w1 ⟨rfl, hb1⟩)
      | (go_at_call 8; (with_reducible refine (HF.out _ (HV.out.mono hb1)).mono ?_); rintro e w2 ⟨rfl, rfl⟩))
    go_ret
    exact ⟨rfl, hb1⟩
  · have h5 := fewB_len hf
    rw [hf] at CF
    have HF := Lib.hid CF
    clear CF hf
    by_cases hg : 200 < n
    · have g1 : (200 : Int) < (n : Int) := by omega
      clear h
      go_enter Try.func5, Try.ntmps5
      go_wp2_with (first
        | (go_at_call 7; (with_reducible refine (HA.out _).mono ?_); rintro e w1 ⟨rfl, hb1⟩)
        | (go_at_call 8; (with_reducible refine (HF.out _ (HV.out.mono hb1)).mono ?_); rintro e w2 ⟨rfl, rfl⟩))
      go_ret
      exact ⟨rfl, hb1⟩
    · have g1 : ¬ (200 : Int) < (n : Int) := by omega
      obtain ⟨i0, hi, hz0, hz1, hz2⟩ := str_info
      have hnm2 : n ≤ 200 := by omega
      clear h hg hnm
      go_enter Try.func5, Try.ntmps5
      go_wp2_with (first
        | (go_at_call 7; (with_reducible refine (HA.out _).mono ?_); rintro e w1 ⟨rfl, hb1⟩)
        | (go_at_call 8; (with_reducible refine (HF.out _ (HV.out.mono hb1)).mono ?_); rintro e w2 ⟨rfl, rfl⟩))
      clear HF
      have hq1 := HV.out.mono hb1
      clear HV g1
      go_loopg [0, 5] n (fun g q i wr => ∃ (k : Nat) (l : List ByteArray), k ≤ n ∧ g = n - k ∧ Below w.heap.size w wr ∧ i = .int .i64 k ∧ HasL wr q l ∧ l.length ≤ 5040)
      case atStart => exact ⟨0, l, Nat.zero_le _, rfl, hb1, rfl, hq1, by omega⟩
      case round =>
        obtain ⟨k, l, hk, rfl, hb, rfl, hq, hl⟩ := hrel
        by_cases hlt : k < n
        · have hki : (k : Int) < (n : Int) := by omega
          have hk0 : (0 : Int) ≤ (k : Int) := by omega
          obtain ⟨p, c, rfl⟩ := own_len hq
          have HQ := Lib.hid hq
          clear hq
          go_upto_region 8 with fail
          go_cut [6] from 25 to 136 (fun s6 wx => OwnL wx wr.heap.size s6 l ∧ Below wr.heap.size wr wx)
          case first =>
            rcases HQ.out with ⟨_, _, e1, rfl, hpn⟩ | ⟨bq, oq, cq, e1, h1, h2, h3⟩
            · injection e1 with e1 _ e3
              subst e1
              subst e3
              cases p with
              | none =>
                have hc0 := hpn rfl
                subst hc0
                simp only [List.length_nil] at *
                go_wp2_with (first
                  | (at_make; refine wpList_make_own _ rfl _ _ 22 rfl wr.heap.size 9 i0 (.string ⟨#[]⟩) 1 Try.underlying22 hi hz0 hz1 .i64 .i64 _ 2 rfl rfl (by first | rfl | omega) (by rw [hz2]; omega) (by unfold maxLen; omega) (Nat.le_refl _) ?_; intro w3 ho3 hg3)
                  | (at_builtin; refine wpList_append_own_none rfl _ _ 22 rfl wr.heap.size 9 i0 1 Try.underlying22 hi hz1 _ 0 [] rfl ho3 rfl ?_))
                go_meet
                exact ⟨ho3, (Below.refl _ _).grown hg3 (Nat.le_refl _) (by intro j hj; simp at hj)⟩
              | some ad =>
                go_wp2_with (first
                  | (at_make; refine wpList_make_own _ rfl _ _ 22 rfl wr.heap.size 9 i0 (.string ⟨#[]⟩) 1 Try.underlying22 hi hz0 hz1 .i64 .i64 _ 2 rfl rfl (by first | rfl | omega) (by rw [hz2]; omega) (by unfold maxLen; omega) (Nat.le_refl _) ?_; intro w3 ho3 hg3)
                  | (at_builtin; refine wpList_append_own _ rfl _ _ 22 rfl wr.heap.size 9 i0 (.string ⟨#[]⟩) 1 16 Try.underlying22 hi hz0 hz1 hz2 rfl (by decide) _ 0 [] rfl ho3 ad 0 c [] rfl (by rfl) (by simp) (by simp) (by unfold maxLen; omega) (by omega) hg3.size ?_; intro v4 w4 ho4 hg4 hnil4))
                go_meet
                exact ⟨by simpa [OwnL, strV] using ho4, ((Below.refl _ _).grown hg3 (Nat.le_refl _) (by intro j hj; simp at hj)).grown hg4 hg3.size (by intro j hj; have e : some wr.heap.size = some j := hj; injection e with e; omega)⟩
            · injection e1 with e1 _ e3
              subst e1
              subst e3
              have H3 := Lib.hid h3
              have hsl := strV_len l
              clear h3
              go_wp2_with (first
                | (at_make; refine wpList_make_own _ rfl _ _ 22 rfl wr.heap.size 9 i0 (.string ⟨#[]⟩) 1 Try.underlying22 hi hz0 hz1 .i64 .i64 _ (l.length + 2) rfl rfl (by first | rfl | omega) (by rw [hz2]; omega) (by unfold maxLen; omega) (Nat.le_refl _) ?_; intro w3 ho3 hg3)
                | (at_builtin; refine wpList_append_own _ rfl _ _ 22 rfl wr.heap.size 9 i0 (.string ⟨#[]⟩) 1 16 Try.underlying22 hi hz0 hz1 hz2 rfl (by decide) _ 0 [] rfl ho3 ⟨bq, oq, none⟩ l.length c (strV l) rfl (by omega) (strV_cells fun j hj => hg3.cell (H3.out j hj) (by simp)) strV_one (by unfold maxLen; omega) (by omega) hg3.size ?_; intro v4 w4 ho4 hg4 hnil4))
              go_meet
              exact ⟨by simpa [OwnL] using ho4, ((Below.refl _ _).grown hg3 (Nat.le_refl _) (by intro j hj; simp at hj)).grown hg4 hg3.size (by intro j hj; have e : some wr.heap.size = some j := hj; injection e with e; omega)⟩
          case rest =>
            obtain ⟨ho3, hb3⟩ := hcut
            have HO3 := Lib.hid ho3
            clear ho3
            obtain ⟨b2, off2, rfl, c1, c2, hwf, hsz⟩ := HACT.out k hlt
            have c1 := cell_bel (hb.trans (hb3.mono hb.size)) c1
            have c2 := cell_bel (hb.trans (hb3.mono hb.size)) c2
            obtain ⟨wm, rfl⟩ : ∃ x : World, x = wc := ⟨_, rfl⟩
            obtain ⟨ok, hok⟩ : ∃ ok, ok = decide (0 < l.length) := ⟨_, rfl⟩
            obtain ⟨hd, hhd⟩ : ∃ hd, hd = headS l := ⟨_, rfl⟩
            have HCH : RowKit.Hid (∀ W, Below wm.heap.size wm W → Calls Try.prog 9 #[u6] W fun e w' => e = .returned (.tuple #[.string hd, .bool ok]) ∧ W = w') := Lib.hid fun W h => by
              rw [hok, hhd]
              exact head_any l u6 W (HO3.out.mono h).has (by omega)
            have HFIRST : RowKit.Hid ((ok = true ∧ (0 : Int) < (l.length : Int) ∧ 0 < l.length ∧ ∃ b4 o4, p = some ⟨b4, o4, none⟩ ∧ wm.cell? ⟨b4, o4, none⟩ = some (.string hd)) ∨ (ok = false ∧ ¬ (0 : Int) < (l.length : Int) ∧ hd = ⟨#[]⟩)) := Lib.hid (by
              rw [hok, hhd]
              cases l with
              | nil => exact .inr ⟨rfl, by simp, rfl⟩
              | cons x t =>
                left
                rcases HQ.out.mono hb3 with ⟨_, _, _, e, _⟩ | ⟨b4, o4, c4, e, _, _, h4⟩
                · cases e
                · injection e with e _ _
                  refine ⟨by simp, by simp only [List.length_cons]; omega, by simp, b4, o4, e, ?_⟩
                  have := h4 0 (by simp)
                  simpa [headS] using this)
            clear hok hhd
            generalize K k = kd at *
            generalize S k = sd at *
            go_upto_region 11 with (first
              | (go_at_call 9; (with_reducible refine (HCH.out _ ((Below.refl _ _).alloc (Nat.le_refl _) _)).mono ?_); rintro e w5 ⟨rfl, rfl⟩))
            clear HCH
            go_cut [0, 68] from 25 to 136 (fun s0 s68 wx => s0 = .slice p l.length c ∧ s68 = .bool false ∧ wm.alloc (Obj.cells #[.int .i64 kd, .string sd] 39) = wx)
            case first =>
              clear hl
              generalize l.length = N at *
              rcases HFIRST.out with ⟨rfl, f1, f2, b4, o4, rfl, f3⟩ | ⟨rfl, f1, rfl⟩
              · have f4 : (wm.alloc (Obj.cells #[.int .i64 kd, .string sd] 39)).cell? ⟨b4, o4, none⟩ = some (.string hd) := Lib.cell?_alloc_some _ f3
                go_wp2_with fail
                go_meet
                exact ⟨rfl, rfl, rfl⟩
              · have e0 : N = 0 := by omega
                go_wp2_with fail
                go_meet
                exact ⟨by rw [e0], rfl, rfl⟩
            case rest =>
              obtain ⟨rfl, rfl, rfl⟩ := hcut
              clear HFIRST
              go_upto_if 71 with fail
              go_cut [] from 25 to 136 (fun wx => ∃ sd', (kd = 0 → sd'.size ≤ maxLen) ∧ wx.cell? ⟨wm.heap.size, 0, none⟩ = some (.int .i64 kd) ∧ wx.cell? ⟨wm.heap.size, 1, none⟩ = some (.string sd') ∧ Below wm.heap.size wm wx)
              case first =>
                by_cases h3 : kd = 3
                · have h3b : (kd == 3) = true := by rw [h3]; rfl
                  go_wp2_with fail
                  go_meet
                  exact ⟨hd, fun h => by omega, by simp [h3], by simp, (Below.refl _ _).alloc (Nat.le_refl _) _⟩
                · have h3b : (kd == 3) = false := by rw [beq_eq_false_iff_ne]; exact h3
                  go_wp2_with fail
                  go_meet
                  exact ⟨sd, fun _ => hsz, by simp, by simp, (Below.refl _ _).alloc (Nat.le_refl _) _⟩
              case rest =>
                obtain ⟨sx, hsx, x1, x2, hbx⟩ := hcut
                obtain ⟨wa, rfl⟩ : ∃ x : World, x = wc := ⟨_, rfl⟩
                have hbm := bel_trans hb3 hbx
                have HL : RowKit.Hid (∀ W, Below wa.heap.size wa W → HasL W (.slice p l.length c) l) := Lib.hid fun W h => (HQ.out.mono hbm).mono h
                have HM : RowKit.Hid (∀ W, Below wa.heap.size wa W → OwnL W wr.heap.size u6 l) := Lib.hid fun W h => (HO3.out.mono hbx).mono h
                have HMB : ∀ j, u6.ownBlock = some j → j < wm.heap.size := fun j h => (World.ownsRow.lt HO3.out j h).2
                clear HO3 HQ c1 c2 hsz hwf
                have hll : l.length ≤ 100000 := by omega
                have hll2 : l.length ≤ 1000000 := by omega
                have hlwa := hbx.size
                go_upto_block 2 with fail
                go_cut [10, 11, 12, 13] from 25 to 136 (fun s10 s11 s12 s13 wx => ∃ (l' : List ByteArray) (b1 b2 : Nat) (e : Int), s12 = .int .i64 e ∧ s13 = .int .i64 e ∧ OwnL wx b1 s10 l' ∧ wa.heap.size ≤ b1 ∧ OwnL wx b2 s11 l' ∧ (s11.ownBlock = none ∨ s11.ownBlock ≠ s10.ownBlock) ∧ Below wa.heap.size wa wx ∧ l'.length ≤ 5040)
                case first =>
                  by_cases k0 : kd = 0
                  · have kb : (kd == 0) = true := by rw [k0]; rfl
                    have hss := hsx k0
                    have hpl := putL_len l sx
                    have C1 : RowKit.Hid (∀ W, Below wa.heap.size wa W → _) := Lib.hid fun W h => put_any l u6 sx W (HM.out W h).has hll2 hss
                    have C2 : RowKit.Hid (∀ W, Below wa.heap.size wa W → _) := Lib.hid fun W h => rput_any l _ sx W (HL.out W h) hll2 hss
                    generalize putL l sx = F at *
                    generalize putE l sx = E at *
                    clear hsx k0
                    go_wp2_with (first
                      | (go_at_call 16; refine (C1.out _ (Below.refl _ _)).mono ?_; rintro e w5 ⟨v5, rfl, ho5, hb5⟩; have HO5 := Lib.hid ho5; clear ho5; have y2 := cell_bel hb5 x2)
                      | (go_at_call 17; refine (C2.out _ hb5).mono ?_; rintro e w6 ⟨v6, rfl, ho6, hb6⟩; have HO6 := Lib.hid ho6; clear ho6))
                    go_meet
                    exact ⟨F, _, _, E, rfl, rfl, HO5.out.mono hb6, Nat.le_refl _, HO6.out, own_apart HO5.out HO6.out, bel_trans hb5 hb6, by omega⟩
                  · have kb : (kd == 0) = false := by rw [beq_eq_false_iff_ne]; exact k0
                    by_cases k1 : kd = 1
                    · have kb1 : (kd == 1) = true := by rw [k1]; rfl
                      have hpl := nextL_len l
                      have C1 : RowKit.Hid (∀ W, Below wa.heap.size wa W → _) := Lib.hid fun W h => next_any l u6 W (HM.out W h).has hll2
                      have C2 : RowKit.Hid (∀ W, Below wa.heap.size wa W → _) := Lib.hid fun W h => rnext_any l _ W (HL.out W h) hll
                      generalize nextL l = F at *
                      clear hsx k0 k1
                      go_wp2_with (first
                        | (go_at_call 10; refine (C1.out _ (Below.refl _ _)).mono ?_; rintro e w5 ⟨v5, rfl, ho5, hb5⟩; have HO5 := Lib.hid ho5; clear ho5)
                        | (go_at_call 18; refine (C2.out _ hb5).mono ?_; rintro e w6 ⟨v6, rfl, ho6, hb6⟩; have HO6 := Lib.hid ho6; clear ho6))
                      go_meet
                      exact ⟨F, _, _, 0, rfl, rfl, HO5.out.mono hb6, Nat.le_refl _, HO6.out, own_apart HO5.out HO6.out, bel_trans hb5 hb6, by omega⟩
                    · have kb1 : (kd == 1) = false := by rw [beq_eq_false_iff_ne]; exact k1
                      have hpl := remL_len l sx
                      have C1 : RowKit.Hid (∀ W, Below wa.heap.size wa W → _) := Lib.hid fun W h => remove_any l u6 sx W (HM.out W h).has hll
                      have C2 : RowKit.Hid (∀ W, Below wa.heap.size wa W → _) := Lib.hid fun W h => rremove_any l _ sx W (HL.out W h) hll
                      generalize remL l sx = F at *
                      generalize remE l sx = E at *
                      clear hsx k0 k1
                      go_wp2_with (first
                        | (go_at_call 19; refine (C1.out _ (Below.refl _ _)).mono ?_; rintro e w5 ⟨v5, rfl, ho5, hb5⟩; have HO5 := Lib.hid ho5; clear ho5; have y2 := cell_bel hb5 x2)
                        | (go_at_call 20; refine (C2.out _ hb5).mono ?_; rintro e w6 ⟨v6, rfl, ho6, hb6⟩; have HO6 := Lib.hid ho6; clear ho6))
                      go_meet
                      exact ⟨F, _, _, E, rfl, rfl, HO5.out.mono hb6, Nat.le_refl _, HO6.out, own_apart HO5.out HO6.out, bel_trans hb5 hb6, by omega⟩
                case rest =>
                  obtain ⟨F, B1, B2, E, rfl, rfl, ho1, hB1, ho2, hap, hbf, hFl⟩ := hcut
                  clear x1 x2 hsx
                  obtain ⟨wb, rfl⟩ : ∃ x : World, x = wc := ⟨_, rfl⟩
                  obtain ⟨q, cq, rfl⟩ := own_len ho1.has
                  have hBl : ∀ j, (Value.slice q F.length cq).ownBlock = some j → B1 ≤ j := fun j h => (World.ownsRow.lt ho1 j h).1
                  have CS1 : RowKit.Hid (∀ W, Below wb.heap.size wb W → Calls Try.prog 11 #[.slice q F.length cq, u11] W fun e w' => e = .returned (.bool true) ∧ Below W.heap.size W w') := Lib.hid fun W h => same_true F _ _ W (ho1.mono h).has (ho2.mono h).has (by omega)
                  have HO1 : RowKit.Hid (wb.ownsRow B1 9 1 (.slice q F.length cq) F.length (strV F)) := Lib.hid ho1
                  have HO2 := Lib.hid ho2
                  have hEn : (E != E) = false := by simp
                  clear ho1 ho2
                  generalize hN : F.length = N at *
                  have HN := Lib.hid hN
                  clear hN
                  go_wp2_with (first
                    | (go_at_call 11; refine (CS1.out _ (Below.refl _ _)).mono ?_; rintro e w7 ⟨rfl, hb7⟩))
                  go_loopg [14] N (fun g i wx => ∃ (j : Nat) (xs : List Value), j ≤ N ∧ g = N - j ∧ i = .int .i64 j ∧ wx.ownsRow B1 9 1 (.slice q N cq) N xs ∧ w7.grownBy wx (Value.slice q N cq).ownBlock)
                  case atStart => exact ⟨0, strV F, Nat.zero_le _, rfl, rfl, World.ownsRow.kept HO1.out (gr_of_below hb7 none) (by cases hv : (Value.slice q N cq).ownBlock <;> simp), World.grownBy.refl _ _⟩
                  case round =>
                    obtain ⟨j, xs, hj, rfl, rfl, hrow, hgr⟩ := hrel
                    by_cases hjl : j < N
                    · rcases hrow.2 with ⟨h, _⟩ | ⟨gg, cap, cur, e1, _⟩
                      · injection h with _ h _
                        omega
                      injection e1 with e1 _ e3
                      subst e1
                      subst e3
                      have hxl := hrow.1
                      obtain ⟨u, hu⟩ : ∃ u, xs[j]? = some u := ⟨_, List.getElem?_eq_getElem (by omega)⟩
                      have hx := hrow.cellAt j (by omega)
                      rw [hu] at hx
                      have hfz := hrow.frozenAt j
                      have hst := Lib.hid (hrow.stored j (.string ⟨#[63]⟩))
                      have hji : (j : Int) < (N : Int) := by omega
                      have hj0 : (0 : Int) ≤ (j : Int) := by omega
                      clear hu hrow
                      go_wp2
                      go_roundg (N - (j + 1))
                      case measure => omega
                      case rel => exact ⟨j + 1, _, by omega, rfl, by go_num, hst.out.1, gby_trans hgr hst.out.2⟩
                    · have hjn : j = N := by omega
                      subst hjn
                      have hbx8 : Below wa.heap.size wa wr := (bel_trans hbf hb7).grown hgr (bel_trans hbf hb7).size fun i hi => Nat.le_trans hB1 (hBl i hi)
                      have hm8 : OwnL wr _ u6 l := (HM.out _ (bel_trans hbf hb7)).grown hgr (by
                        cases h6 : u6.ownBlock with
                        | none => exact .inl rfl
                        | some i =>
                          right
                          intro e
                          have := HMB i h6
                          have := hBl i e.symm
                          omega)
                      have hw8 : OwnL wr _ u11 F := (HO2.out.mono hb7).grown hgr hap
                      have CS2 : RowKit.Hid (Calls Try.prog 11 #[u6, .slice p l.length c] wr fun e w' => e = .returned (.bool true) ∧ Below wr.heap.size wr w') := Lib.hid (same_true l _ _ wr hm8.has (HL.out _ hbx8) hll2)
                      have HW8 := Lib.hid hw8.has
                      have HL8 := Lib.hid (HL.out _ hbx8)
                      have hb8 := bel_trans (bel_trans hb hbm) hbx8
                      clear hm8 hw8 hrow
                      by_cases hE : E = 0
                      · have hEb : (E == 0) = true := by rw [hE]; rfl
                        clear hE
                        go_wp2_with (first
                          | (go_at_call 11; refine CS2.out.mono ?_; rintro e w9 ⟨rfl, hb9⟩))
                        go_roundg (n - (k + 1))
                        case measure => omega
                        case rel => exact ⟨k + 1, F, by omega, rfl, bel_trans hb8 hb9, by go_num, HW8.out.mono hb9, by have := HN.out; omega⟩
                      · have hEb : (E == 0) = false := by rw [beq_eq_false_iff_ne]; exact hE
                        clear hE
                        go_wp2_with (first
                          | (go_at_call 11; refine CS2.out.mono ?_; rintro e w9 ⟨rfl, hb9⟩))
                        go_roundg (n - (k + 1))
                        case measure => omega
                        case rel => exact ⟨k + 1, l, by omega, rfl, bel_trans hb8 hb9, by go_num, HL8.out.mono hb9, by omega⟩
        · have hkn : k = n := by omega
          subst hkn
          go_wp2
          go_ret
          exact ⟨rfl, hb⟩
end Go.Proofs.Ytpfgmmmeofnkoaa
