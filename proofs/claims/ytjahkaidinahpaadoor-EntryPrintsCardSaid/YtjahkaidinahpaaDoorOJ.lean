/- Entries: the reference's begin (printed by gen_rpart2.py). -/
import Derived.Test.YtjahkaidinahpaaDoorOG
namespace Go.Proofs.YtjahkaidinahpaaDoor.En
open Go.RowKit
set_option linter.unusedSimpArgs false
set_option linter.unusedVariables false
set_option maxRecDepth 20000

set_option maxHeartbeats 4000000 in
theorem rbegin_m (b : Nat) (s : ByteArray) (w : World) (hs : s.size ≤ maxLen) (hc : RS w b s 0 cmd0 (0, 0)) :
    Calls Tryd.prog 65 #[.pointer (some ⟨b, 0, none⟩)] w fun e w' => e = .returned (.tuple #[]) ∧ RS w' b s (rBeg (toL s)).2 (cmdK (rBeg (toL s)).1) (err0 (rBeg (toL s)).1) ∧ (rBeg (toL s)).2 ≤ s.size ∧ Below b w w' := by
  have k0 := hc.text
  have k1 := hc.at_
  have k2 := hc.kind_
  have f1 := hc.frozen 1
  have f2 := hc.frozen 2
  have HC := Lib.hid hc
  have hsl : (toL s).length = s.size := by simp
  by_cases hR : toL s = [42, 82]
  · have hs2 : s.size = 2 := by rw [← hsl, hR]; rfl
    have ht : s = ⟨#[42, 82]⟩ := bytes_inj hR
    have e : rBeg (toL s) = (17, 2) := by unfold rBeg; rw [if_pos hR]
    have e0 : err0 17 = (0, 0) := rfl
    rw [e]
    simp only
    rw [e0, hs2]
    have HSK := Lib.hid ((hc.setKind 17).setAt 2)
    subst ht
    clear e e0 hs2 hR hsl hc
    go_enter Tryd.func65, Tryd.ntmps65
    go_wp2
    refine bodyPost_ret (results_none rfl _ _ _) rfl ?_
    exact ⟨rfl, HSK.out, Nat.le_refl 2, low_set (low_set (Below.refl _ _) _ _) _ _⟩
  · have hne : (s.toList == [42, 82]) = false := by
      rw [ByteArray.toList_eq]
      simpa using hR
    have hb0 : rBeg (toL s) = bAt (toL s) 29 := by unfold rBeg; rw [if_neg hR]
    have hle : (bAt (toL s) 29).2 ≤ s.size := by
      rw [← hb0, rBeg_eq]
      cases hx : begin_ (toL s) with
      | none => exact Nat.zero_le _
      | some y =>
        obtain ⟨k', p'⟩ := y
        rcases begin_word hx with ⟨e, e1, e2⟩ | ⟨_, u, h1, h2, h3⟩
        · exact absurd e hR
        · have := isPre_len h2
          rw [hsl] at this
          show p' ≤ _
          omega
    rw [hb0]
    obtain ⟨kf, af, hfin⟩ : ∃ kf af, bAt (toL s) 29 = (kf, af) := by
      generalize bAt (toL s) 29 = z
      exact ⟨z.1, z.2, rfl⟩
    rw [hfin] at hle ⊢
    simp only at hle ⊢
    have HLE := Lib.hid hle
    have HFIN := Lib.hid hfin
    clear hfin
    have HWD : RowKit.Hid (∀ k W, k < 29 → Calls Tryd.prog 72 #[.int .i64 ((k + 1 : Nat) : Int)] W fun e w' => e = .returned (txV (wordsK.getD k ([], 0)).1) ∧ W = w') := Lib.hid fun k W hk => by
      have h := word_m ((k + 1 : Nat) : Int) W
      rw [(wordsK_at k hk).1] at h
      exact h
    have HW : RowKit.Hid (∀ q c x W, RS W b s q c x → Calls Tryd.prog 67 #[.pointer (some ⟨b, 0, none⟩), .int .i64 41, .int .i64 0] W fun e w' => e = .returned (.tuple #[]) ∧ RS w' b s q c (wrongP x 41 0) ∧ RowKit.Hid (Below b W w')) := Lib.hid fun q c x W h => (wrong_m b s q c x 41 0 W h).mono fun _ _ h => ⟨h.1, h.2.1, Lib.hid h.2.2⟩
    clear hb0 hle hR hc k1 k2 f1 f2
    go_enter Tryd.func65, Tryd.ntmps65
    go_wp2
    go_loopw [2] (fun i wr => ∃ (n : Nat) (kd : Int) (at' : Nat), 1 ≤ n ∧ n ≤ 30 ∧ i = .int .i64 n ∧ RowKit.Hid (bAt (toL s) (n - 1) = (kd, at')) ∧ RS wr b s at' (cmdK kd) (0, 0) ∧ Below b w wr) (fun i _ => 30 - (intOf i).toNat)
    case atStart => exact ⟨1, 0, 0, by omega, by omega, rfl, Lib.hid (bAt_zero _), HC.out, Below.refl _ _⟩
    case round =>
      obtain ⟨n, kd, at', hn1, hn2, rfl, HBT, h1, h2⟩ := hrel
      have H1 := Lib.hid h1
      have H2 := Lib.hid h2
      by_cases hlt : n ≤ 29
      · obtain ⟨v1, v2, v3⟩ := wordsK_at (n - 1) (by omega)
        have hsu := bAt_succ (toL s) (k := n - 1) (by omega)
        have HWN : RowKit.Hid (∀ W, Calls Tryd.prog 72 #[.int .i64 (n : Int)] W fun e w' => e = .returned (txV (wordsK.getD (n - 1) ([], 0)).1) ∧ W = w') := Lib.hid fun W => by
          have h := HWD.out (n - 1) W (by omega)
          rw [show n - 1 + 1 = n by omega] at h
          exact h
        rw [show n - 1 + 1 = n by omega] at v2 hsu
        have c0 := h1.text
        have c1 := h1.at_
        have c2 := h1.kind_
        have g1 := h1.frozen 1
        have g2 := h1.frozen 2
        rw [HBT.out] at hsu
        generalize hwd : wordsK.getD (n - 1) ([], 0) = wd at *
        obtain ⟨wl, wk⟩ := wd
        simp only at v2 v3 c1 c2 H1 HWN
        subst v2
        unfold txV at HWN
        have hu1 : (⟨wl.toArray⟩ : ByteArray).size = wl.length := tx_size wl
        have hu2 : (⟨wl.toArray⟩ : ByteArray).data.toList = wl := by simp
        unfold bStep at hsu
        simp only at hsu
        generalize (⟨wl.toArray⟩ : ByteArray) = u at *
        have HSU := Lib.hid hsu
        have HU1 := Lib.hid hu1
        have HU2 := Lib.hid hu2
        clear hwd h1 h2 v1 hsu hu2 hu1 hne hsl HWD HLE HW HC HFIN HBT
        have hsm := hs
        unfold maxLen at hsm
        have hus : u.size ≤ 4 := by rw [HU1.out]; exact v3
        clear v3
        by_cases d1 : (at' : Int) < (u.size : Int)
        · have d1n : at' < u.size := by omega
          by_cases d2 : (u.size : Int) ≤ (s.size : Int)
          · have d2n : u.size ≤ s.size := by omega
            have hpre : isPre wl (toL s) = ((s.extract 0 u.size).toList == u.toList) := by
              rw [ByteArray.toList_eq, ByteArray.toList_eq, HU2.out]
              unfold isPre
              simp [toL, HU1.out]
            cases d3 : (s.extract 0 u.size).toList == u.toList with
            | true =>
              rw [d3] at hpre
              have HB : RowKit.Hid (bAt (toL s) n = ((n : Int), u.size)) := Lib.hid (by rw [HSU.out, decide_eq_true (by rw [← HU1.out]; omega), hpre, HU1.out]; rfl)
              have HN1 : RowKit.Hid (∀ W, RS W b s at' (cmdK kd) (0, 0) → RS ((W.setCell ⟨b, 2, none⟩ (.int .i64 n)).setCell ⟨b, 1, none⟩ (.int .i64 (u.size : Int))) b s u.size (cmdK n) (0, 0)) := Lib.hid fun W h => (h.setKind n).setAt u.size
              clear hpre
              go_wp2_with (first
                | (go_at_call 72; (with_reducible refine (HWN.out _).mono ?_); rintro e w3 ⟨rfl, rfl⟩))
              go_roundw
              case rel => exact ⟨n + 1, _, _, by omega, by omega, by go_num, Lib.hid (by rw [show n + 1 - 1 = n by omega]; exact HB.out), HN1.out _ H1.out, low_set (low_set H2.out _ _) _ _⟩
              case measure => simp [intOf]; omega
            | false =>
              rw [d3] at hpre
              have HB : RowKit.Hid (bAt (toL s) n = (kd, at')) := Lib.hid (by rw [HSU.out, hpre, Bool.and_false]; rfl)
              clear hpre
              go_wp2_with (first
                | (go_at_call 72; (with_reducible refine (HWN.out _).mono ?_); rintro e w3 ⟨rfl, rfl⟩))
              go_roundw
              case rel => exact ⟨n + 1, _, _, by omega, by omega, by go_num, Lib.hid (by rw [show n + 1 - 1 = n by omega]; exact HB.out), H1.out, H2.out⟩
              case measure => simp [intOf]; omega
          · have HB : RowKit.Hid (bAt (toL s) n = (kd, at')) := Lib.hid (by
              have : isPre wl (toL s) = false := by
                cases hb : isPre wl (toL s) with
                | false => rfl
                | true => have := isPre_len hb; rw [← HU1.out] at this; simp at this; omega
              rw [HSU.out, this, Bool.and_false]; rfl)
            have d2n : ¬ u.size ≤ s.size := by omega
            go_wp2_with (first
              | (go_at_call 72; (with_reducible refine (HWN.out _).mono ?_); rintro e w3 ⟨rfl, rfl⟩))
            go_roundw
            case rel => exact ⟨n + 1, _, _, by omega, by omega, by go_num, Lib.hid (by rw [show n + 1 - 1 = n by omega]; exact HB.out), H1.out, H2.out⟩
            case measure => simp [intOf]; omega
        · have HB : RowKit.Hid (bAt (toL s) n = (kd, at')) := Lib.hid (by rw [HSU.out, decide_eq_false (by rw [← HU1.out]; omega)]; rfl)
          have d1n : ¬ at' < u.size := by omega
          go_wp2_with (first
            | (go_at_call 72; (with_reducible refine (HWN.out _).mono ?_); rintro e w3 ⟨rfl, rfl⟩))
          go_roundw
          case rel => exact ⟨n + 1, _, _, by omega, by omega, by go_num, Lib.hid (by rw [show n + 1 - 1 = n by omega]; exact HB.out), H1.out, H2.out⟩
          case measure => simp [intOf]; omega
      · have hn : n = 30 := by omega
        subst hn
        rw [show 30 - 1 = 29 from rfl, HFIN.out] at HBT
        obtain ⟨rfl, rfl⟩ := Prod.mk.inj HBT.out
        have c2 := H1.out.kind_
        clear h1 h2 HWD HC hlt hn1 hn2 hne hsl HBT HFIN
        have c2' : (cmdK kf).kind = kf := rfl
        rw [c2'] at c2
        clear c2'
        by_cases hk : kf = 0
        · subst hk
          go_wp2_with (first
            | (go_at_call 67; (with_reducible refine (HW.out _ _ _ _ H1.out).mono ?_); rintro e w3 ⟨rfl, hc3, hx3⟩))
          go_end0
          exact ⟨rfl, hc3, HLE.out, bl3 H2.out hx3.out⟩
        · have hkb : (kf == 0) = false := by simpa using hk
          have he : err0 kf = (0, 0) := by unfold err0; rw [if_neg hk]
          have HEE := Lib.hid he
          clear hk he
          go_wp2
          go_end0
          exact ⟨rfl, by rw [HEE.out]; exact H1.out, HLE.out, H2.out⟩

end Go.Proofs.YtjahkaidinahpaaDoor.En
