/- The reference's Render; the law ScreenRenders: the walk. -/
import Derived.Test.YtpmmjccdogjncaaDoorScrL
namespace Go.Proofs.YtpmmjccdogjncaaDoor
open Go.RowKit Go.ChangeShapes Go.WideShapes Go.ChangeAt

theorem cell_small (rows : List ByteArray) (pg : Nat) (hp : pg + 1 < 100) (hn : pagesN rows.length < 100) : (if 1 < pagesN rows.length then (⟨#[80, 65, 71, 69, 32]⟩ : ByteArray) ++ digA (pg + 1) ++ ⟨#[47]⟩ ++ digA (pagesN rows.length) else ⟨#[]⟩).size ≤ 64 := by
  split
  · have d1 := digA_size hp
    have d2 := digA_size hn
    rw [ByteArray.size_append, ByteArray.size_append, ByteArray.size_append]
    show 5 + _ + 1 + _ ≤ 64
    omega
  · decide

set_option maxRecDepth 20000 in
set_option maxHeartbeats 8000000 in
theorem rRender_any (page : Int) (l : List ByteArray) (v : Value) (w : World) (hv : HasL w v l) (hz : ∀ s ∈ l, s.size ≤ 30000) (hpg : pagesN (linesS l).length < 100) :
    Calls Tryd.prog 49 #[.int .i64 page, v] w fun e w' => ∃ v', e = .returned v' ∧ OwnL w' w.heap.size v' (pageR (linesS l) (pgN page (pagesN (linesS l).length)) 24) ∧ Below w.heap.size w w' := by
  have hlen := linesS_len l hz
  have HLI : RowKit.Hid (∀ W, Below w.heap.size w W → _) := Lib.hid fun W h => rlines_any l v W (hv.mono h) hz
  have HPI : RowKit.Hid (∀ W, Below w.heap.size w W → _) := Lib.hid fun W h => rPages_any l v W (hv.mono h) hz
  have hp1 : 1 ≤ pagesN (linesS l).length := by unfold pagesN; omega
  have hrr := linesS_row l
  clear hz hv
  generalize linesS l = rows at *
  have HRR : RowKit.Hid (∀ j, j < rows.length → strOf (rowL (rows.getD j ByteArray.empty).data.toList) = rows.getD j ByteArray.empty) := Lib.hid fun j hj => by
    have e : rows.getD j ByteArray.empty = rows[j] := by simp [List.getD, hj]
    rw [e]; exact hrr _ (List.getElem_mem hj)
  have hp0 : ∀ N : Nat, 1 ≤ N → pgN page N < N := by
    intro N hN; unfold pgN
    split
    · omega
    · split <;> omega
  have hpgN := hp0 _ hp1
  have HSM := Lib.hid (cell_small rows (pgN page (pagesN rows.length)) (by omega) hpg)
  have HFE : RowKit.Hid (∀ W, Calls Tryd.prog 62 #[.string ⟨#[]⟩] W fun e w' => e = .returned (.string (strOf (rowL []))) ∧ W = w') := Lib.hid fun W => filled_any ⟨#[]⟩ W (by decide)
  have HCK : RowKit.Hid (∀ pg i, cellK rows pg i = if i < 23 then (if pg * 23 + i < rows.length then rows.getD (pg * 23 + i) ByteArray.empty else ⟨#[]⟩) else if 1 < pagesN rows.length then ⟨#[80, 65, 71, 69, 32]⟩ ++ digA (pg + 1) ++ ⟨#[47]⟩ ++ digA (pagesN rows.length) else ⟨#[]⟩) := Lib.hid fun pg i => rfl
  obtain ⟨i0, hi, hz0, hz1, hz2⟩ := str_info
  clear hrr hp0
  obtain ⟨N, hN⟩ : ∃ N, N = pagesN rows.length := ⟨_, rfl⟩
  rw [← hN] at hp1 hpg HPI HSM HCK hpgN ⊢
  clear hN
  have hNi1 : (1 : Int) ≤ (N : Int) := by omega
  have hNi2 : (N : Int) < 100 := by omega
  go_enter Tryd.func49, Tryd.ntmps49
  go_upto_if 14 with (first
    | (go_at_call 44; (with_reducible refine (HLI.out _ (Below.refl _ _)).mono ?_); rintro e w1 ⟨v1, rfl, ho1, hb1⟩; obtain ⟨p1, c1, rfl⟩ := own_len ho1.has; have HO1 := Lib.hid ho1; clear ho1)
    | (go_at_call 46; (with_reducible refine (HPI.out _ hb1).mono ?_); rintro e w2 ⟨rfl, hb2⟩; have hb12 := bel_trans hb1 hb2))
  go_cut [0] from 15 (fun s0 wx => s0 = .int .i64 (if page < 0 then 0 else page) ∧ w2 = wx)
  case first =>
    by_cases h1 : page < 0
    · go_wp2_with fail
      all_goals (
        go_meet
        exact ⟨by rw [if_pos h1], rfl⟩)
    · go_wp2_with fail
      all_goals (
        go_meet
        exact ⟨by rw [if_neg (by omega)], rfl⟩)
  case rest =>
    obtain ⟨rfl, rfl⟩ := hcut
    obtain ⟨pq, hpq⟩ : ∃ pq : Int, pq = if page < 0 then 0 else page := ⟨_, rfl⟩
    rw [← hpq]
    have hpq0 : 0 ≤ pq := by rw [hpq]; split <;> omega
    have hpq1 : ((pgN page N : Nat) : Int) = if (N : Int) ≤ pq then (N : Int) - 1 else pq := by
      rw [hpq]; unfold pgN
      by_cases h1 : page < 0
      · simp only [if_pos h1]; rw [if_neg (by omega)]; rfl
      · simp only [if_neg h1]
        by_cases h2 : (N : Int) - 1 < page
        · rw [if_pos h2, if_pos (by omega)]; omega
        · rw [if_neg h2, if_neg (by omega)]; omega
    have HQ1 := Lib.hid hpq1
    clear hpq hpq1
    go_upto_if 17 with fail
    go_cut [0] from 18 (fun s0 wx => s0 = .int .i64 ((pgN page N : Nat) : Int) ∧ w2 = wx)
    case first =>
      by_cases h1 : (N : Int) ≤ pq
      · go_wp2_with fail
        all_goals (
          go_meet
          exact ⟨by rw [HQ1.out, if_pos h1], rfl⟩)
      · go_wp2_with fail
        all_goals (
          go_meet
          exact ⟨by rw [HQ1.out, if_neg (by omega)], rfl⟩)
    case rest =>
      obtain ⟨rfl, rfl⟩ := hcut
      clear HQ1 hpq0
      generalize hpgd : pgN page N = pg at *
      have HPGD := Lib.hid hpgd
      clear hpgd
      have HRL : RowKit.Hid (∀ (W : World), HasL W (.slice p1 rows.length c1) rows → ∀ k, k < rows.length → ∃ b off, p1 = some ⟨b, off, none⟩ ∧ W.cell? ⟨b, off + k, none⟩ = some (.string (rows.getD k ByteArray.empty))) := Lib.hid fun W h k hk => by
        rcases h with ⟨_, _, _, rfl, _⟩ | ⟨b, off, c, e, _, _, h3⟩
        · simp at hk
        · injection e with e1 e2 e3
          exact ⟨b, off, e1, h3 k hk⟩
      have HH2 := Lib.hid (HO1.out.has.mono hb2)
      have HST := Lib.hid (fun k => pageR_step rows pg k)
      have HPL := Lib.hid (fun k => pageR_len rows pg k)
      have H0 : RowKit.Hid (pageR rows pg 0 = []) := Lib.hid rfl
      clear HLI HPI HO1
      go_wp2_with fail
      go_loopg [7, 8] 23 (fun g t i wr => ∃ k : Nat, k ≤ 23 ∧ g = 23 - k ∧ i = .int .i64 k ∧ Below w2.heap.size w2 wr ∧ OwnL wr w2.heap.size t (pageR rows pg k))
      case atStart => exact ⟨0, Nat.zero_le _, rfl, rfl, Below.refl _ _, by rw [H0.out]; exact OwnL.nil _ _⟩
      case round =>
        obtain ⟨k, hk, rfl, rfl, hb, ht⟩ := hrel
        have HT := Lib.hid ht
        clear ht
        have hlenk := HPL.out k
        have hbs := hb.size
        have hckk := HCK.out pg k
        by_cases hlt : k < 23
        · have hki : (k : Int) < 23 := by omega
          rw [if_pos hlt] at hckk
          have HSK := Lib.hid (HST.out k)
          by_cases hin : pg * 23 + k < rows.length
          · have hini : (pg : Int) * 23 + (k : Int) < (rows.length : Int) := by omega
            have hin0 : (0 : Int) ≤ (pg : Int) * 23 + (k : Int) := by omega
            rw [if_pos hin] at hckk
            obtain ⟨b5, off5, rfl, c5⟩ := HRL.out _ (HH2.out.mono hb) (pg * 23 + k) hin
            have hrr := HRR.out _ hin
            rw [← hckk] at hrr c5
            have HE := Lib.hid hrr
            generalize hT : cellK rows pg k = T at *
            have hown : wr.ownsRow w2.heap.size 9 1 _ (pageR rows pg k).length (strV (pageR rows pg k)) := HT.out
            generalize pageR rows pg k = F at *
            clear hckk hrr hT
            go_wp2_with (first
              | (at_builtin; refine wpList_push rfl _ _ 63 rfl w2.heap.size 9 i0 (.string ⟨#[]⟩) 16 Tryd.underlying63 hi hz0 hz1 hz2 rfl _ _ _ rfl hown _ rfl rfl (by unfold maxLen; omega) (by omega) hbs ?_; intro v6 w6 hown6 hb6 hgr6))
            go_roundg (23 - (k + 1))
            case measure => omega
            case rel =>
              refine ⟨k + 1, by omega, rfl, by go_num, hb.trans hb6, ?_⟩
              rw [HSK.out, HE.out]
              have e1 : (F ++ [T]).length = F.length + 1 := by simp
              have e2 : strV (F ++ [T]) = strV F ++ [.string T] := by simp [strV]
              unfold OwnL
              rw [e1, e2]
              exact hown6
          · have hini : ¬ (pg : Int) * 23 + (k : Int) < (rows.length : Int) := by omega
            rw [if_neg hin] at hckk
            rw [hckk] at HSK
            generalize pageR rows pg k = F at *
            clear hckk hin
            go_wp2_with (first
              | (go_at_call 62; (with_reducible refine (HFE.out _).mono ?_); rintro e w5 ⟨rfl, rfl⟩; have hown : World.ownsRow _ w2.heap.size 9 1 _ F.length (strV F) := HT.out)
              | (at_builtin; refine wpList_push rfl _ _ 63 rfl w2.heap.size 9 i0 (.string ⟨#[]⟩) 16 Tryd.underlying63 hi hz0 hz1 hz2 rfl _ _ _ rfl hown _ rfl rfl (by unfold maxLen; omega) (by omega) hbs ?_; intro v6 w6 hown6 hb6 hgr6))
            go_roundg (23 - (k + 1))
            case measure => omega
            case rel =>
              refine ⟨k + 1, by omega, rfl, by go_num, hb.trans hb6, ?_⟩
              rw [HSK.out]
              have e1 : (F ++ [strOf (rowL [])]).length = F.length + 1 := by simp
              have e2 : strV (F ++ [strOf (rowL [])]) = strV F ++ [.string (strOf (rowL []))] := by simp [strV]
              unfold OwnL
              have e0 : (F ++ [strOf (rowL (⟨#[]⟩ : ByteArray).data.toList)]) = F ++ [strOf (rowL [])] := rfl
              rw [e0, e1, e2]
              exact hown6
        · have hk23 : k = 23 := by omega
          subst hk23
          rw [if_neg (by omega)] at hckk
          have HSK : RowKit.Hid (pageR rows pg 24 = pageR rows pg 23 ++ [strOf (rowL (cellK rows pg 23).data.toList)]) := Lib.hid (HST.out 23)
          have hsm := HSM.out
          rw [← hckk] at hsm
          by_cases hN1 : 1 < N
          · have hN1i : (1 : Int) < (N : Int) := by omega
            rw [if_pos hN1] at hckk
            have d1 := digA_size (n := pg + 1) (by omega)
            have d2 := digA_size (n := N) hpg
            have HI1 : RowKit.Hid (∀ W, Calls Tryd.prog 55 #[.int .i64 ((pg : Int) + 1)] W fun e w' => e = .returned (.string (digA (pg + 1))) ∧ Below W.heap.size W w') := Lib.hid fun W => by
              have := digits_any (pg + 1) W (by omega)
              rwa [Int.natCast_add] at this
            have HI2 : RowKit.Hid (∀ W, Calls Tryd.prog 55 #[.int .i64 (N : Int)] W fun e w' => e = .returned (.string (digA N)) ∧ Below W.heap.size W w') := Lib.hid fun W => digits_any N W (by omega)
            have hpgi : (pg : Int) < 100 := by omega
            have HFL : RowKit.Hid (∀ W, Calls Tryd.prog 62 #[.string (⟨#[80, 65, 71, 69, 32]⟩ ++ digA (pg + 1) ++ ⟨#[47]⟩ ++ digA N)] W fun e w' => e = .returned (.string (strOf (rowL (cellK rows pg 23).data.toList))) ∧ W = w') := Lib.hid fun W => by
              rw [hckk] at hsm ⊢
              exact filled_any _ W hsm
            generalize digA (pg + 1) = D1 at *
            generalize digA N = D2 at *
            generalize cellK rows pg 23 = T at *
            generalize pageR rows pg 23 = F at *
            clear hckk hsm
            go_wp2_with (first
              | (go_at_call 55; (with_reducible refine (HI1.out _).mono ?_); rintro e w3 ⟨rfl, hb3⟩)
              | (go_at_call 55; (with_reducible refine (HI2.out _).mono ?_); rintro e w4 ⟨rfl, hb4⟩)
              | (go_at_call 62; (with_reducible refine (HFL.out _).mono ?_); rintro e w5 ⟨rfl, rfl⟩; have hown : World.ownsRow _ w2.heap.size 9 1 _ F.length (strV F) := HT.out.mono (bel_trans hb3 hb4); have hbs5 := (bel_trans hb3 hb4).size)
              | (at_builtin; refine wpList_push rfl _ _ 63 rfl w2.heap.size 9 i0 (.string ⟨#[]⟩) 16 Tryd.underlying63 hi hz0 hz1 hz2 rfl _ _ _ rfl hown _ rfl rfl (by unfold maxLen; omega) (by omega) (by omega) ?_; intro v6 w6 hown6 hb6 hgr6))
            go_ret
            refine ⟨v6, rfl, ?_, hb12.trans (((hb.trans ((bel_trans hb3 hb4).mono hbs)).trans hb6).mono hb12.size)⟩
            rw [HPGD.out, HSK.out]
            have e1 : (F ++ [strOf (rowL T.data.toList)]).length = F.length + 1 := by simp
            have e2 : strV (F ++ [strOf (rowL T.data.toList)]) = strV F ++ [.string (strOf (rowL T.data.toList))] := by simp [strV]
            unfold OwnL
            rw [e1, e2]
            exact own_low hown6 hb12.size
          · have hN1i : ¬ (1 : Int) < (N : Int) := by omega
            rw [if_neg hN1] at hckk
            rw [hckk] at HSK
            generalize pageR rows pg 23 = F at *
            clear hckk hsm
            go_wp2_with (first
              | (go_at_call 62; (with_reducible refine (HFE.out _).mono ?_); rintro e w5 ⟨rfl, rfl⟩; have hown : World.ownsRow _ w2.heap.size 9 1 _ F.length (strV F) := HT.out)
              | (at_builtin; refine wpList_push rfl _ _ 63 rfl w2.heap.size 9 i0 (.string ⟨#[]⟩) 16 Tryd.underlying63 hi hz0 hz1 hz2 rfl _ _ _ rfl hown _ rfl rfl (by unfold maxLen; omega) (by omega) (by omega) ?_; intro v6 w6 hown6 hb6 hgr6))
            go_ret
            refine ⟨v6, rfl, ?_, hb12.trans ((hb.trans hb6).mono hb12.size)⟩
            rw [HPGD.out, HSK.out]
            have e0 : (F ++ [strOf (rowL (⟨#[]⟩ : ByteArray).data.toList)]) = F ++ [strOf (rowL [])] := rfl
            have e1 : (F ++ [strOf (rowL [])]).length = F.length + 1 := by simp
            have e2 : strV (F ++ [strOf (rowL [])]) = strV F ++ [.string (strOf (rowL []))] := by simp [strV]
            unfold OwnL
            rw [e0, e1, e2]
            exact own_low hown6 hb12.size
end Go.Proofs.YtpmmjccdogjncaaDoor
