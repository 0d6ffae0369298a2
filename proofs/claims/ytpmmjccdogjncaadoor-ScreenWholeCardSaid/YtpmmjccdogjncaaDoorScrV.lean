/- The law ScreenWhole: the walk. -/
import Derived.Test.YtpmmjccdogjncaaDoorScrU
namespace Go.Proofs.YtpmmjccdogjncaaDoor
open Go.RowKit Go.ChangeShapes Go.WideShapes Go.ChangeAt
set_option linter.unusedSimpArgs false

theorem HasL.takeN {w : World} {p : Option Addr} {n m c : Nat} {l : List ByteArray} (h : HasL w (.slice p n c) l) (hm : m ≤ l.length) : HasL w (.slice p m c) (l.take m) := by
  rcases h with ⟨_, _, e, rfl, hp⟩ | ⟨b, off, c', e, h1, h2, h3⟩
  · injection e with e1 e2 e3
    subst e1
    subst e3
    have : m = 0 := by simpa using hm
    subst this
    exact .inl ⟨_, _, rfl, by simp, hp⟩
  · injection e with e1 e2 e3
    subst e1
    subst e3
    have el : (l.take m).length = m := by simp; omega
    refine .inr ⟨b, off, c, by rw [el], by rw [el]; omega, h2, fun j hj => ?_⟩
    rw [el] at hj
    rw [h3 j (by omega), List.getD_eq_getElem?_getD (l := l.take m), List.getElem?_take_of_lt hj, List.getD_eq_getElem?_getD]

theorem has_cells {w : World} {b n c : Nat} {l : List ByteArray} (h : HasL w (.slice (some ⟨b, 0, none⟩) n c) l) : ∀ j, j < l.length → w.cell? ⟨b, 0 + j, none⟩ = some (.string (l.getD j ByteArray.empty)) := by
  rcases h with ⟨_, _, e, rfl, _⟩ | ⟨b', off, c', e, h1, h2, h3⟩
  · intro j hj; simp at hj
  · injection e with e1 e2 e3
    injection e1 with e1
    injection e1 with e1 e4
    subst e1
    subst e4
    exact h3

theorem wrap_in {a : Int} (h0 : -9223372036854775808 ≤ a) (h1 : a ≤ 9223372036854775807) : IntKind.i64.wrap a = a :=
  IntWalk.i64_in a ⟨h0, h1⟩

theorem Arr.far {w w' : World} {b : Nat} {T : TypeId} {l : List UInt8} {row : Option Nat} (h : Arr w b T l) (hg : w.grownBy w' row) (hne : some b ≠ row) : Arr w' b T l := (hg.block b h.lt hne).trans h

theorem own_shape {w : World} {B : Nat} {v : Value} {l : List ByteArray} (h : OwnL w B v l) (h0 : 0 < l.length) : ∃ g cap, v = .slice (some ⟨g, 0, none⟩) l.length cap ∧ l.length ≤ cap ∧ cap ≤ maxLen := by
  rcases h.2 with ⟨_, e2⟩ | ⟨g, cap, cur, e1, _, _, h3, h4, _⟩
  · rw [e2] at h0; exact absurd h0 (Nat.lt_irrefl _)
  · exact ⟨g, cap, e1, h3, h4⟩

theorem pgN_in {j N : Nat} (h : j < N) : pgN (j : Int) N = j := by
  unfold pgN; rw [if_neg (by omega), if_neg (by omega)]; omega

set_option maxRecDepth 20000 in
set_option maxHeartbeats 16000000 in
theorem screenWhole_walk (v : Value) (l : List ByteArray) (out : Int) (_ho : (Lit.int .i64 out).wf = true) (w : World) (h : Texts w v l) :
    Calls Tryd.prog 12 #[v, .int .i64 out] w fun e w' => e = .returned (.bool true) ∧ Below w.heap.size w w' := by
  obtain ⟨hv, hm, hsz⟩ := h
  have HA : RowKit.Hid (∀ W, Calls Tryd.prog 40 #[] W fun e w' => e = .returned (.bool true) ∧ Below W.heap.size W w') := Lib.hid fun W => awakeS_any W
  have CF : ∀ W, HasL W v l → Calls Tryd.prog 41 #[v] W fun e w' => e = .returned (.bool (fewS l)) ∧ W = w' := fun W hh => Few_any l v W hh hm hsz
  have HV := Lib.hid hv
  cases hf : fewS l
  · rw [hf] at CF
    have HF := Lib.hid CF
    clear CF hf hv
    go_enter Tryd.func12, Tryd.ntmps12
    go_wp2_with (first
      | (go_at_call 40; (with_reducible refine (HA.out _).mono ?_); rintro e w1 ⟨rfl, hb1⟩)
      | (go_at_call 41; (with_reducible refine (HF.out _ (HV.out.mono hb1)).mono ?_); rintro e w2 ⟨rfl, rfl⟩))
    go_ret
    exact ⟨rfl, hb1⟩
  obtain ⟨_, _, hz⟩ := few_sizes hf
  have hpg := few_pages hf
  rw [hf] at CF
  have HF := Lib.hid CF
  clear CF hf hsz
  obtain ⟨p, c, rfl⟩ := own_len hv
  obtain ⟨i0, hi, hz0, hz1, hz2⟩ := str_info
  have HRW : RowKit.Hid (∀ (j : Nat) W, Calls Tryd.prog 47 #[.agg (byteV (pageL (linesS l) j)).toArray] W fun e w' => ∃ g cap, e = .returned (.slice (some ⟨g, 0, none⟩) 24 cap) ∧ 24 ≤ cap ∧ cap ≤ maxLen ∧ HasL w' (.slice (some ⟨g, 0, none⟩) 24 cap) (pageR (linesS l) j 24) ∧ Below W.heap.size W w') := Lib.hid fun j W => by
    have := Rows_any (pageL (linesS l) j) W (pageL_len _ _)
    rw [scrR_page] at this
    refine this.mono ?_
    rintro e w' ⟨v', rfl, ho, hb⟩
    have hl := pageR_len (linesS l) j 24
    obtain ⟨g, cap, e1, h1, h2⟩ := own_shape ho (by rw [hl]; omega)
    rw [hl] at e1 h1
    exact ⟨g, cap, by rw [e1], h1, h2, by rw [← e1]; exact ho.has, hb⟩
  have HRN : RowKit.Hid (∀ (pg : Int) W, HasL W (.slice p l.length c) l → Calls Tryd.prog 48 #[.int .i64 pg, .slice p l.length c] W fun e w' => e = .returned (.agg (byteV (pageL (linesS l) (pgN pg (pagesN (linesS l).length)))).toArray) ∧ Below W.heap.size W w') := Lib.hid fun pg W hh => Render_any pg l _ W hh hz hpg
  have HL1 : RowKit.Hid (∀ W, HasL W (.slice p l.length c) l → _) := Lib.hid fun W hh => lines_any l _ W hh hz
  have HP1 : RowKit.Hid (∀ W, HasL W (.slice p l.length c) l → _) := Lib.hid fun W hh => Pages_any l _ W hh hz
  have hll := linesS_len l hz
  have HROW := Lib.hid (linesS_row l)
  clear hv hz
  generalize linesS l = rows at *
  have hN1 : 1 ≤ pagesN rows.length := by unfold pagesN; omega
  have hNR : rows.length ≤ 23 * pagesN rows.length ∧ (rows.length = 0 ∨ 23 * pagesN rows.length < rows.length + 23) := by unfold pagesN; omega
  have HAP : RowKit.Hid (∀ i j, 1 < pagesN rows.length → i + 1 < 100 → j + 1 < 100 → pageL rows i = pageL rows j → i = j) := Lib.hid fun i j h1 h2 h3 h4 => pages_apart h1 h2 h3 h4
  have HEQ : RowKit.Hid (∀ i j w, (Op.equalIn 10000 73 (.agg (byteV (pageL rows i)).toArray) (.agg (byteV (pageL rows j)).toArray)).run Tryd.prog w = .ok (decide (pageL rows i = pageL rows j)) w) := Lib.hid fun i j w => eql_scr _ _ (pageL_len _ _) (pageL_len _ _) w
  have HPLN := Lib.hid (fun j => pageL_len rows j)
  obtain ⟨N, hN⟩ : ∃ N, N = pagesN rows.length := ⟨_, rfl⟩
  rw [← hN] at hpg hN1 hNR HAP HRN HP1
  clear hN
  have hgd := guard_scr
  have hu := Tryd.underlying73
  go_enter Tryd.func12, Tryd.ntmps12
  go_wp2_with (first
    | (go_at_call 40; (with_reducible refine (HA.out _).mono ?_); rintro e w1 ⟨rfl, hb1⟩)
    | (go_at_call 41; (with_reducible refine (HF.out _ (HV.out.mono hb1)).mono ?_); rintro e w0 ⟨rfl, rfl⟩)
    | (go_at_call 42; (with_reducible refine (HL1.out _ (HV.out.mono hb1)).mono ?_); rintro e w2 ⟨v2, rfl, ho2, hb2⟩; obtain ⟨p2, c2, rfl⟩ := own_len ho2.has; have HO2 := Lib.hid ho2.has; clear ho2; have hb12 := bel_trans hb1 hb2)
    | (go_at_call 45; (with_reducible refine (HP1.out _ (HV.out.mono hb12)).mono ?_); rintro e w3 ⟨rfl, hb3⟩; have hb13 := bel_trans hb12 hb3))
  have HQ := Lib.hid (HV.out.mono hb13)
  have HW3 := Lib.hid (HO2.out.mono hb3)
  clear HA HF HL1 HP1 HV HO2
  go_loopg [7, 8] N (fun g t i wr => ∃ k : Nat, k ≤ N ∧ g = N - k ∧ i = .int .i64 k ∧ Below w3.heap.size w3 wr ∧ OwnL wr w3.heap.size t (gotL rows k))
  case atStart => exact ⟨0, Nat.zero_le _, rfl, rfl, Below.refl _ _, OwnL.nil _ _⟩
  case round =>
    obtain ⟨k, hk, rfl, rfl, hb, ht⟩ := hrel
    have HT := Lib.hid ht
    clear ht
    by_cases hlt : k < N
    · have hki : (k : Int) < (N : Int) := by omega
      have hk0 : (0 : Int) ≤ (k : Int) := by omega
      have hglen := gotL_len rows k
      have HGS := Lib.hid (gotL_step rows k)
      have HRK := HRN.out (k : Int)
      rw [pgN_in hlt] at HRK
      have HR1 := Lib.hid HRK
      have HRWk := Lib.hid (HRW.out k)
      have HI : RowKit.Hid ((Tryd.prog.info? 73).map (·.size) = some (pageL rows k).length) := Lib.hid (by rw [pageL_len]; exact info_screen)
      have hszc : (Tryd.prog.info? 73).map (·.size) = some (byteV (pageL rows k)).length := by rw [byteV_len, pageL_len]; exact info_screen
      have HCL : RowKit.Hid ((pageL rows k).length = (List.replicate 1536 (0 : UInt8)).length) := Lib.hid (by rw [pageL_len, List.length_replicate])
      have hplen : ((pageR rows k 24).take 23).length = 23 := by rw [List.length_take, pageR_len]; rfl
      have HPL := Lib.hid (pageR_len rows k 24)
      have HTB : RowKit.Hid (∀ i, u7.ownBlock = some i → i < wr.heap.size) := Lib.hid fun i e => (World.ownsRow.lt HT.out i e).2
      clear HRK
      go_wp2_with (first
        | (go_at_call 48; (with_reducible refine (HR1.out _ (HQ.out.mono hb)).mono ?_); rintro e wA ⟨rfl, hbA⟩)
        | (refine wpList_alloc_scr rfl rfl ?_; intro wB haB hbB hzB)
        | (refine wpList_store_arr rfl 73 (.tmp 9) (.tmp 28) rfl wA.heap.size 73 (List.replicate 1536 0) (pageL rows k) rfl rfl haB HCL.out HI.out ?_; intro wC haC hbC)
        | (refine wpList_load_mid rfl 73 (.tmp 9) rfl wA.heap.size 0 rfl (byteV (pageL rows k)) _ haC.range hu rfl hszc ?_)
        | (go_at_call 47; (with_reducible refine (HRWk.out _).mono ?_); rintro e wD ⟨gD, capD, rfl, hcD, hcD2, hhD, hbD⟩; have hcDi : (23 : Int) ≤ (capD : Int) := (by omega); have hbrD := bel_trans (bel_trans hbA (hbB.trans hbC)) hbD; have hownD : wD.ownsRow w3.heap.size 9 1 _ (gotL rows k).length (strV (gotL rows k)) := HT.out.mono hbrD; have HH23 := Lib.hid (hhD.takeN (m := 23) (by rw [HPL.out]; omega)); have hbs3 := hb.size; have hbsD := hbrD.size)
        | (at_builtin; refine wpList_append_own _ rfl _ _ 63 rfl w3.heap.size 9 i0 (.string ⟨#[]⟩) 1 16 Tryd.underlying63 hi hz0 hz1 hz2 rfl (by decide) _ _ _ rfl hownD ⟨gD, 0, none⟩ 23 capD (strV ((pageR rows k 24).take 23)) rfl (by rw [strV_len, hplen]) (strV_cells (has_cells HH23.out)) strV_one (by unfold maxLen; omega) (by omega) (by omega) ?_; intro vE wE hoE hgE hnilE))
      have hb3E : Below w3.heap.size w3 wE := (hb.trans (hbrD.mono hbs3)).grown hgE (by omega) (fun i hi => (World.ownsRow.lt hownD i hi).1)
      have haE : Arr wE wA.heap.size 73 (pageL rows k) := (haC.mono hbD).far hgE (fun e => by
        have h1 := HTB.out _ e.symm
        have h2 := hbA.size
        omega)
      have hraE := haE.range
      have HOE : RowKit.Hid (OwnL wE w3.heap.size vE (gotL rows (k + 1))) := Lib.hid (by
        rw [HGS.out]
        unfold OwnL
        rw [List.length_append, hplen]
        have e2 : strV (gotL rows k ++ (pageR rows k 24).take 23) = strV (gotL rows k) ++ strV ((pageR rows k 24).take 23) := by simp [strV]
        rw [e2]
        exact hoE)
      clear hoE hownD haE haC haB hgE hnilE
      by_cases hl1 : k + 1 < N
      · have hki1 : (k : Int) < (N : Int) - 1 := by omega
        have hki2 : decide ((k : Int) < (N : Int) - 1) = true := decide_eq_true (by omega)
        have HRK2 := HRN.out ((k : Int) + 1)
        rw [show ((k : Int) + 1) = ((k + 1 : Nat) : Int) by omega, pgN_in hl1] at HRK2
        have hq := HEQ.out k (k + 1)
        rw [decide_eq_false (fun e => by have := HAP.out k (k + 1) (by omega) (by omega) (by omega) e; omega)] at hq
        have HR2 : RowKit.Hid (∀ W, HasL W (.slice p l.length c) l → Calls Tryd.prog 48 #[.int .i64 ((k : Int) + 1), .slice p l.length c] W fun e w' => e = .returned (.agg (byteV (pageL rows (k + 1))).toArray) ∧ Below W.heap.size W w') := Lib.hid fun W h => HRK2 W h
        generalize byteV (pageL rows k) = cs1 at *
        generalize byteV (pageL rows (k + 1)) = cs2 at *
        clear HRK2
        have hwr : IntKind.i64.wrap ((N : Int) - 1) = (N : Int) - 1 := wrap_in (by omega) (by omega)
        have hwr2 : IntKind.i64.wrap ((k : Int) + 1) = (k : Int) + 1 := wrap_in (by omega) (by omega)
        refine wp_region_noPanic ?_
        refine wp_region_held_drew (S := fun W => W.rangeAt wA.heap.size 0 cs1 ∧ Below wE.heap.size wE W) (by kernel_rfl) ⟨hraE, (Below.refl _ _).drew⟩ (fun hHeld => ?_)
        refine wpAnyH_take (i := 0) (oi := _) (v := ?_) rfl (by kernel_rfl) (by kernel_rfl) (by kernel_rfl) (fun _ _ _ h => h) (Or.inl ⟨by rfl, ?_⟩) (by assumption) ?_
        rotate_left
        · intro w hSw
          (try dsimp only at hSw)
          go_simp
          (try with_reducible rfl)
        try simp only [Act.put, List.getElem_toArray, List.getElem_cons_succ, List.getElem_cons_zero, List.setIfInBounds_toArray, List.set_cons_zero, List.set_cons_succ]
        refine wpAnyH_take (i := 1) (oi := _) (v := ?_) rfl (by kernel_rfl) (by kernel_rfl) (by kernel_rfl) (fun _ _ _ h => h) (Or.inl ⟨by rfl, ?_⟩) (by assumption) ?_
        rotate_left
        · intro w hSw
          (try dsimp only at hSw)
          go_simp
          (try with_reducible rfl)
        try simp only [Act.put, List.getElem_toArray, List.getElem_cons_succ, List.getElem_cons_zero, List.setIfInBounds_toArray, List.set_cons_zero, List.set_cons_succ]
        refine wpAnyH_take (i := 2) (oi := _) (v := ?_) rfl (by kernel_rfl) (by kernel_rfl) (by kernel_rfl) (fun _ _ _ h => h) (Or.inl ⟨by rfl, ?_⟩) (by assumption) ?_
        rotate_left
        · intro w hSw
          (try dsimp only at hSw)
          go_simp
          (try with_reducible rfl)
        try simp only [Act.put, List.getElem_toArray, List.getElem_cons_succ, List.getElem_cons_zero, List.setIfInBounds_toArray, List.set_cons_zero, List.set_cons_succ]
        refine wpAnyH_take (i := 3) (oi := _) (v := ?_) rfl (by kernel_rfl) (by kernel_rfl) (by kernel_rfl) (fun _ _ _ h => h) (Or.inl ⟨by rfl, ?_⟩) (by assumption) ?_
        rotate_left
        · intro w hSw
          (try dsimp only at hSw)
          go_simp
          (try with_reducible rfl)
        try simp only [Act.put, List.getElem_toArray, List.getElem_cons_succ, List.getElem_cons_zero, List.setIfInBounds_toArray, List.set_cons_zero, List.set_cons_succ]
        refine wpAnyH_take (i := 4) (oi := _) (v := ?_) rfl (by kernel_rfl) (by kernel_rfl) (by kernel_rfl) (fun _ _ _ h => h) (Or.inl ⟨by rfl, ?_⟩) (by assumption) ?_
        rotate_left
        · intro w hSw
          (try dsimp only at hSw)
          go_simp
          (try with_reducible rfl)
        try simp only [Act.put, List.getElem_toArray, List.getElem_cons_succ, List.getElem_cons_zero, List.setIfInBounds_toArray, List.set_cons_zero, List.set_cons_succ]
        refine wpAnyH_take (i := 5) (oi := _) (v := _) rfl (by kernel_rfl) (by kernel_rfl) (by kernel_rfl) (fun _ _ _ h => h) (yieldsIf_load_mid (by rfl) 73 (.tmp 9) rfl wA.heap.size 0 rfl cs1 _ (fun _ h => h.1) hu rfl hszc) (by assumption) ?_
        try simp only [Act.put, List.getElem_toArray, List.getElem_cons_succ, List.getElem_cons_zero, List.setIfInBounds_toArray, List.set_cons_zero, List.set_cons_succ]
        refine wpAnyH_take (i := 6) (oi := _) (v := ?_) rfl (by kernel_rfl) (by kernel_rfl) (by kernel_rfl) (fun _ _ _ h => h) (Or.inl ⟨by rfl, ?_⟩) (by assumption) ?_
        rotate_left
        · intro w hSw
          (try dsimp only at hSw)
          go_simp
          (try with_reducible rfl)
        try simp only [Act.put, List.getElem_toArray, List.getElem_cons_succ, List.getElem_cons_zero, List.setIfInBounds_toArray, List.set_cons_zero, List.set_cons_succ]
        refine wpAnyH_take (i := 7) (oi := _) (v := ?_) rfl (by kernel_rfl) (by kernel_rfl) (by kernel_rfl) (fun _ _ _ h => h) (Or.inl ⟨by rfl, ?_⟩) (by assumption) ?_
        rotate_left
        · intro w hSw
          (try dsimp only at hSw)
          go_simp
          (try with_reducible rfl)
        try simp only [Act.put, List.getElem_toArray, List.getElem_cons_succ, List.getElem_cons_zero, List.setIfInBounds_toArray, List.set_cons_zero, List.set_cons_succ]
        refine wpAnyH_take (i := 8) (oi := _) (v := ?_) rfl (by kernel_rfl) (by kernel_rfl) (by kernel_rfl) (fun _ _ _ h => h) (Or.inl ⟨by rfl, ?_⟩) (by assumption) ?_
        rotate_left
        · intro w hSw
          (try dsimp only at hSw)
          go_simp
          (try with_reducible rfl)
        try simp only [Act.put, List.getElem_toArray, List.getElem_cons_succ, List.getElem_cons_zero, List.setIfInBounds_toArray, List.set_cons_zero, List.set_cons_succ]
        refine wpAnyH_ready (rs := [9]) (by kernel_rfl) (by simp) ?_
        refine AllReadyH.cons (o := _) rfl (fun K hK => ?_) AllReadyH.nil
        go_simp
        go_at_call 48
        (with_reducible refine (HR2.out _ (HQ.out.mono (bel_trans hb3E hHeld.2))).mono ?_)
        rintro e wF ⟨rfl, hbF⟩
        go_simp
        refine hK.out _ _ (held_range hHeld hbF) (fun hHeld => ?_)
        clear hK K
        try simp only [Act.put, List.getElem_toArray, List.getElem_cons_succ, List.getElem_cons_zero, List.setIfInBounds_toArray, List.set_cons_zero, List.set_cons_succ]
        refine wpAnyH_take (i := 10) (oi := _) (v := ?_) rfl (by kernel_rfl) (by kernel_rfl) (by kernel_rfl) (fun _ _ _ h => h) (Or.inl ⟨by rfl, ?_⟩) (by assumption) ?_
        rotate_left
        · intro w hSw
          (try dsimp only at hSw)
          go_simp
          (try with_reducible rfl)
        try simp only [Act.put, List.getElem_toArray, List.getElem_cons_succ, List.getElem_cons_zero, List.setIfInBounds_toArray, List.set_cons_zero, List.set_cons_succ]
        refine wpAnyH_take (i := 11) (oi := _) (v := ?_) rfl (by kernel_rfl) (by kernel_rfl) (by kernel_rfl) (fun _ _ _ h => h) (Or.inl ⟨by rfl, ?_⟩) (by assumption) ?_
        rotate_left
        · intro w hSw
          (try dsimp only at hSw)
          go_simp
          (try with_reducible rfl)
        try simp only [Act.put, List.getElem_toArray, List.getElem_cons_succ, List.getElem_cons_zero, List.setIfInBounds_toArray, List.set_cons_zero, List.set_cons_succ]
        refine wpAnyH_done (by kernel_rfl) ?_ _
        refine NoPanic.normal ?_
        go_wp2
        go_roundg (N - (k + 1))
        case measure => omega
        case rel => exact ⟨k + 1, by omega, rfl, by go_num, hb3E.trans (hHeld.2.mono hb3E.size), HOE.out.mono hHeld.2⟩
      · have hki2 : decide ((k : Int) < (N : Int) - 1) = false := decide_eq_false (by omega)
        go_quiet (fail)
        go_wp2
        go_roundg (N - (k + 1))
        case measure => omega
        case rel => exact ⟨k + 1, by omega, rfl, by go_num, below_drewN hb3E _, HOE.out⟩
    · have hkN : k = N := by omega
      subst hkN
      have hglen := gotL_len rows k
      obtain ⟨hR1, hR2⟩ := hNR
      have hHT := HT.out.has
      obtain ⟨pg, cg, rfl⟩ := own_len hHT
      rw [hglen] at hHT
      obtain ⟨g, cap, e1, hcg, _⟩ := own_shape HT.out (by omega)
      rw [hglen] at e1 hcg
      injection e1 with e1 _ e3
      subst e1
      subst e3
      have hgm : cg ≤ 9223372036854775807 := by unfold maxLen at *; assumption
      rw [hglen]
      have hHt := hHT.takeN (m := rows.length) (by omega)
      rw [gotL_take HROW.out hR1] at hHt
      have hHw := HW3.out.mono hb
      have HSM : RowKit.Hid (Calls Tryd.prog 43 #[.slice (some ⟨g, 0, none⟩) rows.length cg, .slice p2 rows.length c2] wr fun e w' => e = .returned (.bool true) ∧ Below wr.heap.size wr w') := Lib.hid (same_true rows _ _ wr hHt hHw (by omega))
      have HGC : RowKit.Hid (∀ i, i < 23 * k → rows.length ≤ i → wr.cell? ⟨g, 0 + i, none⟩ = some (.string (strOf (rowL [])))) := Lib.hid fun i h1 h2 => by
        have := has_cells hHT i (by rw [hglen]; exact h1)
        rw [this, gotL_blank h1 h2]
      have HBY : RowKit.Hid (∀ j, j < 64 → (strOf (rowL [])).data.toList.getD j 0 = 32) := Lib.hid fun j hj => by
        show (rowL []).getD j 0 = 32
        rw [rowL_get [] hj]
        rfl
      have hsz : (strOf (rowL [])).size = 64 := rfl
      clear hHT hHt hHw HT
      generalize strOf (rowL []) = s at *
      generalize rows.length = R at *
      obtain ⟨G, hG⟩ : ∃ G, G = 23 * k := ⟨_, rfl⟩
      rw [← hG] at hR1 hR2 hglen hcg HGC ⊢
      have hk100 : k < 100 := hpg
      have hGi : ¬ (G : Int) < (R : Int) := by omega
      have hGi2 : decide ((G : Int) < (R : Int)) = false := decide_eq_false (by omega)
      have hRG : (R : Int) ≤ (G : Int) := by omega
      have hRc : (R : Int) ≤ (cg : Int) := by omega
      have hwr : IntKind.i64.wrap ((R : Int) + 23) = (R : Int) + 23 := wrap_in (by omega) (by omega)
      have h23 : R = 0 → (23 : Int) ≤ (G : Int) := fun _ => by omega
      have hbits : R = 0 ∨ (0 < R ∧ decide ((R : Int) + 23 ≤ (G : Int)) = false) := by
        rcases hR2 with h | h
        · exact .inl h
        · by_cases h0 : R = 0
          · exact .inl h0
          · exact .inr ⟨by omega, decide_eq_false (by omega)⟩
      have H23 := Lib.hid h23
      have HR1 := Lib.hid hR1
      have HK1 := Lib.hid hN1
      have HKG := Lib.hid hG
      clear h23 hR2 hG hglen hN1 hR1 HROW HAP HRW
      rcases hbits with rfl | ⟨h0R, hd1⟩
      · have h23 := H23.out rfl
        go_wp2_with (first
          | (go_at_call 43; (with_reducible refine HSM.out.mono ?_); rintro e wS ⟨rfl, hbS⟩))
        have hbT := hb.trans (hbS.mono hb.size)
        have HGC2 : RowKit.Hid (∀ i, i < G → 0 ≤ i → wS.cell? ⟨g, 0 + i, none⟩ = some (.string s)) := Lib.hid fun i h1 h2 => cell_bel hbS (HGC.out i h1 h2)
        clear HSM HGC hbS
        obtain ⟨wo, rfl⟩ : ∃ x : World, x = wS := ⟨_, rfl⟩
        go_loopg [10] (G - 0) (fun f i wr => ∃ m : Nat, 0 ≤ m ∧ m ≤ G ∧ f = G - m ∧ i = .int .i64 m ∧ wo = wr)
        case atStart => exact ⟨0, Nat.le_refl _, HR1.out, rfl, rfl, rfl⟩
        case round =>
          obtain ⟨m, hm1, hm2, rfl, rfl, rfl⟩ := hrel
          by_cases hlt : m < G
          · have hmi : (m : Int) < (G : Int) := by omega
            have hm0 : (0 : Int) ≤ (m : Int) := by omega
            have c1 := HGC2.out m hlt hm1
            have c2 : wo.cell? ⟨g, m, none⟩ = some (.string s) := by rw [← c1, Nat.zero_add]
            go_wp2_with fail
            go_loopg [11] 64 (fun f i wr => ∃ j : Nat, j ≤ 64 ∧ f = 64 - j ∧ i = .int .i64 j ∧ wo = wr)
            case atStart => exact ⟨0, by omega, rfl, rfl, rfl⟩
            case round =>
              obtain ⟨j, hj, rfl, rfl, rfl⟩ := hrel
              by_cases hjl : j < 64
              · have hji : (j : Int) < 64 := by omega
                have hj0 : (0 : Int) ≤ (j : Int) := by omega
                have hgl := get_list s j (by omega)
                rw [HBY.out j hjl] at hgl
                go_wp2_with fail
                go_roundg (64 - (j + 1))
                case measure => omega
                case rel => exact ⟨j + 1, by omega, rfl, by go_num, rfl⟩
              · have hje : j = 64 := by omega
                subst hje
                go_wp2_with fail
                go_roundg (G - (m + 1))
                case measure => omega
                case rel => exact ⟨m + 1, by omega, by omega, rfl, by go_num, rfl⟩
          · have hme : m = G := by omega
            subst hme
            have hq := HEQ.out 0 0
            rw [decide_eq_true rfl] at hq
            have hq2 := HEQ.out (k - 1) (k - 1)
            rw [decide_eq_true rfl] at hq2
            rcases Int.lt_or_le out 0 with ho | ho
            · have HRA := HRN.out out
              have HRB := HRN.out 0
              rw [show pgN out k = 0 by unfold pgN; rw [if_pos ho]] at HRA
              rw [show pgN 0 k = 0 by have := pgN_in (j := 0) (N := k) HK1.out; exact this] at HRB
              have HR1 := Lib.hid HRA
              have HR2 := Lib.hid HRB
              generalize byteV (pageL rows 0) = ua at *
              clear HRA HRB hq2
              go_wp2_with (first
                | (go_at_call 48; (with_reducible refine (HR1.out _ (HQ.out.mono hbT)).mono ?_); rintro e w9 ⟨rfl, hb9⟩; have hb19 := bel_trans hbT hb9)
                | (go_at_call 48; (with_reducible refine (HR2.out _ (HQ.out.mono hb19)).mono ?_); rintro e w10 ⟨rfl, hb10⟩))
              go_ret
              exact ⟨rfl, bel_trans hb13 (bel_trans hb19 hb10)⟩
            · by_cases hlo : out < (k : Int)
              · go_wp2_with fail
                go_ret
                exact ⟨rfl, bel_trans hb13 hbT⟩
              · have hlo2 : (k : Int) ≤ out := by omega
                have hwr3 : IntKind.i64.wrap ((k : Int) - 1) = (k : Int) - 1 := wrap_in (by omega) (by omega)
                have HRA := HRN.out out
                have HRB := HRN.out ((k : Int) - 1)
                rw [show pgN out k = k - 1 by unfold pgN; rw [if_neg (by omega), if_pos (by omega)]] at HRA
                rw [show pgN ((k : Int) - 1) k = k - 1 by have := pgN_in (j := k - 1) (N := k) (by have := HK1.out; omega); rwa [show (((k - 1 : Nat) : Int)) = (k : Int) - 1 by have := HK1.out; omega] at this] at HRB
                have HR1 := Lib.hid HRA
                have HR2 := Lib.hid HRB
                generalize byteV (pageL rows (k - 1)) = ua at *
                clear HRA HRB hq
                go_wp2_with (first
                  | (go_at_call 48; (with_reducible refine (HR1.out _ (HQ.out.mono hbT)).mono ?_); rintro e w9 ⟨rfl, hb9⟩; have hb19 := bel_trans hbT hb9)
                  | (go_at_call 48; (with_reducible refine (HR2.out _ (HQ.out.mono hb19)).mono ?_); rintro e w10 ⟨rfl, hb10⟩))
                go_ret
                exact ⟨rfl, bel_trans hb13 (bel_trans hb19 hb10)⟩
      · go_wp2_with (first
          | (go_at_call 43; (with_reducible refine HSM.out.mono ?_); rintro e wS ⟨rfl, hbS⟩))
        have hbT := hb.trans (hbS.mono hb.size)
        have HGC2 : RowKit.Hid (∀ i, i < G → R ≤ i → wS.cell? ⟨g, 0 + i, none⟩ = some (.string s)) := Lib.hid fun i h1 h2 => cell_bel hbS (HGC.out i h1 h2)
        clear HSM HGC hbS
        obtain ⟨wo, rfl⟩ : ∃ x : World, x = wS := ⟨_, rfl⟩
        go_loopg [10] (G - R) (fun f i wr => ∃ m : Nat, R ≤ m ∧ m ≤ G ∧ f = G - m ∧ i = .int .i64 m ∧ wo = wr)
        case atStart => exact ⟨R, Nat.le_refl _, HR1.out, rfl, rfl, rfl⟩
        case round =>
          obtain ⟨m, hm1, hm2, rfl, rfl, rfl⟩ := hrel
          by_cases hlt : m < G
          · have hmi : (m : Int) < (G : Int) := by omega
            have hm0 : (0 : Int) ≤ (m : Int) := by omega
            have c1 := HGC2.out m hlt hm1
            have c2 : wo.cell? ⟨g, m, none⟩ = some (.string s) := by rw [← c1, Nat.zero_add]
            go_wp2_with fail
            go_loopg [11] 64 (fun f i wr => ∃ j : Nat, j ≤ 64 ∧ f = 64 - j ∧ i = .int .i64 j ∧ wo = wr)
            case atStart => exact ⟨0, by omega, rfl, rfl, rfl⟩
            case round =>
              obtain ⟨j, hj, rfl, rfl, rfl⟩ := hrel
              by_cases hjl : j < 64
              · have hji : (j : Int) < 64 := by omega
                have hj0 : (0 : Int) ≤ (j : Int) := by omega
                have hgl := get_list s j (by omega)
                rw [HBY.out j hjl] at hgl
                go_wp2_with fail
                go_roundg (64 - (j + 1))
                case measure => omega
                case rel => exact ⟨j + 1, by omega, rfl, by go_num, rfl⟩
              · have hje : j = 64 := by omega
                subst hje
                go_wp2_with fail
                go_roundg (G - (m + 1))
                case measure => omega
                case rel => exact ⟨m + 1, by omega, by omega, rfl, by go_num, rfl⟩
          · have hme : m = G := by omega
            subst hme
            have hq := HEQ.out 0 0
            rw [decide_eq_true rfl] at hq
            have hq2 := HEQ.out (k - 1) (k - 1)
            rw [decide_eq_true rfl] at hq2
            rcases Int.lt_or_le out 0 with ho | ho
            · have HRA := HRN.out out
              have HRB := HRN.out 0
              rw [show pgN out k = 0 by unfold pgN; rw [if_pos ho]] at HRA
              rw [show pgN 0 k = 0 by have := pgN_in (j := 0) (N := k) HK1.out; exact this] at HRB
              have HR1 := Lib.hid HRA
              have HR2 := Lib.hid HRB
              generalize byteV (pageL rows 0) = ua at *
              clear HRA HRB hq2
              go_wp2_with (first
                | (go_at_call 48; (with_reducible refine (HR1.out _ (HQ.out.mono hbT)).mono ?_); rintro e w9 ⟨rfl, hb9⟩; have hb19 := bel_trans hbT hb9)
                | (go_at_call 48; (with_reducible refine (HR2.out _ (HQ.out.mono hb19)).mono ?_); rintro e w10 ⟨rfl, hb10⟩))
              go_ret
              exact ⟨rfl, bel_trans hb13 (bel_trans hb19 hb10)⟩
            · by_cases hlo : out < (k : Int)
              · go_wp2_with fail
                go_ret
                exact ⟨rfl, bel_trans hb13 hbT⟩
              · have hlo2 : (k : Int) ≤ out := by omega
                have hwr3 : IntKind.i64.wrap ((k : Int) - 1) = (k : Int) - 1 := wrap_in (by omega) (by omega)
                have HRA := HRN.out out
                have HRB := HRN.out ((k : Int) - 1)
                rw [show pgN out k = k - 1 by unfold pgN; rw [if_neg (by omega), if_pos (by omega)]] at HRA
                rw [show pgN ((k : Int) - 1) k = k - 1 by have := pgN_in (j := k - 1) (N := k) (by have := HK1.out; omega); rwa [show (((k - 1 : Nat) : Int)) = (k : Int) - 1 by have := HK1.out; omega] at this] at HRB
                have HR1 := Lib.hid HRA
                have HR2 := Lib.hid HRB
                generalize byteV (pageL rows (k - 1)) = ua at *
                clear HRA HRB hq
                go_wp2_with (first
                  | (go_at_call 48; (with_reducible refine (HR1.out _ (HQ.out.mono hbT)).mono ?_); rintro e w9 ⟨rfl, hb9⟩; have hb19 := bel_trans hbT hb9)
                  | (go_at_call 48; (with_reducible refine (HR2.out _ (HQ.out.mono hb19)).mono ?_); rintro e w10 ⟨rfl, hb10⟩))
                go_ret
                exact ⟨rfl, bel_trans hb13 (bel_trans hb19 hb10)⟩
end Go.Proofs.YtpmmjccdogjncaaDoor
