/- The law ScreenRenders: the walk. -/
import Derived.Test.YtpmmjccdogjncaaDoorScrM
namespace Go.Proofs.YtpmmjccdogjncaaDoor
open Go.RowKit Go.ChangeShapes Go.WideShapes Go.ChangeAt

theorem linesN_sum (l : List ByteArray) : ∀ k, 64 * (linesN l k).length ≤ 64 * k + sumS (l.take k)
  | 0 => by rw [linesN_zero]; exact Nat.zero_le _
  | k + 1 => by
    have h2 := linesN_sum l k
    by_cases hk : k < l.length
    · have h3 := rowsN_le (l.getD k ByteArray.empty).data.toList.length
      have e : (l.getD k ByteArray.empty).data.toList.length = (l.getD k ByteArray.empty).size := by simp
      rw [linesN_step l hk, List.length_append, chunks_len, sumS_step l hk]
      rw [e] at h3 ⊢
      omega
    · have e : linesN l (k + 1) = linesN l k := by unfold linesN; rw [List.take_of_length_le (by omega), List.take_of_length_le (by omega)]
      have e2 : l.take (k + 1) = l.take k := by rw [List.take_of_length_le (by omega), List.take_of_length_le (by omega)]
      rw [e, e2]
      omega

theorem few_pages {l : List ByteArray} (h : fewS l = true) : pagesN (linesS l).length < 100 := by
  obtain ⟨_, h2, _⟩ := few_sizes h
  have h3 := linesN_sum l 400
  have h4 := sumS_take l 400
  have h5 : (linesS l).length ≤ 900 := by unfold linesS; omega
  unfold pagesN
  omega

set_option maxRecDepth 20000 in
set_option maxHeartbeats 8000000 in
theorem screenRenders_walk (page : Int) (_hp : (Lit.int .i64 page).wf = true) (v : Value) (l : List ByteArray) (w : World) (h : Texts w v l) :
    Calls Tryd.prog 10 #[.int .i64 page, v] w fun e w' => e = .returned (.bool true) ∧ Below w.heap.size w w' := by
  obtain ⟨hv, hm, hsz⟩ := h
  have HA : RowKit.Hid (∀ W, Calls Tryd.prog 40 #[] W fun e w' => e = .returned (.bool true) ∧ Below W.heap.size W w') := Lib.hid fun W => awakeS_any W
  have CF : ∀ W, HasL W v l → Calls Tryd.prog 41 #[v] W fun e w' => e = .returned (.bool (fewS l)) ∧ W = w' := fun W hh => Few_any l v W hh hm hsz
  have HV := Lib.hid hv
  cases hf : fewS l
  · rw [hf] at CF
    have HF := Lib.hid CF
    clear CF hf hv
    go_enter Tryd.func10, Tryd.ntmps10
    go_wp2_with (first
      | (go_at_call 40; (with_reducible refine (HA.out _).mono ?_); rintro e w1 ⟨rfl, hb1⟩)
      | (go_at_call 41; (with_reducible refine (HF.out _ (HV.out.mono hb1)).mono ?_); rintro e w2 ⟨rfl, rfl⟩))
    go_ret
    exact ⟨rfl, hb1⟩
  obtain ⟨_, _, hz⟩ := few_sizes hf
  have hpg := few_pages hf
  rw [hf] at CF
  have HF := Lib.hid CF
  clear CF hf hsz
  obtain ⟨p, c, rfl⟩ := own_len hv
  have HR1 : RowKit.Hid (∀ W v, HasL W v l → Calls Tryd.prog 48 #[.int .i64 page, v] W fun e w' => e = .returned (.agg (byteV (pageL (linesS l) (pgN page (pagesN (linesS l).length)))).toArray) ∧ Below W.heap.size W w') := Lib.hid fun W v hh => Render_any page l v W hh hz hpg
  have HR2 : RowKit.Hid (∀ W v, HasL W v l → _) := Lib.hid fun W v hh => rRender_any page l v W hh hz hpg
  have HRW : RowKit.Hid (∀ W, Calls Tryd.prog 47 #[.agg (byteV (pageL (linesS l) (pgN page (pagesN (linesS l).length)))).toArray] W fun e w' => ∃ v', e = .returned v' ∧ OwnL w' (W.heap.size + 1) v' (pageR (linesS l) (pgN page (pagesN (linesS l).length)) 24) ∧ Below W.heap.size W w') := Lib.hid fun W => by
    have := Rows_any (pageL (linesS l) (pgN page (pagesN (linesS l).length))) W (pageL_len _ _)
    rwa [scrR_page] at this
  have HS1 : RowKit.Hid (∀ W va vb, HasL W va (pageR (linesS l) (pgN page (pagesN (linesS l).length)) 24) → HasL W vb (pageR (linesS l) (pgN page (pagesN (linesS l).length)) 24) → _) := Lib.hid fun W va vb ha hb => same_true (pageR (linesS l) (pgN page (pagesN (linesS l).length)) 24) va vb W ha hb (by rw [pageR_len]; omega)
  generalize pgN page (pagesN (linesS l).length) = pg at *
  generalize byteV (pageL (linesS l) pg) = bv at *
  generalize pageR (linesS l) pg 24 = R at *
  clear hv hz hpg
  go_enter Tryd.func10, Tryd.ntmps10
  go_wp2_with (first
    | (go_at_call 40; (with_reducible refine (HA.out _).mono ?_); rintro e w1 ⟨rfl, hb1⟩)
    | (go_at_call 41; (with_reducible refine (HF.out _ (HV.out.mono hb1)).mono ?_); rintro e w2 ⟨rfl, rfl⟩)
    | (go_at_call 48; (with_reducible refine (HR1.out _ _ (HV.out.mono hb1)).mono ?_); rintro e w3 ⟨rfl, hb3⟩; have hb13 := bel_trans hb1 hb3)
    | (go_at_call 47; (with_reducible refine (HRW.out _).mono ?_); rintro e w4 ⟨v4, rfl, ho4, hb4⟩; have HO4 := Lib.hid ho4.has; clear ho4; have hb14 := bel_trans hb13 hb4)
    | (go_at_call 49; (with_reducible refine (HR2.out _ _ (HV.out.mono hb14)).mono ?_); rintro e w5 ⟨v5, rfl, ho5, hb5⟩; have HO5 := Lib.hid ho5.has; clear ho5)
    | (go_at_call 43; (with_reducible refine (HS1.out _ _ _ (HO4.out.mono hb5) HO5.out).mono ?_); rintro e w7 ⟨rfl, hb7⟩))
  go_ret
  exact ⟨rfl, bel_trans (bel_trans hb14 hb5) hb7⟩
end Go.Proofs.YtpmmjccdogjncaaDoor
