/- A slice of texts that came in; the law ScreenLines: the walk. -/
import Derived.Test.YtpmmjccdogjncaaDoorScrJ
import Derived.ProofKit
import Derived.OpenShut
import Derived.SliceStrings
namespace Go.Proofs.YtpmmjccdogjncaaDoor
open Go.RowKit Go.ChangeShapes Go.WideShapes Go.ChangeAt

/-- What the walk is told of a slice of texts that came in. -/
def Texts (w : World) (v : Value) (l : List ByteArray) : Prop := HasL w v l ∧ l.length ≤ maxLen ∧ ∀ s ∈ l, s.size ≤ maxLen

theorem open_texts {H : Type} {enc : TypeId × Value → H} {W : World} {a0 : Option Addr} {len cap fuel : Nat} {x : DataW H × List MemPlace}
    (hf : DataW.trod enc Tryd.prog W 0 (fun _ => true) true fuel 63 [.slice a0 len cap] = some x) : ∃ l, Texts W (.slice a0 len cap) l := by
  rcases open_strings Tryd.underlying63 Tryd.underlying9 (by kernel_rfl) hf with ⟨hcs, _⟩ | ⟨a, len', cap', ss, hcs, _, hl, hm, hz, _, hcell, hsz⟩
  · simp at hcs
    obtain ⟨rfl, rfl, rfl⟩ := hcs
    exact ⟨[], HasL.nil _, by simp, by simp⟩
  · simp at hcs
    obtain ⟨rfl, rfl, rfl⟩ := hcs
    simp only [if_true] at hz
    by_cases h0 : len = 0
    · subst h0
      exact ⟨[], .inl ⟨_, _, rfl, rfl, fun h => by cases h⟩, by simp, by simp⟩
    · obtain ⟨b, off, spot⟩ := a
      have hspot : spot = none := by simpa [Addr.add] using World.cell?_spot (hcell 0 (by omega))
      subst hspot
      have e : (ss.take len).length = len := by simp; omega
      refine ⟨ss.take len, .inr ⟨b, off, cap, by rw [e], by omega, hm, fun j hj => ?_⟩, by omega, fun s hs => hsz s (List.mem_of_mem_take hs)⟩
      rw [e] at hj
      have h1 := hcell j (by omega)
      rw [Addr.add_lit] at h1
      rw [h1]
      simp [List.getD, hj]


theorem few_sizes {l : List ByteArray} (h : fewS l = true) : l.length < 30000 ∧ sumS l < 30000 ∧ ∀ s ∈ l, s.size ≤ 30000 := by
  unfold fewS at h
  rw [decide_eq_true_eq] at h
  exact ⟨by omega, by omega, fun s hs => by have := sumS_mem hs; omega⟩

set_option maxRecDepth 20000 in
set_option maxHeartbeats 8000000 in
theorem screenLines_walk (v : Value) (l : List ByteArray) (w : World) (h : Texts w v l) :
    Calls Tryd.prog 9 #[v] w fun e w' => e = .returned (.bool true) ∧ Below w.heap.size w w' := by
  obtain ⟨hv, hm, hsz⟩ := h
  have HA : RowKit.Hid (∀ W, Calls Tryd.prog 40 #[] W fun e w' => e = .returned (.bool true) ∧ Below W.heap.size W w') := Lib.hid fun W => awakeS_any W
  have CF : ∀ W, HasL W v l → Calls Tryd.prog 41 #[v] W fun e w' => e = .returned (.bool (fewS l)) ∧ W = w' := fun W hh => Few_any l v W hh hm hsz
  have HV := Lib.hid hv
  cases hf : fewS l
  · rw [hf] at CF
    have HF := Lib.hid CF
    clear CF hf hv
    go_enter Tryd.func9, Tryd.ntmps9
    go_wp2_with (first
      | (go_at_call 40; (with_reducible refine (HA.out _).mono ?_); rintro e w1 ⟨rfl, hb1⟩)
      | (go_at_call 41; (with_reducible refine (HF.out _ (HV.out.mono hb1)).mono ?_); rintro e w2 ⟨rfl, rfl⟩))
    go_ret
    exact ⟨rfl, hb1⟩
  obtain ⟨hl3, _, hz⟩ := few_sizes hf
  rw [hf] at CF
  have HF := Lib.hid CF
  clear CF hf hsz
  obtain ⟨p, c, rfl⟩ := own_len hv
  obtain ⟨i0, hi, hz0, hz1, hz2⟩ := str_info
  have HL1 : RowKit.Hid (∀ W v, HasL W v l → _) := Lib.hid fun W v hh => lines_any l v W hh hz
  have HL2 : RowKit.Hid (∀ W v, HasL W v l → _) := Lib.hid fun W v hh => rlines_any l v W hh hz
  have HP1 : RowKit.Hid (∀ W v, HasL W v l → _) := Lib.hid fun W v hh => Pages_any l v W hh hz
  have HP2 : RowKit.Hid (∀ W v, HasL W v l → _) := Lib.hid fun W v hh => rPages_any l v W hh hz
  have hll := linesS_len l hz
  have HS1 : RowKit.Hid (∀ W va vb, HasL W va (linesS l) → HasL W vb (linesS l) → _) := Lib.hid fun W va vb ha hb => same_true (linesS l) va vb W ha hb (by omega)
  have HS2 : RowKit.Hid (∀ W va vb, HasL W va l → HasL W vb l → _) := Lib.hid fun W va vb ha hb => same_true l va vb W ha hb (by omega)
  clear hv hz hll
  go_enter Tryd.func9, Tryd.ntmps9
  go_upto_region 5 with (first
    | (go_at_call 40; (with_reducible refine (HA.out _).mono ?_); rintro e w1 ⟨rfl, hb1⟩)
    | (go_at_call 41; (with_reducible refine (HF.out _ (HV.out.mono hb1)).mono ?_); rintro e w2 ⟨rfl, rfl⟩))
  clear HF HA
  have HQ := Lib.hid (HV.out.mono hb1)
  go_cut [3] from 5 (fun s3 wx => OwnL wx w1.heap.size s3 l ∧ Below w1.heap.size w1 wx)
  case first =>
    rcases HQ.out with ⟨_, _, e1, rfl, hpn⟩ | ⟨bq, oq, cq, e1, h1, h2, h3⟩
    · injection e1 with e1 _ e3
      subst e1
      subst e3
      cases p with
      | none =>
        have hc0 := hpn rfl
        subst hc0
        simp only [List.length_nil] at *
        go_wp2_with (first
          | (at_make; refine wpList_make_own _ rfl _ _ 63 rfl w1.heap.size 9 i0 (.string ⟨#[]⟩) 1 Tryd.underlying63 hi hz0 hz1 .i64 .i64 _ 2 rfl rfl (by first | rfl | omega) (by rw [hz2]; omega) (by unfold maxLen; omega) (Nat.le_refl _) ?_; intro w3 ho3 hg3)
          | (at_builtin; refine wpList_append_own_none rfl _ _ 63 rfl w1.heap.size 9 i0 1 Tryd.underlying63 hi _ 0 [] rfl ho3 rfl ?_))
        go_meet
        exact ⟨ho3, (Below.refl _ _).grown hg3 (Nat.le_refl _) (by intro j hj; simp at hj)⟩
      | some ad =>
        go_wp2_with (first
          | (at_make; refine wpList_make_own _ rfl _ _ 63 rfl w1.heap.size 9 i0 (.string ⟨#[]⟩) 1 Tryd.underlying63 hi hz0 hz1 .i64 .i64 _ 2 rfl rfl (by first | rfl | omega) (by rw [hz2]; omega) (by unfold maxLen; omega) (Nat.le_refl _) ?_; intro w3 ho3 hg3)
          | (at_builtin; refine wpList_append_own _ rfl _ _ 63 rfl w1.heap.size 9 i0 (.string ⟨#[]⟩) 1 16 Tryd.underlying63 hi hz0 hz1 hz2 rfl (by decide) _ 0 [] rfl ho3 ad 0 c [] rfl (by rfl) (by simp) (by simp) (by unfold maxLen; omega) (by omega) hg3.size ?_; intro v4 w4 ho4 hg4 hnil4))
        go_meet
        exact ⟨by simpa [OwnL, strV] using ho4, ((Below.refl _ _).grown hg3 (Nat.le_refl _) (by intro j hj; simp at hj)).grown hg4 hg3.size (by intro j hj; have e : some w1.heap.size = some j := hj; injection e with e; omega)⟩
    · injection e1 with e1 _ e3
      subst e1
      subst e3
      have H3 := Lib.hid h3
      have hsl := strV_len l
      clear h3
      go_wp2_with (first
        | (at_make; refine wpList_make_own _ rfl _ _ 63 rfl w1.heap.size 9 i0 (.string ⟨#[]⟩) 1 Tryd.underlying63 hi hz0 hz1 .i64 .i64 _ (l.length + 2) rfl rfl (by first | rfl | omega) (by rw [hz2]; omega) (by unfold maxLen; omega) (Nat.le_refl _) ?_; intro w3 ho3 hg3)
        | (at_builtin; refine wpList_append_own _ rfl _ _ 63 rfl w1.heap.size 9 i0 (.string ⟨#[]⟩) 1 16 Tryd.underlying63 hi hz0 hz1 hz2 rfl (by decide) _ 0 [] rfl ho3 ⟨bq, oq, none⟩ l.length c (strV l) rfl (by omega) (strV_cells fun j hj => hg3.cell (H3.out j hj) (by simp)) strV_one (by unfold maxLen; omega) (by omega) hg3.size ?_; intro v4 w4 ho4 hg4 hnil4))
      go_meet
      exact ⟨by simpa [OwnL] using ho4, ((Below.refl _ _).grown hg3 (Nat.le_refl _) (by intro j hj; simp at hj)).grown hg4 hg3.size (by intro j hj; have e : some w1.heap.size = some j := hj; injection e with e; omega)⟩
  case rest =>
    obtain ⟨ho3, hb3⟩ := hcut
    obtain ⟨wm, rfl⟩ : ∃ x : World, x = wc := ⟨_, rfl⟩
    have HO3 := Lib.hid ho3.has
    have HM := Lib.hid (HQ.out.mono hb3)
    have hpe : ((pagesN (linesS l).length : Int) == (pagesN (linesS l).length : Int)) = true := by simp
    clear ho3
    go_wp2_with (first
      | (go_at_call 42; (with_reducible refine (HL1.out _ _ HO3.out).mono ?_); rintro e w5 ⟨v5, rfl, ho5, hb5⟩; have HO5 := Lib.hid ho5.has; clear ho5)
      | (go_at_call 44; (with_reducible refine (HL2.out _ _ (HM.out.mono hb5)).mono ?_); rintro e w6 ⟨v6, rfl, ho6, hb6⟩; have HO6 := Lib.hid ho6.has; clear ho6)
      | (go_at_call 43; (with_reducible refine (HS1.out _ _ _ (HO5.out.mono hb6) HO6.out).mono ?_); rintro e w7 ⟨rfl, hb7⟩; have hb57 := bel_trans (bel_trans hb5 hb6) hb7)
      | (go_at_call 45; (with_reducible refine (HP1.out _ _ (HO3.out.mono hb57)).mono ?_); rintro e w8 ⟨rfl, hb8⟩)
      | (go_at_call 46; (with_reducible refine (HP2.out _ _ (HM.out.mono (bel_trans hb57 hb8))).mono ?_); rintro e w9 ⟨rfl, hb9⟩; have hb59 := bel_trans (bel_trans hb57 hb8) hb9)
      | (go_at_call 43; (with_reducible refine (HS2.out _ _ _ (HO3.out.mono hb59) (HM.out.mono hb59)).mono ?_); rintro e w10 ⟨rfl, hb10⟩))
    go_ret
    exact ⟨rfl, bel_trans hb1 (bel_trans hb3 (bel_trans hb59 hb10))⟩
end Go.Proofs.YtpmmjccdogjncaaDoor
