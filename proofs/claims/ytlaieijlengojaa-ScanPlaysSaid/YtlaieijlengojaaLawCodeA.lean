/- The walks of the laws of package code: CodeTells. -/
import Derived.Test.YtlaieijlengojaaCodeU
namespace Go.Proofs.Ytlaieijlengojaa
open Go.RowKit

theorem bel_trans {w w1 w2 : World} (h : Below w.heap.size w w1) (k : Below w1.heap.size w1 w2) : Below w.heap.size w w2 := h.trans (k.mono h.size)

theorem city_lon (w : World) : Calls Try.prog 27 #[.string ⟨#[76, 79, 78]⟩] w fun e w' => e = .returned (.bool true) ∧ Below w.heap.size w w' :=
  (city_any ⟨#[76, 79, 78]⟩ w (by decide)).mono fun _ _ ⟨h, hb⟩ => ⟨h.trans (ret_bool (by decide)), hb⟩
theorem carrier_7u (w : World) : Calls Try.prog 29 #[.string ⟨#[55, 85]⟩] w fun e w' => e = .returned (.bool true) ∧ Below w.heap.size w w' :=
  (carrier_any ⟨#[55, 85]⟩ w (by decide)).mono fun _ _ ⟨h, hb⟩ => ⟨h.trans (ret_bool (by decide)), hb⟩
theorem agent_a1 (w : World) : Calls Try.prog 31 #[.string ⟨#[65, 49]⟩] w fun e w' => e = .returned (.bool true) ∧ Below w.heap.size w w' :=
  (agent_any ⟨#[65, 49]⟩ w (by decide)).mono fun _ _ ⟨h, hb⟩ => ⟨h.trans (ret_bool (by decide)), hb⟩
theorem person_o (w : World) : Calls Try.prog 33 #[.string ⟨#[79]⟩] w fun e w' => e = .returned (.bool true) ∧ Below w.heap.size w w' :=
  (person_any ⟨#[79]⟩ w (by decide)).mono fun _ _ ⟨h, hb⟩ => ⟨h.trans (ret_bool (by decide)), hb⟩
theorem class_y (w : World) : Calls Try.prog 41 #[.int .u8 89] w fun e w' => e = .returned (.bool true) ∧ Below w.heap.size w w' :=
  (class_any 89 w (by decide) (by decide)).mono fun _ _ ⟨h, hb⟩ => ⟨h.trans (ret_bool (by decide)), by subst hb; exact Below.refl _ _⟩
theorem locator_abc (w : World) : Calls Try.prog 35 #[.string ⟨#[65, 66, 67, 68, 69, 70]⟩] w fun e w' => e = .returned (.bool true) ∧ Below w.heap.size w w' :=
  (locator_any ⟨#[65, 66, 67, 68, 69, 70]⟩ w (by decide)).mono fun _ _ ⟨h, hb⟩ => ⟨h.trans (ret_bool (by decide)), hb⟩
theorem free_ab (w : World) : Calls Try.prog 37 #[.string ⟨#[65, 32, 66]⟩] w fun e w' => e = .returned (.bool true) ∧ Below w.heap.size w w' :=
  (free_any ⟨#[65, 32, 66]⟩ w (by decide)).mono fun _ _ ⟨h, hb⟩ => ⟨h.trans (ret_bool (by decide)), hb⟩
theorem upper_a1 (w : World) : Calls Try.prog 39 #[.string ⟨#[97, 49]⟩] w fun e w' => e = .returned (.string ⟨#[65, 49]⟩) ∧ Below w.heap.size w w' :=
  (upper_any ⟨#[97, 49]⟩ w (by decide)).mono fun _ _ ⟨h, hb⟩ => ⟨h.trans (ret_str (by decide)), hb⟩

theorem awake_code (w : World) : Calls Try.prog 25 #[] w fun e w' => e = .returned (.bool true) ∧ Below w.heap.size w w' := by
  have hb := Below.refl w.heap.size w
  go_enter Try.func25, Try.ntmps25
  go_wp2_with (first
    | (go_at_call 27; refine (city_lon _).mono ?_; rintro e w1 ⟨rfl, hb1⟩; replace hb := bel_trans hb hb1; clear hb1)
    | (go_at_call 29; refine (carrier_7u _).mono ?_; rintro e w1 ⟨rfl, hb1⟩; replace hb := bel_trans hb hb1; clear hb1)
    | (go_at_call 31; refine (agent_a1 _).mono ?_; rintro e w1 ⟨rfl, hb1⟩; replace hb := bel_trans hb hb1; clear hb1)
    | (go_at_call 33; refine (person_o _).mono ?_; rintro e w1 ⟨rfl, hb1⟩; replace hb := bel_trans hb hb1; clear hb1)
    | (go_at_call 41; refine (class_y _).mono ?_; rintro e w1 ⟨rfl, hb1⟩; replace hb := bel_trans hb hb1; clear hb1)
    | (go_at_call 35; refine (locator_abc _).mono ?_; rintro e w1 ⟨rfl, hb1⟩; replace hb := bel_trans hb hb1; clear hb1)
    | (go_at_call 37; refine (free_ab _).mono ?_; rintro e w1 ⟨rfl, hb1⟩; replace hb := bel_trans hb hb1; clear hb1)
    | (go_at_call 39; refine (upper_a1 _).mono ?_; rintro e w1 ⟨rfl, hb1⟩; replace hb := bel_trans hb hb1; clear hb1))
  go_ret
  exact ⟨rfl, hb⟩

theorem long_any (s : ByteArray) (w : World) (_hs : s.size ≤ maxLen) : Calls Try.prog 26 #[.string s] w fun e w' => e = .returned (.bool (decide ((20000 : Int) < (s.size : Int)))) ∧ w = w' := by
  go_enter Try.func26, Try.ntmps26
  go_wp2
  all_goals
    go_ret
    exact ⟨rfl, rfl⟩

theorem refFree_any2 (s : ByteArray) (w : World) (hs : s.size ≤ maxLen) :
    Calls Try.prog 38 #[.string s] w fun e w' => e = .returned (.bool (freeS s.data.toList)) ∧ w = w' := by
  rw [free_eq]; exact refFree_any s w hs

theorem tells_walk (s : ByteArray) (hs : s.size ≤ maxLen) (w : World) : Calls Try.prog 10 #[.string s] w fun e w' => e = .returned (.bool true) ∧ Below w.heap.size w w' := by
  have hb := Below.refl w.heap.size w
  by_cases hl : (20000 : Int) < (s.size : Int)
  · go_enter Try.func10, Try.ntmps10
    go_wp2_with (first
      | (go_at_call 25; refine (awake_code _).mono ?_; rintro e w1 ⟨rfl, hb1⟩; replace hb := bel_trans hb hb1; clear hb1)
      | (go_at_call 26; refine (long_any _ _ hs).mono ?_; rintro e w1 ⟨rfl, rfl⟩))
    go_ret
    exact ⟨rfl, hb⟩
  · go_enter Try.func10, Try.ntmps10
    go_wp2_with (first
      | (go_at_call 25; refine (awake_code _).mono ?_; rintro e w1 ⟨rfl, hb1⟩; replace hb := bel_trans hb hb1; clear hb1)
      | (go_at_call 26; refine (long_any _ _ hs).mono ?_; rintro e w1 ⟨rfl, rfl⟩)
      | (go_at_call 27; refine (city_any _ _ hs).mono ?_; rintro e w1 ⟨rfl, hb1⟩; replace hb := bel_trans hb hb1; clear hb1)
      | (go_at_call 29; refine (carrier_any _ _ hs).mono ?_; rintro e w1 ⟨rfl, hb1⟩; replace hb := bel_trans hb hb1; clear hb1)
      | (go_at_call 31; refine (agent_any _ _ hs).mono ?_; rintro e w1 ⟨rfl, hb1⟩; replace hb := bel_trans hb hb1; clear hb1)
      | (go_at_call 33; refine (person_any _ _ hs).mono ?_; rintro e w1 ⟨rfl, hb1⟩; replace hb := bel_trans hb hb1; clear hb1)
      | (go_at_call 35; refine (locator_any _ _ hs).mono ?_; rintro e w1 ⟨rfl, hb1⟩; replace hb := bel_trans hb hb1; clear hb1)
      | (go_at_call 37; refine (free_any _ _ hs).mono ?_; rintro e w1 ⟨rfl, hb1⟩; replace hb := bel_trans hb hb1; clear hb1)
      | (go_at_call 28; refine (refCity_any _ _ hs).mono ?_; rintro e w1 ⟨rfl, rfl⟩)
      | (go_at_call 30; refine (refCarrier_any _ _ hs).mono ?_; rintro e w1 ⟨rfl, rfl⟩)
      | (go_at_call 32; refine (refAgent_any _ _ hs).mono ?_; rintro e w1 ⟨rfl, rfl⟩)
      | (go_at_call 34; refine (refPerson_any _ _ hs).mono ?_; rintro e w1 ⟨rfl, rfl⟩)
      | (go_at_call 36; refine (refLocator_any _ _ hs).mono ?_; rintro e w1 ⟨rfl, rfl⟩)
      | (go_at_call 38; refine (refFree_any2 _ _ hs).mono ?_; rintro e w1 ⟨rfl, rfl⟩))
    go_ret
    exact ⟨rfl, hb⟩
end Go.Proofs.Ytlaieijlengojaa
