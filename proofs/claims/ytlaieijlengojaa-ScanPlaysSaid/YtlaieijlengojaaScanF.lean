/- The contracts of the reference's Number and of Digits. -/
import Derived.Test.YtlaieijlengojaaScanE
namespace Go.Proofs.Ytlaieijlengojaa
open Go.RowKit

set_option maxHeartbeats 4000000 in
theorem rnumber_any (s : ByteArray) (p most : Int) (w : World) (hs : s.size ≤ maxLen) :
    Calls Try.prog 54 #[.string s, .int .i64 p, .int .i64 most] w fun e w' =>
      e = .returned (.tuple #[.int .i64 (numRes (runL 2 (s.data.toList.drop (place s.size p).toNat)) most), .int .i64 (numAt (place s.size p) (runL 2 (s.data.toList.drop (place s.size p).toNat)) most), .bool (numOk (runL 2 (s.data.toList.drop (place s.size p).toNat)) most)]) ∧ w = w' := by
  have hpp := fun W => rplace_any s p W hs
  have hrr := fun W => rrun_any s (place s.size p) 2 W hs
  rw [place_id] at hrr
  have hrl := runA_list s (place s.size p).toNat 2
  have hrs := runA_size s (place s.size p).toNat 2
  have hdig := fun k => @run_digit (s.data.toList.drop (place s.size p).toNat) k
  have hsub : (runA s (place s.size p).toNat 2).size ≤ s.size := by
    have := runL_le 2 (s.data.toList.drop (place s.size p).toNat)
    rw [runA_size]
    simp at this
    omega
  have hp0 := place_ge s.size p
  have hp1 := place_le s.size p
  generalize place s.size p = x at *
  generalize runL 2 (s.data.toList.drop x.toNat) = L at *
  generalize runA s x.toNat 2 = r at *
  unfold maxLen at hs
  have HP := Lib.hid hpp
  have HR := Lib.hid hrr
  have HRL := Lib.hid hrl
  have HRS := Lib.hid hrs
  have HD := Lib.hid hdig
  clear hpp hrr hrl hrs hdig
  by_cases hz : r.size < 1
  · have N := Lib.hid (numOk_no1 (l := L) most (by have := HRS.out; omega))
    have hz1 : (r.size : Int) < 1 := by omega
    go_enter Try.func54, Try.ntmps54
    go_wp2_with (first
    | (go_at_call 47; refine (HP.out _).mono ?_; rintro e w1 ⟨rfl, rfl⟩)
    | (go_at_call 53; refine (HR.out _).mono ?_; rintro e w2 ⟨rfl, rfl⟩))
    go_ret3
    exact ⟨by rw [numRes_no N.out, N.out, numAt_no N.out]; rfl, rfl⟩
  by_cases h9 : 9 < r.size
  · have N := Lib.hid (numOk_no9 (l := L) most (by have := HRS.out; omega))
    have hz1 : (9 : Int) < (r.size : Int) := by omega
    go_enter Try.func54, Try.ntmps54
    go_wp2_with (first
    | (go_at_call 47; refine (HP.out _).mono ?_; rintro e w1 ⟨rfl, rfl⟩)
    | (go_at_call 53; refine (HR.out _).mono ?_; rintro e w2 ⟨rfl, rfl⟩))
    go_ret3
    exact ⟨by rw [numRes_no N.out, N.out, numAt_no N.out]; rfl, rfl⟩
  have g0 : 0 < r.size := by omega
  have hix := get_list r 0 g0
  rw [HRL.out] at hix
  have h0 := numOk_no0 (l := L) most
  have hyes := numOk_yes (l := L) most
  generalize hg0 : L.getD 0 0 = c0 at hix h0 hyes
  have HG0 := Lib.hid hg0
  have H0 := Lib.hid h0
  have HY := Lib.hid hyes
  have NM := Lib.hid (numOk_noM (l := L) most)
  clear hg0 h0 hyes
  have hone : (1 < r.size ∧ ((c0.toNat : Int) == 48) = true ∧ c0.toNat = 48) ∨ (1 < r.size ∧ ((c0.toNat : Int) == 48) = false ∧ c0.toNat ≠ 48) ∨ ¬ 1 < r.size := by
    by_cases h1 : 1 < r.size
    · by_cases h2 : c0.toNat = 48
      · exact .inl ⟨h1, by rw [h2]; rfl, h2⟩
      · exact .inr (.inl ⟨h1, by rw [beq_eq_false_iff_ne]; omega, h2⟩)
    · exact .inr (.inr h1)
  have hloop : numOk L most = false ∨ True := .inr trivial
  clear hloop
  rcases hone with ⟨h1, h48, hc48⟩ | ⟨h1, h48, hc48⟩ | h1
  · have N := Lib.hid (H0.out (by have := HRS.out; omega) hc48)
    have h1i : (1 : Int) < (r.size : Int) := by omega
    clear hc48
    go_enter Try.func54, Try.ntmps54
    go_wp2_with (first
    | (go_at_call 47; refine (HP.out _).mono ?_; rintro e w1 ⟨rfl, rfl⟩)
    | (go_at_call 53; refine (HR.out _).mono ?_; rintro e w2 ⟨rfl, rfl⟩))
    go_ret3
    exact ⟨by rw [numRes_no N.out, N.out, numAt_no N.out]; rfl, rfl⟩
  · have h1i : (1 : Int) < (r.size : Int) := by omega
    have hy : (numV L : Int) ≤ most → numOk L most = true := fun h => HY.out (by have := HRS.out; omega) (by have := HRS.out; omega) (fun h => hc48 h.2) h
    have HYY := Lib.hid hy
    have hv9 : ∀ k, k ≤ r.size → numV (L.take k) < 1000000000 := fun k h => numV_9 L k (by have := HRS.out; omega) (by omega) (fun j hj => (HD.out j hj).2)
    have HV9 := Lib.hid hv9
    clear hy hv9 hc48
    go_enter Try.func54, Try.ntmps54
    go_wp2_with (first
    | (go_at_call 47; refine (HP.out _).mono ?_; rintro e w1 ⟨rfl, rfl⟩)
    | (go_at_call 53; refine (HR.out _).mono ?_; rintro e w2 ⟨rfl, rfl⟩))
    go_loop [11, 12] (fun n i => ∃ k : Nat, k ≤ r.size ∧ i = .int .i64 k ∧ n = .int .i64 (numV (L.take k) : Nat)) (fun _ i => r.size - (intOf i).toNat)
    case atStart => exact ⟨0, Nat.zero_le _, rfl, rfl⟩
    case round =>
      obtain ⟨k, hk, rfl, rfl⟩ := hrel
      by_cases hlt : k < r.size
      · have hix2 := get_list r k hlt
        have hkL : k < L.length := by have := HRS.out; omega
        rw [HRL.out] at hix2
        have hst := numV_take L k hkL
        obtain ⟨d1, d2⟩ := HD.out k hkL
        have hv := HV9.out k (by omega)
        generalize L.getD k 0 = c at hix2 hst d1 d2
        generalize numV (L.take k) = x0 at hst hv ⊢
        have HST := Lib.hid hst
        have e1 : (48 : Int) ≤ (c.toNat : Int) := by omega
        have e2 : (c.toNat : Int) ≤ 57 := by omega
        clear hst d1 d2
        go_wp2
        go_round
        case rel => exact ⟨k + 1, by omega, by go_num, by rw [HST.out]; go_num⟩
        case measure => simp [intOf]; omega
      · have hkr : k = r.size := by omega
        have hLt : L.take k = L := List.take_of_length_le (by have := HRS.out; omega)
        rw [hLt]
        have hvm := HV9.out r.size (Nat.le_refl _)
        rw [← hkr, hLt] at hvm
        clear hkr hLt
        generalize hV : numV L = V at hvm NM HYY ⊢
        have HV := Lib.hid hV
        clear hV
        by_cases hmo : most < (V : Int)
        · have N := Lib.hid (NM.out hmo)
          go_wp2
          go_ret3
          exact ⟨by rw [numRes_no N.out, N.out, numAt_no N.out]; rfl, rfl⟩
        · have N := Lib.hid (HYY.out (by omega))
          go_wp2
          go_ret3
          exact ⟨by rw [numRes_yes N.out, N.out, numAt_yes N.out, HV.out, ← HRS.out]; rfl, rfl⟩
  · have h1i : ¬ (1 : Int) < (r.size : Int) := by omega
    have hy : (numV L : Int) ≤ most → numOk L most = true := fun h => HY.out (by have := HRS.out; omega) (by have := HRS.out; omega) (fun h => h1 (by have := HRS.out; omega)) h
    have HYY := Lib.hid hy
    have hv9 : ∀ k, k ≤ r.size → numV (L.take k) < 1000000000 := fun k h => numV_9 L k (by have := HRS.out; omega) (by omega) (fun j hj => (HD.out j hj).2)
    have HV9 := Lib.hid hv9
    clear hy hv9
    go_enter Try.func54, Try.ntmps54
    go_wp2_with (first
    | (go_at_call 47; refine (HP.out _).mono ?_; rintro e w1 ⟨rfl, rfl⟩)
    | (go_at_call 53; refine (HR.out _).mono ?_; rintro e w2 ⟨rfl, rfl⟩))
    go_loop [11, 12] (fun n i => ∃ k : Nat, k ≤ r.size ∧ i = .int .i64 k ∧ n = .int .i64 (numV (L.take k) : Nat)) (fun _ i => r.size - (intOf i).toNat)
    case atStart => exact ⟨0, Nat.zero_le _, rfl, rfl⟩
    case round =>
      obtain ⟨k, hk, rfl, rfl⟩ := hrel
      by_cases hlt : k < r.size
      · have hix2 := get_list r k hlt
        have hkL : k < L.length := by have := HRS.out; omega
        rw [HRL.out] at hix2
        have hst := numV_take L k hkL
        obtain ⟨d1, d2⟩ := HD.out k hkL
        have hv := HV9.out k (by omega)
        generalize L.getD k 0 = c at hix2 hst d1 d2
        generalize numV (L.take k) = x0 at hst hv ⊢
        have HST := Lib.hid hst
        have e1 : (48 : Int) ≤ (c.toNat : Int) := by omega
        have e2 : (c.toNat : Int) ≤ 57 := by omega
        clear hst d1 d2
        go_wp2
        go_round
        case rel => exact ⟨k + 1, by omega, by go_num, by rw [HST.out]; go_num⟩
        case measure => simp [intOf]; omega
      · have hkr : k = r.size := by omega
        have hLt : L.take k = L := List.take_of_length_le (by have := HRS.out; omega)
        rw [hLt]
        have hvm := HV9.out r.size (Nat.le_refl _)
        rw [← hkr, hLt] at hvm
        clear hkr hLt
        generalize hV : numV L = V at hvm NM HYY ⊢
        have HV := Lib.hid hV
        clear hV
        by_cases hmo : most < (V : Int)
        · have N := Lib.hid (NM.out hmo)
          go_wp2
          go_ret3
          exact ⟨by rw [numRes_no N.out, N.out, numAt_no N.out]; rfl, rfl⟩
        · have N := Lib.hid (HYY.out (by omega))
          go_wp2
          go_ret3
          exact ⟨by rw [numRes_yes N.out, N.out, numAt_yes N.out, HV.out, ← HRS.out]; rfl, rfl⟩
end Go.Proofs.Ytlaieijlengojaa
