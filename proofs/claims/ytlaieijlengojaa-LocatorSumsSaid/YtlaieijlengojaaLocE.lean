/- The walks of LocatorUnlike and LocatorSums. -/
import Derived.Test.YtlaieijlengojaaLocD
namespace Go.Proofs.Ytlaieijlengojaa
open Go.RowKit

theorem turn_inj {a b : Nat} (ha : a < 308915776) (hb : b < 308915776) (h : turnN a = turnN b) : a = b := by
  rw [← num_turn a ha, ← num_turn b hb, h]
theorem locA_inj {a b : Nat} (ha : a < 308915776) (hb : b < 308915776) (h : locA a = locA b) : a = b := by
  apply turn_inj ha hb
  rw [← val_txt _ (turn_lt a), ← val_txt _ (turn_lt b), ← locA_list, ← locA_list, h]
theorem toList_inj {a b : ByteArray} (h : a.toList = b.toList) : a = b := by
  rw [ByteArray.toList_eq, ByteArray.toList_eq] at h
  obtain ⟨⟨a⟩⟩ := a; obtain ⟨⟨b⟩⟩ := b
  simp at h; rw [h]
theorem toList_locA (n : Nat) : (locA n).toList.isEmpty = false := by rw [ByteArray.toList_eq, locA_list]; rfl

theorem unlike_walk (a : Int) (_ha : (Lit.int .i64 a).wf = true) (b : Int) (_hb : (Lit.int .i64 b).wf = true) (w : World) :
    Calls Try.prog 7 #[.int .i64 a, .int .i64 b] w fun e w' => e = .returned (.bool true) ∧ Below w.heap.size w w' := by
  have hb := Below.refl w.heap.size w
  by_cases h : 0 ≤ a ∧ a < 308915776
  · obtain ⟨k, rfl⟩ := Int.eq_ofNat_of_zero_le h.1
    have hk : k < 308915776 := by omega
    clear h
    by_cases h2 : 0 ≤ b ∧ b < 308915776
    · obtain ⟨m, rfl⟩ := Int.eq_ofNat_of_zero_le h2.1
      have hm : m < 308915776 := by omega
      clear h2
      have e : ((k : Int) == (m : Int)) = ((locA k).toList == (locA m).toList) := by
        rw [Bool.eq_iff_iff, beq_iff_eq, beq_iff_eq]
        constructor
        · intro h; rw [show k = m by omega]
        · intro h; rw [locA_inj hk hm (toList_inj h)]
      have z1 := locA_size k
      have z2 := locA_size m
      have c1 := fun W => ltextA k W hk
      have c2 := fun W => ltextA m W hm
      generalize locA k = s at e z1 c1
      generalize locA m = t at e z2 c2
      have C1 := Lib.hid c1
      have C2 := Lib.hid c2
      clear c1 c2
      cases hkm : ((k : Int) == (m : Int))
      all_goals
        rw [hkm] at e
        have E := e.symm
        clear e
        go_enter Try.func7, Try.ntmps7
        go_wp2_with (first
          | (go_at_call 18; refine (awake_loc _).mono ?_; rintro e w1 ⟨rfl, hb1⟩; replace hb := bel_trans hb hb1; clear hb1)
          | (go_at_call 19; (with_reducible refine (C1.out _).mono ?_); rintro e w1 ⟨rfl, hb1⟩; replace hb := bel_trans hb hb1; clear hb1)
          | (go_at_call 19; (with_reducible refine (C2.out _).mono ?_); rintro e w1 ⟨rfl, hb1⟩; replace hb := bel_trans hb hb1; clear hb1))
        all_goals
        go_ret
        exact ⟨rfl, hb⟩
    · have hm : b < 0 ∨ 308915776 ≤ b := by omega
      have c1 := fun W => ltextA k W hk
      have c2 := fun W => ltext_no b W hm
      have C1 := Lib.hid c1
      have C2 := Lib.hid c2
      have ne := toList_locA k
      clear c1 c2 h2 hm
      go_enter Try.func7, Try.ntmps7
      go_wp2_with (first
        | (go_at_call 18; refine (awake_loc _).mono ?_; rintro e w1 ⟨rfl, hb1⟩; replace hb := bel_trans hb hb1; clear hb1)
        | (go_at_call 19; (with_reducible refine (C1.out _).mono ?_); rintro e w1 ⟨rfl, hb1⟩; replace hb := bel_trans hb hb1; clear hb1)
        | (go_at_call 19; (with_reducible refine (C2.out _).mono ?_); rintro e w1 ⟨rfl, hb1⟩; replace hb := bel_trans hb hb1; clear hb1))
      go_ret
      exact ⟨rfl, hb⟩
  · have hk : a < 0 ∨ 308915776 ≤ a := by omega
    have c1 := fun W => ltext_no a W hk
    have C1 := Lib.hid c1
    clear c1 h hk
    by_cases h2 : 0 ≤ b ∧ b < 308915776
    · obtain ⟨m, rfl⟩ := Int.eq_ofNat_of_zero_le h2.1
      have hm : m < 308915776 := by omega
      have c2 := fun W => ltextA m W hm
      have C2 := Lib.hid c2
      clear c2 h2
      go_enter Try.func7, Try.ntmps7
      go_wp2_with (first
        | (go_at_call 18; refine (awake_loc _).mono ?_; rintro e w1 ⟨rfl, hb1⟩; replace hb := bel_trans hb hb1; clear hb1)
        | (go_at_call 19; (with_reducible refine (C1.out _).mono ?_); rintro e w1 ⟨rfl, hb1⟩; replace hb := bel_trans hb hb1; clear hb1)
        | (go_at_call 19; (with_reducible refine (C2.out _).mono ?_); rintro e w1 ⟨rfl, hb1⟩; replace hb := bel_trans hb hb1; clear hb1))
      go_ret
      exact ⟨rfl, hb⟩
    · have hm : b < 0 ∨ 308915776 ≤ b := by omega
      have c2 := fun W => ltext_no b W hm
      have C2 := Lib.hid c2
      clear c2 h2 hm
      go_enter Try.func7, Try.ntmps7
      go_wp2_with (first
        | (go_at_call 18; refine (awake_loc _).mono ?_; rintro e w1 ⟨rfl, hb1⟩; replace hb := bel_trans hb hb1; clear hb1)
        | (go_at_call 19; (with_reducible refine (C1.out _).mono ?_); rintro e w1 ⟨rfl, hb1⟩; replace hb := bel_trans hb hb1; clear hb1)
        | (go_at_call 19; (with_reducible refine (C2.out _).mono ?_); rintro e w1 ⟨rfl, hb1⟩; replace hb := bel_trans hb hb1; clear hb1))
      go_ret
      exact ⟨rfl, hb⟩

theorem value_any (n : Nat) (w : World) (h : n < 308915776) :
    Calls Try.prog 23 #[.int .i64 n] w fun e w' => e = .returned (.int .i64 (turnN n)) ∧ Below w.heap.size w w' := by
  have hsz := locA_size n
  have hl := locA_list n
  have hv := val_txt _ (turn_lt n)
  have hlet := txt_bL (turnN n)
  have c1 := fun W => ltextA n W h
  rw [← hl] at hv hlet
  generalize locA n = s at hsz hv hlet c1
  have hx := turn_lt n
  have C1 := Lib.hid c1
  have HV := Lib.hid hv
  have HSZ := Lib.hid hsz
  have HLT := Lib.hid hlet
  have hs1 : s.size ≤ 6 := by omega
  have hs2 : 6 ≤ s.size := by omega
  clear hl c1 hv hlet hsz
  go_enter Try.func23, Try.ntmps23
  go_wp2_with (go_at_call 19; refine (C1.out _).mono ?_; rintro e w1 ⟨rfl, hb⟩)
  go_loop [5, 6] (fun x i => ∃ k : Nat, k ≤ s.size ∧ i = .int .i64 k ∧ x = .int .i64 (valL (s.data.toList.take k) : Nat)) (fun _ i => s.size - (intOf i).toNat)
  case atStart => exact ⟨0, Nat.zero_le _, rfl, rfl⟩
  case round =>
    obtain ⟨k, hk, rfl, rfl⟩ := hrel
    by_cases hlt : k < s.size
    · have hix := get_list s k hlt
      have hkl : k < s.data.toList.length := by simpa using hlt
      have hst := valL_take s.data.toList k hkl
      have hle := valL_take_le s.data.toList k
      have hla := letter_at HLT.out k hkl
      rw [HV.out] at hle
      generalize s.data.toList.getD k 0 = b at hix hst hla
      generalize valL (s.data.toList.take k) = x at hst hle ⊢
      have HST := Lib.hid hst
      clear hst hkl
      obtain ⟨hl1, hl2⟩ := hla
      have hb1 : (65 : Int) ≤ (b.toNat : Int) := by omega
      have hb2 : (b.toNat : Int) ≤ 90 := by omega
      have hk6 : (k : Int) < 6 := by omega
      clear hl1 hl2
      go_wp2
      go_round
      case rel => exact ⟨k + 1, by omega, by go_num, by rw [HST.out]; go_num⟩
      case measure => simp [intOf]; omega
    · have hk6 : s.data.toList.take k = s.data.toList := List.take_of_length_le (by simp; omega)
      rw [hk6, HV.out]
      clear hk6
      go_wp2
      go_ret
      exact ⟨rfl, hb⟩
end Go.Proofs.Ytlaieijlengojaa
