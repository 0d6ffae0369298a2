/- The reference's Lines. -/
import Derived.Test.YtpmmjccdogjncaaDoorScrC
namespace Go.Proofs.YtpmmjccdogjncaaDoor
open Go.RowKit

set_option maxRecDepth 20000 in
set_option maxHeartbeats 8000000 in
theorem rlines_any (l : List ByteArray) (v : Value) (w : World) (hv : HasL w v l) (hz : ∀ s ∈ l, s.size ≤ 30000) :
    Calls Tryd.prog 44 #[v] w fun e w' => ∃ v', e = .returned v' ∧ OwnL w' w.heap.size v' (linesS l) ∧ Below w.heap.size w w' := by
  obtain ⟨p, c, rfl⟩ := own_len hv
  have HZ : RowKit.Hid (∀ k, k < l.length → (l.getD k ByteArray.empty).data.toList.length ≤ 30000) := Lib.hid fun k hk => by
    have e : l.getD k ByteArray.empty = l[k] := by simp [List.getD, hk]
    rw [e]
    have := hz _ (List.getElem_mem hk)
    simpa using this
  have HLN := Lib.hid (linesN_len l hz)
  have HLE : RowKit.Hid (∀ (W : World), HasL W (.slice p l.length c) l → ∀ k, k < l.length → ∃ b off, p = some ⟨b, off, none⟩ ∧ W.cell? ⟨b, off + k, none⟩ = some (.string (l.getD k ByteArray.empty))) := Lib.hid fun W h k hk => by
    rcases h with ⟨_, _, _, rfl, _⟩ | ⟨b, off, c, e, _, _, h3⟩
    · simp at hk
    · injection e with e1 e2 e3
      exact ⟨b, off, e1, h3 k hk⟩
  have hc1 : l.length ≤ c := by
    rcases hv with ⟨_, _, e, rfl, _⟩ | ⟨b, off, c', e, h1, h2, _⟩
    · simp
    · injection e with _ _ e3
      subst e3
      exact h1
  have HV := Lib.hid hv
  have HST := Lib.hid (fun k => linesN_step l (k := k))
  obtain ⟨i0, hi, hz0, hz1, hz2⟩ := str_info
  clear hv hz
  generalize hn : l.length = n at *
  have HN := Lib.hid hn
  clear hn
  go_enter Tryd.func44, Tryd.ntmps44
  have hM : min n 400 ≤ n := by omega
  have hM4 : min n 400 ≤ 400 := by omega
  have hMM : n ≤ min n 400 ∨ 400 ≤ min n 400 := by omega
  have HM : RowKit.Hid (linesN l (min n 400) = linesS l) := Lib.hid (by
    unfold linesS linesN
    rcases Nat.le_total n 400 with h | h
    · rw [Nat.min_eq_left h, List.take_of_length_le (by rw [HN.out]; omega), List.take_of_length_le (by rw [HN.out]; omega)]
    · rw [Nat.min_eq_right h])
  generalize min n 400 = M at *
  clear hc1
  go_wp2_with fail
  go_loopg [3, 4] M (fun g t i wr => ∃ k : Nat, k ≤ M ∧ g = M - k ∧ i = .int .i64 k ∧ Below w.heap.size w wr ∧ OwnL wr w.heap.size t (linesN l k))
  case atStart => exact ⟨0, Nat.zero_le _, rfl, rfl, Below.refl _ _, by rw [linesN_zero]; exact OwnL.nil _ _⟩
  case round =>
    obtain ⟨k, hk, rfl, rfl, hb, ht⟩ := hrel
    have HT := Lib.hid ht
    clear ht
    by_cases hlt : k < M
    · obtain ⟨b, off, rfl, c1⟩ := HLE.out _ (HV.out.mono hb) k (by omega)
      have hki : (k : Int) < (M : Int) := by omega
      have hk0 : (0 : Int) ≤ (k : Int) := by omega
      have hzz := HZ.out k (by omega)
      have HSK := Lib.hid (HST.out k (by omega))
      have hlk := HLN.out k
      have hlk2 : (linesN l k).length ≤ 400 * 469 := Nat.le_trans hlk (Nat.mul_le_mul_right _ (by omega))
      generalize l.getD k ByteArray.empty = s at *
      clear hlk
      obtain ⟨wo, rfl⟩ : ∃ x : World, x = wr := ⟨_, rfl⟩
      have hsl : s.data.toList.length = s.size := by simp
      rw [hsl] at hzz
      have HM1 := Lib.hid (fun j => rowsN_more s.size j)
      have HCT := Lib.hid (fun j => chunks_take s.data.toList (j := j))
      have HCE := Lib.hid (fun j => chunks_last s.data.toList (j := j))
      rw [hsl] at HCT HCE
      have hmp := rowsN_pos s.size
      have hml := rowsN_469 hzz
      have HCLN : RowKit.Hid (∀ j, ((chunks s.data.toList).take j).length ≤ 469) := Lib.hid fun j => by
        rw [List.length_take, chunks_len, hsl]; omega
      have hki4 : (k : Int) < 400 := by omega
      have hkin : (k : Int) < (n : Int) := by omega
      have HS0 : RowKit.Hid (s.data.toList = s.data.toList.drop (64 * 0)) := Lib.hid rfl
      obtain ⟨B, hB⟩ : ∃ B, B = s.data.toList := ⟨_, rfl⟩
      rw [← hB] at HCT HCE HCLN HSK hsl HS0
      have HSL := Lib.hid hsl
      have HSB := Lib.hid hB
      have hwb := hb.size
      clear hB hsl
      go_upto_block 3 with fail
      go_wp2_with fail
      go_loopg [3, 5] (rowsN s.size) (fun g t q wx => ∃ (j : Nat) (qs : ByteArray), j + 1 ≤ rowsN s.size ∧ 64 * j ≤ s.size ∧ g = rowsN s.size - j ∧ q = .string qs ∧ qs.data.toList = B.drop (64 * j) ∧ Below w.heap.size w wx ∧ OwnL wx w.heap.size t (linesN l k ++ (chunks B).take j))
      case atStart => exact ⟨0, s, hmp, by omega, rfl, rfl, by rw [← HSB.out]; rfl, hb, by rw [List.take_zero, List.append_nil]; exact HT.out⟩
      case round =>
        obtain ⟨j, qs, hj, hjN, rfl, rfl, hq, hb2, ht2⟩ := hrel
        have HT2 := Lib.hid ht2
        have hcl := HCLN.out j
        have hll : (linesN l k ++ (chunks B).take j).length ≤ 400 * 469 + 469 := by rw [List.length_append]; omega
        have hqz : qs.size = s.size - 64 * j := by
          have : qs.data.toList.length = qs.size := by simp
          rw [← this, hq, List.length_drop, HSL.out]
        have HQ := Lib.hid hq
        clear ht2 hcl hq
        have hwb2 := hb2.size
        by_cases h64 : 64 < qs.size
        · have h64i : (64 : Int) < (qs.size : Int) := by omega
          have hj2 : j + 1 < rowsN s.size := (HM1.out j).2 (by omega)
          have HCJ := Lib.hid (HCT.out j (by omega))
          have HRW : RowKit.Hid (∀ W, Calls Tryd.prog 62 #[.string (qs.extract 0 64)] W fun e w' => e = .returned (.string (rowAt B j)) ∧ W = w') := Lib.hid fun W => by
            have e : rowAt B j = strOf (rowL (qs.extract 0 64).data.toList) := by
              rw [rowAt, ← HQ.out]; simp
            rw [e]
            exact filled_any _ W (by simp; omega)
          have HNX : RowKit.Hid ((qs.extract 64 qs.size).data.toList = B.drop (64 * (j + 1))) := Lib.hid (by
            have e1 : (qs.extract 64 qs.size).data.toList = qs.data.toList.drop 64 := by
              have : qs.data.toList.length = qs.size := by simp
              simp
              exact List.take_of_length_le (by simp)
            rw [e1, HQ.out, List.drop_drop]
            congr 1)
          generalize hF : linesN l k ++ (chunks B).take j = F at *
          have HFE := Lib.hid hF
          have HQZ := Lib.hid hqz
          clear hF hqz
          go_wp2_with (first
            | (go_at_call 62; (with_reducible refine (HRW.out _).mono ?_); rintro e w5 ⟨rfl, rfl⟩; have hown : World.ownsRow _ w.heap.size 9 1 _ F.length (strV F) := HT2.out)
            | (at_builtin; refine wpList_push_at rfl _ _ 63 rfl w.heap.size 9 i0 (.string ⟨#[]⟩) 16 Tryd.underlying63 hi hz0 hz1 hz2 rfl _ _ _ rfl hown _ rfl rfl (by unfold maxLen; omega) (by omega) (by omega) ?_; intro v6 w6 hown6 hb6 hgr6 hloc6))
          go_roundg (rowsN s.size - (j + 1))
          case measure => omega
          case rel =>
            refine ⟨j + 1, _, by omega, by have := HQZ.out; omega, rfl, rfl, HNX.out, hb2.trans hb6, ?_⟩
            rw [HCJ.out, ← List.append_assoc, HFE.out]
            have e1 : (F ++ [rowAt B j]).length = F.length + 1 := by simp
            have e2 : strV (F ++ [rowAt B j]) = strV F ++ [.string (rowAt B j)] := by simp [strV]
            unfold OwnL
            rw [e1, e2]
            exact hown6
        · have h64i : ¬ (64 : Int) < (qs.size : Int) := by omega
          have hj2 : j + 1 = rowsN s.size := by
            have := HM1.out j
            omega
          have HCJ := Lib.hid (HCE.out j hj2)
          have HRW : RowKit.Hid (∀ W, Calls Tryd.prog 62 #[.string qs] W fun e w' => e = .returned (.string (rowAt B j)) ∧ W = w') := Lib.hid fun W => by
            have e : rowAt B j = strOf (rowL qs.data.toList) := by
              rw [rowAt, HQ.out, List.take_of_length_le (by rw [List.length_drop, HSL.out]; omega)]
            rw [e]
            exact filled_any _ W (by omega)
          generalize hF : linesN l k ++ (chunks B).take j = F at *
          have HFE := Lib.hid hF
          have HQZ := Lib.hid hqz
          clear hF hqz
          go_wp2_with (first
            | (go_at_call 62; (with_reducible refine (HRW.out _).mono ?_); rintro e w5 ⟨rfl, rfl⟩; have hown : World.ownsRow _ w.heap.size 9 1 _ F.length (strV F) := HT2.out)
            | (at_builtin; refine wpList_push_at rfl _ _ 63 rfl w.heap.size 9 i0 (.string ⟨#[]⟩) 16 Tryd.underlying63 hi hz0 hz1 hz2 rfl _ _ _ rfl hown _ rfl rfl (by unfold maxLen; omega) (by omega) (by omega) ?_; intro v6 w6 hown6 hb6 hgr6 hloc6))
          go_roundg (M - (k + 1))
          case measure => omega
          case rel =>
            refine ⟨k + 1, by omega, rfl, by go_num, hb2.trans hb6, ?_⟩
            rw [HSK.out, HCJ.out, ← List.append_assoc, HFE.out]
            have e1 : (F ++ [rowAt B j]).length = F.length + 1 := by simp
            have e2 : strV (F ++ [rowAt B j]) = strV F ++ [.string (rowAt B j)] := by simp [strV]
            unfold OwnL
            rw [e1, e2]
            exact hown6
    · have hkM : k = M := by omega
      subst hkM
      rcases hMM with h | h
      · have h1 : ¬ (k : Int) < (n : Int) := by omega
        go_wp2
        go_ret
        exact ⟨_, rfl, by rw [← HM.out]; exact HT.out, hb⟩
      · by_cases hkn : (k : Int) < (n : Int)
        · have h1 : ¬ (k : Int) < 400 := by omega
          go_wp2
          go_ret
          exact ⟨_, rfl, by rw [← HM.out]; exact HT.out, hb⟩
        · go_wp2
          go_ret
          exact ⟨_, rfl, by rw [← HM.out]; exact HT.out, hb⟩
end Go.Proofs.YtpmmjccdogjncaaDoor
