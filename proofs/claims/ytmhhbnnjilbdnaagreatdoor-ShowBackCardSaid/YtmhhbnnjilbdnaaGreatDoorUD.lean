/- The parts of a line between blanks; the number of some digits (the reference's reader). -/
import Derived.Test.YtmhhbnnjilbdnaaGreatDoorUB
import Derived.Test.YtmhhbnnjilbdnaaGreatDoorSAW
import Derived.Test.YtmhhbnnjilbdnaaGreatDoorLE
namespace Go.Proofs.YtmhhbnnjilbdnaaGreatDoor.Sh
open Go.RowKit En Go.ChangeMaps
set_option linter.unusedSimpArgs false
set_option linter.unusedVariables false
set_option maxRecDepth 20000

theorem one_cut (s : ByteArray) (j : Nat) (h : j < s.size) : toL (s.extract j (j + 1)) = [s.data.toList.getD j 0] := by
  unfold toL
  have hl : j < s.data.toList.length := h
  have e : (s.extract j (j + 1)).data.toList = (s.data.toList.drop j).take 1 := by
    simp [ByteArray.data_extract, Array.toList_extract, List.extract]
  rw [e, List.drop_eq_getElem_cons hl]
  simp [List.getD, h]

theorem drop_at {l : List UInt8} {k : Nat} (h : k < l.length) : l.drop k = l.getD k 0 :: l.drop (k + 1) := by
  rw [List.drop_eq_getElem_cons h]
  simp [List.getD, h]

set_option maxHeartbeats 8000000 in
theorem words_any (s : ByteArray) (w : World) (hs : s.size ≤ 1000) :
    Calls Tryz.prog 33 #[.string s] w fun e w' => (∃ v, e = .returned v ∧ OwnL w' w.heap.size v ((wordsL (toL s)).map mkB)) ∧ Below w.heap.size w w' := by
  obtain ⟨i0, hi0, hz0, hz1, hz2⟩ := str_info
  have HD : RowKit.Hid (∀ k, k < s.size → (toL s).drop k = s.data.toList.getD k 0 :: (toL s).drop (k + 1)) := Lib.hid fun k hk => drop_at (l := toL s) (by rw [toL_size]; exact hk)
  have HE : RowKit.Hid ((toL s).drop s.size = []) := Lib.hid (List.drop_eq_nil_of_le (by rw [toL_size]; exact Nat.le_refl _))
  have HW0 : RowKit.Hid (wGo [] ((toL s).drop 0) = wordsL (toL s)) := Lib.hid rfl
  have HFIN : RowKit.Hid (∀ L : List ByteArray, L.map toL = wordsL (toL s) → L = (wordsL (toL s)).map mkB) := Lib.hid fun L h => map_mkB h
  have HZ := Lib.hid hs
  generalize (wordsL (toL s)).map mkB = RES at *
  generalize wordsL (toL s) = WL at *
  clear hs
  go_enter Tryz.func33, Tryz.ntmps33
  go_wp2
  go_loopg [3, 4, 5] s.size (fun g s3 s4 s5 wr => ∃ (k : Nat) (L : List ByteArray) (S : ByteArray), k ≤ s.size ∧ g = s.size - k ∧ s5 = .int .i64 (k : Int) ∧ s4 = .string S ∧ S.size ≤ k ∧ L.length ≤ k ∧ Below w.heap.size w wr ∧ OwnL wr w.heap.size s3 L ∧ RowKit.Hid (L.map toL ++ wGo (toL S) ((toL s).drop k) = WL))
  case atStart => exact ⟨0, [], ⟨#[]⟩, Nat.zero_le _, rfl, rfl, rfl, Nat.le_refl _, Nat.le_refl _, Below.refl _ _, OwnL.nil _ _, Lib.hid HW0.out⟩
  case round =>
    obtain ⟨k, L, S, hkN, rfl, rfl, rfl, hSz, hLz, hb, ho, HR⟩ := hrel
    have HO := Lib.hid ho
    have hwb := hb.size
    have HB := Lib.hid hb
    clear ho hb
    have hsz := HZ.out
    by_cases hk : k < s.size
    · have hki : (k : Int) < (s.size : Int) := by omega
      have hk0 : (0 : Int) ≤ (k : Int) := by omega
      have HOC := Lib.hid (one_cut s k hk)
      have HDK := Lib.hid (HD.out k hk)
      have hgl : (s[k]'hk) = s.data.toList.getD k 0 := get_list s k hk
      have hwj : IntKind.i64.wrap ((k : Int) + 1) = (k : Int) + 1 := IntWalk.i64_in _ (by omega)
      have q1 := sum_ok (a := S.size) (b := 1) (by omega)
      generalize s.data.toList.getD k 0 = c at *
      by_cases h32 : c.toNat = 32
      · have hc : ((c.toNat : Int) == 32) = true := by rw [h32]; rfl
        have HN : RowKit.Hid (∀ y, wGo (toL S) (c :: y) = toL S :: wGo [] y) := Lib.hid fun y => by
          have : c = 32 := UInt8.toNat_inj.1 h32
          rw [wGo, if_pos this]
        clear h32
        have hown : wr.ownsRow w.heap.size 9 1 _ L.length (strV L) := HO.out
        go_wp2_with (first
          | (at_builtin; refine wpList_push_at rfl _ _ 24 rfl w.heap.size 9 i0 (.string ⟨#[]⟩) 16 Tryz.underlying24 hi0 hz0 hz1 hz2 rfl _ _ _ rfl hown _ rfl rfl (by unfold maxLen; omega) (by omega) (by omega) ?_; intro v6 w6 hown6 hb6 hgr6 hloc6))
        go_roundg (s.size - (k + 1))
        case measure => omega
        case rel =>
          refine ⟨k + 1, L ++ [S], ⟨#[]⟩, by omega, rfl, by go_num, rfl, Nat.zero_le _, by simp; omega, HB.out.trans hb6, ?_, Lib.hid ?_⟩
          · have e1 : (L ++ [S]).length = L.length + 1 := by simp
            have e2 : strV (L ++ [S]) = strV L ++ [.string S] := by simp [strV]
            unfold OwnL
            rw [e1, e2]
            exact hown6
          · have := HR.out
            rw [HDK.out, HN.out] at this
            rw [← this]
            simp [toL_lit]
      · have hc : ((c.toNat : Int) == 32) = false := by rw [beq_eq_false_iff_ne]; omega
        have HN : RowKit.Hid (∀ y, wGo (toL S) (c :: y) = wGo (toL S ++ [c]) y) := Lib.hid fun y => by
          have : ¬ c = 32 := fun e => h32 (by rw [e]; rfl)
          rw [wGo, if_neg this]
        have HX : RowKit.Hid (toL (S ++ s.extract k (k + 1)) = toL S ++ [c]) := Lib.hid (by rw [toL_app, HOC.out])
        have hez : (s.extract k (k + 1)).size = 1 := by rw [ByteArray.size_extract]; omega
        clear h32
        go_wp2
        go_roundg (s.size - (k + 1))
        case measure => omega
        case rel => exact ⟨k + 1, L, _, by omega, rfl, by go_num, rfl, by rw [ByteArray.size_append, hez]; omega, by omega, HB.out, HO.out, Lib.hid (by rw [HX.out, ← HN.out, ← HDK.out]; exact HR.out)⟩
    · have hke : k = s.size := by omega
      subst hke
      have hji : ¬ (s.size : Int) < (s.size : Int) := by omega
      have hown : wr.ownsRow w.heap.size 9 1 _ L.length (strV L) := HO.out
      go_wp2_with (first
        | (at_builtin; refine wpList_push_at rfl _ _ 24 rfl w.heap.size 9 i0 (.string ⟨#[]⟩) 16 Tryz.underlying24 hi0 hz0 hz1 hz2 rfl _ _ _ rfl hown _ rfl rfl (by unfold maxLen; omega) (by omega) (by omega) ?_; intro v6 w6 hown6 hb6 hgr6 hloc6))
      go_ret
      have e : L ++ [S] = RES := HFIN.out _ (by
        have := HR.out
        rw [HE.out] at this
        rw [← this]
        simp [wGo])
      refine ⟨⟨_, rfl, ?_⟩, HB.out.trans hb6⟩
      have e1 : (L ++ [S]).length = L.length + 1 := by simp
      have e2 : strV (L ++ [S]) = strV L ++ [.string S] := by simp [strV]
      rw [← e]
      unfold OwnL
      rw [e1, e2]
      exact hown6

theorem numGo_bd : ∀ (l : List UInt8) (k : Nat), l.length ≤ k → k ≤ 9 → -(48 * 1111111111) ≤ numGo 0 l ∧ numGo 0 l ≤ 300 * 1111111111 := by
  have key : ∀ (l : List UInt8) (n : Int) (m : Int), 0 ≤ m → -(48 * m) ≤ n → n ≤ 300 * m → ∃ m', numGo n l ≤ 300 * m' ∧ -(48 * m') ≤ numGo n l ∧ 0 ≤ m' ∧ m' * 9 + 1 ≤ (m * 9 + 1) * 10 ^ l.length := by
    intro l
    induction l with
    | nil => intro n m h0 h1 h2; exact ⟨m, h2, h1, h0, by simp⟩
    | cons c t ih =>
      intro n m h0 h1 h2
      have hc : c.toNat < 256 := UInt8.toNat_lt c
      obtain ⟨m', k1, k2, k3, k4⟩ := ih (n * 10 + (c.toNat : Int) - 48) (m * 10 + 1) (by omega) (by omega) (by omega)
      refine ⟨m', k1, k2, k3, ?_⟩
      rw [List.length_cons, Int.pow_succ]
      have e : ((m * 10 + 1) * 9 + 1) = (m * 9 + 1) * 10 := by omega
      rw [e, Int.mul_assoc, Int.mul_comm 10] at k4
      exact k4
  intro l k hl hk
  obtain ⟨m', k1, k2, k3, k4⟩ := key l 0 0 (by omega) (by omega) (by omega)
  have hp : (10 : Int) ^ l.length ≤ 10 ^ 9 := by
    have : (10 : Nat) ^ l.length ≤ 10 ^ 9 := Nat.pow_le_pow_right (by omega) (by omega)
    exact_mod_cast this
  have : (10 : Int) ^ 9 = 1000000000 := by decide
  omega

set_option maxHeartbeats 8000000 in
theorem number_any (s : ByteArray) (w : World) (hs : s.size ≤ 1000) :
    Calls Tryz.prog 57 #[.string s] w fun e w' => e = .returned (.int .i64 (numL (toL s))) ∧ w = w' := by
  have HZ := Lib.hid hs
  have HS : RowKit.Hid (∀ k, k < s.size → numGo 0 ((toL s).take (k + 1)) = numGo 0 ((toL s).take k) * 10 + ((s.data.toList.getD k 0).toNat : Int) - 48) := Lib.hid fun k hk => by
    have hl : k < (toL s).length := by rw [toL_size]; exact hk
    rw [List.take_succ_eq_append_getElem hl, numGo_snoc]
    have e : (toL s)[k] = s.data.toList.getD k 0 := by
      rw [List.getD_eq_getElem?_getD, List.getElem?_eq_getElem (show k < s.data.toList.length from hl)]
      rfl
    rw [e]
  have HBD : RowKit.Hid (∀ k, k ≤ 9 → -53333333328 ≤ numGo 0 ((toL s).take k) ∧ numGo 0 ((toL s).take k) ≤ 333333333300) := Lib.hid fun k hk => by
    have := numGo_bd ((toL s).take k) k (by simp; omega) hk
    omega
  have HA : RowKit.Hid (∀ k, s.size ≤ k → k ≤ 9 → numGo 0 ((toL s).take k) = numL (toL s)) := Lib.hid fun k hk h9 => by
    unfold numL
    rw [List.take_of_length_le (by rw [toL_size]; exact hk), List.take_of_length_le (by rw [toL_size]; omega)]
  have H9 : RowKit.Hid (numGo 0 ((toL s).take 9) = numL (toL s)) := Lib.hid rfl
  have H0 : RowKit.Hid (numGo 0 ((toL s).take 0) = 0) := Lib.hid rfl
  generalize numL (toL s) = RES at *
  generalize hf : (fun k => numGo 0 ((toL s).take k)) = f at *
  have hf' : ∀ k, numGo 0 ((toL s).take k) = f k := fun k => congrFun hf k
  simp only [hf'] at HS HBD HA H9 H0
  clear hs hf hf'
  go_enter Tryz.func57, Tryz.ntmps57
  go_wp2
  go_loopg [3, 4] s.size (fun g s3 s4 wr => ∃ (k : Nat) (x : Int), k ≤ s.size ∧ k ≤ 9 ∧ g = s.size - k ∧ s4 = .int .i64 (k : Int) ∧ s3 = .int .i64 x ∧ RowKit.Hid (x = f k) ∧ w = wr)
  case atStart => exact ⟨0, 0, Nat.zero_le _, Nat.zero_le _, rfl, rfl, rfl, Lib.hid H0.out.symm, rfl⟩
  case round =>
    obtain ⟨k, x, hkN, hk9, rfl, rfl, rfl, HX, rfl⟩ := hrel
    have hsz := HZ.out
    by_cases hk : k < s.size
    · have hki : (k : Int) < (s.size : Int) := by omega
      have hk0 : (0 : Int) ≤ (k : Int) := by omega
      by_cases h9 : k < 9
      · have h9i : (k : Int) < 9 := by omega
        have hbd := HBD.out k hk9
        have HSK := Lib.hid (HS.out k hk)
        rw [← HX.out] at hbd
        have hgl : (s[k]'hk) = s.data.toList.getD k 0 := get_list s k hk
        generalize s.data.toList.getD k 0 = c at *
        have hct : c.toNat < 256 := UInt8.toNat_lt c
        have hci : (0 : Int) ≤ (c.toNat : Int) ∧ (c.toNat : Int) < 256 := by omega
        obtain ⟨hb1, hb2⟩ := hbd
        obtain ⟨hc1, hc2⟩ := hci
        clear hct
        go_wp2
        go_roundg (s.size - (k + 1))
        case measure => omega
        case rel => exact ⟨k + 1, _, by omega, by omega, rfl, by go_num, rfl, Lib.hid (by rw [HSK.out, ← HX.out]), rfl⟩
      · have h9i : ¬ (k : Int) < 9 := by omega
        have hke : k = 9 := by omega
        subst hke
        go_wp2
        go_ret
        exact ⟨ret_int (by rw [HX.out, H9.out]), rfl⟩
    · have hki : ¬ (k : Int) < (s.size : Int) := by omega
      go_wp2
      go_ret
      exact ⟨ret_int (by rw [HX.out, HA.out k (by omega) hk9]), rfl⟩
end Go.Proofs.YtmhhbnnjilbdnaaGreatDoor.Sh
