/- The reference's Number, Queue, OfCount. -/
import Derived.Test.YtjahkaidinahpaaDoorES
namespace Go.Proofs.YtjahkaidinahpaaDoor
open Go.RowKit Go.ChangeMaps
set_option linter.unusedSimpArgs false
set_option linter.unusedVariables false
set_option maxRecDepth 20000

set_option maxHeartbeats 8000000 in
theorem refNum14_any (s : ByteArray) (w : World) (hls : lettersS (toL s) 6 6 = true) :
    Calls Tryd.prog 51 #[.string s] w fun e w' => e = .returned (.int .u64 (numN (valL (toL s)) : Nat)) ∧ w = w' := by
  have hx := (txt_val _ hls).2
  have hlen := letters_len (n := 6) hls
  have hall : (toL s).all bL = true := by unfold lettersS at hls; rw [Bool.and_eq_true] at hls; exact hls.2
  have hsz : s.size = 6 := by rw [← size_toL]; exact hlen
  have HLEN := Lib.hid hlen
  have HALL := Lib.hid hall
  have HSZ := Lib.hid hsz
  have hs6 : s.size ≤ 6 := by omega
  clear hlen hall hsz hls
  go_enter Tryd.func51, Tryd.ntmps51
  go_wp2
  go_loop [3, 4] (fun x i => ∃ k : Nat, k ≤ s.size ∧ i = .int .i64 k ∧ x = .int .u64 (valL ((toL s).take k) : Nat)) (fun _ i => s.size - (intOf i).toNat)
  case atStart => exact ⟨0, Nat.zero_le _, rfl, rfl⟩
  case round =>
    obtain ⟨k, hk, rfl, rfl⟩ := hrel
    by_cases hlt : k < s.size
    · have hkl : k < (toL s).length := by rw [HLEN.out, ← HSZ.out]; exact hlt
      have hst := valL_take (toL s) k hkl
      have hle := valL_take_le (toL s) k
      have hla := letter_at HALL.out k hkl
      have hgl := get_list s k hlt
      rw [show s.data.toList = toL s from rfl] at hgl
      generalize (toL s).getD k 0 = b at hst hla hgl
      generalize valL ((toL s).take k) = x at hst hle ⊢
      have HST := Lib.hid hst
      clear hst
      obtain ⟨hl1, hl2⟩ := hla
      have hb1 : (65 : Int) ≤ (b.toNat : Int) := by omega
      have hb2 : (b.toNat : Int) ≤ 90 := by omega
      clear hl1 hl2
      go_wp2
      go_round
      case rel =>
        exact ⟨k + 1, by omega, by go_num, by rw [HST.out]; go_num⟩
      case measure => simp [intOf]; omega
    · have hk6 : (toL s).take k = toL s := List.take_of_length_le (by rw [HLEN.out, ← HSZ.out]; omega)
      rw [hk6]
      clear hk6
      generalize hv : valL (toL s) = x at hx ⊢
      have HV := Lib.hid hv
      clear hv
      go_wp2_with (go_at_call 114; refine (refInverse_any _).mono ?_; rintro e w3 ⟨rfl, rfl⟩)
      go_ret
      exact ⟨by rw [HV.out]; exact ret_int (numN_int x), rfl⟩

/-- A text of bytes, or none. -/
def stP (o : Option (List UInt8)) (e : Ending) : Prop :=
  (∃ bs, o = some bs ∧ e = .returned (.tuple #[.string (strA bs), .bool true])) ∨ (o = none ∧ e = .returned (.tuple #[.string ⟨#[]⟩, .bool false]))

theorem refOfCount_any (a b : Int) (w : World) :
    Calls Tryd.prog 22 #[.int .i64 a, .int .i64 b] w fun e w' => stP (countF a b) e ∧ Below w.heap.size w w' := by
  by_cases ha0 : a < 0
  · have HF := Lib.hid (countF_no (a := a) (b := b) (by omega))
    go_enter Tryd.func22, Tryd.ntmps22
    go_wp2
    go_ret2
    exact ⟨.inr ⟨HF.out, rfl⟩, Below.refl _ _⟩
  · by_cases ha1 : 308915776 < a
    · have HF := Lib.hid (countF_no (a := a) (b := b) (by omega))
      go_enter Tryd.func22, Tryd.ntmps22
      go_wp2
      go_ret2
      exact ⟨.inr ⟨HF.out, rfl⟩, Below.refl _ _⟩
    · by_cases hb0 : b < 0
      · have HF := Lib.hid (countF_no (a := a) (b := b) (by omega))
        go_enter Tryd.func22, Tryd.ntmps22
        go_wp2
        go_ret2
        exact ⟨.inr ⟨HF.out, rfl⟩, Below.refl _ _⟩
      · by_cases hb1 : 527040 ≤ b
        · have HF := Lib.hid (countF_no (a := a) (b := b) (by omega))
          go_enter Tryd.func22, Tryd.ntmps22
          go_wp2
          go_ret2
          exact ⟨.inr ⟨HF.out, rfl⟩, Below.refl _ _⟩
        · have HF := Lib.hid (countF_yes (a := a) (b := b) ⟨by omega, by omega, by omega, by omega⟩)
          have H1 : RowKit.Hid (∀ W, Calls Tryd.prog 48 #[.int .u8 67] W fun e w' => e = .returned (.string (strA [67])) ∧ Below W.heap.size W w') := Lib.hid fun W => refOne_any 67 W
          have hvl : (varL a.toNat).length ≤ 10 := varL_len 9 _ (by omega)
          have hs1 : (strA [67]).size ≤ 1 := by rw [strA_size]; exact Nat.le_refl _
          have HN1 := Lib.hid fun W => refNumber_any (strA [67]) a W (by omega) (by omega) (by omega)
          have HN2 := Lib.hid fun W => refNumber_any (strA [67] ++ strA (varL a.toNat)) b W (by omega) (by omega) (by rw [size_app]; omega)
          have HE : RowKit.Hid (strA [67] ++ strA (varL a.toNat) ++ strA (varL b.toNat) = strA (67 :: varL a.toNat ++ varL b.toNat)) := Lib.hid (by rw [strA_append, strA_append]; rfl)
          generalize strA [67] ++ strA (varL a.toNat) ++ strA (varL b.toNat) = S3 at *
          generalize strA [67] ++ strA (varL a.toNat) = S2 at *
          generalize strA [67] = S1 at *
          clear hvl hs1
          go_enter Tryd.func22, Tryd.ntmps22
          go_wp2_with (first
            | (go_at_call 48; (with_reducible refine (H1.out _).mono ?_); rintro e w2 ⟨rfl, hb2⟩)
            | (go_at_call 47; (with_reducible refine (HN1.out _).mono ?_); rintro e w3 ⟨rfl, hb3⟩)
            | (go_at_call 47; (with_reducible refine (HN2.out _).mono ?_); rintro e w4 ⟨rfl, hb4⟩))
          go_ret2
          exact ⟨.inl ⟨_, HF.out, by rw [← HE.out]; rfl⟩, bel_trans hb2 (bel_trans hb3 hb4)⟩

set_option maxHeartbeats 16000000 in
theorem refQueue_any (v : Value) (l : List ByteArray) (w : World) (hv : HasL w v l) (hs : ∀ s ∈ l, s.size ≤ maxLen) :
    Calls Tryd.prog 19 #[v] w fun e w' => stP (queueB l) e ∧ Below w.heap.size w w' := by
  obtain ⟨p, c, rfl⟩ := own_len hv
  by_cases hlong : 40 < l.length
  · have hi : (40 : Int) < (l.length : Int) := by omega
    have HF := Lib.hid (queueB_long hlong)
    clear hv hlong
    go_enter Tryd.func19, Tryd.ntmps19
    go_wp2
    go_ret2
    exact ⟨.inr ⟨HF.out, rfl⟩, Below.refl _ _⟩
  have hi : ¬ (40 : Int) < (l.length : Int) := by omega
  have HV := Lib.hid hv
  have HS := Lib.hid hs
  have HYES : RowKit.Hid ((∀ s ∈ l, lettersS (toL s) 6 6 = true) → l.Nodup → queueB l = some (81 :: varL l.length ++ locsB l)) := Lib.hid fun h2 h3 => queueB_yes (by omega) h2 h3
  have HBAD : RowKit.Hid (∀ s ∈ l, lettersS (toL s) 6 6 = false → queueB l = none) := Lib.hid fun s h1 h2 => queueB_bad h1 h2
  have HTW : RowKit.Hid (¬ l.Nodup → queueB l = none) := Lib.hid queueB_twice
  have hvl : (varL l.length).length ≤ 1 := by rw [varL_small (by omega)]; exact Nat.le_refl _
  have HVL := Lib.hid hvl
  have H1 : RowKit.Hid (∀ W, Calls Tryd.prog 48 #[.int .u8 81] W fun e w' => e = .returned (.string (strA [81])) ∧ Below W.heap.size W w') := Lib.hid fun W => refOne_any 81 W
  have hs1 : (strA [81]).size ≤ 1 := by rw [strA_size]; exact Nat.le_refl _
  have HN1 : RowKit.Hid (∀ W, Calls Tryd.prog 47 #[.string (strA [81]), .int .i64 l.length] W fun e w' => e = .returned (.string (strA (81 :: varL l.length ++ locsB (l.take 0)))) ∧ Below W.heap.size W w') := Lib.hid fun W => by
    have := refNumber_any (strA [81]) (l.length : Int) W (by omega) (by omega) (by omega)
    rw [Int.toNat_natCast, strA_append] at this
    have e : (81 :: varL l.length ++ locsB (l.take 0)) = [81] ++ varL l.length := by simp [locsB]
    rw [e]
    exact this
  generalize queueB l = qb at *
  have hn40 : l.length ≤ 40 := by omega
  generalize hN : l.length = N at *
  have HN := Lib.hid hN
  generalize strA [81] = S1 at *
  clear hv hs hlong hvl hN hs1
  go_enter Tryd.func19, Tryd.ntmps19
  go_wp2_with (first
    | (go_at_call 48; (with_reducible refine (H1.out _).mono ?_); rintro e w2 ⟨rfl, hb2⟩)
    | (go_at_call 47; (with_reducible refine (HN1.out _).mono ?_); rintro e w3 ⟨rfl, hb3⟩))
  have hbw3 := bel_trans hb2 hb3
  clear hb2 hb3 H1 HN1
  go_loopg [4, 5] N (fun g0 s4 s5 wr => ∃ i : Nat, i ≤ N ∧ g0 = N - i ∧ s4 = .string (strA (81 :: varL N ++ locsB (l.take i))) ∧ s5 = .int .i64 (i : Int) ∧ (∀ s ∈ l.take i, lettersS (toL s) 6 6 = true) ∧ (l.take i).Nodup ∧ Below w.heap.size w wr)
  case atStart => exact ⟨0, Nat.zero_le _, rfl, rfl, rfl, (fun s h => by cases h), List.nodup_nil, hbw3⟩
  case round =>
    obtain ⟨i, hiN, rfl, rfl, rfl, hall, hnd, hbw⟩ := hrel
    have HALL := Lib.hid hall
    have HND := Lib.hid hnd
    clear hall hnd
    by_cases hlt : i < N
    · have hii : (i : Int) < (N : Int) := by omega
      have hi0 : (0 : Int) ≤ (i : Int) := by omega
      have hlN : i < l.length := by rw [HN.out]; exact hlt
      have hmem : l.getD i ByteArray.empty ∈ l := List.mem_of_getElem? (by rw [List.getD_eq_getElem?_getD, List.getElem?_eq_getElem hlN]; rfl : l[i]? = some (l.getD i ByteArray.empty))
      have hsz := HS.out _ hmem
      have HTWk := Lib.hid fun h => HTW.out (twice_take hlN h)
      have HBADk := Lib.hid (HBAD.out _ hmem)
      have HNDk := Lib.hid fun h => nodup_take hlN HND.out h
      have HTK : RowKit.Hid (l.take (i + 1) = l.take i ++ [l.getD i ByteArray.empty]) := Lib.hid (by
        have hg : l[i]? = some (l.getD i ByteArray.empty) := by rw [List.getD_eq_getElem?_getD, List.getElem?_eq_getElem hlN]; rfl
        rw [List.take_add_one, hg]; rfl)
      have HNOT : RowKit.Hid ((∀ j, j < i → l.getD j ByteArray.empty ≠ l.getD i ByteArray.empty) → l.getD i ByteArray.empty ∉ l.take i) := Lib.hid fun h hm => by
        obtain ⟨j, hj, e⟩ := List.getElem_of_mem hm
        rw [List.length_take] at hj
        rw [List.getElem_take] at e
        refine h j (by omega) ?_
        rw [← e, List.getD_eq_getElem?_getD, List.getElem?_eq_getElem (by omega)]
        rfl
      have HIN : RowKit.Hid (∀ j, j < i → l.getD j ByteArray.empty = l.getD i ByteArray.empty → l.getD i ByteArray.empty ∈ l.take i) := Lib.hid fun j hj e => by
        rw [← e, List.getD_eq_getElem?_getD, List.getElem?_eq_getElem (by omega)]
        exact List.mem_take_iff_getElem.2 ⟨j, by omega, rfl⟩
      have HSTR : RowKit.Hid ((strA (81 :: varL N ++ locsB (l.take i))).size ≤ 1000) := Lib.hid (by
        rw [strA_size, List.length_append, List.length_cons, locsB_len, List.length_take]
        have := HVL.out
        omega)
      have hstr := HSTR.out
      have HLS : RowKit.Hid (lettersS (toL (l.getD i ByteArray.empty)) 6 6 = true → strA (81 :: varL N ++ locsB (l.take i)) ++ strA (beL (numN (valL (toL (l.getD i ByteArray.empty)))) 4) = strA (81 :: varL N ++ locsB (l.take (i + 1)))) := Lib.hid fun h => by
        rw [strA_append, HTK.out]
        unfold locsB
        rw [List.flatMap_append, List.append_assoc]
        simp
      generalize hSq : strA (81 :: varL N ++ locsB (l.take i)) = Sq at *
      clear hSq hmem
      obtain ⟨wq, rfl⟩ : ∃ y : World, y = wr := ⟨_, rfl⟩
      go_wp2
      go_loopg [6] i (fun g0 s6 wx => ∃ k : Nat, k ≤ i ∧ g0 = i - k ∧ s6 = .int .i64 (k : Int) ∧ (∀ j, j < k → l.getD j ByteArray.empty ≠ l.getD i ByteArray.empty) ∧ Below w.heap.size w wx)
      case atStart => exact ⟨0, Nat.zero_le _, rfl, rfl, (fun j h => absurd h (Nat.not_lt_zero _)), hbw⟩
      case round =>
        obtain ⟨k, hk, rfl, rfl, hne, hbx⟩ := hrel
        have HNE := Lib.hid hne
        clear hne
        by_cases hki : k < i
        · have hkii : (k : Int) < (i : Int) := by omega
          have hk0 : (0 : Int) ≤ (k : Int) := by omega
          have hkN : (k : Int) < (N : Int) := by omega
          obtain ⟨bb, off, rfl, c0⟩ := str_at (HV.out.mono hbx) hlN
          obtain ⟨bb2, off2, e2, c1⟩ := str_at (HV.out.mono hbx) (i := k) (by rw [HN.out]; omega)
          simp at e2
          obtain ⟨rfl, rfl⟩ := e2
          have HINk := Lib.hid fun h => HTWk.out (HIN.out k hki h)
          have HNX : RowKit.Hid (l.getD k ByteArray.empty ≠ l.getD i ByteArray.empty → ∀ j, j < k + 1 → l.getD j ByteArray.empty ≠ l.getD i ByteArray.empty) := Lib.hid fun h j hj => by
            rcases Nat.lt_or_ge j k with h1 | h1
            · exact HNE.out j h1
            · rw [show j = k by omega]; exact h
          by_cases he : l.getD k ByteArray.empty = l.getD i ByteArray.empty
          · have HF := Lib.hid (HINk.out he)
            have hks : ((l.getD k ByteArray.empty).toList == (l.getD i ByteArray.empty).toList) = true := by rw [he]; simp
            generalize l.getD k ByteArray.empty = x at *
            generalize l.getD i ByteArray.empty = y at *
            clear he
            go_upto_region 10 with fail
            go_quiet (fail)
            go_wp2
            go_ret2
            exact ⟨.inr ⟨HF.out, rfl⟩, below_drewN hbx _⟩
          · have HX := Lib.hid (HNX.out he)
            have hks : ((l.getD k ByteArray.empty).toList == (l.getD i ByteArray.empty).toList) = false := by rw [beq_eq_false_iff_ne]; exact fun h => he (toList_inj h)
            generalize hx : l.getD k ByteArray.empty = x at c1 hks
            generalize hy : l.getD i ByteArray.empty = y at c0 hks
            clear he hx hy
            go_upto_region 10 with fail
            go_quiet (fail)
            go_wp2
            go_roundg (i - (k + 1))
            case measure => omega
            case rel => exact ⟨k + 1, by omega, rfl, by go_num, HX.out, below_drewN hbx _⟩
        · have hke : k = i := by omega
          subst hke
          have hkii : ¬ (k : Int) < (k : Int) := by omega
          have HNI := Lib.hid (HNDk.out (HNOT.out HNE.out))
          obtain ⟨bb, off, rfl, c0⟩ := str_at (HV.out.mono hbx) hlN
          have HC0 : RowKit.Hid (∀ W, Below wr.heap.size wr W → W.cell? ⟨bb, off + k, none⟩ = some (.string (l.getD k ByteArray.empty))) := Lib.hid fun W h => cell_bel h c0
          clear HNOT HIN HTWk
          generalize hy : l.getD k ByteArray.empty = s at *
          have HLOC := Lib.hid fun W => refLocator_any s W hsz
          cases hL : lettersS (toL s) 6 6 with
          | false =>
            have HF := Lib.hid (HBADk.out hL)
            have HLOC2 : RowKit.Hid (∀ W, Calls Tryd.prog 49 #[.string s] W fun e w' => e = .returned (.bool false) ∧ W = w') := Lib.hid fun W => by
              have := HLOC.out W
              rw [show s.data.toList = toL s from rfl, hL] at this
              exact this
            clear hy hL HLOC
            go_wp2_with (first
              | (go_at_call 49; (with_reducible refine (HLOC2.out _).mono ?_); rintro e w5 ⟨rfl, rfl⟩))
            go_ret2
            exact ⟨.inr ⟨HF.out, rfl⟩, hbx⟩
          | true =>
            have HLOC2 : RowKit.Hid (∀ W, Calls Tryd.prog 49 #[.string s] W fun e w' => e = .returned (.bool true) ∧ W = w') := Lib.hid fun W => by
              have := HLOC.out W
              rw [show s.data.toList = toL s from rfl, hL] at this
              exact this
            have HNM := Lib.hid fun W => refNum14_any s W hL
            have hnl := numN_lt (valL (toL s))
            have HST := Lib.hid (HLS.out hL)
            have HPU : RowKit.Hid (∀ W, Calls Tryd.prog 50 #[.string Sq, .int .u64 (numN (valL (toL s)) : Nat), .int .i64 4] W fun e w' => e = .returned (.string (Sq ++ strA (beL (numN (valL (toL s))) 4))) ∧ Below W.heap.size W w') := Lib.hid fun W => refPut_any Sq (numN (valL (toL s))) 4 W (by omega) (by omega) (by omega)
            have HL2 := Lib.hid hL
            generalize Sq ++ strA (beL (numN (valL (toL s))) 4) = S5 at *
            generalize numN (valL (toL s)) = nn at *
            clear hy hL HLOC hnl
            go_wp2_with (first
              | (go_at_call 49; (with_reducible refine (HLOC2.out _).mono ?_); rintro e w5 ⟨rfl, rfl⟩)
              | (go_at_call 51; (with_reducible refine (HNM.out _).mono ?_); rintro e w6 ⟨rfl, rfl⟩)
              | (go_at_call 50; (with_reducible refine (HPU.out _).mono ?_); rintro e w7 ⟨rfl, hb7⟩))
            go_roundg (N - (k + 1))
            case measure => omega
            case rel => exact ⟨k + 1, by omega, rfl, by rw [← HST.out], by go_num, (fun t ht => by
              rw [HTK.out] at ht
              rcases List.mem_append.1 ht with h1 | h1
              · exact HALL.out t h1
              · rw [List.mem_singleton.1 h1]; exact HL2.out), HNI.out, below_low hbx hbx.size hb7⟩
    · have hie : i = N := by omega
      subst hie
      have hii : ¬ (i : Int) < (i : Int) := by omega
      have htk : l.take i = l := List.take_of_length_le (by rw [HN.out]; exact Nat.le_refl _)
      rw [htk] at HALL HND ⊢
      have HF := Lib.hid (HYES.out HALL.out HND.out)
      clear htk
      generalize hX : 81 :: varL i ++ locsB l = X at *
      generalize hSX : strA X = SX at *
      have HSX := Lib.hid hSX
      clear hX hSX
      go_wp2
      go_ret2
      exact ⟨.inl ⟨X, HF.out, by rw [HSX.out]; rfl⟩, hbw⟩
end Go.Proofs.YtjahkaidinahpaaDoor
