/- The reference's Put and Next. -/
import Derived.Test.YtpfgmmmeofnkoaaQListF
namespace Go.Proofs.Ytpfgmmmeofnkoaa
open Go.RowKit

set_option maxHeartbeats 4000000 in
theorem rput_any (l : List ByteArray) (v : Value) (s : ByteArray) (w : World) (hv : HasL w v l) (hl : l.length ≤ 1000000) (hs : s.size ≤ maxLen) :
    Calls Try.prog 17 #[v, .string s] w fun e w' => ∃ v', e = .returned (.tuple #[v', .int .i64 (putE l s)]) ∧ OwnL w' w.heap.size v' (putL l s) ∧ Below w.heap.size w w' := by
  have CL := fun W => refLocator_any s W hs
  have CA := at_any l v s w hv hl
  have hp : putL l s = if putE l s = 0 then l ++ [s] else [] := rfl
  cases hL : lettersS s.data.toList 6 6
  · have he : putE l s = 4 := by rw [putE, if_pos hL]
    rw [he] at hp
    rw [he, hp, if_neg (by decide)]
    simp only [hL] at CL
    clear hv he hp hL CA
    go_enter Try.func17, Try.ntmps17
    go_wp2_with (go_at_call 27; refine (CL _).mono ?_; rintro e w' ⟨rfl, rfl⟩)
    go_ret2
    exact ⟨_, rfl, OwnL.nil _ _, Below.refl _ _⟩
  · simp only [hL] at CL
    by_cases hat : 0 ≤ atL l s
    · have he : putE l s = 8 := by rw [putE, if_neg (by rw [hL]; decide), if_pos hat]
      rw [he] at hp
      rw [he, hp, if_neg (by decide)]
      generalize atL l s = i at *
      have HA := Lib.hid CA
      clear hv he hp hL CA
      go_enter Try.func17, Try.ntmps17
      go_wp2_with (first
        | (go_at_call 27; refine (CL _).mono ?_; rintro e w' ⟨rfl, rfl⟩)
        | (go_at_call 28; (with_reducible refine HA.out.mono ?_); rintro e w2 ⟨rfl, rfl⟩))
      go_ret2
      exact ⟨_, rfl, OwnL.nil _ _, Below.refl _ _⟩
    · by_cases h40 : 40 ≤ l.length
      · have he : putE l s = 6 := by rw [putE, if_neg (by rw [hL]; decide), if_neg hat, if_pos h40]
        rw [he] at hp
        rw [he, hp, if_neg (by decide)]
        have h40i : (40 : Int) ≤ (l.length : Int) := by omega
        obtain ⟨p, c, rfl⟩ := own_len hv
        generalize atL l s = i at *
        have HA := Lib.hid CA
        clear hv he hp hL CA
        go_enter Try.func17, Try.ntmps17
        go_wp2_with (first
          | (go_at_call 27; refine (CL _).mono ?_; rintro e w' ⟨rfl, rfl⟩)
          | (go_at_call 28; (with_reducible refine HA.out.mono ?_); rintro e w2 ⟨rfl, rfl⟩))
        go_ret2
        exact ⟨_, rfl, OwnL.nil _ _, Below.refl _ _⟩
      · have he : putE l s = 0 := by rw [putE, if_neg (by rw [hL]; decide), if_neg hat, if_neg h40]
        rw [he] at hp
        rw [he, hp, if_pos rfl]
        have h40i : ¬ (40 : Int) ≤ (l.length : Int) := by omega
        generalize atL l s = i at *
        have HA := Lib.hid CA
        obtain ⟨i0, hi, hz0, hz1, hz2⟩ := str_info
        clear he hp hL CA
        have e1 : (l ++ [s]).length = l.length + 1 := by simp
        have e2 : strV (l ++ [s]) = strV l ++ [.string s] := by simp [strV]
        have hvk := hv
        rcases hv with ⟨p, c, rfl, rfl, hpc⟩ | ⟨b, off, c, rfl, a1, a2, a3⟩
        · cases p with
          | none =>
            obtain rfl := hpc rfl
            clear hvk hpc
            go_enter Try.func17, Try.ntmps17
            go_wp2_with (first
              | (go_at_call 27; refine (CL _).mono ?_; rintro e w' ⟨rfl, rfl⟩)
              | (go_at_call 28; (with_reducible refine HA.out.mono ?_); rintro e w2 ⟨rfl, rfl⟩)
              | (at_builtin; refine wpList_append_own_none rfl _ _ 22 rfl w.heap.size 9 i0 1 Try.underlying22 hi _ 0 [] rfl (World.ownsRow_nil _ _ _ _) rfl ?_)
              | (at_builtin; refine wpList_push rfl _ _ 22 rfl w.heap.size 9 i0 (.string ⟨#[]⟩) 16 Try.underlying22 hi hz0 hz1 hz2 rfl _ _ _ rfl (World.ownsRow_nil _ _ _ _) _ rfl rfl (by unfold maxLen; omega) (by omega) (Nat.le_refl _) ?_; intro v4 w4 hown' hb' hgr))
            go_ret2
            exact ⟨_, rfl, hown', hb'⟩
          | some a =>
            clear hvk hpc
            go_enter Try.func17, Try.ntmps17
            go_wp2_with (first
              | (go_at_call 27; refine (CL _).mono ?_; rintro e w' ⟨rfl, rfl⟩)
              | (go_at_call 28; (with_reducible refine HA.out.mono ?_); rintro e w2 ⟨rfl, rfl⟩)
              | (at_builtin; refine wpList_append_own _ rfl _ _ 22 rfl w.heap.size 9 i0 (.string ⟨#[]⟩) 1 16 Try.underlying22 hi hz0 hz1 hz2 rfl (by decide) _ _ _ rfl (World.ownsRow_nil _ _ _ _) a 0 c [] rfl (by rfl) (by simp) (by simp) (by unfold maxLen; omega) (by omega) (Nat.le_refl _) ?_; intro v3 w3 hown hgrow hnil)
              | (at_builtin; refine wpList_push rfl _ _ 22 rfl w.heap.size 9 i0 (.string ⟨#[]⟩) 16 Try.underlying22 hi hz0 hz1 hz2 rfl _ _ _ rfl hown _ rfl rfl (by unfold maxLen; omega) (by omega) hgrow.size ?_; intro v4 w4 hown' hb' hgr))
            go_ret2
            exact ⟨_, rfl, hown', ((Below.refl _ w).grown (row := none) hgrow (Nat.le_refl _) (fun k hk => by cases hk)).trans hb'⟩
        · have H3 := Lib.hid a3
          clear hvk a3
          have hnews : ∀ j u, (strV l)[j]? = some u → w.cell? ((⟨b, off, none⟩ : Addr).add j) = some u := fun j u hj => by
            have hjl : j < l.length := by
              have := (List.getElem?_eq_some_iff.1 hj).1
              rwa [strV_len] at this
            rw [strV_get hjl] at hj
            injection hj with hj
            subst hj
            rw [Addr.add_lit]
            exact H3.out j hjl
          have HN := Lib.hid hnews
          clear hnews
          go_enter Try.func17, Try.ntmps17
          go_wp2_with (first
            | (go_at_call 27; refine (CL _).mono ?_; rintro e w' ⟨rfl, rfl⟩)
            | (go_at_call 28; (with_reducible refine HA.out.mono ?_); rintro e w2 ⟨rfl, rfl⟩)
            | (at_builtin; refine wpList_append_own _ rfl _ _ 22 rfl w.heap.size 9 i0 (.string ⟨#[]⟩) 1 16 Try.underlying22 hi hz0 hz1 hz2 rfl (by decide) _ _ _ rfl (World.ownsRow_nil _ _ _ _) ⟨b, off, none⟩ l.length c (strV l) rfl (by rw [strV_len]; omega) HN.out strV_one (by unfold maxLen; omega) (by omega) (Nat.le_refl _) ?_; intro v3 w3 hown hgrow hnil)
            | (at_builtin; refine wpList_push rfl _ _ 22 rfl w.heap.size 9 i0 (.string ⟨#[]⟩) 16 Try.underlying22 hi hz0 hz1 hz2 rfl _ _ _ rfl hown _ rfl rfl (by unfold maxLen; omega) (by omega) hgrow.size ?_; intro v4 w4 hown' hb' hgr))
          go_ret2
          refine ⟨_, rfl, ?_, ((Below.refl _ w).grown (row := none) hgrow (Nat.le_refl _) (fun k hk => by cases hk)).trans hb'⟩
          unfold OwnL
          rw [e1, e2]
          simpa using hown'

/-- What Next of the reference has gathered behind the first j. -/
def nxtL (l : List ByteArray) (j : Nat) : List ByteArray := (l.drop 1).take j ++ (l.take (j + 1 - l.length)).take 1

theorem nxtL_end (l : List ByteArray) (h : 0 < l.length) : nxtL l l.length = nextL l := by
  cases l with
  | nil => simp at h
  | cons a t =>
    unfold nxtL nextL
    rw [List.take_of_length_le (l := (a :: t).drop 1) (by simp), show (a :: t).length + 1 - (a :: t).length = 1 by omega]
    simp

theorem nxtL_zero (l : List ByteArray) (h : 0 < l.length) : nxtL l 0 = [] := by
  unfold nxtL
  rw [show 0 + 1 - l.length = 0 by omega]
  simp

theorem nxtL_step (l : List ByteArray) {j : Nat} (h : j < l.length) : nxtL l (j + 1) = nxtL l j ++ [l.getD ((j + 1) % l.length) ByteArray.empty] := by
  rcases Nat.lt_or_ge (j + 1) l.length with h1 | h1
  · rw [Nat.mod_eq_of_lt h1]
    unfold nxtL
    rw [show j + 1 + 1 - l.length = 0 by omega, show j + 1 - l.length = 0 by omega, List.take_succ_eq_append_getElem (by simp; omega)]
    simp [List.getD, h1]
  · have e : j + 1 = l.length := by omega
    have e0 : (j + 1) % l.length = 0 := by rw [e]; exact Nat.mod_self _
    rw [e0]
    unfold nxtL
    rw [show j + 1 + 1 - l.length = 1 by omega, show j + 1 - l.length = 0 by omega, List.take_of_length_le (by simp; omega), List.take_of_length_le (l := l.drop 1) (by simp; omega)]
    cases l with
    | nil => simp at h
    | cons a t => simp

set_option maxHeartbeats 8000000 in
theorem rnext_any (l : List ByteArray) (v : Value) (w : World) (hv : HasL w v l) (hl : l.length ≤ 100000) :
    Calls Try.prog 18 #[v] w fun e w' => ∃ v', e = .returned v' ∧ OwnL w' w.heap.size v' (nextL l) ∧ Below w.heap.size w w' := by
  by_cases h0 : l.length = 0
  · obtain rfl : l = [] := List.length_eq_zero_iff.1 h0
    obtain ⟨p, c, rfl⟩ := own_len hv
    simp only [List.length_nil]
    clear hv h0
    go_enter Try.func18, Try.ntmps18
    go_wp2
    refine wp_loop_rounds 1 ?_
    rw [rounds_succ]
    go_wp2
    go_ret
    exact ⟨_, rfl, OwnL.nil _ _, Below.refl _ _⟩
  · rcases hv with ⟨_, _, _, rfl, _⟩ | ⟨b, off, c, rfl, a1, a2, a3⟩
    · exact absurd rfl h0
    obtain ⟨i0, hi, hz0, hz1, hz2⟩ := str_info
    have H3 := Lib.hid a3
    have HE := Lib.hid (nxtL_end l (by omega))
    have HZ := Lib.hid (nxtL_zero l (by omega))
    have HS := Lib.hid (fun j (hj : j < l.length) => nxtL_step l hj)
    have HLN : RowKit.Hid (∀ j, j ≤ l.length → (nxtL l j).length ≤ l.length + 1) := Lib.hid fun j hj => by
      unfold nxtL; simp; omega
    have hpos : 0 < l.length := by omega
    clear a3 h0
    generalize hN : l.length = n at *
    clear hN
    have hni : (0 : Int) < (n : Int) := by omega
    have hn0 : ((n : Int) == 0) = false := by rw [beq_eq_false_iff_ne]; omega
    go_enter Try.func18, Try.ntmps18
    go_wp2
    go_loopw [3, 4] (fun q i wr => ∃ j : Nat, j ≤ n ∧ Below w.heap.size w wr ∧ i = .int .i64 ((j + 1 : Nat) : Int) ∧ OwnL wr w.heap.size q (nxtL l j)) (fun _ i _ => n + 1 - (intOf i).toNat)
    case atStart => exact ⟨0, Nat.zero_le _, Below.refl _ _, rfl, by rw [HZ.out]; exact OwnL.nil _ _⟩
    case round =>
      obtain ⟨j, hj, hb, rfl, hq⟩ := hrel
      have HQ := Lib.hid hq
      clear hq
      by_cases hlt : j < n
      · have hji : ((j + 1 : Nat) : Int) ≤ (n : Int) := by omega
        have hj1 : (0 : Int) ≤ ((j + 1 : Nat) : Int) := by omega
        have hmlt : (j + 1) % n < n := Nat.mod_lt _ hpos
        have c1 := cell_bel hb (H3.out ((j + 1) % n) hmlt)
        have hst := HS.out j hlt
        have hmod : ((j + 1 : Nat) : Int).tmod (n : Int) = (((j + 1) % n : Nat) : Int) := by
          rw [Int.tmod_eq_emod_of_nonneg hj1]; rfl
        have hgl := HLN.out j hj
        have HW := Lib.hid hst
        clear hst
        generalize hm : (j + 1) % n = m at *
        have hmi : ((m : Nat) : Int) < (n : Int) := by omega
        have hm0 : (0 : Int) ≤ (m : Int) := by omega
        generalize l.getD m ByteArray.empty = x at *
        have hown := HQ.out
        unfold OwnL at hown
        have hbs := hb.size
        generalize nxtL l j = gj at *
        clear hm
        have hj9 : j ≤ 100000 := by omega
        generalize hJ : j + 1 = J at *
        go_wp2_with (at_builtin; refine wpList_push rfl _ _ 22 rfl w.heap.size 9 i0 (.string ⟨#[]⟩) 16 Try.underlying22 hi hz0 hz1 hz2 rfl _ _ _ rfl hown _ rfl rfl (by unfold maxLen; omega) (by omega) hbs ?_; intro v' w4 hown' hb' _)
        go_roundw
        case rel =>
          refine ⟨j + 1, by omega, hb.trans hb', by rw [hJ]; go_num, ?_⟩
          rw [hJ, HW.out]
          unfold OwnL
          have e1 : (gj ++ [x]).length = gj.length + 1 := by simp
          have e2 : strV (gj ++ [x]) = strV gj ++ [.string x] := by simp [strV]
          rw [e1, e2]
          exact hown'
        case measure => simp [intOf]; omega
      · have hjn : j = n := by omega
        subst hjn
        have hge : ¬ ((j + 1 : Nat) : Int) ≤ (j : Int) := by omega
        rw [HE.out] at HQ
        go_wp2
        go_ret
        exact ⟨_, rfl, HQ.out, hb⟩
end Go.Proofs.Ytpfgmmmeofnkoaa
