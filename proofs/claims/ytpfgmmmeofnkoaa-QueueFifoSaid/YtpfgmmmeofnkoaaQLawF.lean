/- The law QueueFifo. -/
import Derived.Test.YtpfgmmmeofnkoaaQListF
namespace Go.Proofs.Ytpfgmmmeofnkoaa
open Go.RowKit

/-- What has been put of the first k of l. -/
def fifoL (l : List ByteArray) : Nat → List ByteArray
  | 0 => []
  | k + 1 => if putE (fifoL l k) (l.getD k ByteArray.empty) = 0 then fifoL l k ++ [l.getD k ByteArray.empty] else fifoL l k

theorem fifoL_len (l : List ByteArray) : ∀ k, (fifoL l k).length ≤ 40
  | 0 => by simp [fifoL]
  | k + 1 => by
    rw [fifoL]
    split
    · have := putE_room (by assumption); simp; omega
    · exact fifoL_len l k

theorem drop_head {l : List ByteArray} {k : Nat} (h : k < l.length) : headS (l.drop k) = l.getD k ByteArray.empty ∧ 0 < (l.drop k).length ∧ remE (l.drop k) (l.getD k ByteArray.empty) = 0 ∧ remL (l.drop k) (l.getD k ByteArray.empty) = l.drop (k + 1) := by
  have e : l.getD k ByteArray.empty = l[k] := by simp [List.getD, h]
  have ha : atL (l[k] :: l.drop (k + 1)) l[k] = 0 := by rw [atL, if_pos rfl]
  rw [List.drop_eq_getElem_cons h, e]
  refine ⟨rfl, by simp only [List.length_cons]; omega, by rw [remE, ha]; rfl, ?_⟩
  rw [remL, ha, if_neg (by decide)]
  rfl

theorem getD_size {l : List ByteArray} (h : ∀ s ∈ l, s.size ≤ maxLen) {k : Nat} (hk : k < l.length) : (l.getD k ByteArray.empty).size ≤ maxLen := by
  have e : l.getD k ByteArray.empty = l[k] := by simp [List.getD, hk]
  rw [e]
  exact h _ (List.getElem_mem hk)

set_option maxHeartbeats 16000000 in
theorem queueFifo_any (l : List ByteArray) (v : Value) (w : World) (hv : HasL w v l) (hm : l.length ≤ maxLen) (hsz : ∀ s ∈ l, s.size ≤ maxLen) :
    Calls Try.prog 6 #[v] w fun e w' => e = .returned (.bool true) ∧ Below w.heap.size w w' := by
  have HA : RowKit.Hid (∀ W, Calls Try.prog 7 #[] W fun e w' => e = .returned (.bool true) ∧ Below W.heap.size W w') := Lib.hid fun W => awake_any W
  have CF : ∀ W, HasL W v l → Calls Try.prog 8 #[v] W fun e w' => e = .returned (.bool (fewB l)) ∧ W = w' := fun W h => few_any l v W h hm
  have HV := Lib.hid hv
  cases hf : fewB l
  · rw [hf] at CF
    have HF := Lib.hid CF
    clear CF hf hv
    go_enter Try.func6, Try.ntmps6
    go_wp2_with (first
      | (go_at_call 7; (with_reducible refine (HA.out _).mono ?_); rintro e w1 ⟨rfl, hb1⟩)
      | (go_at_call 8; (with_reducible refine (HF.out _ (HV.out.mono hb1)).mono ?_); rintro e w2 ⟨rfl, rfl⟩))
    go_ret
    exact ⟨rfl, hb1⟩
  · have h5 := fewB_len hf
    rw [hf] at CF
    have HF := Lib.hid CF
    have HSZ := Lib.hid (fun k (hk : k < l.length) => getD_size hsz hk)
    clear CF hf hsz
    obtain ⟨p0, c0, rfl⟩ := own_len hv
    obtain ⟨i0, hi, hz0, hz1, hz2⟩ := str_info
    have HFL := Lib.hid (fifoL_len l)
    have HLE : RowKit.Hid (∀ (W : World), HasL W (.slice p0 l.length c0) l → ∀ k, k < l.length → ∃ b off, p0 = some ⟨b, off, none⟩ ∧ W.cell? ⟨b, off + k, none⟩ = some (.string (l.getD k ByteArray.empty))) := Lib.hid fun W h k hk => by
      rcases h with ⟨_, _, _, rfl, _⟩ | ⟨b, off, c, e, _, _, h3⟩
      · simp at hk
      · injection e with e1 e2 e3
        exact ⟨b, off, e1, h3 k hk⟩
    clear hv hm
    generalize hn : l.length = n at *
    clear hn
    go_enter Try.func6, Try.ntmps6
    go_wp2_with (first
      | (go_at_call 7; (with_reducible refine (HA.out _).mono ?_); rintro e w1 ⟨rfl, hb1⟩)
      | (go_at_call 8; (with_reducible refine (HF.out _ (HV.out.mono hb1)).mono ?_); rintro e w2 ⟨rfl, rfl⟩))
    go_loopw [3, 4, 5] (fun q wt i wr => ∃ k : Nat, k ≤ n ∧ Below w.heap.size w wr ∧ i = .int .i64 k ∧ HasL wr q (fifoL l k) ∧ OwnL wr w.heap.size wt (fifoL l k)) (fun _ _ i _ => n - (intOf i).toNat)
    case atStart => exact ⟨0, Nat.zero_le _, hb1, rfl, HasL.nil _, OwnL.nil _ _⟩
    case round =>
      obtain ⟨k, hk, hb, rfl, hq, ht⟩ := hrel
      have HQ := Lib.hid hq
      have HT := Lib.hid ht
      have hfl := HFL.out k
      clear hq ht
      by_cases hlt : k < n
      · obtain ⟨b, off, rfl, c1⟩ := HLE.out _ (HV.out.mono hb) k hlt
        have hki : (k : Int) < (n : Int) := by omega
        have hk0 : (0 : Int) ≤ (k : Int) := by omega
        have hxs := HSZ.out k hlt
        have HSTEP : RowKit.Hid (fifoL l (k + 1) = if putE (fifoL l k) (l.getD k ByteArray.empty) = 0 then fifoL l k ++ [l.getD k ByteArray.empty] else fifoL l k) := Lib.hid rfl
        have CP := put_any (fifoL l k) _ (l.getD k ByteArray.empty) _ HQ.out (by omega) hxs
        have hpl : putL (fifoL l k) (l.getD k ByteArray.empty) = if putE (fifoL l k) (l.getD k ByteArray.empty) = 0 then fifoL l k ++ [l.getD k ByteArray.empty] else [] := rfl
        generalize fifoL l k = F at *
        generalize l.getD k ByteArray.empty = x at *
        by_cases hp : putE F x = 0
        · rw [hp] at CP
          rw [if_pos hp] at hpl
          rw [hpl] at CP
          have HCP := Lib.hid CP
          have hF1 : RowKit.Hid (fifoL l (k + 1) = F ++ [x]) := Lib.hid (by rw [HSTEP.out, if_pos hp])
          have hbs := hb.size
          clear CP hpl hp HSTEP
          go_wp2_with (first
            | (go_at_call 16; (with_reducible refine HCP.out.mono ?_); rintro e w3 ⟨v3, rfl, ho3, hb3⟩; have HO3 := Lib.hid ho3; clear ho3; have hown : w3.ownsRow w.heap.size 9 1 _ F.length (strV F) := HT.out.mono hb3; have hs3 := hb3.size; have c3 := cell_bel hb3 c1)
            | (at_builtin; refine wpList_push rfl _ _ 22 rfl w.heap.size 9 i0 (.string ⟨#[]⟩) 16 Try.underlying22 hi hz0 hz1 hz2 rfl _ _ _ rfl hown _ rfl rfl (by unfold maxLen; omega) (by omega) (by omega) ?_; intro v4 w4 hown' hb' hgr))
          go_roundw
          case rel =>
            refine ⟨k + 1, by omega, (hb.trans (hb3.mono hbs)).trans hb', by go_num, ?_, ?_⟩
            · rw [hF1.out]
              have h1 : w3.ownsRow _ 9 1 v3 _ (strV (F ++ [x])) := HO3.out
              have h2 := own_apart HT.out h1
              exact OwnL.has (World.ownsRow.kept (h1.alloc _) hgr h2)
            · rw [hF1.out]
              unfold OwnL
              have e1 : (F ++ [x]).length = F.length + 1 := by simp
              have e2 : strV (F ++ [x]) = strV F ++ [.string x] := by simp [strV]
              rw [e1, e2]
              exact hown'
          case measure => simp [intOf]; omega
        · have hpb : (putE F x == 0) = false := by rw [beq_eq_false_iff_ne]; exact hp
          have HCP := Lib.hid CP
          have hF1 : RowKit.Hid (fifoL l (k + 1) = F) := Lib.hid (by rw [HSTEP.out, if_neg hp])
          clear CP hpl HSTEP
          generalize putE F x = pe at *
          generalize putL F x = pl at *
          go_wp2_with (go_at_call 16; (with_reducible refine HCP.out.mono ?_); rintro e w3 ⟨v3, rfl, ho3, hb3⟩; clear ho3)
          go_roundw
          case rel => exact ⟨k + 1, by omega, hb.trans (hb3.mono hb.size), by go_num, by rw [hF1.out]; exact HQ.out.mono hb3, by rw [hF1.out]; exact HT.out.mono hb3⟩
          case measure => simp [intOf]; omega
      · have hkn : k = n := by omega
        subst hkn
        generalize fifoL l k = F at *
        obtain ⟨pq, cq, rfl⟩ := own_len HQ.out
        obtain ⟨pt, ct, rfl⟩ := own_len HT.out.has
        have g1 : ¬ (40 : Int) < (F.length : Int) := by omega
        have g2 : ((F.length : Int) != (F.length : Int)) = false := by simp
        have HTL : RowKit.Hid (∀ (W : World), HasL W (.slice pt F.length ct) F → ∀ j, j < F.length → ∃ b off, pt = some ⟨b, off, none⟩ ∧ W.cell? ⟨b, off + j, none⟩ = some (.string (F.getD j ByteArray.empty))) := Lib.hid fun W h j hj => by
          rcases h with ⟨_, _, _, rfl, _⟩ | ⟨b, off, c, e, _, _, h3⟩
          · simp at hj
          · injection e with e1 e2 e3
            exact ⟨b, off, e1, h3 j hj⟩
        have HD0 : RowKit.Hid (F.drop 0 = F) := Lib.hid rfl
        have HDE : RowKit.Hid (F.drop F.length = []) := Lib.hid (by simp)
        have HDH := Lib.hid (fun j (hj : j < F.length) => drop_head (l := F) hj)
        have HT2 : RowKit.Hid (HasL _ (.slice pt F.length ct) F) := Lib.hid HT.out.has
        generalize hN : F.length = N at *
        have HNL := Lib.hid hN
        clear hN
        obtain ⟨wo, rfl⟩ : ∃ wo : World, wo = wr := ⟨_, rfl⟩
        go_wp2
        go_loopw [3, 8] (fun q i wr => ∃ (j : Nat) (p : Option Addr) (c : Nat), j ≤ N ∧ Below wo.heap.size wo wr ∧ i = .int .i64 j ∧ q = .slice p (F.drop j).length c ∧ HasL wr (.slice p (F.drop j).length c) (F.drop j)) (fun _ i _ => N - (intOf i).toNat)
        case atStart => exact ⟨0, pq, cq, Nat.zero_le _, Below.refl _ _, rfl, by rw [HD0.out, HNL.out], by rw [HD0.out, HNL.out]; exact HQ.out⟩
        case round =>
          obtain ⟨j, p, c, hj, hb2, rfl, rfl, hq2⟩ := hrel
          have HQ2 := Lib.hid hq2
          clear hq2
          have hbb : Below w.heap.size w _ := hb.trans (hb2.mono hb.size)
          by_cases hlt2 : j < N
          · obtain ⟨b2, off2, rfl, c2⟩ := HTL.out _ (HT2.out.mono hb2) j hlt2
            obtain ⟨d1, d2, d3, d4⟩ := HDH.out j hlt2
            have hjl : (F.drop j).length ≤ 40 := by rw [List.length_drop, HNL.out]; omega
            have CH := head_any (F.drop j) _ _ HQ2.out (by omega)
            rw [d1, decide_eq_true d2] at CH
            have CR := remove_any (F.drop j) _ (F.getD j ByteArray.empty) _ HQ2.out (by omega)
            rw [d3, d4] at CR
            have hji : (j : Int) < (N : Int) := by omega
            have hj0 : (0 : Int) ≤ (j : Int) := by omega
            clear d1 d2 d3 d4
            generalize F.getD j ByteArray.empty = y at *
            generalize (F.drop j).length = m at *
            have HCH := Lib.hid CH
            have HCR := Lib.hid CR
            clear CH CR
            go_wp2_with (first
              | (go_at_call 9; (with_reducible refine HCH.out.mono ?_); rintro e w5 ⟨rfl, rfl⟩)
              | (go_at_call 19; (with_reducible refine HCR.out.mono ?_); rintro e w6 ⟨v6, rfl, ho6, hb6⟩; have HO6 := Lib.hid ho6; clear ho6))
            go_roundw
            case rel =>
              obtain ⟨p6, c6, rfl⟩ := own_len HO6.out.has
              exact ⟨j + 1, p6, c6, by omega, hb2.trans (hb6.mono hb2.size), by go_num, rfl, HO6.out.has⟩
            case measure => simp [intOf]; omega
          · have hjn : j = N := by omega
            subst hjn
            have hq3 := HQ2.out
            rw [HDE.out] at hq3
            simp only [List.length_nil] at hq3
            have CH : ∀ W, HasL W (.slice p 0 c) [] → Calls Try.prog 9 #[.slice p 0 c] W fun e w' => e = .returned (.tuple #[.string ⟨#[]⟩, .bool false]) ∧ W = w' := fun W h => head_any [] _ W h (by simp)
            have HCH := Lib.hid (CH _ hq3)
            rw [HDE.out]
            simp only [List.length_nil]
            clear CH hq3
            go_wp2_with (go_at_call 9; (with_reducible refine HCH.out.mono ?_); rintro e w5 ⟨rfl, rfl⟩)
            go_ret
            exact ⟨rfl, hbb⟩

theorem queueFifo_walk (v : Value) (l : List ByteArray) (w : World) (h : Texts w v l) :
    Calls Try.prog 6 #[v] w fun e w' => e = .returned (.bool true) ∧ Below w.heap.size w w' := queueFifo_any l v w h.1 h.2.1 h.2.2
end Go.Proofs.Ytpfgmmmeofnkoaa
