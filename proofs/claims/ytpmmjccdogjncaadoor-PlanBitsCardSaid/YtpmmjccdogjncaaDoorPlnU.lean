/- The reference's Marks. -/
import Derived.Test.YtpmmjccdogjncaaDoorPlnT
namespace Go.Proofs.YtpmmjccdogjncaaDoor
open Go.RowKit Go.ChangeMaps
set_option linter.unusedSimpArgs false

/-- The marks behind n places of the text, the letter at place k. -/
def mkAt (bs : List UInt8) (k n : Nat) : ByteArray := if n ≤ k then ⟨#[]⟩ else strOf (baseL bs k)

theorem mkAt_zero (bs : List UInt8) (k : Nat) : mkAt bs k 0 = ⟨#[]⟩ := if_pos (Nat.zero_le k)
theorem mkAt_next {bs : List UInt8} {k n : Nat} (h : n ≠ k) : mkAt bs k (n + 1) = mkAt bs k n := by
  unfold mkAt
  by_cases h1 : n ≤ k
  · rw [if_pos h1, if_pos (by omega)]
  · rw [if_neg h1, if_neg (by omega)]
theorem mkAt_here (bs : List UInt8) (k : Nat) : mkAt bs k k = ⟨#[]⟩ := if_pos (Nat.le_refl k)
theorem mkAt_hit (bs : List UInt8) (k : Nat) : mkAt bs k (k + 1) = strOf (baseL bs k) := if_neg (by omega)

def dotted (q : ByteArray) : ByteArray := ⟨#[46]⟩ ++ q ++ ⟨#[46]⟩

theorem dotted_size (q : ByteArray) : (dotted q).size = q.size + 2 := by
  unfold dotted
  rw [ByteArray.size_append, ByteArray.size_append]
  show 1 + q.size + 1 = _
  omega

theorem dotted_list (q : ByteArray) : (dotted q).data.toList = 46 :: (q.data.toList ++ [46]) := by
  unfold dotted
  rw [ByteArray.data_append, ByteArray.data_append, Array.toList_append, Array.toList_append]
  rfl

theorem dotted_at {q : ByteArray} {n : Nat} (hn : n < q.size) (h : n + 1 < (dotted q).size) : (dotted q)[n + 1] = q.data.toList.getD n 0 := by
  have hl : q.data.toList.length = q.size := by simp
  rw [get_list, dotted_list, List.getD_cons_succ, List.getD_eq_getElem?_getD, List.getElem?_append_left (by omega), ← List.getD_eq_getElem?_getD]

theorem size_pre (q : ByteArray) : (⟨#[46]⟩ ++ q : ByteArray).size = 1 + q.size := by rw [ByteArray.size_append]; rfl

set_option maxRecDepth 20000 in
set_option maxHeartbeats 16000000 in
theorem rmarks_any (p : Pl) (ve vb : Value) (s : St) (l : List UInt8) (w : World) (hk : OkP p l) (he : HasE intC w ve p.exits) (hb : HasE stC w vb p.bks) :
    Calls Tryd.prog 33 #[planV p ve vb, seatK s] w fun e w' => e = .returned (.string (mksT p l s)) ∧ Below w.heap.size w w' := by
  have HHS : RowKit.Hid (∀ W, Below w.heap.size w W → Calls Tryd.prog 29 #[planV p ve vb, seatK s] W fun e w' => e = .returned (.bool (hasB p l s)) ∧ Below W.heap.size W w') := Lib.hid fun W h => rhas_any p ve vb s l W hk (hb.mono h)
  have HBL := Lib.hid (planC_blk w p ve vb)
  have hsz := hk.hsz
  have hx := hk.hx
  have hl := hk.hl
  have HMT : RowKit.Hid (∀ b, hasB p l s = b → mksT p l s = if b = true then strOf (marksL p.lets.data.toList p.exits s) else ⟨#[]⟩) := Lib.hid fun b h => by unfold mksT; rw [h]
  have HIN : RowKit.Hid (hasB p l s = true → s.2 ∈ l) := Lib.hid fun h => by
    unfold hasB at h
    rw [Bool.and_eq_true, decide_eq_true_eq] at h
    exact (mem_placesL.1 h.1).2.2
  obtain ⟨a, b, q, x, bk⟩ := p
  obtain ⟨r, c⟩ := s
  obtain ⟨pe, ce, rfl⟩ := he.len
  simp only at he hb hl hsz hx HHS HMT HIN ⊢
  obtain ⟨w1, e1, a0, a1, a2, a3, a4, hb1, hz1⟩ := plan_boxed w a b q (.slice pe x.length ce) vb
  obtain ⟨w2, e2, c0, c1, hb2, hz2⟩ := seat_boxed w1 r c
  unfold planC at HBL
  simp only at HBL
  rw [e1] at HBL
  have hb12 := bel_trans hb1 hb2
  have HB := Lib.hid hb12
  have HE := Lib.hid (he.mono hb12)
  have HBL2 := Lib.hid (HBL.out.mono hb2)
  have d2 := cell_bel hb2 a2
  have d3 := cell_bel hb2 a3
  have HC := Lib.hid (HHS.out w2 hb12)
  unfold planV seatK seatV at HC ⊢
  generalize hN : x.length = N at *
  have HN := Lib.hid hN
  clear a0 a1 a2 a3 a4 hb hb1 hb2 hb12 hz1 hz2 HHS he hN hk HBL
  go_enter Tryd.func33, Tryd.ntmps33
  cases hh : hasB ⟨a, b, q, x, bk⟩ l (r, c) with
  | false =>
    have HM := Lib.hid (HMT.out false hh)
    rw [hh] at HC
    clear hh
    go_wp2_with (first
      | (refine wpList_load_mid rfl 32 (.tmp 2) rfl w.heap.size 0 rfl _ _ HBL2.out.range Tryd.underlying32 rfl info_plan ?_)
      | (go_at_call 29; (with_reducible refine HC.out.mono ?_); rintro e w3 ⟨rfl, hb3⟩))
    go_ret
    exact ⟨ret_str (by rw [HM.out]; rfl), bel_trans HB.out hb3⟩
  | true =>
    have HM := Lib.hid (HMT.out true hh)
    have hcl := HIN.out hh
    rw [hh] at HC
    obtain ⟨hk1, hkc, hku⟩ := idx_letter hl hcl
    have hql : q.data.toList.length = q.size := by simp
    rw [hql] at hk1 hku
    have HML : RowKit.Hid (marksL q.data.toList x (r, c) = baseL q.data.toList (q.data.toList.idxOf c) ++ exE x r) := Lib.hid rfl
    have HBS := Lib.hid (baseL_len q.data.toList (q.data.toList.idxOf c))
    have HDA : RowKit.Hid (∀ n (_ : n < q.size) (h : n + 1 < (dotted q).size), (dotted q)[n + 1] = q.data.toList.getD n 0) := Lib.hid fun n h1 h2 => dotted_at h1 h2
    have hds := dotted_size q
    have hdd : (⟨#[46]⟩ ++ q ++ ⟨#[46]⟩ : ByteArray) = dotted q := rfl
    have hpre := size_pre q
    generalize q.data.toList.idxOf c = k at *
    have HKU := Lib.hid hku
    have HKC := Lib.hid hkc
    have HLL := Lib.hid hql
    clear hh hl hcl HIN HMT hku hkc hql
    go_wp2_with (first
      | (refine wpList_load_mid rfl 32 (.tmp 2) rfl w.heap.size 0 rfl _ _ HBL2.out.range Tryd.underlying32 rfl info_plan ?_)
      | (go_at_call 29; (with_reducible refine HC.out.mono ?_); rintro e w3 ⟨rfl, hb3⟩; have t2 := cell_bel hb3 d2; have t3 := cell_bel hb3 d3; have t0 := cell_bel hb3 c0; have t1 := cell_bel hb3 c1))
    have HDS := Lib.hid hds
    have hb02 := bel_trans HB.out hb3
    have HE3 := Lib.hid (HE.out.mono hb3)
    clear e1 e2 d2 d3 c0 c1 hdd hpre t2
    go_loopg [5, 7] q.size (fun g0 m i wr => ∃ (n : Nat), n ≤ q.size ∧ g0 = q.size - n ∧ i = .int .i64 ((n : Int) + 1) ∧ m = .string (mkAt q.data.toList k n) ∧ Below w3.heap.size w3 wr)
    case atStart => exact ⟨0, Nat.zero_le _, rfl, rfl, by rw [mkAt_zero], Below.refl _ _⟩
    case round =>
      obtain ⟨n, hn, rfl, rfl, rfl, hb4⟩ := hrel
      have f0 := cell_bel hb4 t0
      have f1 := cell_bel hb4 t1
      have f3 := cell_bel hb4 t3
      by_cases hlt : n < q.size
      · have hni : (n : Int) < (q.size : Int) := by omega
        have hni2 : (n : Int) + 1 < ((q.size : Int) + 2) - 1 := by omega
        have hn0 : (0 : Int) ≤ (n : Int) := by omega
        have hgn := HDA.out n hlt (by rw [HDS.out]; omega)
        have hxc : q.data.toList.getD n 0 = c ↔ n = k := HKU.out n hlt
        by_cases hnk : n = k
        · have hyc := hxc.2 hnk
          subst hnk
          have HNX := Lib.hid (mkAt_hit q.data.toList n)
          have HBB : RowKit.Hid (baseL q.data.toList n = (if wOf q.data.toList n = true then [87] else []) ++ (if aOf q.data.toList n = true then [65] else [])) := Lib.hid rfl
          have hmz := mkAt_here q.data.toList n
          rw [hyc] at hgn
          have hcc : (((c.toNat : Int) != (c.toNat : Int))) = false := by simp
          clear hxc hyc
          rw [hmz]
          go_upto_region 8 with fail
          go_quiet (fail)
          have hb5 := below_drewN hb4 nq
          have f0 := cell_bel hb5 t0
          have f1 := cell_bel hb5 t1
          have f3 := cell_bel hb5 t3
          generalize wr.drewN nq = w5 at *
          clear hcc hmz
          go_upto_region 9 with fail
          go_cut [38] from 17 to 65 (fun s38 wx => s38 = .bool (wOf q.data.toList n) ∧ w5 = wx)
          case first =>
            by_cases hn1 : n = 0
            · have hz : ((n : Int) + 1 == 1) = true := by rw [beq_iff_eq]; omega
              have hW : RowKit.Hid (wOf q.data.toList n = true) := Lib.hid (by unfold wOf; exact decide_eq_true (.inl hn1))
              clear hn1
              go_wp2
              go_meet
              exact ⟨by rw [hW.out], rfl⟩
            · have hz : ((n : Int) + 1 == 1) = false := by rw [beq_eq_false_iff_ne]; omega
              by_cases hn2 : n + 1 = q.size
              · have hz2 : ((n : Int) + 1 == (q.size : Int)) = true := by rw [beq_iff_eq]; omega
                have hz3 : ((n : Int) + 1 == (q.size : Int) + 2 - 2) = true := by rw [beq_iff_eq]; omega
                have hW : RowKit.Hid (wOf q.data.toList n = true) := Lib.hid (by unfold wOf; rw [HLL.out]; exact decide_eq_true (.inr hn2))
                clear hn1 hn2
                go_wp2
                go_meet
                exact ⟨by rw [hW.out], rfl⟩
              · have hz2 : ((n : Int) + 1 == (q.size : Int)) = false := by rw [beq_eq_false_iff_ne]; omega
                have hz3 : ((n : Int) + 1 == (q.size : Int) + 2 - 2) = false := by rw [beq_eq_false_iff_ne]; omega
                have hW : RowKit.Hid (wOf q.data.toList n = false) := Lib.hid (by unfold wOf; rw [HLL.out]; exact decide_eq_false (by omega))
                clear hn1 hn2
                go_wp2
                go_meet
                exact ⟨by rw [hW.out], rfl⟩
          case rest =>
            obtain ⟨rfl, rfl⟩ := hcut
            generalize wOf q.data.toList n = bw at *
            go_upto_if 38 with fail
            go_cut [5] from 17 to 65 (fun s5 wx => s5 = .string (wStr bw) ∧ w5 = wx)
            case first =>
              cases bw
              · go_wp2
                go_meet
                exact ⟨rfl, rfl⟩
              · go_wp2
                go_meet
                exact ⟨rfl, rfl⟩
            case rest =>
              obtain ⟨rfl, rfl⟩ := hcut
              go_upto_region 11 with fail
              go_cut [63] from 17 to 65 (fun s63 wx => s63 = .bool (aOf q.data.toList n) ∧ w5 = wx)
              case first =>
                by_cases hn1 : n = 0
                · have hi1 : ¬ (1 : Int) < (n : Int) + 1 := by omega
                  have hi2 : ¬ (0 : Int) < (n : Int) := by omega
                  have hi3 : ¬ 0 < n := by omega
                  have HN1 := Lib.hid hn1
                  clear hn1
                  by_cases hn : n + 1 < q.size
                  · have hni : ((n : Nat) : Int) + 1 < (q.size : Int) := by omega
                    have hni2 : ((n : Nat) : Int) + 1 < (q.size : Int) + 2 - 2 := by omega
                    have hgn2 := HDA.out (n + 1) hn (by rw [HDS.out]; omega)
                    by_cases h46 : (q.data.toList.getD (n + 1) 0).toNat = 46
                    · have hA : RowKit.Hid (aOf q.data.toList (n) = true) := Lib.hid (by unfold aOf; rw [HLL.out]; exact decide_eq_true (.inr ⟨hn, h46⟩))
                      have hb : (((q.data.toList.getD (n + 1) 0).toNat : Int) == 46) = true := by rw [beq_iff_eq]; omega
                      generalize q.data.toList.getD (n + 1) 0 = y at *
                      clear h46
                      go_wp2
                      go_meet
                      exact ⟨by rw [hA.out], rfl⟩
                    · have hA : RowKit.Hid (aOf q.data.toList (n) = false) := Lib.hid (by unfold aOf; rw [HLL.out]; exact decide_eq_false fun h => h.elim (fun h => absurd h.1 (by have := HN1.out; omega)) (fun h => h46 h.2))
                      have hb : (((q.data.toList.getD (n + 1) 0).toNat : Int) == 46) = false := by rw [beq_eq_false_iff_ne]; omega
                      generalize q.data.toList.getD (n + 1) 0 = y at *
                      clear h46
                      go_wp2
                      go_meet
                      exact ⟨by rw [hA.out], rfl⟩
                  · have hni : ¬ ((n : Nat) : Int) + 1 < (q.size : Int) := by omega
                    have hni2 : ¬ ((n : Nat) : Int) + 1 < (q.size : Int) + 2 - 2 := by omega
                    have hA : RowKit.Hid (aOf q.data.toList (n) = false) := Lib.hid (by unfold aOf; rw [HLL.out]; exact decide_eq_false fun h => h.elim (fun h => absurd h.1 (by have := HN1.out; omega)) (fun h => hn h.1))
                    go_wp2
                    go_meet
                    exact ⟨by rw [hA.out], rfl⟩
                · obtain ⟨j, rfl⟩ : ∃ j, n = j + 1 := ⟨n - 1, by omega⟩
                  have hi1 : (1 : Int) < (j : Int) + 1 + 1 := by omega
                  have hgj := HDA.out j (by omega) (by rw [HDS.out]; omega)
                  clear hn1
                  by_cases hp : (q.data.toList.getD j 0).toNat = 46
                  · have hA : RowKit.Hid (aOf q.data.toList (j + 1) = true) := Lib.hid (by unfold aOf; exact decide_eq_true (.inl ⟨by omega, hp⟩))
                    have hpb : (((q.data.toList.getD j 0).toNat : Int) == 46) = true := by rw [beq_iff_eq]; omega
                    generalize q.data.toList.getD j 0 = x1 at *
                    clear hp
                    go_wp2
                    go_meet
                    exact ⟨by rw [hA.out], rfl⟩
                  · have HP : RowKit.Hid (¬ (q.data.toList.getD (j + 1 - 1) 0).toNat = 46) := Lib.hid hp
                    have hpb : (((q.data.toList.getD j 0).toNat : Int) == 46) = false := by rw [beq_eq_false_iff_ne]; omega
                    generalize q.data.toList.getD j 0 = x1 at *
                    clear hp
                    by_cases hn : j + 1 + 1 < q.size
                    · have hni : ((j + 1 : Nat) : Int) + 1 < (q.size : Int) := by omega
                      have hni2 : ((j + 1 : Nat) : Int) + 1 < (q.size : Int) + 2 - 2 := by omega
                      have hgn2 := HDA.out (j + 1 + 1) hn (by rw [HDS.out]; omega)
                      by_cases h46 : (q.data.toList.getD (j + 1 + 1) 0).toNat = 46
                      · have hA : RowKit.Hid (aOf q.data.toList (j + 1) = true) := Lib.hid (by unfold aOf; rw [HLL.out]; exact decide_eq_true (.inr ⟨hn, h46⟩))
                        have hb : (((q.data.toList.getD (j + 1 + 1) 0).toNat : Int) == 46) = true := by rw [beq_iff_eq]; omega
                        generalize q.data.toList.getD (j + 1 + 1) 0 = y at *
                        clear h46
                        go_wp2
                        go_meet
                        exact ⟨by rw [hA.out], rfl⟩
                      · have hA : RowKit.Hid (aOf q.data.toList (j + 1) = false) := Lib.hid (by unfold aOf; rw [HLL.out]; exact decide_eq_false fun h => h.elim (fun h => HP.out h.2) (fun h => h46 h.2))
                        have hb : (((q.data.toList.getD (j + 1 + 1) 0).toNat : Int) == 46) = false := by rw [beq_eq_false_iff_ne]; omega
                        generalize q.data.toList.getD (j + 1 + 1) 0 = y at *
                        clear h46
                        go_wp2
                        go_meet
                        exact ⟨by rw [hA.out], rfl⟩
                    · have hni : ¬ ((j + 1 : Nat) : Int) + 1 < (q.size : Int) := by omega
                      have hni2 : ¬ ((j + 1 : Nat) : Int) + 1 < (q.size : Int) + 2 - 2 := by omega
                      have hA : RowKit.Hid (aOf q.data.toList (j + 1) = false) := Lib.hid (by unfold aOf; rw [HLL.out]; exact decide_eq_false fun h => h.elim (fun h => HP.out h.2) (fun h => hn h.1))
                      go_wp2
                      go_meet
                      exact ⟨by rw [hA.out], rfl⟩
              case rest =>
                obtain ⟨rfl, rfl⟩ := hcut
                generalize aOf q.data.toList n = ba at *
                cases ba
                · have h1 : RowKit.Hid (wStr bw = mkAt q.data.toList n (n + 1)) := Lib.hid (by rw [HNX.out, HBB.out]; simp [wStr])
                  go_wp2
                  go_roundg (q.size - (n + 1))
                  case measure => omega
                  case rel => exact ⟨n + 1, by omega, rfl, by go_num, by rw [h1.out], hb5⟩
                · have h1 : RowKit.Hid (wStr bw ++ ⟨#[65]⟩ = mkAt q.data.toList n (n + 1)) := Lib.hid (by rw [HNX.out, HBB.out]; exact strOf_app _ _)
                  have hszw := wStr_len bw
                  generalize wStr bw = sb at *
                  go_wp2
                  go_roundg (q.size - (n + 1))
                  case measure => omega
                  case rel => exact ⟨n + 1, by omega, rfl, by go_num, by rw [h1.out], hb5⟩
        · have hne : ¬ q.data.toList.getD n 0 = c := fun h => hnk (hxc.1 h)
          have HNX := Lib.hid (mkAt_next (bs := q.data.toList) hnk)
          generalize q.data.toList.getD n 0 = y at *
          have hneb : (((y.toNat : Int) != (c.toNat : Int))) = true := by
            rw [bne_iff_ne]
            exact fun h => hne (u8_nat_inj (by omega))
          clear hnk hxc hne
          generalize mkAt q.data.toList k n = mk at *
          go_upto_region 8 with fail
          go_quiet (fail)
          go_wp2
          go_roundg (q.size - (n + 1))
          case measure => omega
          case rel => exact ⟨n + 1, by omega, rfl, by go_num, by rw [HNX.out], below_drewN hb4 _⟩
      · have hnn : n = q.size := by omega
        have hni2 : ¬ (n : Int) + 1 < ((q.size : Int) + 2) - 1 := by omega
        have HMB : RowKit.Hid (mkAt q.data.toList k n = strOf (baseL q.data.toList k)) := Lib.hid (by unfold mkAt; rw [if_neg (by omega)])
        rw [HMB.out]
        have HW4 := Lib.hid (bel_trans hb02 hb4)
        have HE4 := Lib.hid (HE3.out.mono hb4)
        generalize baseL q.data.toList k = B at *
        clear HDA HKU HKC HMB
        go_wp2
        go_loopg [5, 8] N (fun g0 t i wr2 => ∃ m : Nat, m ≤ N ∧ g0 = N - m ∧ i = .int .i64 (m : Int) ∧ t = .string (strOf (B ++ exE (x.take m) r)) ∧ Below wr.heap.size wr wr2)
        case atStart => exact ⟨0, Nat.zero_le _, rfl, rfl, by simp [exE], Below.refl _ _⟩
        case round =>
          obtain ⟨m, hm, rfl, rfl, rfl, hb6⟩ := hrel
          have u0 := cell_bel hb6 f0
          have u3 := cell_bel hb6 f3
          by_cases hltm : m < N
          · have hmi : (m : Int) < (N : Int) := by omega
            have hm0 : (0 : Int) ≤ (m : Int) := by omega
            obtain ⟨b1, off, rfl, g0⟩ := int_at (HE4.out.mono hb6) (i := m) (by rw [HN.out]; exact hltm)
            have hx1 := exE_take (x := x) (k := m) (by rw [HN.out]; exact hltm) r
            have hsz1 : (strOf (B ++ exE (x.take m) r)).size ≤ N + 2 := by
              have := exE_few x r m
              have := HBS.out
              rw [strOf_len, List.length_append]
              have := HN.out
              omega
            generalize x.getD m 0 = y at *
            by_cases hy : y = r
            · rw [if_pos hy] at hx1
              have hyb : (y == r) = true := by rw [beq_iff_eq]; exact hy
              have HX : RowKit.Hid (strOf (B ++ exE (x.take m) r) ++ ⟨#[69]⟩ = strOf (B ++ exE (x.take (m + 1)) r)) := Lib.hid (by rw [hx1, ← List.append_assoc]; exact strOf_app _ [69])
              clear hx1
              generalize strOf (B ++ exE (x.take m) r) = T at *
              go_upto_region 16 with fail
              go_quiet (fail)
              go_wp2
              go_roundg (N - (m + 1))
              case measure => omega
              case rel => exact ⟨m + 1, by omega, rfl, by go_num, by rw [HX.out], below_drewN hb6 _⟩
            · rw [if_neg hy] at hx1
              have hyb : (y == r) = false := by rw [beq_eq_false_iff_ne]; exact hy
              have HX : RowKit.Hid (strOf (B ++ exE (x.take m) r) = strOf (B ++ exE (x.take (m + 1)) r)) := Lib.hid (by rw [hx1])
              clear hx1
              generalize strOf (B ++ exE (x.take m) r) = T at *
              go_upto_region 16 with fail
              go_quiet (fail)
              go_wp2
              go_roundg (N - (m + 1))
              case measure => omega
              case rel => exact ⟨m + 1, by omega, rfl, by go_num, by rw [HX.out], below_drewN hb6 _⟩
          · have hmm : m = N := by omega
            subst hmm
            have hmi : ¬ (m : Int) < (m : Int) := by omega
            have HX : RowKit.Hid (strOf (B ++ exE (x.take m) r) = mksT ⟨a, b, q, x, bk⟩ l (r, c)) := Lib.hid (by rw [HM.out, if_pos trivial, HML.out, ← HN.out, exE_all])
            generalize strOf (B ++ exE (x.take m) r) = T at *
            go_wp2
            go_ret
            exact ⟨ret_str (by rw [HX.out]), bel_trans HW4.out hb6⟩
end Go.Proofs.YtpmmjccdogjncaaDoor
