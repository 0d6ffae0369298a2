/- The reference's cursor: so many bytes, a text, texts. -/
import Derived.Test.YtofomopmmopflaaGreatDoorZK
import Derived.Test.YtofomopmmopflaaGreatDoorFQ
import Derived.Test.YtofomopmmopflaaGreatDoorGR
namespace Go.Proofs.YtofomopmmopflaaGreatDoor
open Go.RowKit Go.ChangeMaps
set_option linter.unusedSimpArgs false
set_option linter.unusedVariables false
set_option maxRecDepth 20000

set_option maxHeartbeats 8000000 in
theorem takeN_yes (g : Nat) (s : ByteArray) (k n : Nat) (w : World) (h : CS w g s k false) (hl : s.size ≤ 1000000) (hk : k + n ≤ s.size) :
    Calls Tryz.prog 71 #[.pointer (some ⟨g, 0, none⟩), .int .i64 (n : Int)] w fun e w' => e = .returned (.string (s.extract k (k + n))) ∧ CS w' g s (k + n) false ∧ w.grownBy w' (some g) := by
  obtain ⟨c0, c1, c2, f1, f2⟩ := h.cells
  have HC := Lib.hid h
  have hgt : ¬ (s.size : Int) - (k : Int) < (n : Int) := by omega
  have hn0 : ¬ (n : Int) < 0 := by omega
  have hks2 : (k : Int) ≤ (s.size : Int) := by omega
  have hks3 : (k : Int) + (n : Int) ≤ (s.size : Int) := by omega
  have hk0 : (0 : Int) ≤ (k : Int) := by omega
  have hk1 : (k : Int) + (n : Int) - (n : Int) = (k : Int) := by omega
  have hk2 : (k : Int) ≤ (k : Int) + (n : Int) := by omega
  have hw1 : IntKind.i64.wrap ((k : Int) + (n : Int)) = (k : Int) + (n : Int) := IntWalk.i64_in _ (by omega)
  have hw2 : IntKind.i64.wrap ((s.size : Int) - (k : Int)) = (s.size : Int) - (k : Int) := IntWalk.i64_in _ (by omega)
  have hw3 : IntKind.i64.wrap ((k : Int) + (n : Int) - (n : Int)) = (k : Int) := by rw [hk1]; exact IntWalk.i64_in _ (by omega)
  clear h
  go_enter Tryz.func71, Tryz.ntmps71
  go_upto_region 1 with fail
  go_quiet (fail)
  have hC1 := HC.out.mono (below_drewN (Below.refl w.heap.size w) nq)
  have hgr1 : w.grownBy (w.drewN nq) (some g) := gr_of_below (below_drewN (Below.refl w.heap.size w) nq) _
  generalize w.drewN nq = wq at *
  clear c0 c1 c2 f1 f2
  obtain ⟨d0, d1, d2, e1, e2⟩ := hC1.cells
  go_upto_region 5 with fail
  have hC2 : CS (wq.setCell ⟨g, 1, none⟩ (.int .i64 ((k : Int) + (n : Int)))) g s (k + n) false := hC1.goAt (k2 := k + n) hk
  have hgr2 : w.grownBy (wq.setCell ⟨g, 1, none⟩ (.int .i64 ((k : Int) + (n : Int)))) (some g) := gr_setCell1 hgr1 1 _
  generalize wq.setCell ⟨g, 1, none⟩ (.int .i64 ((k : Int) + (n : Int))) = ws at *
  clear d0 d1 d2 e1 e2
  obtain ⟨d0, d1, d2, e1, e2⟩ := hC2.cells
  replace d1 : ws.cell? ⟨g, 1, none⟩ = some (.int .i64 ((k : Int) + (n : Int))) := d1
  have HC2 := Lib.hid hC2
  clear hC1 hC2 hgr1
  go_quiet (fail)
  go_wp2
  go_ret
  exact ⟨by first | rfl | (congr 1; done), HC2.out.mono (below_drewN (Below.refl ws.heap.size ws) nq), gby_trans hgr2 (gr_of_below (below_drewN (Below.refl ws.heap.size ws) nq) _)⟩

set_option maxHeartbeats 8000000 in
theorem takeN_no (g : Nat) (s : ByteArray) (k n : Nat) (bad : Bool) (w : World) (h : CS w g s k bad) (hl : s.size ≤ 1000000) (hk : bad = true ∨ s.size < k + n) :
    Calls Tryz.prog 71 #[.pointer (some ⟨g, 0, none⟩), .int .i64 (n : Int)] w fun e w' => e = .returned (.string ⟨#[]⟩) ∧ CS w' g s k true ∧ w.grownBy w' (some g) := by
  obtain ⟨c0, c1, c2, f1, f2⟩ := h.cells
  have HC := Lib.hid h
  have hks2 : (k : Int) ≤ (s.size : Int) := by have := h.2; omega
  have hn0 : ¬ (n : Int) < 0 := by omega
  have hw2 : IntKind.i64.wrap ((s.size : Int) - (k : Int)) = (s.size : Int) - (k : Int) := IntWalk.i64_in _ (by omega)
  clear h
  cases bad with
  | true =>
    go_enter Tryz.func71, Tryz.ntmps71
    go_upto_region 1 with fail
    go_quiet (fail)
    have hC1 := HC.out.mono (below_drewN (Below.refl w.heap.size w) nq)
    have hgr1 : w.grownBy (w.drewN nq) (some g) := gr_of_below (below_drewN (Below.refl w.heap.size w) nq) _
    generalize w.drewN nq = wq at *
    clear c0 c1 c2 f1 f2
    obtain ⟨d0, d1, d2, e1, e2⟩ := hC1.cells
    go_wp2
    go_ret
    exact ⟨rfl, hC1.goBad true, gr_setCell1 hgr1 2 _⟩
  | false =>
    have hgt : (s.size : Int) - (k : Int) < (n : Int) := by
      rcases hk with h | h
      · cases h
      · omega
    go_enter Tryz.func71, Tryz.ntmps71
    go_upto_region 1 with fail
    go_quiet (fail)
    have hC1 := HC.out.mono (below_drewN (Below.refl w.heap.size w) nq)
    have hgr1 : w.grownBy (w.drewN nq) (some g) := gr_of_below (below_drewN (Below.refl w.heap.size w) nq) _
    generalize w.drewN nq = wq at *
    clear c0 c1 c2 f1 f2
    obtain ⟨d0, d1, d2, e1, e2⟩ := hC1.cells
    go_wp2
    go_ret
    exact ⟨rfl, hC1.goBad true, gr_setCell1 hgr1 2 _⟩

/-- What 'take' and 'str' tell. -/
def TakeP (g : Nat) (s : ByteArray) (k : Nat) (bad : Bool) (most : Nat) (f : List UInt8 → Option (ByteArray × List UInt8)) (w : World) (e : Ending) (w' : World) : Prop :=
  ∃ (t : ByteArray) (k2 : Nat) (b2 : Bool), e = .returned (.string t) ∧ t.size ≤ most ∧ CS w' g s k2 b2 ∧ (b2 = false → bad = false ∧ f ((toL s).drop k) = some (t, (toL s).drop k2)) ∧ (b2 = true → bad = true ∨ f ((toL s).drop k) = none) ∧ w.grownBy w' (some g)
def pTakeT (n : Nat) (l : List UInt8) : Option (ByteArray × List UInt8) := bindP (pTake n l) fun k r => some (⟨k.toArray⟩, r)
theorem takeN_any (g : Nat) (s : ByteArray) (k n : Nat) (bad : Bool) (w : World) (h : CS w g s k bad) (hl : s.size ≤ 1000000) :
    Calls Tryz.prog 71 #[.pointer (some ⟨g, 0, none⟩), .int .i64 (n : Int)] w fun e w' => TakeP g s k bad n (pTakeT n) w e w' := by
  have hlen : ((toL s).drop k).length = s.size - k := by rw [List.length_drop, size_toL]
  have hks := h.2
  by_cases hc : bad = false ∧ k + n ≤ s.size
  · obtain ⟨rfl, hk⟩ := hc
    refine (takeN_yes g s k n w h hl hk).mono ?_
    rintro e w' ⟨rfl, h1, h2⟩
    refine ⟨_, _, false, rfl, by rw [ByteArray.size_extract]; omega, h1, fun _ => ⟨rfl, ?_⟩, (by intro h; cases h), h2⟩
    unfold pTakeT pTake
    rw [if_pos (by omega)]
    have e1 : (⟨(((toL s).drop k).take n).toArray⟩ : ByteArray) = s.extract k (k + n) := by
      apply toL_inj
      refine (strA_toL _).trans ?_
      rw [ext_list, List.drop_take]
      congr 1
      omega
    have e2 : ((toL s).drop k).drop n = (toL s).drop (k + n) := by rw [List.drop_drop]
    show some ((⟨(((toL s).drop k).take n).toArray⟩ : ByteArray), ((toL s).drop k).drop n) = _
    rw [e1, e2]
  · refine (takeN_no g s k n bad w h hl (by
      cases bad
      · right
        by_cases h2 : k + n ≤ s.size
        · exact absurd ⟨rfl, h2⟩ hc
        · omega
      · exact .inl rfl)).mono ?_
    rintro e w' ⟨rfl, h1, h2⟩
    refine ⟨_, _, true, rfl, Nat.zero_le _, h1, (by intro h; cases h), fun _ => ?_, h2⟩
    cases bad
    · right
      unfold pTakeT pTake
      rw [if_neg (by intro h3; exact hc ⟨rfl, by omega⟩)]
      rfl
    · exact .inl rfl
theorem pText_eqT (l : List UInt8) : pText l = bindP (pNum 40 l) fun n r => pTakeT n r := rfl
theorem rstr_any (g : Nat) (s : ByteArray) (k : Nat) (bad : Bool) (w : World) (h : CS w g s k bad) (hl : s.size ≤ 1000000) :
    Calls Tryz.prog 72 #[.pointer (some ⟨g, 0, none⟩)] w fun e w' => TakeP g s k bad 40 pText w e w' := by
  have HN : RowKit.Hid (Calls Tryz.prog 73 #[.pointer (some ⟨g, 0, none⟩), .int .i64 40] w fun e w' => NumP g s k 40 bad w e w') := Lib.hid (num_any g s k 40 bad w h hl (by omega))
  have HT : RowKit.Hid (∀ (n k2 : Nat) b2 W, CS W g s k2 b2 → Calls Tryz.prog 71 #[.pointer (some ⟨g, 0, none⟩), .int .i64 (n : Int)] W fun e w' => TakeP g s k2 b2 n (pTakeT n) W e w') := Lib.hid fun n k2 b2 W h => takeN_any g s k2 n b2 W h hl
  clear h hl
  go_enter Tryz.func72, Tryz.ntmps72
  go_wp2_with (first
    | (go_at_call 73; (with_reducible refine HN.out.mono ?_); rintro e w2 ⟨n, k2, b2, rfl, hn, hc2, hf2, ht2, hg2⟩)
    | (go_at_call 71; (with_reducible refine (HT.out n k2 b2 _ hc2).mono ?_); rintro e w3 ⟨t, k3, b3, rfl, hz3, hc3, hf3, ht3, hg3⟩))
  go_ret
  refine ⟨t, k3, b3, rfl, by omega, hc3, fun hb => ?_, fun hb => ?_, gby_trans hg2 hg3⟩
  · obtain ⟨h1, h2⟩ := hf3 hb
    obtain ⟨h3, h4⟩ := hf2 h1
    refine ⟨h3, ?_⟩
    rw [pText_eqT, bindP_some h4]
    exact h2
  · rcases ht3 hb with h1 | h1
    · rcases ht2 h1 with h2 | h2
      · exact .inl h2
      · exact .inr (by rw [pText_eqT]; exact bindP_none h2)
    · cases b2 with
      | true =>
        rcases ht2 rfl with h2 | h2
        · exact .inl h2
        · exact .inr (by rw [pText_eqT]; exact bindP_none h2)
      | false =>
        obtain ⟨h3, h4⟩ := hf2 rfl
        right
        rw [pText_eqT, bindP_some h4]
        exact h1

/-- What a reading of a list tells. -/
def ListC {α β : Type} (enc : α → List Value) (E : TypeId) (st most : Nat) (ok : α → Prop) (o : Option β) (K : List α → List UInt8 → Option β) (g : Nat) (s : ByteArray) (w : World) (e : Ending) (w' : World) : Prop :=
  ∃ (v : Value) (nm : List α) (k2 : Nat) (b2 : Bool), e = .returned v ∧ w'.ownsRow w.heap.size E st v nm.length (nm.flatMap enc) ∧ nm.length ≤ most ∧ (∀ x ∈ nm, ok x) ∧ CS w' g s k2 b2 ∧ Stg o b2 (K nm ((toL s).drop k2)) ∧ w.grownBy w' (some g)

set_option maxHeartbeats 8000000 in
theorem rstrs_any {β : Type} {o : Option β} {K : List ByteArray → List UInt8 → Option β} (g : Nat) (s : ByteArray) (k : Nat) (bad : Bool) (most : Nat) (w : World) (h : CS w g s k bad) (hl : s.size ≤ 1000000) (hm : most ≤ 100) (hst : Stg o bad (bindP (pNum most ((toL s).drop k)) fun n r => pRun pText K n [] r)) :
    Calls Tryz.prog 74 #[.pointer (some ⟨g, 0, none⟩), .int .i64 (most : Int)] w fun e w' => ListC strE 9 1 most (fun x => x.size ≤ 40) o K g s w e w' := by
  have HN : RowKit.Hid (Calls Tryz.prog 73 #[.pointer (some ⟨g, 0, none⟩), .int .i64 (most : Int)] w fun e w' => NumP g s k most bad w e w') := Lib.hid (num_any g s k most bad w h hl (by omega))
  have HTX : RowKit.Hid (∀ W k b, CS W g s k b → Calls Tryz.prog 72 #[.pointer (some ⟨g, 0, none⟩)] W fun e w' => TakeP g s k b 40 pText W e w') := Lib.hid fun W k b h => rstr_any g s k b W h hl
  have HST := Lib.hid hst
  have hgl : g < w.heap.size := h.1.lt
  clear hst hl h
  go_enter Tryz.func74, Tryz.ntmps74
  go_upto_block 0 with (first
    | (go_at_call 73; (with_reducible refine HN.out.mono ?_); rintro e w1 ⟨n, k1, b1, rfl, hn1, hc1, hf1, ht1, hg1⟩))
  have HS1 : RowKit.Hid (Stg o b1 (pRun pText K n [] ((toL s).drop k1))) := Lib.hid (HST.out.step (K := fun n r2 => pRun pText K n [] r2) hf1 ht1)
  have HC1 := Lib.hid hc1
  have HG1 := Lib.hid hg1
  clear hf1 ht1 hc1 hg1 HST HN
  go_wp2
  go_loopg [5, 7] n (fun g0 s5 s7 wr => ∃ (i : Nat) (lst : List ByteArray) (kk : Nat) (bad : Bool) (p3 : Option Addr) (n3 c3 : Nat), i ≤ n ∧ g0 = n - i ∧ s7 = .int .i64 (i : Int) ∧ s5 = .slice p3 n3 c3 ∧ wr.ownsRow w.heap.size 9 1 (.slice p3 n3 c3) i (lst.flatMap strE) ∧ lst.length = i ∧ (∀ x ∈ lst, x.size ≤ 40) ∧ CS wr g s kk bad ∧ Stg o bad (pRun pText K (n - i) lst ((toL s).drop kk)) ∧ w.grownBy wr (some g))
  case atStart => exact ⟨0, [], k1, b1, none, 0, 0, Nat.zero_le _, rfl, rfl, rfl, World.ownsRow_nil _ _ _ _, rfl, (fun x hx => by cases hx), HC1.out, HS1.out, HG1.out⟩
  case round =>
    obtain ⟨i, lst, kk, bad, p3, n3, c3, hin, rfl, rfl, rfl, hown, hll, hsz, hcs, hst, hgr⟩ := hrel
    rename World => wr
    have HOWN := Lib.hid hown
    have HLL := Lib.hid hll
    have HSZ := Lib.hid hsz
    have HCS := Lib.hid hcs
    have HST := Lib.hid hst
    have HGR := Lib.hid hgr
    obtain ⟨d0, d1, d2, e1, e2⟩ := hcs.cells
    clear hown hll hsz hcs hst hgr HC1 HS1 HG1
    go_upto_region 4 with fail
    go_cut [20] from 11 to 20 (fun s20 wx => s20 = .bool (decide (i < n) && !bad) ∧ wr = wx)
    case first =>
      by_cases h1 : i < n
      · have h1i : (i : Int) < (n : Int) := by omega
        have HD := Lib.hid (decide_eq_true h1)
        clear h1
        cases bad
        · go_wp2
          go_meet
          exact ⟨by rw [HD.out]; rfl, rfl⟩
        · go_wp2
          go_meet
          exact ⟨by rw [HD.out]; rfl, rfl⟩
      · have h1i : ¬ (i : Int) < (n : Int) := by omega
        have HD := Lib.hid (decide_eq_false h1)
        clear h1
        go_wp2
        go_meet
        exact ⟨by rw [HD.out]; rfl, rfl⟩
    case rest =>
      obtain ⟨rfl, rfl⟩ := hcut
      cases hd : (decide (i < n) && !bad) with
      | true =>
        rw [Bool.and_eq_true] at hd
        have hlt : i < n := of_decide_eq_true hd.1
        have hb2 : bad = false := by simpa using hd.2
        subst hb2
        clear hd d0 d1 d2 e1 e2
        obtain ⟨i0, hi0, hz0, hsz0, hby0⟩ := str_tinfo
        have hm1 : i + 1 ≤ maxLen := by unfold maxLen; omega
        have hm2 : (i + 1) * 16 ≤ 140737488355328 := by omega
        have hwi : IntKind.i64.wrap ((i : Int) + 1) = (i : Int) + 1 := IntWalk.i64_in _ (by omega)
        go_wp2_with (first
          | (go_at_call 72; (with_reducible refine (HTX.out _ _ _ HCS.out).mono ?_); rintro e w7 ⟨s7, k7, b7, rfl, hs7, hc7, hf7, ht7, hg7⟩; have HF7 := Lib.hid hf7; have HT7 := Lib.hid ht7; clear hf7 ht7; have ho7 := own_far HOWN.out hg7 hgl; have hg57 := gby_trans HGR.out hg7; have hB7 := hg57.size)
          | (at_builtin; refine wpList_pushC rfl _ _ 24 rfl w.heap.size 9 i0 _ 1 16 Tryz.underlying24 hi0 hz0 hsz0 hby0 rfl (by decide) _ i _ rfl ho7 (strE s7) rfl rfl (strE_one _) hm1 hm2 hB7 ?_; intro v4 w4 ho4 hb4 hg4; replace hg4 : World.grownBy _ w4 (Value.slice p3 n3 c3).ownBlock := hg4; obtain ⟨p4, n4, c4, rfl⟩ := own_slice ho4))
        have hstn : Stg o b7 (pRun pText K (n - (i + 1)) (lst ++ [s7]) ((toL s).drop k7)) := Stg.step (p := pText ((toL s).drop kk)) (K := fun s' r' => pRun pText K (n - (i + 1)) (lst ++ [s']) r') (by have := HST.out; rw [show n - i = (n - (i + 1)) + 1 by omega] at this; exact this) (fun h => ⟨rfl, (HF7.out h).2⟩) (fun h => by rcases HT7.out h with h1 | h1; cases h1; exact .inr h1)
        have hc4 := CS.far (W := w7.alloc _) ⟨hc7.1.alloc _, hc7.2⟩ hg4 (own_row_ne ho7 hgl)
        have hgrn : w.grownBy w4 (some g) := gr_push hg57 hb4 (Nat.le_trans (by simp) hg4.size)
        go_roundg (n - (i + 1))
        case measure => omega
        case rel => exact ⟨i + 1, lst ++ [s7], k7, b7, _, _, _, by omega, rfl, by go_num, rfl, by rw [List.flatMap_append, show ([s7] : List ByteArray).flatMap strE = strE s7 by simp]; exact ho4, by rw [List.length_append, HLL.out]; rfl, (fun t ht => by
          rcases List.mem_append.1 ht with h1 | h1
          · exact HSZ.out t h1
          · rw [List.mem_singleton.1 h1]; exact hs7), hc4, hstn, hgrn⟩
      | false =>
        have hs0 : Stg o bad (K lst ((toL s).drop kk)) := by
          refine ⟨fun hb => ?_, HST.out.2⟩
          have h1 := HST.out.1 hb
          rw [hb] at hd
          have hie : i = n := by simp at hd; omega
          rw [hie, Nat.sub_self] at h1
          exact h1
        have HS0 := Lib.hid hs0
        clear hd hs0
        go_wp2
        go_ret
        exact ⟨_, lst, kk, bad, rfl, by rw [HLL.out]; exact HOWN.out, by rw [HLL.out]; omega, HSZ.out, HCS.out, HS0.out, HGR.out⟩
end Go.Proofs.YtofomopmmopflaaGreatDoor
