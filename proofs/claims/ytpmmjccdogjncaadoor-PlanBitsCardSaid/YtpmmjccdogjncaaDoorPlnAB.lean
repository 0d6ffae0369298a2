/- The law's Same, words, few, place. -/
import Derived.Test.YtpmmjccdogjncaaDoorPlnAA
namespace Go.Proofs.YtpmmjccdogjncaaDoor
open Go.RowKit Go.ChangeMaps
set_option linter.unusedSimpArgs false

theorem list_eq_getD {α : Type} {l m : List α} (d : α) (hl : l.length = m.length) (h : ∀ i, i < l.length → l.getD i d = m.getD i d) : l = m := by
  apply List.ext_getElem hl
  intro i h1 h2
  have := h i h1
  rw [List.getD_eq_getElem?_getD, List.getD_eq_getElem?_getD, List.getElem?_eq_getElem h1, List.getElem?_eq_getElem h2] at this
  exact this

set_option maxRecDepth 20000 in
set_option maxHeartbeats 8000000 in
theorem sameS_any (la lb : List St) (va vb : Value) (w : World) (ha : HasE stC w va la) (hb : HasE stC w vb lb) (hl : la.length ≤ 1000000) :
    Calls Tryd.prog 24 #[va, vb] w fun e w' => e = .returned (.bool (decide (la = lb))) ∧ Below w.heap.size w w' := by
  obtain ⟨pa, ca, rfl⟩ := ha.len
  obtain ⟨pb, cb, rfl⟩ := hb.len
  by_cases hlen : la.length = lb.length
  · have HA := Lib.hid ha
    have HB := Lib.hid hb
    have HNE : RowKit.Hid (∀ i, la.getD i st0 ≠ lb.getD i st0 → decide (la = lb) = false) := Lib.hid fun i h => decide_eq_false fun e => h (by rw [e])
    have HEQ : RowKit.Hid ((∀ i, i < la.length → la.getD i st0 = lb.getD i st0) → decide (la = lb) = true) := Lib.hid fun h => decide_eq_true (list_eq_getD st0 hlen h)
    have HLA := Lib.hid hlen
    rw [hlen] at HA HEQ ⊢
    generalize hN : lb.length = N at *
    have HN := Lib.hid hN
    have hNle : N ≤ 1000000 := by omega
    clear ha hb hlen hl hN
    have hne : ((N : Int) != (N : Int)) = false := by simp
    go_enter Tryd.func24, Tryd.ntmps24
    go_wp2
    go_loopg [5] N (fun g i wr => ∃ k : Nat, k ≤ N ∧ g = N - k ∧ i = .int .i64 (k : Int) ∧ Below w.heap.size w wr ∧ ∀ i, i < k → la.getD i st0 = lb.getD i st0)
    case atStart => exact ⟨0, Nat.zero_le _, rfl, rfl, Below.refl _ _, fun i hi => absurd hi (Nat.not_lt_zero _)⟩
    case round =>
      obtain ⟨k, hk, rfl, rfl, hbw, hall⟩ := hrel
      have HALL := Lib.hid hall
      clear hall
      by_cases hlt : k < N
      · have hki : (k : Int) < (N : Int) := by omega
        have hk0 : (0 : Int) ≤ (k : Int) := by omega
        obtain ⟨b1, o1, rfl, _, g0, g1⟩ := st_at (HA.out.mono hbw) (i := k) (by rw [HLA.out]; exact hlt)
        obtain ⟨b2, o2, rfl, _, h0, h1⟩ := st_at (HB.out.mono hbw) (i := k) (by rw [HN.out]; exact hlt)
        have HNEk := Lib.hid (HNE.out k)
        have HNX : RowKit.Hid (la.getD k st0 = lb.getD k st0 → ∀ i, i < k + 1 → la.getD i st0 = lb.getD i st0) := Lib.hid fun h i hi => by
          rcases Nat.lt_or_ge i k with h1 | h1
          · exact HALL.out i h1
          · rw [show i = k by omega]; exact h
        generalize la.getD k st0 = s at *
        generalize lb.getD k st0 = t at *
        obtain ⟨r, c⟩ := s
        obtain ⟨r', c'⟩ := t
        simp only at g0 g1 h0 h1
        by_cases hx : r = r'
        · subst hx
          by_cases hy : c = c'
          · subst hy
            have HY := Lib.hid (HNX.out rfl)
            go_upto_region 6 with fail
            go_quiet (fail)
            go_wp2
            go_roundg (N - (k + 1))
            case measure => omega
            case rel => exact ⟨k + 1, by omega, rfl, by go_num, below_drewN hbw _, HY.out⟩
          · have hyc : ¬ (c.toNat : Int) = (c'.toNat : Int) := fun e => hy (u8_nat_inj (by omega))
            have HF := Lib.hid (HNEk.out fun e => hy (by injection e))
            clear hy
            go_upto_region 6 with fail
            go_quiet (fail)
            go_wp2
            go_ret
            exact ⟨ret_bool (by rw [HF.out]), below_drewN hbw _⟩
        · have HF := Lib.hid (HNEk.out fun e => hx (by injection e))
          go_upto_region 6 with fail
          go_quiet (fail)
          go_wp2
          go_ret
          exact ⟨ret_bool (by rw [HF.out]), below_drewN hbw _⟩
      · have hke : k = N := by omega
        subst hke
        have hki : ¬ (k : Int) < (k : Int) := by omega
        have HF := Lib.hid (HEQ.out HALL.out)
        go_wp2
        go_ret
        exact ⟨ret_bool (by rw [HF.out]), hbw⟩
  · have hne : ((la.length : Int) != (lb.length : Int)) = true := by rw [bne_iff_ne]; omega
    have HF : RowKit.Hid (decide (la = lb) = false) := Lib.hid (decide_eq_false fun e => hlen (by rw [e]))
    clear ha hb hlen
    go_enter Tryd.func24, Tryd.ntmps24
    go_wp2
    go_ret
    exact ⟨ret_bool (by rw [HF.out]), Below.refl _ _⟩

set_option maxRecDepth 20000 in
set_option maxHeartbeats 8000000 in
theorem words_any (la lb : List Nat) (va vb : Value) (w : World) (ha : HasE wordC w va la) (hb : HasE wordC w vb lb) (hl : la.length ≤ 1000000) :
    Calls Tryd.prog 37 #[va, vb] w fun e w' => e = .returned (.bool (decide (la = lb))) ∧ Below w.heap.size w w' := by
  obtain ⟨pa, ca, rfl⟩ := ha.len
  obtain ⟨pb, cb, rfl⟩ := hb.len
  by_cases hlen : la.length = lb.length
  · have HA := Lib.hid ha
    have HB := Lib.hid hb
    have HNE : RowKit.Hid (∀ i, la.getD i 0 ≠ lb.getD i 0 → decide (la = lb) = false) := Lib.hid fun i h => decide_eq_false fun e => h (by rw [e])
    have HEQ : RowKit.Hid ((∀ i, i < la.length → la.getD i 0 = lb.getD i 0) → decide (la = lb) = true) := Lib.hid fun h => decide_eq_true (list_eq_getD 0 hlen h)
    have HLA := Lib.hid hlen
    rw [hlen] at HA HEQ ⊢
    generalize hN : lb.length = N at *
    have HN := Lib.hid hN
    have hNle : N ≤ 1000000 := by omega
    clear ha hb hlen hl hN
    have hne : ((N : Int) != (N : Int)) = false := by simp
    go_enter Tryd.func37, Tryd.ntmps37
    go_wp2
    go_loopg [5] N (fun g i wr => ∃ k : Nat, k ≤ N ∧ g = N - k ∧ i = .int .i64 (k : Int) ∧ Below w.heap.size w wr ∧ ∀ i, i < k → la.getD i 0 = lb.getD i 0)
    case atStart => exact ⟨0, Nat.zero_le _, rfl, rfl, Below.refl _ _, fun i hi => absurd hi (Nat.not_lt_zero _)⟩
    case round =>
      obtain ⟨k, hk, rfl, rfl, hbw, hall⟩ := hrel
      have HALL := Lib.hid hall
      clear hall
      by_cases hlt : k < N
      · have hki : (k : Int) < (N : Int) := by omega
        have hk0 : (0 : Int) ≤ (k : Int) := by omega
        obtain ⟨b1, o1, rfl, g0⟩ := word_at (HA.out.mono hbw) (i := k) (by rw [HLA.out]; exact hlt)
        obtain ⟨b2, o2, rfl, h0⟩ := word_at (HB.out.mono hbw) (i := k) (by rw [HN.out]; exact hlt)
        have HNEk := Lib.hid (HNE.out k)
        have HNX : RowKit.Hid (la.getD k 0 = lb.getD k 0 → ∀ i, i < k + 1 → la.getD i 0 = lb.getD i 0) := Lib.hid fun h i hi => by
          rcases Nat.lt_or_ge i k with h1 | h1
          · exact HALL.out i h1
          · rw [show i = k by omega]; exact h
        generalize la.getD k 0 = s at *
        generalize lb.getD k 0 = t at *
        by_cases hx : s = t
        · subst hx
          have HY := Lib.hid (HNX.out rfl)
          have hss : ((s : Int) != (s : Int)) = false := by simp
          go_upto_region 6 with fail
          go_quiet (fail)
          go_wp2
          go_roundg (N - (k + 1))
          case measure => omega
          case rel => exact ⟨k + 1, by omega, rfl, by go_num, below_drewN hbw _, HY.out⟩
        · have HF := Lib.hid (HNEk.out hx)
          have hss : ((s : Int) != (t : Int)) = true := by rw [bne_iff_ne]; omega
          go_upto_region 6 with fail
          go_quiet (fail)
          go_wp2
          go_ret
          exact ⟨ret_bool (by rw [HF.out]), below_drewN hbw _⟩
      · have hke : k = N := by omega
        subst hke
        have hki : ¬ (k : Int) < (k : Int) := by omega
        have HF := Lib.hid (HEQ.out HALL.out)
        go_wp2
        go_ret
        exact ⟨ret_bool (by rw [HF.out]), hbw⟩
  · have hne : ((la.length : Int) != (lb.length : Int)) = true := by rw [bne_iff_ne]; omega
    have HF : RowKit.Hid (decide (la = lb) = false) := Lib.hid (decide_eq_false fun e => hlen (by rw [e]))
    clear ha hb hlen
    go_enter Tryd.func37, Tryd.ntmps37
    go_wp2
    go_ret
    exact ⟨ret_bool (by rw [HF.out]), Below.refl _ _⟩

def fewP (p : Pl) : Bool := decide (p.lets.size ≤ 200 ∧ p.exits.length ≤ 200 ∧ p.bks.length ≤ 200)

set_option maxRecDepth 20000 in
theorem fewP_any (p : Pl) (ve vb : Value) (w : World) (he : HasE intC w ve p.exits) (hb : HasE stC w vb p.bks) :
    Calls Tryd.prog 19 #[planV p ve vb] w fun e w' => e = .returned (.bool (fewP p)) ∧ Below w.heap.size w w' := by
  have hf : fewP p = decide (p.lets.size ≤ 200 ∧ p.exits.length ≤ 200 ∧ p.bks.length ≤ 200) := rfl
  obtain ⟨a, b, q, x, bk⟩ := p
  obtain ⟨pe, ce, rfl⟩ := he.len
  obtain ⟨pb, cb, rfl⟩ := hb.len
  simp only at hf ⊢
  have HB : RowKit.Hid (∀ o, Below w.heap.size w (w.alloc o)) := Lib.hid fun o => (Below.refl _ _).alloc (Nat.le_refl _) _
  have HFF := Lib.hid hf
  unfold planV
  clear he hb hf
  by_cases h1 : (q.size : Int) ≤ 200
  · by_cases h2 : (x.length : Int) ≤ 200
    · by_cases h3 : (bk.length : Int) ≤ 200
      · have HF : RowKit.Hid (fewP ⟨a, b, q, x, bk⟩ = true) := Lib.hid (by rw [HFF.out]; exact decide_eq_true (by omega))
        go_enter Tryd.func19, Tryd.ntmps19
        go_wp2
        go_ret
        exact ⟨ret_bool (by rw [HF.out]), HB.out _⟩
      · have HF : RowKit.Hid (fewP ⟨a, b, q, x, bk⟩ = false) := Lib.hid (by rw [HFF.out]; exact decide_eq_false (by omega))
        go_enter Tryd.func19, Tryd.ntmps19
        go_wp2
        go_ret
        exact ⟨ret_bool (by rw [HF.out]), HB.out _⟩
    · have HF : RowKit.Hid (fewP ⟨a, b, q, x, bk⟩ = false) := Lib.hid (by rw [HFF.out]; exact decide_eq_false (by omega))
      go_enter Tryd.func19, Tryd.ntmps19
      go_wp2
      go_ret
      exact ⟨ret_bool (by rw [HF.out]), HB.out _⟩
  · have HF : RowKit.Hid (fewP ⟨a, b, q, x, bk⟩ = false) := Lib.hid (by rw [HFF.out]; exact decide_eq_false (by omega))
    go_enter Tryd.func19, Tryd.ntmps19
    go_wp2
    go_ret
    exact ⟨ret_bool (by rw [HF.out]), HB.out _⟩

theorem tm_place (k : Int) (n : Nat) (h0 : 0 < n) : k.tmod n = k % n ∧ 0 ≤ k.tmod n ∨ k.tmod n = k % n - n ∧ k.tmod n < 0 := by
  have h1 := Int.emod_nonneg k (show (n : Int) ≠ 0 by omega)
  have h2 := Int.emod_lt_of_pos k (show (0 : Int) < n by omega)
  rw [Int.tmod_eq_emod]
  split
  · left; omega
  · right; omega

theorem place_any (k : Int) (n : Nat) (w : World) (h0 : 0 < n) (hn : n ≤ 1000) :
    Calls Tryd.prog 34 #[.int .i64 k, .int .i64 n] w fun e w' => e = .returned (.int .i64 (k % (n : Int))) ∧ w = w' := by
  have hz : ¬ (n : Int) = 0 := by omega
  have HP := Lib.hid (tm_place k n h0)
  have h1 := Int.emod_nonneg k (show (n : Int) ≠ 0 by omega)
  have h2 := Int.emod_lt_of_pos k (show (0 : Int) < n by omega)
  go_enter Tryd.func34, Tryd.ntmps34
  go_wp2
  all_goals
    go_ret
    refine ⟨ret_int ?_, rfl⟩
    rcases HP.out with ⟨e1, e2⟩ | ⟨e1, e2⟩ <;> first | (rw [IntWalk.wrap64_in _ ⟨by omega, by omega⟩]; omega) | omega
end Go.Proofs.YtpmmjccdogjncaaDoor
