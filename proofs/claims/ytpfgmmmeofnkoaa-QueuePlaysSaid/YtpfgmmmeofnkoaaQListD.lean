/- SameTexts, few. -/
import Derived.Test.YtpfgmmmeofnkoaaQLawK
namespace Go.Proofs.Ytpfgmmmeofnkoaa
open Go.RowKit

theorem cell_bel {w wr : World} {p : Addr} {u : Value} (hb : Below w.heap.size w wr) (h : w.cell? p = some u) : wr.cell? p = some u :=
  (hb.cell (World.block_lt_of_cell? w p h)).trans h

theorem list_eq {a b : List ByteArray} (hl : a.length = b.length) (h : ∀ j, j < a.length → a.getD j ByteArray.empty = b.getD j ByteArray.empty) : a = b := by
  apply List.ext_getElem hl
  intro i h1 h2
  have := h i h1
  simpa [List.getD, h1, h2] using this

set_option maxHeartbeats 4000000 in
theorem same_any (a b : List ByteArray) (va vb : Value) (w : World) (ha : HasL w va a) (hb : HasL w vb b) (hl : a.length ≤ 1000000) (hl2 : b.length ≤ 1000000) :
    Calls Try.prog 11 #[va, vb] w fun e w' => e = .returned (.bool (decide (a = b))) ∧ Below w.heap.size w w' := by
  by_cases hlen : a.length = b.length
  · by_cases h0 : a.length = 0
    · obtain rfl : a = [] := List.length_eq_zero_iff.1 h0
      obtain rfl : b = [] := List.length_eq_zero_iff.1 (by rw [← hlen]; rfl)
      obtain ⟨p, c, rfl⟩ := own_len ha
      obtain ⟨p2, c2, rfl⟩ := own_len hb
      clear ha hb hlen h0
      simp only [List.length_nil]
      go_enter Try.func11, Try.ntmps11
      go_wp2
      refine wp_loop_rounds 1 ?_
      rw [rounds_succ]
      go_wp2
      go_ret
      exact ⟨rfl, Below.refl _ _⟩
    · rcases ha with ⟨_, _, _, rfl, _⟩ | ⟨g, off, c, rfl, a1, a2, a3⟩
      · exact absurd rfl h0
      rcases hb with ⟨_, _, _, rfl, _⟩ | ⟨g2, off2, c2, rfl, b1, b2, b3⟩
      · exact absurd hlen h0
      have A3 := Lib.hid a3
      have B3 := Lib.hid b3
      have HL := Lib.hid hlen
      rw [← hlen] at b1 hl2 ⊢
      clear a3 b3 hlen h0
      generalize hn : a.length = n at *
      have HN := Lib.hid hn
      clear hn
      go_enter Try.func11, Try.ntmps11
      go_wp2
      go_loopw [5] (fun i wr => ∃ k : Nat, k ≤ n ∧ Below w.heap.size w wr ∧ i = .int .i64 k ∧ ∀ j, j < k → a.getD j ByteArray.empty = b.getD j ByteArray.empty) (fun i _ => n - (intOf i).toNat)
      case atStart => exact ⟨0, Nat.zero_le _, Below.refl _ _, rfl, fun j hj => absurd hj (Nat.not_lt_zero _)⟩
      case round =>
        obtain ⟨k, hk, hb, rfl, hal⟩ := hrel
        have HAL := Lib.hid hal
        clear hal
        by_cases hlt : k < n
        · have c1 := cell_bel hb (A3.out k hlt)
          have c2 := cell_bel hb (B3.out k (by rw [← HL.out]; exact hlt))
          have hki : (k : Int) < (n : Int) := by omega
          have hk0 : (0 : Int) ≤ (k : Int) := by omega
          generalize hx : a.getD k ByteArray.empty = x at c1
          generalize hy : b.getD k ByteArray.empty = y at c2
          by_cases he : x = y
          · have hks : (x.toList == y.toList) = true := by rw [he]; simp
            have hks2 : (x.toList != y.toList) = false := by rw [he]; simp
            have hn2 : RowKit.Hid (a.getD k ByteArray.empty = b.getD k ByteArray.empty) := Lib.hid (by rw [hx, hy]; exact he)
            clear hx hy he
            go_wp2_with fail
            go_quiet (fail)
            go_wp2
            go_roundw
            case rel => exact ⟨k + 1, by omega, below_drewN hb _, by go_num, fun m hm => by (rcases Nat.lt_or_ge m k with h | h); exact HAL.out m h; rw [show m = k by omega]; exact hn2.out⟩
            case measure => simp [intOf]; omega
          · have hks : (x.toList == y.toList) = false := by rw [beq_eq_false_iff_ne]; exact fun h => he (toList_inj h)
            have hks2 : (x.toList != y.toList) = true := by rw [bne_iff_ne]; exact fun h => he (toList_inj h)
            have hn2 : RowKit.Hid (decide (a = b) = false) := Lib.hid (by rw [decide_eq_false_iff_not]; intro h; apply he; rw [← hx, ← hy, h])
            clear hx hy he
            go_wp2_with fail
            go_quiet (fail)
            go_wp2
            go_ret
            exact ⟨ret_bool hn2.out.symm, below_drewN hb _⟩
        · have hfin : RowKit.Hid (decide (a = b) = true) := Lib.hid (by rw [decide_eq_true_eq]; exact list_eq (HN.out.trans HL.out) fun j hj => HAL.out j (by rw [HN.out] at hj; omega))
          go_wp2
          go_ret
          exact ⟨ret_bool hfin.out.symm, hb⟩
  · have hne : decide (a = b) = false := by rw [decide_eq_false_iff_not]; intro h; exact hlen (by rw [h])
    rw [hne]
    obtain ⟨p, c, rfl⟩ := own_len ha
    obtain ⟨p2, c2, rfl⟩ := own_len hb
    have h1 : ((a.length : Int) != (b.length : Int)) = true := by rw [bne_iff_ne]; omega
    have h2 : ((a.length : Int) == (b.length : Int)) = false := by rw [beq_eq_false_iff_ne]; omega
    clear ha hb hne hlen
    go_enter Try.func11, Try.ntmps11
    go_wp2
    go_ret
    exact ⟨rfl, Below.refl _ _⟩

/-- few, from a place on. -/
def fewR : List ByteArray → Int → Bool
  | [], m => decide (m ≤ 5000)
  | a :: t, m => if m ≤ 5000 then fewR t (m + min (a.size : Int) 5000) else false

def fewB (l : List ByteArray) : Bool := fewR l l.length

theorem fewR_no (l : List ByteArray) {m : Int} (h : ¬ m ≤ 5000) : fewR l m = false := by
  cases l with
  | nil => simp [fewR, h]
  | cons a t => simp [fewR, h]

theorem fewB_len {l : List ByteArray} (h : fewB l = true) : l.length ≤ 5000 := by
  rcases Nat.lt_or_ge 5000 l.length with h1 | h1
  · rw [fewB, fewR_no l (by omega)] at h; cases h
  · exact h1

theorem fewR_step {l : List ByteArray} {k : Nat} {y : Int} (h : k < l.length) (hy : y ≤ 5000) : fewR (l.drop k) y = fewR (l.drop (k + 1)) (y + min ((l.getD k ByteArray.empty).size : Int) 5000) := by
  rw [List.drop_eq_getElem_cons h, fewR, if_pos hy]
  simp [List.getD, h]

set_option maxHeartbeats 4000000 in
theorem few_any (l : List ByteArray) (v : Value) (w : World) (hv : HasL w v l) (hm : l.length ≤ maxLen) :
    Calls Try.prog 8 #[v] w fun e w' => e = .returned (.bool (fewB l)) ∧ w = w' := by
  by_cases hbig : l.length ≤ 5000
  · rcases hv with ⟨_, _, rfl, rfl, _⟩ | ⟨b, off, c, rfl, h1, h2, h3⟩
    · go_enter Try.func8, Try.ntmps8
      go_wp2
      refine wp_loop_rounds 1 ?_
      rw [rounds_succ]
      go_wp2
      go_ret
      exact ⟨rfl, rfl⟩
    · have H3 := Lib.hid h3
      have HB : RowKit.Hid (fewR (l.drop 0) (l.length : Int) = fewB l) := Lib.hid rfl
      clear h3 hm
      generalize fewB l = B at *
      generalize hn : l.length = n at *
      have HN := Lib.hid hn
      clear hn
      go_enter Try.func8, Try.ntmps8
      go_wp2
      go_loop [3, 4] (fun m i => ∃ k : Nat, ∃ y : Int, k ≤ n ∧ 0 ≤ y ∧ y ≤ 10000 ∧ m = .int .i64 y ∧ i = .int .i64 k ∧ fewR (l.drop k) y = B) (fun _ i => n - (intOf i).toNat)
      case atStart => exact ⟨0, (n : Int), Nat.zero_le _, by omega, by omega, rfl, rfl, HB.out⟩
      case round =>
        obtain ⟨k, y, hk, hy0, hy1, rfl, rfl, hB⟩ := hrel
        have HK := Lib.hid hB
        clear hB
        by_cases hlt : k < n
        · have hki : (k : Int) < (n : Int) := by omega
          have hk0 : (0 : Int) ≤ (k : Int) := by omega
          by_cases hy : y ≤ 5000
          · have c1 := H3.out k hlt
            have hst := fewR_step (l := l) (k := k) (by rw [HN.out]; exact hlt) hy
            generalize l.getD k ByteArray.empty = x at c1 hst
            have hmn : min (x.size : Int) 5000 ≤ 5000 := by omega
            have hmp : 0 ≤ min (x.size : Int) 5000 := by omega
            have HST := Lib.hid hst
            clear hst
            go_wp2
            exact ⟨⟨k + 1, y + min (x.size : Int) 5000, by omega, by omega, by omega, congrArg (Value.int .i64) (by split <;> omega), by go_num, by rw [← HST.out, HK.out]⟩, by simp [intOf]; omega⟩
          · have hy2 : ¬ y ≤ 5000 := hy
            have hfin : RowKit.Hid (B = false) := Lib.hid (by rw [← HK.out, fewR_no _ hy2])
            go_wp2
            go_ret
            exact ⟨ret_bool hfin.out.symm, rfl⟩
        · have hki : ¬ (k : Int) < (n : Int) := by omega
          have hfin : RowKit.Hid (B = decide (y ≤ 5000)) := Lib.hid (by rw [← HK.out, List.drop_eq_nil_of_le (by rw [HN.out]; omega)]; rfl)
          go_wp2
          go_ret
          exact ⟨ret_bool hfin.out.symm, rfl⟩
  · obtain ⟨p, c, rfl⟩ := own_len hv
    have hb : ¬ ((l.length : Int) ≤ 5000) := by omega
    have hp : (0 : Int) < (l.length : Int) := by omega
    have hfin : RowKit.Hid (fewB l = false) := Lib.hid (fewR_no _ hb)
    clear hv
    go_enter Try.func8, Try.ntmps8
    go_wp2
    refine wp_loop_rounds 1 ?_
    rw [rounds_succ]
    go_wp2
    go_ret
    exact ⟨ret_bool (by rw [hfin.out]; exact decide_eq_false (by omega)), rfl⟩
end Go.Proofs.Ytpfgmmmeofnkoaa
