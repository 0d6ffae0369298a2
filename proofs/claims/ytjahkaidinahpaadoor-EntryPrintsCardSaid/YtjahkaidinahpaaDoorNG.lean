/- The words of entries; the parser's begin. -/
import Derived.Test.YtjahkaidinahpaaDoorNF
namespace Go.Proofs.YtjahkaidinahpaaDoor.En
open Go.RowKit
set_option linter.unusedSimpArgs false
set_option linter.unusedVariables false
set_option maxRecDepth 20000

def wordAt (k : Nat) : List UInt8 × Int := wordsL.getD k ([], 0)
def wordsV : List Value := wordsL.flatMap fun x => [txV x.1, .int .i64 x.2]

theorem wordsV_at : ∀ k, k < 27 → wordsV[k * 2]? = some (txV (wordAt k).1) ∧ wordsV[k * 2 + 1]? = some (.int .i64 (wordAt k).2) ∧ (wordAt k).1.length ≤ 4 := by
  intro k h
  have hk : k = 0 ∨ k = 1 ∨ k = 2 ∨ k = 3 ∨ k = 4 ∨ k = 5 ∨ k = 6 ∨ k = 7 ∨ k = 8 ∨ k = 9 ∨ k = 10 ∨ k = 11 ∨ k = 12 ∨ k = 13 ∨ k = 14 ∨ k = 15 ∨ k = 16 ∨ k = 17 ∨ k = 18 ∨ k = 19 ∨ k = 20 ∨ k = 21 ∨ k = 22 ∨ k = 23 ∨ k = 24 ∨ k = 25 ∨ k = 26 := by omega
  rcases hk with rfl | rfl | rfl | rfl | rfl | rfl | rfl | rfl | rfl | rfl | rfl | rfl | rfl | rfl | rfl | rfl | rfl | rfl | rfl | rfl | rfl | rfl | rfl | rfl | rfl | rfl | rfl <;> exact ⟨rfl, rfl, by decide⟩

set_option maxHeartbeats 4000000 in
theorem words_any (w : World) : Calls Tryd.prog 122 #[] w fun e w' => e = .returned (.slice (some ⟨w.heap.size, 0, none⟩) 27 27) ∧ Blk w' w.heap.size 190 wordsV ∧ Below w.heap.size w w' := by
  go_enter Tryd.func122, Tryd.ntmps122
  go_wp2
  go_ret
  exact ⟨rfl, heap_alloc_new w _, (Below.refl _ _).alloc (Nat.le_refl _) _⟩

theorem find_at {α : Type} (f : α → Bool) (d : α) : ∀ (l : List α) (k : Nat), k < l.length → (∀ j, j < k → f (l.getD j d) = false) → f (l.getD k d) = true → l.find? f = some (l.getD k d)
  | [], k, h, _, _ => by simp at h
  | a :: l, 0, _, _, h => by
    have h : f a = true := h
    rw [List.find?_cons, h]; rfl
  | a :: l, k + 1, h, h1, h2 => by
    have h0 : f a = false := h1 0 (by omega)
    rw [List.find?_cons, h0]
    exact find_at f d l k (by simpa using h) (fun j hj => h1 (j + 1) (by omega)) h2
theorem find_no {α : Type} (f : α → Bool) (d : α) : ∀ (l : List α), (∀ j, j < l.length → f (l.getD j d) = false) → l.find? f = none
  | [], _ => rfl
  | a :: l, h1 => by
    have h0 : f a = false := h1 0 (by simp)
    rw [List.find?_cons, h0]
    exact find_no f d l fun j hj => h1 (j + 1) (by simpa using hj)

theorem PS.setKind {w : World} {b : Nat} {s : ByteArray} {p : Nat} {c : CmdT} (h : PS w b s p c) (k : Int) : PS (w.setCell ⟨b, 2, none⟩ (.int .i64 k)) b s p { c with kind := k } := Blk.set h 2 (.int .i64 k)

/-- What begin comes to. -/
def OutB (b : Nat) (s : ByteArray) (W : World) (o : Option (Int × Nat)) (e : Ending) (w' : World) : Prop :=
  match o with
  | some (k, q) => e = .returned (.tuple #[]) ∧ PS w' b s q (cmdK k) ∧ Below b W w'
  | none => e = boom 41 0 ∧ Below b W w'

set_option maxHeartbeats 2000000 in
theorem begin_m (b : Nat) (s : ByteArray) (w : World) (hs : s.size ≤ maxLen) (hc : PS w b s 0 cmd0) :
    Calls Tryd.prog 61 #[.pointer (some ⟨b, 0, none⟩)] w (OutB b s w (begin_ (toL s))) := by
  have k0 := hc.text
  have HC := Lib.hid hc
  have hsl : (toL s).length = s.size := by simp
  by_cases hR : toL s = [42, 82]
  · have hs2 : s.size = 2 := by rw [← hsl, hR]; rfl
    have ht : s = ⟨#[42, 82]⟩ := bytes_inj hR
    have e : begin_ (toL s) = some (17, 2) := by rw [hR]; decide +kernel
    have HO : RowKit.Hid (∀ e w', e = .returned (.tuple #[]) → PS w' b s 2 (cmdK 17) → Below b w w' → OutB b s w (begin_ (toL s)) e w') := Lib.hid fun x w' h1 h2 h3 => by rw [e]; exact ⟨h1, h2, h3⟩
    generalize begin_ (toL s) = bg at *
    have HS : RowKit.Hid (Calls Tryd.prog 121 #[.pointer (some ⟨b, 0, none⟩)] w fun e w' => (∃ v, e = .returned v) ∧ PS w' b s 2 cmd0 ∧ Below b w w') := Lib.hid (by
      refine (rest_any b s 0 w hs hc).mono ?_
      rintro e w' ⟨rfl, h1, h2⟩
      rw [hs2] at h1
      exact ⟨⟨_, rfl⟩, h1, gr_low h2 (Cur.lt hc)⟩)
    subst ht
    clear e hs2 hR hsl hc
    go_enter Tryd.func61, Tryd.ntmps61
    go_wp2_with (first
      | (go_at_call 121; (with_reducible refine HS.out.mono ?_); rintro e w1 ⟨⟨v, rfl⟩, hc1, hb1⟩; have k3 := hc1.frozen 2; have k4 := hc1.kind))
    go_end0
    exact HO.out _ _ rfl (hc1.setKind 17) (low_set hb1 _ _)
  · have hne : (s.toList == [42, 82]) = false := by
      rw [ByteArray.toList_eq]
      simpa using hR
    have hb0 : begin_ (toL s) = (wordsL.find? fun x => isPre x.1 (toL s)).map fun x => (x.2, x.1.length) := by
      unfold begin_
      rw [if_neg hR]
    rw [hb0]
    have HW : RowKit.Hid (∀ (q : List UInt8) W, q.length ≤ 4 → PS W b s 0 cmd0 → Calls Tryd.prog 123 #[.pointer (some ⟨b, 0, none⟩), txV q] W fun e w' => e = .returned (.bool (isPre q (toL s))) ∧ PS w' b s (if isPre q (toL s) then q.length else 0) cmd0 ∧ Below b W w' ∧ W.heap.size ≤ w'.heap.size ∧ W.grownBy w' (some b)) := Lib.hid fun q W hq h => by
      refine (word_any b s 0 ⟨q.toArray⟩ W hs (by rw [tx_size]; unfold maxLen; omega) h).mono ?_
      rintro e w' ⟨rfl, h1, h2⟩
      have e0 : place s.size 0 = 0 := place_in _ _ (by omega) (by omega)
      have e1 : (⟨q.toArray⟩ : ByteArray).size = q.length := tx_size q
      rw [e0] at h1 ⊢
      unfold wordP at h1
      simp only [Int.toNat_zero, List.drop_zero, e1, Nat.zero_add] at h1
      exact ⟨rfl, h1, gr_low h2 (Cur.lt h), h2.size, h2⟩
    have HF : RowKit.Hid (∀ e w' k, k < 27 → (∀ j, j < k → isPre (wordAt j).1 (toL s) = false) → isPre (wordAt k).1 (toL s) = true → e = .returned (.tuple #[]) → PS w' b s (wordAt k).1.length (cmdK (wordAt k).2) → Below b w w' → OutB b s w ((wordsL.find? fun x => isPre x.1 (toL s)).map fun x => (x.2, x.1.length)) e w') := Lib.hid fun e w' k hk h1 h2 h3 h4 h5 => by
      rw [find_at (fun x : List UInt8 × Int => isPre x.1 (toL s)) ([], 0) wordsL k hk h1 h2]
      exact ⟨h3, h4, h5⟩
    have HN : RowKit.Hid (∀ w', (∀ j, j < 27 → isPre (wordAt j).1 (toL s) = false) → Below b w w' → OutB b s w ((wordsL.find? fun x => isPre x.1 (toL s)).map fun x => (x.2, x.1.length)) (boom 41 0) w') := Lib.hid fun w' h1 h5 => by
      rw [find_no (fun x : List UInt8 × Int => isPre x.1 (toL s)) ([], 0) wordsL h1]
      exact ⟨rfl, h5⟩
    have HWD : RowKit.Hid (∀ W, Calls Tryd.prog 122 #[] W fun e w' => e = .returned (.slice (some ⟨W.heap.size, 0, none⟩) 27 27) ∧ Blk w' W.heap.size 190 wordsV ∧ Below W.heap.size W w') := Lib.hid words_any
    clear hb0 hR hsl hc
    go_enter Tryd.func61, Tryd.ntmps61
    go_wp2_with (first
      | (go_at_call 122; (with_reducible refine (HWD.out _).mono ?_); rintro e w1 ⟨rfl, hb1, hl1⟩))
    have HL1 := Lib.hid hl1
    have hc1 := HC.out.mono hl1
    have hlt0 := HC.out.lt
    generalize w.heap.size = g at *
    go_loopw [20] (fun i wr => ∃ k : Nat, k ≤ 27 ∧ i = .int .i64 k ∧ (∀ j, j < k → isPre (wordAt j).1 (toL s) = false) ∧ PS wr b s 0 cmd0 ∧ Blk wr g 190 wordsV ∧ Below b w wr) (fun i _ => 27 - (intOf i).toNat)
    case atStart => exact ⟨0, by omega, rfl, fun j hj => by omega, hc1, hb1, below_le hl1 (by omega)⟩
    case round =>
      obtain ⟨k, hk, rfl, hno, h1, h2, h3⟩ := hrel
      have HP := Lib.hid h1
      have HB := Lib.hid h3
      have HV := Lib.hid h2
      have hgs := h2.lt
      by_cases hlt : k < 27
      · obtain ⟨v1, v2, v3⟩ := wordsV_at k hlt
        have c1 : wr.cell? ⟨g, k * 2, none⟩ = some (txV (wordAt k).1) := (h2.cell (k * 2)).trans v1
        have c2 : wr.cell? ⟨g, k * 2 + 1, none⟩ = some (.int .i64 (wordAt k).2) := (h2.cell (k * 2 + 1)).trans v2
        have HNO := Lib.hid hno
        have HV3 := Lib.hid v3
        have HFK := Lib.hid (fun e w' => HF.out e w' k hlt hno)
        clear v1 v2 v3 hno h1 h2 h3
        generalize hqe : (wordAt k).1 = q at *
        have HWA := Lib.hid hqe
        clear hqe
        generalize (wordAt k).2 = kd at *
        have hne2 : wr.heap.size ≠ b := by have := HP.out.lt; omega
        obtain ⟨wx, hx, x1, x2, x3, x4, x5, x6⟩ : ∃ wx, wr.alloc (.cells #[txV q, .int .i64 kd] 190) = wx ∧ wx.cell? ⟨wr.heap.size, 0, none⟩ = some (txV q) ∧ wx.cell? ⟨wr.heap.size, 1, none⟩ = some (.int .i64 kd) ∧ RowKit.Hid (PS wx.drew b s 0 cmd0) ∧ RowKit.Hid (Blk wx g 190 wordsV) ∧ RowKit.Hid (Below b w wx) ∧ wr.heap.size < wx.heap.size :=
          ⟨_, rfl, World.cell?_alloc_new _ _ _ _, World.cell?_alloc_new _ _ _ _, Lib.hid (Cur.drew (HP.out.alloc _)), Lib.hid (HV.out.alloc _), Lib.hid (HB.out.alloc (Nat.le_of_lt HP.out.lt) _), by simp⟩
        have HV3' := HV3.out
        cases hq : isPre q (toL s) with
        | true =>
          have HQ := Lib.hid hq
          have HWQ : RowKit.Hid (Calls Tryd.prog 123 #[.pointer (some ⟨b, 0, none⟩), txV q] wx.drew fun e w' => e = .returned (.bool true) ∧ PS w' b s q.length cmd0 ∧ Below b w w' ∧ w'.cell? ⟨wr.heap.size, 1, none⟩ = some (.int .i64 kd)) := Lib.hid (by
            refine (HW.out q wx.drew HV3' x3.out).mono ?_
            rintro e w' ⟨rfl, h1, h2, h3, h4⟩
            rw [hq] at h1 ⊢
            exact ⟨rfl, h1, bl3 x5.out (undrew h2), h4.cell x2 (by intro e; injection e with e; exact hne2 e)⟩)
          clear hq HV3'
          go_upto_region 6 with (fail)
          clear hx
          go_region_law (first
            | (go_simp; go_at_call 123; (with_reducible refine HWQ.out.mono ?_); rintro e w5 ⟨rfl, hc5, hb5, c5⟩; have k3 := hc5.frozen 2; have k4 := hc5.kind))
          go_wp2
          go_end0
          exact HFK.out _ _ HQ.out rfl (hc5.setKind kd) (low_set hb5 _ _)
        | false =>
          have HQ := Lib.hid hq
          have HWQ : RowKit.Hid (Calls Tryd.prog 123 #[.pointer (some ⟨b, 0, none⟩), txV q] wx.drew fun e w' => e = .returned (.bool false) ∧ PS w' b s 0 cmd0 ∧ Below b w w' ∧ Blk w' g 190 wordsV) := Lib.hid (by
            refine (HW.out q wx.drew HV3' x3.out).mono ?_
            rintro e w' ⟨rfl, h1, h2, h3, h4⟩
            rw [hq] at h1 ⊢
            exact ⟨rfl, h1, bl3 x5.out (undrew h2), x4.out.far (w := wx.drew) h4 (by intro e; injection e with e; omega)⟩)
          clear hq HV3'
          go_upto_region 6 with (fail)
          clear hx
          go_region_law (first
            | (go_simp; go_at_call 123; (with_reducible refine HWQ.out.mono ?_); rintro e w5 ⟨rfl, hc5, hb5, hv5⟩))
          go_wp2
          go_roundw
          case rel => exact ⟨k + 1, by omega, by go_num, fun j hj => by
            by_cases e : j = k
            · rw [e, HWA.out]; exact HQ.out
            · exact HNO.out j (by omega), hc5, hv5, hb5⟩
          case measure => simp [intOf]; omega
      · have hk27 : k = 27 := by omega
        have HNO := Lib.hid hno
        subst hk27
        clear h1 h2 h3 hno
        go_wp2_with (first
          | (go_at_call 64; (with_reducible refine (fail_any _ _ _ _).mono ?_); rintro e w3 ⟨rfl, rfl⟩))
        exact ⟨rfl, HN.out _ HNO.out HB.out⟩
end Go.Proofs.YtjahkaidinahpaaDoor.En
