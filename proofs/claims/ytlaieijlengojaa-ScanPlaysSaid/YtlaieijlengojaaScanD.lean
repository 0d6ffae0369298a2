/- The contract of Number. -/
import Derived.Test.YtlaieijlengojaaScanC
namespace Go.Proofs.Ytlaieijlengojaa
open Go.RowKit

def numV (l : List UInt8) : Nat := l.foldl (fun n c => n * 10 + (c.toNat - 48)) 0
/-- Is a row of digits a number of one to nine digits, the first of several not 0, not above the bound? -/
def numOk (l : List UInt8) (most : Int) : Bool := decide (1 ≤ l.length ∧ l.length ≤ 9) && !(decide (1 < l.length) && ((l.getD 0 0).toNat == 48)) && decide ((numV l : Int) ≤ most)

theorem numV_take (l : List UInt8) (k : Nat) (h : k < l.length) : numV (l.take (k + 1)) = numV (l.take k) * 10 + ((l.getD k 0).toNat - 48) := by
  unfold numV
  rw [List.take_succ_eq_append_getElem h, List.foldl_append]
  simp [List.getD, h]
theorem run_digit {l : List UInt8} {k : Nat} (h : k < (runL 2 l).length) : 48 ≤ ((runL 2 l).getD k 0).toNat ∧ ((runL 2 l).getD k 0).toNat ≤ 57 := by
  have hm : (runL 2 l).getD k 0 ∈ runL 2 l := by simp [List.getD, h]
  have := List.all_eq_true.1 (List.all_takeWhile (p := kOk 2) (l := l)) _ hm
  generalize (runL 2 l).getD k 0 = c at this ⊢
  generalize (runL 2 l).getD k 0 = c at this ⊢
  generalize (runL 2 l).getD k 0 = c at this ⊢
  unfold kOk bD isD at this
  simp at this
  omega
theorem numV_lt (l : List UInt8) : ∀ k, k ≤ l.length → (∀ j, j < l.length → (l.getD j 0).toNat ≤ 57) → numV (l.take k) < 10 ^ k := by
  intro k
  induction k with
  | zero => intro _ _; rw [List.take_zero]; decide
  | succ k ih =>
    intro hk hd
    rw [numV_take l k (by omega), Nat.pow_succ]
    have h1 := ih (by omega) hd
    have h2 := hd k (by omega)
    omega
theorem numV_9 (l : List UInt8) (k : Nat) (hk : k ≤ l.length) (h9 : k ≤ 9) (hd : ∀ j, j < l.length → (l.getD j 0).toNat ≤ 57) : numV (l.take k) < 1000000000 := by
  have h := numV_lt l k hk hd
  have : 10 ^ k ≤ 10 ^ 9 := Nat.pow_le_pow_right (by decide) h9
  omega

theorem numOk_no1 {l : List UInt8} (m : Int) (h : l.length = 0) : numOk l m = false := by unfold numOk; rw [decide_eq_false (by omega)]; rfl
theorem numOk_no9 {l : List UInt8} (m : Int) (h : 9 < l.length) : numOk l m = false := by unfold numOk; rw [decide_eq_false (by omega)]; rfl
theorem numOk_no0 {l : List UInt8} (m : Int) (h : 1 < l.length) (h0 : (l.getD 0 0).toNat = 48) : numOk l m = false := by unfold numOk; rw [h0, decide_eq_true h]; simp
theorem numOk_noM {l : List UInt8} (m : Int) (h : m < numV l) : numOk l m = false := by unfold numOk; rw [decide_eq_false (show ¬ (numV l : Int) ≤ m by omega)]; simp
theorem numOk_yes {l : List UInt8} (m : Int) (h1 : 1 ≤ l.length) (h9 : l.length ≤ 9) (h0 : ¬ (1 < l.length ∧ (l.getD 0 0).toNat = 48)) (hm : (numV l : Int) ≤ m) : numOk l m = true := by
  unfold numOk
  rw [decide_eq_true ⟨h1, h9⟩, decide_eq_true hm]
  by_cases h : 1 < l.length
  · have : (l.getD 0 0).toNat ≠ 48 := fun e => h0 ⟨h, e⟩
    rw [beq_eq_false_iff_ne.2 this]; simp
  · rw [decide_eq_false h]; simp

def numRes (l : List UInt8) (most : Int) : Int := if numOk l most then (numV l : Int) else 0
def numAt (x : Int) (l : List UInt8) (most : Int) : Int := if numOk l most then x + l.length else x
theorem numRes_no {l : List UInt8} {m : Int} (h : numOk l m = false) : numRes l m = 0 := by unfold numRes; rw [h]; rfl
theorem numAt_no {x : Int} {l : List UInt8} {m : Int} (h : numOk l m = false) : numAt x l m = x := by unfold numAt; rw [h]; rfl
theorem numRes_yes {l : List UInt8} {m : Int} (h : numOk l m = true) : numRes l m = numV l := by unfold numRes; rw [h]; rfl
theorem numAt_yes {x : Int} {l : List UInt8} {m : Int} (h : numOk l m = true) : numAt x l m = x + l.length := by unfold numAt; rw [h]; rfl

set_option maxHeartbeats 4000000 in
theorem number_any (b : Nat) (s : ByteArray) (p most : Int) (w : World) (hs : s.size ≤ maxLen) (hc : Cur w b s p) :
    Calls Try.prog 17 #[.pointer (some ⟨b, 0, none⟩), .int .i64 most] w fun e w' =>
      e = .returned (.tuple #[.int .i64 (numRes (runL 2 (s.data.toList.drop (place s.size p).toNat)) most), .bool (numOk (runL 2 (s.data.toList.drop (place s.size p).toNat)) most)]) ∧
      Cur w' b s (numAt (place s.size p) (runL 2 (s.data.toList.drop (place s.size p).toNat)) most) ∧ w.grownBy w' (some b) := by
  have hpp := ahead_any b s p w hs hc
  have hrr := fun W (hW : Cur W b s (place s.size p)) => run_any b s (place s.size p) 2 W hs hW
  rw [place_id] at hrr
  have hrl := runA_list s (place s.size p).toNat 2
  have hrs := runA_size s (place s.size p).toNat 2
  have hdig := fun k => @run_digit (s.data.toList.drop (place s.size p).toNat) k
  have hp1 := place_le s.size p
  have hsub : (runA s (place s.size p).toNat 2).size ≤ s.size := by
    have := runL_le 2 (s.data.toList.drop (place s.size p).toNat)
    simp at this
    omega
  rw [hrs] at hsub
  generalize place s.size p = x at *
  generalize s.extract x.toNat s.size = r0 at hpp
  generalize runL 2 (s.data.toList.drop x.toNat) = L at *
  generalize runA s x.toNat 2 = r at *
  unfold maxLen at hs
  have HP := Lib.hid hpp
  have HR := Lib.hid hrr
  have HRL := Lib.hid hrl
  have HRS := Lib.hid hrs
  have HD := Lib.hid hdig
  have hrsz : r.size ≤ s.size := by omega
  clear hpp hrr hrl hrs hdig
  have hv9 : ∀ k, k ≤ L.length → k ≤ 9 → numV (L.take k) < 1000000000 := fun k h1 h2 => numV_9 L k h1 h2 (fun j hj => (HD.out j hj).2)
  have hx0 : (0 : Int) ≤ (r.size : Int) := by omega
  by_cases h9 : r.size ≤ 9
  · have hv9' : ∀ k, k ≤ r.size → numV (L.take k) < 1000000000 := fun k h1 => hv9 k (by have := HRS.out; omega) (by omega)
    have HV9 := Lib.hid hv9'
    clear hv9 hv9'
    go_enter Try.func17, Try.ntmps17
    go_wp2_with (first
      | (go_at_call 44; refine HP.out.mono ?_; rintro e w1 ⟨rfl, hc1, hg1⟩; have k1 := hc1.text; have k2 := hc1.at_; have k3 := hc1.frozen 1)
      | (go_at_call 15; refine (HR.out _ hc1).mono ?_; rintro e w2 ⟨rfl, hc2, hg2⟩; obtain ⟨w3, cap, hcv, hb3, hz3, hcell⟩ := bytes_conv r w2; have hc3 := hc2.below hb3 hc2.lt))
    have hg3 : w.grownBy w3 (some b) := gr_trans (gr_trans hg1 hg2) (gr_of_below hb3 _)
    go_loop [8, 26] (fun n i => ∃ k : Nat, k ≤ r.size ∧ i = .int .i64 k ∧ n = .int .i64 (numV (L.take k) : Nat)) (fun _ i => r.size - (intOf i).toNat)
    case atStart => exact ⟨0, Nat.zero_le _, rfl, rfl⟩
    case round =>
      obtain ⟨k, hk, rfl, rfl⟩ := hrel
      by_cases hlt : k < r.size
      · have hcl := hcell k (by exact hlt)
        have hkL : k < L.length := by have := HRS.out; omega
        have hLk : r.data.toList.getD k 0 = L.getD k 0 := by rw [HRL.out]
        rw [hLk] at hcl
        have hst := numV_take L k hkL
        obtain ⟨d1, d2⟩ := HD.out k hkL
        have hv := HV9.out k (by omega)
        generalize L.getD k 0 = c at hcl hst d1 d2
        generalize numV (L.take k) = x0 at hst hv ⊢
        have HST := Lib.hid hst
        have e1 : (48 : Int) ≤ (c.toNat : Int) := by omega
        have e2 : (c.toNat : Int) ≤ 57 := by omega
        clear hst hcell hLk d1 d2
        go_wp2
        go_round
        case rel => exact ⟨k + 1, by omega, by go_num, by rw [HST.out]; go_num⟩
        case measure => simp [intOf]; omega
      · have hkr : k = r.size := by omega
        have hLt : L.take k = L := List.take_of_length_le (by have := HRS.out; omega)
        rw [hLt]
        have hvm := HV9.out r.size (Nat.le_refl _)
        rw [← hkr, hLt] at hvm
        have hLr := HRS.out
        have k1' := hc3.text
        have k2' := hc3.at_
        have k3' := hc3.frozen 1
        clear hLt hcell hkr
        by_cases hz : r.size = 0
        · have N := Lib.hid (numOk_no1 (l := L) most (by omega))
          have hre : r = ⟨#[]⟩ := empty_of_size hz
          have hem : r.toList.isEmpty = true := by rw [hre, ByteArray.toList_eq]; rfl
          have HRR := Lib.hid hre
          clear hLr hz hre
          generalize numV L = V at hvm ⊢
          go_wp2
          go_ret2
          exact ⟨by rw [numRes_no N.out, N.out]; rfl, by rw [numAt_no N.out]; exact hc3.set_ _, gr_trans hg3 (gr_setCell (p := ⟨b, 1, none⟩) (World.grownBy.refl _ _) (.inl rfl) _)⟩
        · have hne := isEmpty_of hz
          have g0 : 0 < r.size := by omega
          have hix := get_list r 0 g0
          rw [HRL.out] at hix
          have h0 := numOk_no0 (l := L) most
          generalize hg0 : L.getD 0 0 = c0 at hix h0
          have HG0 := Lib.hid hg0
          have H0 := Lib.hid h0
          have NM := Lib.hid (numOk_noM (l := L) most)
          have hyes := numOk_yes (l := L) most
          have HY := Lib.hid hyes
          have HLR := Lib.hid hLr
          clear hg0 h0 hyes hLr
          generalize hV : numV L = V at hvm NM HY ⊢
          have HV := Lib.hid hV
          clear hV
          by_cases h1 : 1 < r.size
          · have h1i : (1 : Int) < (r.size : Int) := by omega
            by_cases hc48 : c0.toNat = 48
            · have N := Lib.hid (H0.out (by rw [← HLR.out]; exact h1) hc48)
              have g48 : ((c0.toNat : Int) == 48) = true := by rw [hc48]; rfl
              clear hc48
              go_wp2
              go_ret2
              exact ⟨by rw [numRes_no N.out, N.out]; rfl, by rw [numAt_no N.out]; exact hc3.set_ _, gr_trans hg3 (gr_setCell (p := ⟨b, 1, none⟩) (World.grownBy.refl _ _) (.inl rfl) _)⟩
            · have g48 : ((c0.toNat : Int) == 48) = false := by rw [beq_eq_false_iff_ne]; omega
              by_cases hmo : most < (V : Int)
              · have N := Lib.hid (NM.out hmo)
                clear hc48
                go_wp2
                go_ret2
                exact ⟨by rw [numRes_no N.out, N.out]; rfl, by rw [numAt_no N.out]; exact hc3.set_ _, gr_trans hg3 (gr_setCell (p := ⟨b, 1, none⟩) (World.grownBy.refl _ _) (.inl rfl) _)⟩
              · have N := Lib.hid (HY.out (by rw [← HLR.out]; omega) (by rw [← HLR.out]; exact h9) (fun h => hc48 (by rw [← HG0.out]; exact h.2)) (by omega))
                clear hc48
                go_wp2
                go_ret2
                exact ⟨by rw [numRes_yes N.out, N.out, HV.out]; rfl, by rw [numAt_yes N.out, HRS.out.symm]; exact hc3, hg3⟩
          · have h1i : ¬ (1 : Int) < (r.size : Int) := by omega
            by_cases hmo : most < (V : Int)
            · have N := Lib.hid (NM.out hmo)
              go_wp2
              go_ret2
              exact ⟨by rw [numRes_no N.out, N.out]; rfl, by rw [numAt_no N.out]; exact hc3.set_ _, gr_trans hg3 (gr_setCell (p := ⟨b, 1, none⟩) (World.grownBy.refl _ _) (.inl rfl) _)⟩
            · have N := Lib.hid (HY.out (by rw [← HLR.out]; omega) (by rw [← HLR.out]; exact h9) (fun h => h1 (by rw [HLR.out]; exact h.1)) (by omega))
              go_wp2
              go_ret2
              exact ⟨by rw [numRes_yes N.out, N.out, HV.out]; rfl, by rw [numAt_yes N.out, HRS.out.symm]; exact hc3, hg3⟩
  · have hv9' : ∀ k, k ≤ 9 → numV (L.take k) < 1000000000 := fun k h1 => hv9 k (by have := HRS.out; omega) h1
    have HV9 := Lib.hid hv9'
    have h9i : (9 : Int) < (r.size : Int) := by omega
    have hes : (r.extract 0 9).size = 9 := by simp; omega
    have HES := Lib.hid hes
    have hel : ∀ k, k < 9 → (r.extract 0 9).data.toList.getD k 0 = L.getD k 0 := by
      intro k hk
      have : (r.extract 0 9).data.toList = L.take 9 := by rw [← HRL.out]; simp
      rw [this]
      simp [List.getD, hk]
    have HEL := Lib.hid hel
    clear hv9 hv9' hes hel
    go_enter Try.func17, Try.ntmps17
    go_wp2_with (first
      | (go_at_call 44; refine HP.out.mono ?_; rintro e w1 ⟨rfl, hc1, hg1⟩; have k1 := hc1.text; have k2 := hc1.at_; have k3 := hc1.frozen 1)
      | (go_at_call 15; refine (HR.out _ hc1).mono ?_; rintro e w2 ⟨rfl, hc2, hg2⟩; obtain ⟨w3, cap, hcv, hb3, hz3, hcell⟩ := bytes_conv (r.extract 0 9) w2; have hc3 := hc2.below hb3 hc2.lt))
    rw [HES.out] at hcell
    have hg3 : w.grownBy w3 (some b) := gr_trans (gr_trans hg1 hg2) (gr_of_below hb3 _)
    go_loop [8, 26] (fun n i => ∃ k : Nat, k ≤ 9 ∧ i = .int .i64 k ∧ n = .int .i64 (numV (L.take k) : Nat)) (fun _ i => 9 - (intOf i).toNat)
    case atStart => exact ⟨0, Nat.zero_le _, rfl, rfl⟩
    case round =>
      obtain ⟨k, hk, rfl, rfl⟩ := hrel
      by_cases hlt : k < 9
      · have hcl := hcell k (by exact hlt)
        have hkL : k < L.length := by have := HRS.out; omega
        have hLk : (r.extract 0 9).data.toList.getD k 0 = L.getD k 0 := by exact HEL.out k hlt
        rw [hLk] at hcl
        have hst := numV_take L k hkL
        obtain ⟨d1, d2⟩ := HD.out k hkL
        have hv := HV9.out k (by omega)
        generalize L.getD k 0 = c at hcl hst d1 d2
        generalize numV (L.take k) = x0 at hst hv ⊢
        have HST := Lib.hid hst
        have e1 : (48 : Int) ≤ (c.toNat : Int) := by omega
        have e2 : (c.toNat : Int) ≤ 57 := by omega
        clear hst hcell hLk d1 d2
        go_wp2
        go_round
        case rel => exact ⟨k + 1, by omega, by go_num, by rw [HST.out]; go_num⟩
        case measure => simp [intOf]; omega
      · have N := Lib.hid (numOk_no9 (l := L) most (by have := HRS.out; omega))
        have hne := isEmpty_of (s := r) (by omega)
        have k1' := hc3.text
        have k2' := hc3.at_
        have k3' := hc3.frozen 1
        clear hcell
        have hv := HV9.out k (by omega)
        generalize numV (L.take k) = V at hv ⊢
        go_wp2
        go_ret2
        exact ⟨by rw [numRes_no N.out, N.out]; rfl, by rw [numAt_no N.out]; exact hc3.set_ _, gr_trans hg3 (gr_setCell (p := ⟨b, 1, none⟩) (World.grownBy.refl _ _) (.inl rfl) _)⟩
end Go.Proofs.Ytlaieijlengojaa
