/- The contracts of End, Rest, Word, Bytes, strings.HasPrefix, and of the reference's Place, Word, Bytes, of, Run. -/
import Derived.Test.YtlaieijlengojaaScanB
namespace Go.Proofs.Ytlaieijlengojaa
open Go.RowKit

theorem empty_of_size {s : ByteArray} (h : s.size = 0) : s = ⟨#[]⟩ := by
  obtain ⟨d⟩ := s
  simp [ByteArray.size] at h
  rw [h]
theorem isEmpty_of {s : ByteArray} (h : s.size ≠ 0) : s.toList.isEmpty = false := by
  rw [ByteArray.toList_eq]
  have hl : s.data.toList.length = s.size := by simp
  cases hq : s.data.toList with
  | nil => rw [hq] at hl; simp at hl; omega
  | cons a t => rfl

theorem end_any (b : Nat) (s : ByteArray) (p : Int) (w : World) (hs : s.size ≤ maxLen) (hc : Cur w b s p) :
    Calls Try.prog 43 #[.pointer (some ⟨b, 0, none⟩)] w fun e w' => e = .returned (.bool (place s.size p == (s.size : Int))) ∧ Cur w' b s (place s.size p) ∧ w.grownBy w' (some b) := by
  have hpp := ahead_any b s p w hs hc
  have hp0 := place_ge s.size p
  have hp1 := place_le s.size p
  generalize place s.size p = q at hp0 hp1 hpp ⊢
  obtain ⟨j, rfl⟩ := Int.eq_ofNat_of_zero_le hp0
  rw [Int.toNat_natCast] at hpp
  have hrs : (s.extract j s.size).size = s.size - j := by simp
  have HP := Lib.hid hpp
  clear hpp
  by_cases hj : j = s.size
  · have he : s.extract j s.size = ⟨#[]⟩ := empty_of_size (by omega)
    rw [he] at HP
    have HJ := Lib.hid hj
    clear hj he hrs
    go_enter Try.func43, Try.ntmps43
    go_wp2_with (go_at_call 44; refine HP.out.mono ?_; rintro e w1 ⟨rfl, hc1, hg1⟩)
    go_ret
    exact ⟨ret_bool (by rw [HJ.out]; simp), hc1, hg1⟩
  · have he := isEmpty_of (s := s.extract j s.size) (by omega)
    generalize s.extract j s.size = r at he HP
    have HJ := Lib.hid hj
    clear hj hrs
    go_enter Try.func43, Try.ntmps43
    go_wp2_with (go_at_call 44; refine HP.out.mono ?_; rintro e w1 ⟨rfl, hc1, hg1⟩)
    go_ret
    have hj := HJ.out
    exact ⟨ret_bool (by symm; rw [beq_eq_false_iff_ne]; omega), hc1, hg1⟩

theorem rest_any (b : Nat) (s : ByteArray) (p : Int) (w : World) (hs : s.size ≤ maxLen) (hc : Cur w b s p) :
    Calls Try.prog 48 #[.pointer (some ⟨b, 0, none⟩)] w fun e w' => e = .returned (.string (s.extract (place s.size p).toNat s.size)) ∧ Cur w' b s s.size ∧ w.grownBy w' (some b) := by
  have hpp := ahead_any b s p w hs hc
  generalize s.extract (place s.size p).toNat s.size = r at hpp ⊢
  have HP := Lib.hid hpp
  clear hpp
  go_enter Try.func48, Try.ntmps48
  go_wp2_with (go_at_call 44; refine HP.out.mono ?_; rintro e w1 ⟨rfl, hc1, hg1⟩; have k1 := hc1.text; have k2 := hc1.at_; have k3 := hc1.frozen 1)
  go_ret
  exact ⟨rfl, hc1.set_ _, gr_trans hg1 (gr_setCell (p := ⟨b, 1, none⟩) (World.grownBy.refl _ _) (.inl rfl) _)⟩

/-- Does a text begin with a word? -/
def isPre (q l : List UInt8) : Bool := l.take q.length == q
theorem isPre_len {q l : List UInt8} (h : isPre q l = true) : q.length ≤ l.length := by
  unfold isPre at h
  rw [beq_iff_eq] at h
  have := congrArg List.length h
  rw [List.length_take] at this
  omega

theorem lite_any (s q : ByteArray) (w : World) (_hs : s.size ≤ maxLen) (_hq : q.size ≤ maxLen) :
    Calls Try.prog 64 #[.string s, .string q] w fun e w' => e = .returned (.bool (isPre q.data.toList s.data.toList)) ∧ w = w' := by
  have hql : q.data.toList.length = q.size := by simp
  have hsl : s.data.toList.length = s.size := by simp
  by_cases h : q.size ≤ s.size
  · have h2 : (q.size : Int) ≤ (s.size : Int) := by omega
    have e : ((s.extract 0 q.size).toList == q.toList) = isPre q.data.toList s.data.toList := by
      rw [ByteArray.toList_eq, ByteArray.toList_eq]
      unfold isPre
      rw [hql]
      simp
    have e2 := e.symm
    cases hv : ((s.extract 0 q.size).toList == q.toList)
    all_goals
      rw [hv] at e2
      have E := Lib.hid e2
      clear e e2 hql hsl
      go_enter Try.func64, Try.ntmps64
      go_wp2
      go_ret
      exact ⟨ret_bool E.out.symm, rfl⟩
  · have h2 : ¬ (q.size : Int) ≤ (s.size : Int) := by omega
    have e : isPre q.data.toList s.data.toList = false := by
      cases hp : isPre q.data.toList s.data.toList
      · rfl
      · have := isPre_len hp; omega
    have E := Lib.hid e
    clear e hql hsl h
    go_enter Try.func64, Try.ntmps64
    go_wp2
    go_ret
    exact ⟨ret_bool E.out.symm, rfl⟩
theorem hasPrefix_any (s q : ByteArray) (w : World) (hs : s.size ≤ maxLen) (hq : q.size ≤ maxLen) :
    Calls Try.prog 62 #[.string s, .string q] w fun e w' => e = .returned (.bool (isPre q.data.toList s.data.toList)) ∧ w = w' := by
  go_enter Try.func62, Try.ntmps62
  go_wp2_with (go_at_call 64; refine (lite_any s q _ hs hq).mono ?_; rintro e w1 ⟨rfl, rfl⟩)
  go_ret
  exact ⟨rfl, rfl⟩

/-- The place behind a word, if it is ahead. -/
def wordP (s : ByteArray) (j : Nat) (q : ByteArray) : Nat := if isPre q.data.toList (s.data.toList.drop j) then j + q.size else j

theorem word_any (b : Nat) (s : ByteArray) (p : Int) (q : ByteArray) (w : World) (hs : s.size ≤ maxLen) (hq : q.size ≤ maxLen) (hc : Cur w b s p) :
    Calls Try.prog 50 #[.pointer (some ⟨b, 0, none⟩), .string q] w fun e w' =>
      e = .returned (.bool (isPre q.data.toList (s.data.toList.drop (place s.size p).toNat))) ∧ Cur w' b s (wordP s (place s.size p).toNat q) ∧ w.grownBy w' (some b) := by
  have hpp := ahead_any b s p w hs hc
  have hp0 := place_ge s.size p
  have hp1 := place_le s.size p
  generalize place s.size p = x at hp0 hp1 hpp ⊢
  obtain ⟨j, rfl⟩ := Int.eq_ofNat_of_zero_le hp0
  rw [Int.toNat_natCast] at hpp ⊢
  have hrl := rest_list s j
  have hrs : (s.extract j s.size).size ≤ maxLen := by simp; omega
  have hh := fun W => hasPrefix_any (s.extract j s.size) q W hrs hq
  rw [hrl] at hh
  have hw : wordP s j q = if isPre q.data.toList (s.data.toList.drop j) then j + q.size else j := rfl
  have hlen : isPre q.data.toList (s.data.toList.drop j) = true → j + q.size ≤ s.size := by
    intro h
    have := isPre_len h
    simp at this
    omega
  rw [hw]
  generalize s.extract j s.size = r at hpp hh
  unfold maxLen at hs
  cases hv : isPre q.data.toList (s.data.toList.drop j)
  · rw [hv] at hh
    have HP := Lib.hid hpp
    have HH := Lib.hid hh
    clear hpp hh hw hv hlen hrl hrs
    go_enter Try.func50, Try.ntmps50
    go_wp2_with (first
      | (go_at_call 44; refine HP.out.mono ?_; rintro e w1 ⟨rfl, hc1, hg1⟩)
      | (go_at_call 62; refine (HH.out _).mono ?_; rintro e w2 ⟨rfl, rfl⟩))
    go_ret
    exact ⟨rfl, hc1, hg1⟩
  · rw [hv] at hh
    have hl := hlen hv
    have HP := Lib.hid hpp
    have HH := Lib.hid hh
    clear hpp hh hw hv hlen hrl hrs
    go_enter Try.func50, Try.ntmps50
    go_wp2_with (first
      | (go_at_call 44; refine HP.out.mono ?_; rintro e w1 ⟨rfl, hc1, hg1⟩; have k1 := hc1.text; have k2 := hc1.at_; have k3 := hc1.frozen 1)
      | (go_at_call 62; refine (HH.out _).mono ?_; rintro e w2 ⟨rfl, rfl⟩))
    go_ret
    exact ⟨rfl, hc1.set_ _, gr_trans hg1 (gr_setCell (p := ⟨b, 1, none⟩) (World.grownBy.refl _ _) (.inl rfl) _)⟩

theorem bytes_yes (b : Nat) (s : ByteArray) (p : Int) (n : Nat) (w : World) (hs : s.size ≤ maxLen) (hc : Cur w b s p) (hn : (place s.size p).toNat + n ≤ s.size) :
    Calls Try.prog 52 #[.pointer (some ⟨b, 0, none⟩), .int .i64 n] w fun e w' =>
      e = .returned (.tuple #[.string (s.extract (place s.size p).toNat ((place s.size p).toNat + n)), .bool true]) ∧ Cur w' b s ((place s.size p).toNat + n : Nat) ∧ w.grownBy w' (some b) := by
  have hpp := ahead_any b s p w hs hc
  have hp0 := place_ge s.size p
  generalize place s.size p = x at hp0 hpp hn ⊢
  obtain ⟨j, rfl⟩ := Int.eq_ofNat_of_zero_le hp0
  rw [Int.toNat_natCast] at hpp hn ⊢
  have hrs : (s.extract j s.size).size = s.size - j := by simp
  have hcut : (s.extract j s.size).extract 0 n = s.extract j (j + n) := by
    apply bytes_inj
    simp
    congr 1
    omega
  have hsz : n ≤ (s.extract j s.size).size := by omega
  generalize s.extract j s.size = r at hpp hcut hsz
  unfold maxLen at hs
  have hsz2 : (n : Int) ≤ (r.size : Int) := by omega
  have HP := Lib.hid hpp
  have HC := Lib.hid hcut
  clear hpp hcut hrs
  go_enter Try.func52, Try.ntmps52
  go_wp2_with (go_at_call 44; refine HP.out.mono ?_; rintro e w1 ⟨rfl, hc1, hg1⟩; have k1 := hc1.text; have k2 := hc1.at_; have k3 := hc1.frozen 1)
  go_ret2
  exact ⟨by rw [← HC.out]; rfl, hc1.set_ _, gr_trans hg1 (gr_setCell (p := ⟨b, 1, none⟩) (World.grownBy.refl _ _) (.inl rfl) _)⟩
theorem bytes_no (b : Nat) (s : ByteArray) (p n : Int) (w : World) (hs : s.size ≤ maxLen) (hc : Cur w b s p) (hn : n < 0 ∨ (s.size : Int) - place s.size p < n) :
    Calls Try.prog 52 #[.pointer (some ⟨b, 0, none⟩), .int .i64 n] w fun e w' =>
      e = .returned (.tuple #[.string ⟨#[]⟩, .bool false]) ∧ Cur w' b s (place s.size p) ∧ w.grownBy w' (some b) := by
  have hpp := ahead_any b s p w hs hc
  have hp0 := place_ge s.size p
  have hp1 := place_le s.size p
  generalize place s.size p = x at hp0 hp1 hpp hn ⊢
  obtain ⟨j, rfl⟩ := Int.eq_ofNat_of_zero_le hp0
  rw [Int.toNat_natCast] at hpp
  have hrs : (s.extract j s.size).size = s.size - j := by simp
  have hn2 : n < 0 ∨ (((s.extract j s.size).size : Nat) : Int) < n := by omega
  generalize s.extract j s.size = r at hpp hn2
  unfold maxLen at hs
  have HP := Lib.hid hpp
  clear hpp hrs hn
  rcases hn2 with h | h
  · go_enter Try.func52, Try.ntmps52
    go_wp2_with (go_at_call 44; refine HP.out.mono ?_; rintro e w1 ⟨rfl, hc1, hg1⟩)
    go_ret2
    exact ⟨rfl, hc1, hg1⟩
  · have h2 : ¬ n < 0 := by omega
    go_enter Try.func52, Try.ntmps52
    go_wp2_with (go_at_call 44; refine HP.out.mono ?_; rintro e w1 ⟨rfl, hc1, hg1⟩)
    go_ret2
    exact ⟨rfl, hc1, hg1⟩
end Go.Proofs.Ytlaieijlengojaa
