/- strings.TrimRight of blanks. -/
import Derived.Test.YtpmmjccdogjncaaDoorScrF
namespace Go.Proofs.YtpmmjccdogjncaaDoor
open Go.RowKit

/-- Without the blanks at its end. -/
def trimL (l : List UInt8) : List UInt8 := (l.reverse.dropWhile (· == 32)).reverse

theorem trimL_nil : trimL [] = [] := rfl
theorem trimL_snoc (l : List UInt8) (c : UInt8) : trimL (l ++ [c]) = if c == 32 then trimL l else l ++ [c] := by
  unfold trimL
  rw [List.reverse_append]
  simp only [List.reverse_cons, List.reverse_nil, List.nil_append, List.cons_append, List.dropWhile_cons]
  split
  · rfl
  · simp

theorem trim_step (l : List UInt8) {k : Nat} (h : k < l.length) (hc : l.getD k 0 = 32) : trimL (l.take (k + 1)) = trimL (l.take k) := by
  rw [List.take_succ_eq_append_getElem h, trimL_snoc, if_pos]
  have : l.getD k 0 = l[k] := by simp [List.getD, h]
  rw [← this, hc]; rfl
theorem trim_stop (l : List UInt8) {k : Nat} (h : k < l.length) (hc : l.getD k 0 ≠ 32) : trimL (l.take (k + 1)) = l.take (k + 1) := by
  rw [List.take_succ_eq_append_getElem h, trimL_snoc, if_neg]
  have : l.getD k 0 = l[k] := by simp [List.getD, h]
  rw [← this]; simpa using hc

set_option maxHeartbeats 2000000 in
theorem trimByte_any (s : ByteArray) (w : World) (hs : s.size ≤ 100000) :
    Calls Tryd.prog 67 #[.string s, .int .u8 32] w fun e w' => e = .returned (.string (strOf (trimL s.data.toList))) ∧ w = w' := by
  have hlen : s.data.toList.length = s.size := by simp
  have HL := Lib.hid hlen
  have H0 : RowKit.Hid (trimL (s.data.toList.take s.size) = trimL s.data.toList) := Lib.hid (by rw [List.take_of_length_le (by rw [hlen]; exact Nat.le_refl _)])
  have HS := Lib.hid (fun k => trim_step s.data.toList (k := k))
  have HP := Lib.hid (fun k => trim_stop s.data.toList (k := k))
  clear hlen
  go_enter Tryd.func67, Tryd.ntmps67
  go_wp2_with fail
  go_loopg [0] s.size (fun g q wr => ∃ (k : Nat) (t : ByteArray), k ≤ s.size ∧ g = k ∧ q = .string t ∧ w = wr ∧ t.size = k ∧ t.data.toList = s.data.toList.take k ∧ trimL (s.data.toList.take k) = trimL s.data.toList)
  case atStart => exact ⟨s.size, s, Nat.le_refl _, rfl, rfl, rfl, rfl, by rw [List.take_of_length_le (by rw [HL.out]; exact Nat.le_refl _)], H0.out⟩
  case round =>
    obtain ⟨k, t, hk, rfl, rfl, rfl, htz, ht, htr⟩ := hrel
    have HT := Lib.hid ht
    have HR := Lib.hid htr
    clear ht htr
    by_cases h0 : gk = 0
    · subst h0
      have hz : ¬ (0 : Int) < (t.size : Int) := by omega
      have HF : RowKit.Hid (t = strOf (trimL s.data.toList)) := Lib.hid (by
        apply bytes_inj
        rw [HT.out, ← HR.out]; rfl)
      go_wp2
      go_ret
      exact ⟨by rw [← HF.out]; rfl, rfl⟩
    · obtain ⟨k, rfl⟩ : ∃ k, gk = k + 1 := ⟨gk - 1, by omega⟩
      have hz : (0 : Int) < (t.size : Int) := by omega
      have hkt : k < t.size := by omega
      have hgl := get_list t k hkt
      have hgs : t.data.toList.getD k 0 = s.data.toList.getD k 0 := by
        rw [HT.out, List.getD_eq_getElem?_getD, List.getElem?_take_of_lt (by omega), List.getD_eq_getElem?_getD]
      rw [hgs] at hgl
      have hsk := HS.out k (by rw [HL.out]; omega)
      have hpk := HP.out k (by rw [HL.out]; omega)
      have hti : (t.size : Int) ≤ 100000 := by omega
      generalize s.data.toList.getD k 0 = x at *
      have hx0 : (0 : Int) ≤ (x.toNat : Int) := by omega
      have hx1 := byte_hi x
      by_cases hx : x = 32
      · have hxb : ((x.toNat : Int) == 32) = true := by rw [hx]; rfl
        have HSK := Lib.hid (hsk hx)
        clear hsk hpk hgs hx
        go_wp2
        go_roundg k
        case measure => omega
        case rel => exact ⟨k, t.extract 0 k, by omega, rfl, rfl, rfl, by simp; omega, by rw [show (t.extract 0 k).data.toList = t.data.toList.take k by simp, HT.out, List.take_take, Nat.min_eq_left (by omega)], by rw [← HSK.out]; exact HR.out⟩
      · have hxb : ((x.toNat : Int) == 32) = false := by
          rw [beq_eq_false_iff_ne]
          intro e
          apply hx
          apply UInt8.toNat_inj.1
          show x.toNat = 32
          omega
        have HF : RowKit.Hid (t = strOf (trimL s.data.toList)) := Lib.hid (by
          apply bytes_inj
          rw [HT.out, ← HR.out, hpk hx]; rfl)
        clear hsk hpk hgs hx
        go_wp2
        go_ret
        exact ⟨by rw [← HF.out]; rfl, rfl⟩

set_option maxRecDepth 20000 in
theorem trimRight_any (s : ByteArray) (w : World) (hs : s.size ≤ 100000) :
    Calls Tryd.prog 64 #[.string s, .string ⟨#[32]⟩] w fun e w' => e = .returned (.string (strOf (trimL s.data.toList))) ∧ w = w' := by
  have C := trimByte_any s w hs
  by_cases h0 : s.size = 0
  · have e0 : s = ⟨#[]⟩ := by
      apply bytes_inj
      rw [List.length_eq_zero_iff.1 (show s.data.toList.length = 0 by simpa using h0)]
    subst e0
    clear C
    go_enter Tryd.func64, Tryd.ntmps64
    go_wp2
    go_ret
    exact ⟨rfl, rfl⟩
  · have hb : (s.toList == []) = false := by
      rw [beq_eq_false_iff_ne]
      intro e
      apply h0
      have : s.toList.length = s.size := by rw [ByteArray.toList_eq]; simp
      rw [← this, e]; rfl
    have HC := Lib.hid C
    clear C
    go_enter Tryd.func64, Tryd.ntmps64
    go_wp2_with (go_at_call 67; refine HC.out.mono ?_; rintro e w' ⟨rfl, rfl⟩)
    go_ret
    exact ⟨rfl, rfl⟩
end Go.Proofs.YtpmmjccdogjncaaDoor
