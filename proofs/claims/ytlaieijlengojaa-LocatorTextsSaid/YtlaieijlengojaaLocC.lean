/- The contract of locator.Number; the laws of package locator. -/
import Derived.Test.YtlaieijlengojaaLocB
namespace Go.Proofs.Ytlaieijlengojaa
open Go.RowKit

def numN (x : Nat) : Nat := (x + 308915776 - 98765432) % 308915776 * 76133565 % 308915776
theorem valL_take (l : List UInt8) (k : Nat) (h : k < l.length) : valL (l.take (k + 1)) = valL (l.take k) * 26 + ((l.getD k 0).toNat - 65) := by
  unfold valL
  rw [List.take_succ_eq_append_getElem h, List.foldl_append]
  simp [List.getD, h]
theorem foldl_ge (l : List UInt8) : ∀ x, x ≤ l.foldl (fun x c => x * 26 + (c.toNat - 65)) x := by
  induction l with
  | nil => intro x; exact Nat.le_refl _
  | cons c t ih => intro x; rw [List.foldl_cons]; exact Nat.le_trans (by omega) (ih _)
theorem valL_take_le (l : List UInt8) (k : Nat) : valL (l.take k) ≤ valL l := by
  have h : l.take k ++ l.drop k = l := List.take_append_drop k l
  have : valL l = (l.drop k).foldl (fun x c => x * 26 + (c.toNat - 65)) (valL (l.take k)) := by
    unfold valL
    rw [← List.foldl_append, h]
  rw [this]
  exact foldl_ge _ _
theorem letter_at {l : List UInt8} (h : l.all bL = true) (k : Nat) (hk : k < l.length) : 65 ≤ (l.getD k 0).toNat ∧ (l.getD k 0).toNat ≤ 90 := by
  rw [List.all_eq_true] at h
  have := h (l.getD k 0) (by simp [List.getD, hk])
  unfold bL isL at this
  rw [decide_eq_true_eq] at this
  omega

theorem numN_int (x : Nat) : ((x : Int) + 308915776 - 98765432) % 308915776 * 76133565 % 308915776 = (numN x : Int) := by
  unfold numN
  rw [Int.natCast_emod, Int.natCast_mul, Int.natCast_emod]
  have e : ((x + 308915776 - 98765432 : Nat) : Int) = (x : Int) + 308915776 - 98765432 := by omega
  rw [e]
  rfl
theorem ret_num {a b : Int} (h : a = b) : Ending.returned (.tuple #[.int .i64 a, .bool true]) = .returned (.tuple #[.int .i64 (if true = true then b else 0), .bool true]) := by rw [if_pos rfl, h]

theorem lnum_any (s : ByteArray) (w : World) (hs : s.size ≤ maxLen) :
    Calls Try.prog 21 #[.string s] w fun e w' =>
      e = .returned (.tuple #[.int .i64 (if lettersS s.data.toList 6 6 then (numN (valL s.data.toList) : Int) else 0), .bool (lettersS s.data.toList 6 6)]) ∧ Below w.heap.size w w' := by
  cases hl : lettersS s.data.toList 6 6
  · have HL := Lib.hid hl
    have hc := fun W => locator_any s W hs
    rw [hl] at hc
    have HC := Lib.hid hc
    clear hl hc
    go_enter Try.func21, Try.ntmps21
    go_wp2_with (go_at_call 35; refine (HC.out _).mono ?_; rintro e w1 ⟨rfl, hb⟩)
    go_ret2
    exact ⟨rfl, hb⟩
  · have hc := fun W => locator_any s W hs
    rw [hl] at hc
    have HC := Lib.hid hc
    have hx := (txt_val _ hl).2
    have hlen := letters_len (n := 6) hl
    have hall : s.data.toList.all bL = true := by unfold lettersS at hl; rw [Bool.and_eq_true] at hl; exact hl.2
    have HL := Lib.hid hl
    have hsz : s.size = 6 := by simpa using hlen
    have HLEN := Lib.hid hlen
    have HALL := Lib.hid hall
    have HSZ := Lib.hid hsz
    have hs6 : s.size ≤ 6 := by omega
    have hs7 : 6 ≤ s.size := by omega
    clear hl hc hlen hall hsz
    go_enter Try.func21, Try.ntmps21
    go_wp2_with (go_at_call 35; refine (HC.out _).mono ?_; rintro e w1 ⟨rfl, hb1⟩; obtain ⟨w2, cap, hcv, hb2, hz, hcell⟩ := bytes_conv s w1)
    have hb := bel_trans hb1 hb2
    go_loop [4, 13] (fun x i => ∃ k : Nat, k ≤ s.size ∧ i = .int .i64 k ∧ x = .int .u64 (valL (s.data.toList.take k) : Nat)) (fun _ i => s.size - (intOf i).toNat)
    case atStart => exact ⟨0, Nat.zero_le _, rfl, rfl⟩
    case round =>
      obtain ⟨k, hk, rfl, rfl⟩ := hrel
      by_cases hlt : k < s.size
      · have hc := hcell k hlt
        have hkl : k < s.data.toList.length := by rw [HLEN.out]; omega
        have hst := valL_take s.data.toList k hkl
        have hle := valL_take_le s.data.toList k
        have hla := letter_at HALL.out k hkl
        generalize s.data.toList.getD k 0 = b at hc hst hla
        generalize valL (s.data.toList.take k) = x at hst hle ⊢
        have HST := Lib.hid hst
        clear hst hkl hcell
        obtain ⟨hl1, hl2⟩ := hla
        have hb1 : (65 : Int) ≤ (b.toNat : Int) := by omega
        have hb2 : (b.toNat : Int) ≤ 90 := by omega
        clear hl1 hl2
        go_wp2
        go_round
        case rel => exact ⟨k + 1, by omega, by go_num, by rw [HST.out]; go_num⟩
        case measure => simp [intOf]; omega
      · have hk6 : s.data.toList.take k = s.data.toList := List.take_of_length_le (by rw [HLEN.out]; omega)
        rw [hk6]
        clear hk6
        generalize hv : valL s.data.toList = x at hx ⊢
        have HV := Lib.hid hv
        clear hv
        go_wp2_with (go_at_call 46; refine (inverse_any _).mono ?_; rintro e w3 ⟨rfl, rfl⟩)
        go_ret2
        exact ⟨by rw [HV.out]; exact ret_num (numN_int x), hb⟩
end Go.Proofs.Ytlaieijlengojaa
