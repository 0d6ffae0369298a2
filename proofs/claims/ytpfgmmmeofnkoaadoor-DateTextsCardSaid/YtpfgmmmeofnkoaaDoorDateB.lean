/- The contracts of two, number and of the reference's Two, month. -/
import Derived.Test.YtpfgmmmeofnkoaaDoorDateA
namespace Go.Proofs.YtpfgmmmeofnkoaaDoor
open Go.RowKit

theorem ofNat_int (k : Nat) (h : k < 256) : ((UInt8.ofNat k).toNat : Int) = (k : Int) := by rw [UInt8.toNat_ofNat']; omega

/-- 'string([]byte{a, b})' of two bytes laid right ahead. -/
theorem two_conv (a b : UInt8) (w : World) :
    (convert 44 9 (.slice (some ⟨w.heap.size, 0, none⟩) 2 2)).run Tryd.prog (w.alloc (.cells #[.int .u8 (a.toNat : Int), .int .u8 (b.toNat : Int)] 5)) =
      .ok (.string ⟨#[a, b]⟩) (w.alloc (.cells #[.int .u8 (a.toNat : Int), .int .u8 (b.toNat : Int)] 5)) := by
  refine string_conv [a, b] _ w.heap.size 2 2 rfl fun j hj => ?_
  rw [World.cell?_alloc_new]
  match j, hj with
  | 0, _ => rfl
  | 1, _ => rfl

def twoA (n : Nat) : ByteArray := ⟨(two n).toArray⟩
theorem twoA_list (n : Nat) : (twoA n).data.toList = two n := by simp [twoA]
theorem twoA_size (n : Nat) : (twoA n).size = 2 := rfl

theorem twoA_conv (k : Nat) (w : World) (a b : Int) (hk : k < 100) (ha : a = 48 + (k : Int) / 10) (hb : b = 48 + (k : Int) % 10) :
    (convert 44 9 (.slice (some ⟨w.heap.size, 0, none⟩) 2 2)).run Tryd.prog (w.alloc (.cells #[.int .u8 a, .int .u8 b] 5)) =
      .ok (.string (twoA k)) (w.alloc (.cells #[.int .u8 a, .int .u8 b] 5)) := by
  have hc := two_conv (UInt8.ofNat (48 + k / 10)) (UInt8.ofNat (48 + k % 10)) w
  rw [ofNat_int _ (by omega), ofNat_int _ (by omega), show ((48 + k / 10 : Nat) : Int) = a by omega, show ((48 + k % 10 : Nat) : Int) = b by omega] at hc
  exact hc

theorem two_any (n : Int) (w : World) (h0 : 0 ≤ n) (h1 : n < 100) :
    Calls Tryd.prog 22 #[.int .i64 n] w fun e w' => e = .returned (.string (twoA n.toNat)) ∧ Below w.heap.size w w' := by
  obtain ⟨k, rfl⟩ := Int.eq_ofNat_of_zero_le h0
  rw [Int.toNat_natCast]
  have hc := twoA_conv k w _ _ (by omega) rfl rfl
  go_enter Tryd.func22, Tryd.ntmps22
  go_wp2
  go_ret
  exact ⟨rfl, (Below.refl _ _).alloc (Nat.le_refl _) _⟩
theorem rtwo_any (n : Int) (w : World) (h0 : 0 ≤ n) (h1 : n < 100) :
    Calls Tryd.prog 24 #[.int .i64 n] w fun e w' => e = .returned (.string (twoA n.toNat)) ∧ Below w.heap.size w w' := by
  obtain ⟨k, rfl⟩ := Int.eq_ofNat_of_zero_le h0
  rw [Int.toNat_natCast]
  have hc := twoA_conv k w (48 + (k : Int) / 10 % 10) (48 + (k : Int) % 10) (by omega) (by omega) rfl
  go_enter Tryd.func24, Tryd.ntmps24
  go_wp2
  go_ret
  exact ⟨rfl, (Below.refl _ _).alloc (Nat.le_refl _) _⟩

def monA (m : Nat) : ByteArray := ⟨(monL m).toArray⟩
theorem monA_list (m : Nat) : (monA m).data.toList = monL m := by simp [monA]
theorem monA_size (m : Nat) : (monA m).size = 3 := by
  show (monL m).length = 3
  unfold monL
  split <;> rfl

theorem month_any (m : Nat) (w : World) :
    Calls Tryd.prog 23 #[.int .i64 m] w fun e w' => e = .returned (.tuple #[.string (monA m), .int .i64 (lenN m)]) ∧ w = w' := by
  match m with
  | 0 => go_enter Tryd.func23, Tryd.ntmps23; go_wp2; go_ret2; exact ⟨rfl, rfl⟩
  | 1 => go_enter Tryd.func23, Tryd.ntmps23; go_wp2; go_ret2; exact ⟨rfl, rfl⟩
  | 2 => go_enter Tryd.func23, Tryd.ntmps23; go_wp2; go_ret2; exact ⟨rfl, rfl⟩
  | 3 => go_enter Tryd.func23, Tryd.ntmps23; go_wp2; go_ret2; exact ⟨rfl, rfl⟩
  | 4 => go_enter Tryd.func23, Tryd.ntmps23; go_wp2; go_ret2; exact ⟨rfl, rfl⟩
  | 5 => go_enter Tryd.func23, Tryd.ntmps23; go_wp2; go_ret2; exact ⟨rfl, rfl⟩
  | 6 => go_enter Tryd.func23, Tryd.ntmps23; go_wp2; go_ret2; exact ⟨rfl, rfl⟩
  | 7 => go_enter Tryd.func23, Tryd.ntmps23; go_wp2; go_ret2; exact ⟨rfl, rfl⟩
  | 8 => go_enter Tryd.func23, Tryd.ntmps23; go_wp2; go_ret2; exact ⟨rfl, rfl⟩
  | 9 => go_enter Tryd.func23, Tryd.ntmps23; go_wp2; go_ret2; exact ⟨rfl, rfl⟩
  | 10 => go_enter Tryd.func23, Tryd.ntmps23; go_wp2; go_ret2; exact ⟨rfl, rfl⟩
  | n + 11 =>
    generalize hm : n + 11 = m
    have h11 : (11 : Int) ≤ (m : Int) := by omega
    have hm1 : monA m = ⟨#[68, 69, 67]⟩ := by rw [← hm]; rfl
    have hm2 : lenN m = 31 := by rw [← hm]; rfl
    rw [hm1, hm2]
    clear hm hm1 hm2
    go_enter Tryd.func23, Tryd.ntmps23
    go_wp2
    go_ret2
    exact ⟨rfl, rfl⟩

theorem number_q (s : ByteArray) (w : World) :
    Calls Tryd.prog 25 #[.string s] w fun e w' => e = .returned (.int .i64 (numS s.data.toList)) ∧ ∃ n, w' = w.drewN n := by
  by_cases h : s.size = 2
  · have hne : ((s.size : Int) != 2) = false := by rw [h]; rfl
    have g0 : (0 : Int) < (s.size : Int) := by omega
    have g1 : (1 : Int) < (s.size : Int) := by omega
    have g2 : 0 < s.size := by omega
    have g3 : 1 < s.size := by omega
    have hl : s.data.toList = [s[0], s[1]] := by
      apply List.ext_getElem
      · simpa using h
      · intro i h1 h2
        match i, h2 with
        | 0, _ => rfl
        | 1, _ => rfl
    have e : numS s.data.toList = numS [s[0], s[1]] := by rw [hl]
    generalize ha : s[0] = a at e
    generalize hb : s[1] = b at e
    have HE := Lib.hid e
    clear h hl e
    have a0 := byte_hi a
    have b0 := byte_hi b
    have a1 : (0 : Int) ≤ (a.toNat : Int) := by omega
    have b1 : (0 : Int) ≤ (b.toNat : Int) := by omega
    by_cases hA : 48 ≤ (a.toNat : Int) ∧ (a.toNat : Int) ≤ 57
    · obtain ⟨hA1, hA2⟩ := hA
      by_cases hB : 48 ≤ (b.toNat : Int) ∧ (b.toNat : Int) ≤ 57
      · obtain ⟨hB1, hB2⟩ := hB
        go_enter Tryd.func25, Tryd.ntmps25
        go_wp2
        go_quiet (fail)
        go_wp2
        go_ret
        refine ⟨ret_int ?_, _, rfl⟩
        rw [HE.out, numS_two, if_pos (by simp [isD]; omega)]
      · have hB1 : ¬ ((b.toNat : Int) - 48) % 256 ≤ 9 := by omega
        have hB2 : 9 < ((b.toNat : Int) - 48) % 256 := by omega
        go_enter Tryd.func25, Tryd.ntmps25
        go_wp2
        go_ret
        exact ⟨ret_int (by rw [HE.out, numS_two, if_neg (by simp [isD]; omega)]), 0, rfl⟩
    · have hA2 : 9 < ((a.toNat : Int) - 48) % 256 := by omega
      go_enter Tryd.func25, Tryd.ntmps25
      go_wp2
      go_ret
      exact ⟨ret_int (by rw [HE.out, numS_two, if_neg (by simp [isD]; omega)]), 0, rfl⟩
  · have hne : ((s.size : Int) != 2) = true := by rw [bne_iff_ne]; omega
    have e : numS s.data.toList = -1 := by
      match hl : s.data.toList with
      | [] => rfl
      | [_] => rfl
      | [_, _] => exact absurd (by have : s.data.toList.length = s.size := by simp
                                   rw [hl] at this; simpa using this.symm) h
      | _ :: _ :: _ :: _ => rfl
    have HE := Lib.hid e
    clear h e
    go_enter Tryd.func25, Tryd.ntmps25
    go_wp2
    go_ret
    exact ⟨ret_int HE.out.symm, 0, rfl⟩
theorem number_any (s : ByteArray) (w : World) :
    Calls Tryd.prog 25 #[.string s] w fun e w' => e = .returned (.int .i64 (numS s.data.toList)) ∧ Below w.heap.size w w' :=
  (number_q s w).mono fun _ _ ⟨h, n, hn⟩ => ⟨h, by subst hn; exact below_drewN (Below.refl _ _) _⟩
theorem numS_hi (l : List UInt8) : numS l ≤ 99 ∧ -1 ≤ numS l := by
  unfold numS
  split
  · next a b =>
    split
    · next hd =>
      simp only [isD, Bool.and_eq_true, decide_eq_true_eq] at hd
      omega
    · omega
  · omega
end Go.Proofs.YtpfgmmmeofnkoaaDoor
