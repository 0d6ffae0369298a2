/- Keys of queues: the contracts of Key and Read, and of the reference's. -/
import Derived.Test.YtpfgmmmeofnkoaaQBase
namespace Go.Proofs.Ytpfgmmmeofnkoaa
open Go.RowKit

def two (n : Nat) : List UInt8 := [UInt8.ofNat (48 + n / 10), UInt8.ofNat (48 + n % 10)]

theorem ofNat_int (k : Nat) (h : k < 256) : ((UInt8.ofNat k).toNat : Int) = (k : Int) := by rw [UInt8.toNat_ofNat']; omega

/-- 'string([]byte{a, b})' of two bytes laid right ahead. -/
theorem two_conv (a b : UInt8) (w : World) :
    (convert 46 9 (.slice (some ⟨w.heap.size, 0, none⟩) 2 2)).run Try.prog (w.alloc (.cells #[.int .u8 (a.toNat : Int), .int .u8 (b.toNat : Int)] 5)) =
      .ok (.string ⟨#[a, b]⟩) (w.alloc (.cells #[.int .u8 (a.toNat : Int), .int .u8 (b.toNat : Int)] 5)) := by
  refine string_conv [a, b] _ w.heap.size 2 2 rfl fun j hj => ?_
  rw [World.cell?_alloc_new]
  match j, hj with
  | 0, _ => rfl
  | 1, _ => rfl

def twoA (n : Nat) : ByteArray := ⟨(two n).toArray⟩

theorem twoA_list (n : Nat) : (twoA n).data.toList = two n := by simp [twoA]

theorem twoA_size (n : Nat) : (twoA n).size = 2 := rfl

theorem twoA_conv (k : Nat) (w : World) (a b : Int) (hk : k < 100) (ha : a = 48 + (k : Int) / 10) (hb : b = 48 + (k : Int) % 10) :
    (convert 46 9 (.slice (some ⟨w.heap.size, 0, none⟩) 2 2)).run Try.prog (w.alloc (.cells #[.int .u8 a, .int .u8 b] 5)) =
      .ok (.string (twoA k)) (w.alloc (.cells #[.int .u8 a, .int .u8 b] 5)) := by
  have hc := two_conv (UInt8.ofNat (48 + k / 10)) (UInt8.ofNat (48 + k % 10)) w
  rw [ofNat_int _ (by omega), ofNat_int _ (by omega), show ((48 + k / 10 : Nat) : Int) = a by omega, show ((48 + k % 10 : Nat) : Int) = b by omega] at hc
  exact hc

theorem rtwo_any (n : Int) (w : World) (h0 : 0 ≤ n) (h1 : n < 100) :
    Calls Try.prog 24 #[.int .i64 n] w fun e w' => e = .returned (.string (twoA n.toNat)) ∧ Below w.heap.size w w' := by
  obtain ⟨k, rfl⟩ := Int.eq_ofNat_of_zero_le h0
  rw [Int.toNat_natCast]
  have hc := twoA_conv k w (48 + (k : Int) / 10 % 10) (48 + (k : Int) % 10) (by omega) (by omega) rfl
  go_enter Try.func24, Try.ntmps24
  go_wp2
  go_ret
  exact ⟨rfl, (Below.refl _ _).alloc (Nat.le_refl _) _⟩

def keyA (o : ByteArray) (n : Nat) : ByteArray := ⟨#[81]⟩ ++ o ++ twoA n
theorem keyA_list (o : ByteArray) (n : Nat) : (keyA o n).data.toList = 81 :: (o.data.toList ++ two n) := by
  unfold keyA
  rw [ByteArray.data_append, Array.toList_append, ByteArray.data_append, Array.toList_append, twoA_list]
  rfl
def kOkO (o : List UInt8) (n : Int) : Bool := lettersS o 3 3 && decide (0 ≤ n ∧ n < 100)
def kS (o : ByteArray) (n : Int) : ByteArray := if kOkO o.data.toList n then keyA o n.toNat else ⟨#[]⟩
def kE (o : ByteArray) (n : Int) : Int := if lettersS o.data.toList 3 3 then (if 0 ≤ n ∧ n < 100 then 0 else 1) else 4

theorem kS_form {o : ByteArray} (n : Int) (h : lettersS o.data.toList 3 3 = false) : kS o n = ⟨#[]⟩ ∧ kE o n = 4 := by
  unfold kS kE kOkO; rw [h]; exact ⟨rfl, rfl⟩
theorem kS_range {o : ByteArray} {n : Int} (h : lettersS o.data.toList 3 3 = true) (hn : ¬ (0 ≤ n ∧ n < 100)) : kS o n = ⟨#[]⟩ ∧ kE o n = 1 := by
  unfold kS kE kOkO; rw [h, decide_eq_false hn, if_neg hn]; exact ⟨rfl, rfl⟩
theorem kS_yes {o : ByteArray} {n : Int} (h : lettersS o.data.toList 3 3 = true) (hn : 0 ≤ n ∧ n < 100) : kS o n = keyA o n.toNat ∧ kE o n = 0 := by
  unfold kS kE kOkO; rw [h, decide_eq_true hn, if_pos hn]; exact ⟨rfl, rfl⟩

theorem key_any (o : ByteArray) (n : Int) (w : World) (hs : o.size ≤ maxLen) :
    Calls Try.prog 12 #[.string o, .int .i64 n] w fun e w' => e = .returned (.tuple #[.string (kS o n), .int .i64 (kE o n)]) ∧ Below w.heap.size w w' := by
  have hc := fun W => city_any o W hs
  cases hl : lettersS o.data.toList 3 3
  · rw [hl] at hc
    obtain ⟨e1, e2⟩ := kS_form n hl
    rw [e1, e2]
    have HC := Lib.hid hc
    clear hc hl e1 e2
    go_enter Try.func12, Try.ntmps12
    go_wp2_with (go_at_call 22; refine (HC.out _).mono ?_; rintro e w1 ⟨rfl, hb⟩)
    go_ret2
    exact ⟨rfl, hb⟩
  rw [hl] at hc
  have hsz : o.size = 3 := by simpa using letters_len (n := 3) hl
  have hsz2 : o.size ≤ 3 := by omega
  have HC := Lib.hid hc
  by_cases h0 : n < 0
  · obtain ⟨e1, e2⟩ := kS_range (n := n) hl (by omega)
    rw [e1, e2]
    clear hc hl e1 e2 hsz
    go_enter Try.func12, Try.ntmps12
    go_wp2_with (go_at_call 22; refine (HC.out _).mono ?_; rintro e w1 ⟨rfl, hb⟩)
    go_ret2
    exact ⟨rfl, hb⟩
  by_cases h1 : 100 ≤ n
  · obtain ⟨e1, e2⟩ := kS_range (n := n) hl (by omega)
    rw [e1, e2]
    clear hc hl e1 e2 hsz
    go_enter Try.func12, Try.ntmps12
    go_wp2_with (go_at_call 22; refine (HC.out _).mono ?_; rintro e w1 ⟨rfl, hb⟩)
    go_ret2
    exact ⟨rfl, hb⟩
  obtain ⟨e1, e2⟩ := kS_yes (n := n) hl (by omega)
  rw [e1, e2]
  obtain ⟨k, rfl⟩ := Int.eq_ofNat_of_zero_le (show 0 ≤ n by omega)
  rw [Int.toNat_natCast]
  have hcv := fun W => twoA_conv k W _ _ (by omega) rfl rfl
  have HCV := Lib.hid hcv
  have z1 := twoA_size k
  have HK : RowKit.Hid (keyA o k = ⟨#[81]⟩ ++ o ++ twoA k) := Lib.hid rfl
  generalize twoA k = t at HCV z1 HK
  clear hc hl e1 e2 hsz hcv
  go_enter Try.func12, Try.ntmps12
  go_wp2_with (go_at_call 22; refine (HC.out _).mono ?_; rintro e w1 ⟨rfl, hb⟩; have hcc := HCV.out w1)
  go_ret2
  exact ⟨by rw [HK.out]; rfl, hb.alloc hb.size _⟩

theorem rkey_any (o : ByteArray) (n : Int) (w : World) (hs : o.size ≤ maxLen) :
    Calls Try.prog 13 #[.string o, .int .i64 n] w fun e w' => e = .returned (.tuple #[.string (kS o n), .int .i64 (kE o n)]) ∧ Below w.heap.size w w' := by
  have hc := fun W => refCity_any o W hs
  cases hl : lettersS o.data.toList 3 3
  · rw [hl] at hc
    obtain ⟨e1, e2⟩ := kS_form n hl
    rw [e1, e2]
    have HC := Lib.hid hc
    clear hc hl e1 e2
    go_enter Try.func13, Try.ntmps13
    go_wp2_with (go_at_call 23; refine (HC.out _).mono ?_; rintro e w1 ⟨rfl, rfl⟩)
    go_ret2
    exact ⟨rfl, Below.refl _ _⟩
  rw [hl] at hc
  have hsz : o.size = 3 := by simpa using letters_len (n := 3) hl
  have hsz2 : o.size ≤ 3 := by omega
  have HC := Lib.hid hc
  by_cases h0 : n < 0
  · obtain ⟨e1, e2⟩ := kS_range (n := n) hl (by omega)
    rw [e1, e2]
    clear hc hl e1 e2 hsz
    go_enter Try.func13, Try.ntmps13
    go_wp2_with (go_at_call 23; refine (HC.out _).mono ?_; rintro e w1 ⟨rfl, rfl⟩)
    go_ret2
    exact ⟨rfl, Below.refl _ _⟩
  by_cases h1 : 99 < n
  · obtain ⟨e1, e2⟩ := kS_range (n := n) hl (by omega)
    rw [e1, e2]
    clear hc hl e1 e2 hsz
    go_enter Try.func13, Try.ntmps13
    go_wp2_with (go_at_call 23; refine (HC.out _).mono ?_; rintro e w1 ⟨rfl, rfl⟩)
    go_ret2
    exact ⟨rfl, Below.refl _ _⟩
  obtain ⟨e1, e2⟩ := kS_yes (n := n) hl (by omega)
  rw [e1, e2]
  obtain ⟨k, rfl⟩ := Int.eq_ofNat_of_zero_le (show 0 ≤ n by omega)
  have htw := fun W => rtwo_any (k : Int) W (by omega) (by omega)
  rw [Int.toNat_natCast] at htw ⊢
  have HT := Lib.hid htw
  have z1 := twoA_size k
  have HK : RowKit.Hid (keyA o k = ⟨#[81]⟩ ++ o ++ twoA k) := Lib.hid rfl
  generalize twoA k = t at HT z1 HK
  clear hc hl e1 e2 hsz htw
  go_enter Try.func13, Try.ntmps13
  go_wp2_with (first
    | (go_at_call 23; refine (HC.out _).mono ?_; rintro e w1 ⟨rfl, rfl⟩)
    | (go_at_call 24; refine (HT.out _).mono ?_; rintro e w2 ⟨rfl, hb⟩))
  go_ret2
  exact ⟨by rw [HK.out]; rfl, hb⟩
end Go.Proofs.Ytpfgmmmeofnkoaa
