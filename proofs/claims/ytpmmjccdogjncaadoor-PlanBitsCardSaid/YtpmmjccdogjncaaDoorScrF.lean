/- Numbers below 100 as texts: strconv.Itoa, the reference's Digits. -/
import Derived.Test.YtpmmjccdogjncaaDoorScrE
namespace Go.Proofs.YtpmmjccdogjncaaDoor
open Go.RowKit

def dch (n : Nat) : UInt8 := UInt8.ofNat (48 + n % 10)

theorem dch_toNat (n : Nat) : (dch n).toNat = 48 + n % 10 := by unfold dch; rw [UInt8.toNat_ofNat']; omega

def digL (n : Nat) : List UInt8 := if _h : n < 10 then [dch n] else digL (n / 10) ++ [dch n]
termination_by n
decreasing_by omega

theorem digL_lt {n : Nat} (h : n < 10) : digL n = [dch n] := by rw [digL, dif_pos h]

theorem digL_ge {n : Nat} (h : ¬ n < 10) : digL n = digL (n / 10) ++ [dch n] := by rw [digL, dif_neg h]

def digA (n : Nat) : ByteArray := ⟨(digL n).toArray⟩

theorem digA_list (n : Nat) : (digA n).data.toList = digL n := by simp [digA]

theorem dch_conv (n : Nat) (v : Int) (w : World) (h : v = 48 + (n : Int) % 10) :
    (convert 82 9 (.slice (some ⟨w.heap.size, 0, none⟩) 1 1)).run Tryd.prog (w.alloc (.cells #[.int .u8 v] 5)) = .ok (.string ⟨#[dch n]⟩) (w.alloc (.cells #[.int .u8 v] 5)) := by
  refine string_conv [dch n] _ w.heap.size 1 1 rfl fun j hj => ?_
  rw [World.cell?_alloc_new]
  match j, hj with
  | 0, _ => show some (Value.int .u8 _) = some (Value.int .u8 ((dch _).toNat : Int)); rw [dch_toNat, h]; congr 2

def catA (n : Nat) (t : ByteArray) : ByteArray := ⟨(digL n ++ t.data.toList).toArray⟩

theorem catA_start (n : Nat) : catA n ⟨#[]⟩ = digA n := by unfold catA digA; simp

theorem catA_step {n : Nat} (h : ¬ n < 10) (t : ByteArray) : catA (n / 10) (⟨#[dch n]⟩ ++ t) = catA n t := by
  apply bytes_inj
  unfold catA
  rw [digL_ge h]
  simp

theorem catA_end {n : Nat} (h : n < 10) (t : ByteArray) : ⟨#[dch n]⟩ ++ t = catA n t := by
  apply bytes_inj
  unfold catA
  rw [digL_lt h]
  simp

set_option maxRecDepth 20000 in
theorem digits_any (N : Nat) (w : World) (hN : N ≤ 1000000000) :
    Calls Tryd.prog 55 #[.int .i64 N] w fun e w' => e = .returned (.string (digA N)) ∧ Below w.heap.size w w' := by
  go_enter Tryd.func55, Tryd.ntmps55
  go_wp2
  go_loopw [0, 3] (fun x t wr => ∃ (n : Nat) (s : ByteArray), x = .int .i64 n ∧ t = .string s ∧ s.size + n ≤ N ∧ catA n s = digA N ∧ Below w.heap.size w wr) (fun x _ _ => (intOf x).toNat)
  case atStart => exact ⟨N, ⟨#[]⟩, rfl, rfl, by show 0 + N ≤ N; omega, catA_start N, Below.refl _ _⟩
  case round =>
    obtain ⟨n, s, rfl, rfl, hsz, hcat, hb⟩ := hrel
    have HC := Lib.hid hcat
    clear hcat
    by_cases h : n < 10
    · have hc := dch_conv n (48 + (n : Int)) wr (by omega)
      have h9 : (n : Int) ≤ 9 := by omega
      go_wp2
      go_ret
      exact ⟨by rw [← HC.out, ← catA_end h]; rfl, hb.alloc hb.size _⟩
    · have hc := dch_conv n (48 + (n : Int) % 10) wr rfl
      have h9 : 9 < (n : Int) := by omega
      have HS := Lib.hid (catA_step h s)
      go_wp2
      refine ⟨⟨n / 10, ⟨#[dch n]⟩ ++ s, by go_num, rfl, ?_, by rw [HS.out]; exact HC.out, hb.alloc hb.size _⟩, by simp [intOf]; omega⟩
      rw [ByteArray.size_append]
      show 1 + s.size + n / 10 ≤ N
      omega


/-- The digits of a number below 100. -/
def two (n : Nat) : List UInt8 := if n < 10 then [dch n] else [dch (n / 10), dch n]

theorem digL_two {n : Nat} (h : n < 100) : digL n = two n := by
  unfold two
  split
  · exact digL_lt (by assumption)
  · rw [digL_ge (by assumption), digL_lt (by omega)]; rfl

theorem small_one : ∀ i : Fin 10, ((⟨#[48, 49, 50, 51, 52, 53, 54, 55, 56, 57, 97, 98, 99, 100, 101, 102, 103, 104, 105, 106, 107, 108, 109, 110, 111, 112, 113, 114, 115, 116, 117, 118, 119, 120, 121, 122]⟩ : ByteArray).extract i.val (i.val + 1)).data.toList = two i.val := by decide +kernel
theorem small_two : ∀ i : Fin 100, 10 ≤ i.val → ((⟨#[48, 48, 48, 49, 48, 50, 48, 51, 48, 52, 48, 53, 48, 54, 48, 55, 48, 56, 48, 57, 49, 48, 49, 49, 49, 50, 49, 51, 49, 52, 49, 53, 49, 54, 49, 55, 49, 56, 49, 57, 50, 48, 50, 49, 50, 50, 50, 51, 50, 52, 50, 53, 50, 54, 50, 55, 50, 56, 50, 57, 51, 48, 51, 49, 51, 50, 51, 51, 51, 52, 51, 53, 51, 54, 51, 55, 51, 56, 51, 57, 52, 48, 52, 49, 52, 50, 52, 51, 52, 52, 52, 53, 52, 54, 52, 55, 52, 56, 52, 57, 53, 48, 53, 49, 53, 50, 53, 51, 53, 52, 53, 53, 53, 54, 53, 55, 53, 56, 53, 57, 54, 48, 54, 49, 54, 50, 54, 51, 54, 52, 54, 53, 54, 54, 54, 55, 54, 56, 54, 57, 55, 48, 55, 49, 55, 50, 55, 51, 55, 52, 55, 53, 55, 54, 55, 55, 55, 56, 55, 57, 56, 48, 56, 49, 56, 50, 56, 51, 56, 52, 56, 53, 56, 54, 56, 55, 56, 56, 56, 57, 57, 48, 57, 49, 57, 50, 57, 51, 57, 52, 57, 53, 57, 54, 57, 55, 57, 56, 57, 57]⟩ : ByteArray).extract (i.val * 2) (i.val * 2 + 2)).data.toList = two i.val := by decide +kernel

set_option maxRecDepth 100000 in
theorem small_any (n : Nat) (w : World) (hn : n < 100) :
    Calls Tryd.prog 76 #[.int .i64 n] w fun e w' => e = .returned (.string (digA n)) ∧ w = w' := by
  have hd := digL_two hn
  by_cases h : n < 10
  · have h1 : (n : Int) < 10 := by omega
    have h2 := small_one ⟨n, h⟩
    have HS := Lib.hid h2
    have HD := Lib.hid hd
    clear h2 hd
    go_enter Tryd.func76, Tryd.ntmps76
    go_wp2
    go_ret
    exact ⟨ret_str (by rw [digA_list, HD.out]; exact HS.out), rfl⟩
  · have h1 : ¬ (n : Int) < 10 := by omega
    have h2 := small_two ⟨n, hn⟩ (by simp; omega)
    have HS := Lib.hid h2
    have HD := Lib.hid hd
    clear h2 hd
    go_enter Tryd.func76, Tryd.ntmps76
    go_wp2
    go_ret
    exact ⟨ret_str (by rw [digA_list, HD.out]; exact HS.out), rfl⟩

theorem format_any (n : Nat) (w : World) (hn : n < 100) :
    Calls Tryd.prog 71 #[.int .i64 n, .int .i64 10] w fun e w' => e = .returned (.string (digA n)) ∧ w = w' := by
  have h1 : (n : Int) < 100 := by omega
  have h0 : (0 : Int) ≤ (n : Int) := by omega
  have C := small_any n w hn
  go_enter Tryd.func71, Tryd.ntmps71
  go_wp2_with (go_at_call 76; refine C.mono ?_; rintro e w' ⟨rfl, rfl⟩)
  go_ret
  exact ⟨rfl, rfl⟩

theorem itoa2_any (n : Nat) (w : World) (hn : n < 100) :
    Calls Tryd.prog 65 #[.int .i64 n] w fun e w' => e = .returned (.string (digA n)) ∧ w = w' := by
  have C := format_any n w hn
  go_enter Tryd.func65, Tryd.ntmps65
  go_wp2_with (go_at_call 71; refine C.mono ?_; rintro e w' ⟨rfl, rfl⟩)
  go_ret
  exact ⟨rfl, rfl⟩

theorem itoa_any (n : Nat) (w : World) (hn : n < 100) :
    Calls Tryd.prog 53 #[.int .i64 n] w fun e w' => e = .returned (.string (digA n)) ∧ w = w' := by
  have C := itoa2_any n w hn
  go_enter Tryd.func53, Tryd.ntmps53
  go_wp2_with (go_at_call 65; refine C.mono ?_; rintro e w' ⟨rfl, rfl⟩)
  go_ret
  exact ⟨rfl, rfl⟩

theorem digA_size {n : Nat} (h : n < 100) : (digA n).size ≤ 2 := by
  have e : (digA n).size = (digL n).length := rfl
  rw [e, digL_two h]
  unfold two
  split <;> simp
end Go.Proofs.YtpmmjccdogjncaaDoor
