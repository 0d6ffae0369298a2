/- The reference's filled. -/
import Derived.Test.YtpmmjccdogjncaaDoorScrA
namespace Go.Proofs.YtpmmjccdogjncaaDoor
open Go.RowKit

theorem rowL_fill (l : List UInt8) (h : l.length ≤ 64) : rowL l = l.map rowC ++ List.replicate (64 - l.length) 32 := by
  apply list_eq8
  · rw [rowL_len]; simp; omega
  · intro j hj
    rw [rowL_len] at hj
    rw [rowL_get l hj, List.getD_eq_getElem?_getD (l := _ ++ _), List.getElem?_append]
    by_cases e : j < l.length
    · simp [e, List.getD]
    · rw [if_neg e, if_neg (by simpa using e), List.getElem?_replicate, if_pos (by simp; omega)]
      rfl

theorem ext_one (s : ByteArray) (k : Nat) (h : k < s.size) : (s.extract k (k + 1)).data.toList = [s.data.toList.getD k 0] := by
  have hl : k < s.data.toList.length := by simpa using h
  have : (s.extract k (k + 1)).data.toList = (s.data.toList.drop k).take 1 := by simp
  rw [this, List.drop_eq_getElem_cons hl]
  simp only [List.getD, List.getElem?_eq_getElem hl, Option.getD_some, List.take_succ_cons, List.take_zero]

theorem fill_step {s o : ByteArray} {k : Nat} {y : UInt8} (h : o.data.toList = (s.data.toList.take k).map rowC) (hk : k < s.size) (hy : y = rowC (s.data.toList.getD k 0)) (p : ByteArray) (hp : p.data.toList = [y]) :
    (o ++ p).data.toList = (s.data.toList.take (k + 1)).map rowC := by
  have hl : k < s.data.toList.length := by simpa using hk
  rw [List.take_succ_eq_append_getElem hl, List.map_append, ← h]
  have e : s.data.toList[k] = s.data.toList.getD k 0 := by simp only [List.getD, List.getElem?_eq_getElem hl, Option.getD_some]
  rw [List.map_cons, List.map_nil, e, ← hy, ← hp]
  simp

set_option maxRecDepth 20000 in
set_option maxHeartbeats 8000000 in
theorem filled_any (s : ByteArray) (w : World) (hs : s.size ≤ 64) :
    Calls Tryd.prog 62 #[.string s] w fun e w' => e = .returned (.string (strOf (rowL s.data.toList))) ∧ w = w' := by
  have hlen : s.data.toList.length = s.size := by simp
  have HF : RowKit.Hid (rowL s.data.toList = s.data.toList.map rowC ++ List.replicate (64 - s.size) 32) := Lib.hid (by rw [rowL_fill _ (by omega), hlen])
  have HL := Lib.hid hlen
  clear hlen
  go_enter Tryd.func62, Tryd.ntmps62
  go_wp2_with fail
  go_loopg [3, 4] s.size (fun g t i wr => ∃ (k : Nat) (o : ByteArray), k ≤ s.size ∧ g = s.size - k ∧ i = .int .i64 k ∧ t = .string o ∧ w = wr ∧ o.size = k ∧ o.data.toList = (s.data.toList.take k).map rowC)
  case atStart => exact ⟨0, ⟨#[]⟩, Nat.zero_le _, rfl, rfl, rfl, rfl, rfl, by simp⟩
  case round =>
    obtain ⟨k, o, hk, rfl, rfl, rfl, rfl, hos, ho⟩ := hrel
    have HO := Lib.hid ho
    clear ho
    by_cases hlt : k < s.size
    · have hki : (k : Int) < (s.size : Int) := by omega
      have hk0 : (0 : Int) ≤ (k : Int) := by omega
      have hgl := get_list s k hlt
      have HE := Lib.hid (ext_one s k hlt)
      generalize hx : s.data.toList.getD k 0 = x at *
      have HX := Lib.hid hx
      have hx0 : (0 : Int) ≤ (x.toNat : Int) := by omega
      have hx1 := byte_hi x
      clear hx
      by_cases hr : 32 ≤ (x.toNat : Int)
      · by_cases hr2 : (x.toNat : Int) ≤ 126
        · have HY : RowKit.Hid (x = rowC (s.data.toList.getD k 0)) := Lib.hid (by rw [HX.out, rowC, if_pos ⟨hr, hr2⟩])
          go_wp2
          go_roundg (s.size - (k + 1))
          case measure => omega
          case rel => exact ⟨k + 1, _, by omega, rfl, by go_num, rfl, rfl, by simp [hos]; omega, fill_step HO.out hlt (y := x) HY.out _ HE.out⟩
        · have HY : RowKit.Hid (63 = rowC (s.data.toList.getD k 0)) := Lib.hid (by rw [HX.out, rowC, if_neg (by omega)])
          go_wp2
          go_roundg (s.size - (k + 1))
          case measure => omega
          case rel => exact ⟨k + 1, _, by omega, rfl, by go_num, rfl, rfl, by rw [ByteArray.size_append, hos]; rfl, fill_step HO.out hlt (y := 63) HY.out _ rfl⟩
      · have HY : RowKit.Hid (63 = rowC (s.data.toList.getD k 0)) := Lib.hid (by rw [HX.out, rowC, if_neg (by omega)])
        go_wp2
        go_roundg (s.size - (k + 1))
        case measure => omega
        case rel => exact ⟨k + 1, _, by omega, rfl, by go_num, rfl, rfl, by rw [ByteArray.size_append, hos]; rfl, fill_step HO.out hlt (y := 63) HY.out _ rfl⟩
    · have hke : k = s.size := by omega
      subst hke
      have HO2 : RowKit.Hid (o.data.toList = s.data.toList.map rowC) := Lib.hid (by rw [HO.out, List.take_of_length_le (by rw [HL.out]; omega)])
      clear HO
      go_wp2_with fail
      go_loopg [3] (64 - s.size) (fun g t wr => ∃ (m : Nat) (o : ByteArray), m ≤ 64 - s.size ∧ g = 64 - s.size - m ∧ t = .string o ∧ w = wr ∧ o.size = s.size + m ∧ o.data.toList = s.data.toList.map rowC ++ List.replicate m 32)
      case atStart => exact ⟨0, o, Nat.zero_le _, rfl, rfl, rfl, by rw [hos]; rfl, by rw [HO2.out]; simp⟩
      case round =>
        obtain ⟨m, q, hm, rfl, rfl, rfl, hqs, hq⟩ := hrel
        have HQ := Lib.hid hq
        clear hq
        by_cases hlt : m < 64 - s.size
        · have hqi : (q.size : Int) < 64 := by omega
          go_wp2
          go_roundg (64 - s.size - (m + 1))
          case measure => omega
          case rel => exact ⟨m + 1, _, by omega, rfl, rfl, rfl, by rw [ByteArray.size_append, hqs]; rfl, by rw [List.replicate_succ', ← List.append_assoc, ← HQ.out]; simp⟩
        · have hme : m = 64 - s.size := by omega
          subst hme
          have hqi : ¬ (q.size : Int) < 64 := by omega
          go_wp2
          go_ret
          exact ⟨ret_str (by rw [HQ.out, HF.out]; rfl), rfl⟩
end Go.Proofs.YtpmmjccdogjncaaDoor
