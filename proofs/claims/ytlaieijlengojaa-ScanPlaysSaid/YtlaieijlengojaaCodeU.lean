/- The contract of the reference's Upper: it appends byte by byte. -/
import Derived.Test.YtlaieijlengojaaCodeP
import Derived.Test.YtlaieijlengojaaBase
namespace Go.Proofs.Ytlaieijlengojaa
open Go.RowKit

def byteVals (l : List UInt8) : List Value := l.map fun b => .int .u8 (b.toNat : Int)

theorem byteVals_get (l : List UInt8) (j : Nat) (h : j < l.length) : (byteVals l)[j]? = some (.int .u8 ((l.getD j 0).toNat : Int)) := by
  simp [byteVals, List.getD, h]

/-- 'string(v)' of a row of bytes that the call owns. -/
theorem string_own (l : List UInt8) (w : World) (base n : Nat) (v : Value) (hn : l.length = n) (h : w.ownsRow base 5 1 v n (byteVals l)) :
    (convert 54 9 v).run Try.prog w = .ok (.string ⟨l.toArray⟩) w := by
  rcases h.2 with ⟨rfl, h0⟩ | ⟨g, cap, cur, rfl, hr⟩
  · have hl : l = [] := List.eq_nil_of_length_eq_zero (by omega)
    subst hl
    rw [run_convert_bytes_string w 54 9 5 none 0 0 Try.underlying54 Try.underlying5 Try.underlying9]
    simp [Conv.bytesToString]
    rfl
  · refine string_conv l w g n cap hn fun j hj => ?_
    rw [h.cellAt j (by omega), byteVals_get l j (by omega)]

theorem info_u8 : (Try.prog.info? 5).map (fun i => (i.zero, i.size, i.bytes)) = some (some (.int .u8 0), 1, 1) := by kernel_rfl

theorem upS_take (l : List UInt8) (k : Nat) (h : k < l.length) : upS (l.take (k + 1)) = upS (l.take k) ++ [upB (l.getD k 0)] := by
  unfold upS
  rw [List.take_succ_eq_append_getElem h, List.map_append]
  simp [List.getD, h]

theorem upB_hi {b : UInt8} (h1 : 97 ≤ (b.toNat : Int)) (h2 : (b.toNat : Int) ≤ 122) : ((upB b).toNat : Int) = (b.toNat : Int) - 32 := by
  have e : (upB b).toNat = b.toNat - 32 := by
    unfold upB
    rw [if_pos ⟨by omega, by omega⟩, UInt8.toNat_sub_of_le]
    · rfl
    · rw [UInt8.le_iff_toNat_le]; show 32 ≤ _; omega
  omega
theorem upB_lo {b : UInt8} (h : ¬ (97 ≤ (b.toNat : Int) ∧ (b.toNat : Int) ≤ 122)) : upB b = b := by unfold upB; rw [if_neg (by omega)]

theorem refUpper_any (s : ByteArray) (w : World) (hs : s.size ≤ 1000000) :
    Calls Try.prog 40 #[.string s] w fun e w' => e = .returned (.string ⟨(upS s.data.toList).toArray⟩) ∧ Below w.heap.size w w' := by
  obtain ⟨i0, hi, hz0, hz1, hz2⟩ := info_parts info_u8
  have hlen : s.data.toList.length = s.size := by simp
  have HL := Lib.hid hlen
  clear hlen
  go_enter Try.func40, Try.ntmps40
  go_wp2
  go_loopw [3, 4] (fun v i wr => ∃ k : Nat, k ≤ s.size ∧ i = .int .i64 k ∧ Below w.heap.size w wr ∧ wr.ownsRow w.heap.size 5 1 v k (byteVals (upS (s.data.toList.take k)))) (fun _ i _ => s.size - (intOf i).toNat)
  case atStart => exact ⟨0, Nat.zero_le _, rfl, Below.refl _ _, World.ownsRow_nil _ _ _ _⟩
  case round =>
    obtain ⟨k, hk, rfl, hb, hown⟩ := hrel
    by_cases hlt : k < s.size
    · have hix := get_list s k hlt
      have hst := upS_take s.data.toList k (by rw [HL.out]; exact hlt)
      have hbb := byte_hi (s.data.toList.getD k 0)
      generalize s.data.toList.getD k 0 = b at hix hst hbb
      have HS := Lib.hid hst
      clear hst
      have hb0 : (0 : Int) ≤ (b.toNat : Int) := by omega
      have hsz := hb.size
      generalize upS (s.data.toList.take k) = out at HS hown
      by_cases hup : 97 ≤ (b.toNat : Int) ∧ (b.toNat : Int) ≤ 122
      · obtain ⟨u1, u2⟩ := hup
        go_wp2_with (at_builtin; refine wpList_push rfl _ _ 54 rfl w.heap.size 5 i0 (.int .u8 0) 1 Try.underlying54 hi hz0 hz1 hz2 rfl _ _ _ rfl hown _ rfl rfl (by unfold maxLen; omega) (by omega) hsz ?_; intro v' w' hown' hb' _)
        refine ⟨⟨k + 1, by omega, by go_num, hb.trans hb', ?_⟩, by simp [intOf]; omega⟩
        rw [HS.out]
        rw [← upB_hi u1 u2] at hown'
        simpa [byteVals] using hown'
      · have u3 : (decide (97 ≤ (b.toNat : Int)) && decide ((b.toNat : Int) ≤ 122)) = false := by rw [Bool.and_eq_false_iff]; simp; omega
        by_cases u1 : 97 ≤ (b.toNat : Int)
        · have u2 : ¬ (b.toNat : Int) ≤ 122 := fun h => hup ⟨u1, h⟩
          go_wp2_with (at_builtin; refine wpList_push rfl _ _ 54 rfl w.heap.size 5 i0 (.int .u8 0) 1 Try.underlying54 hi hz0 hz1 hz2 rfl _ _ _ rfl hown _ rfl rfl (by unfold maxLen; omega) (by omega) hsz ?_; intro v' w' hown' hb' _)
          refine ⟨⟨k + 1, by omega, by go_num, hb.trans hb', ?_⟩, by simp [intOf]; omega⟩
          rw [HS.out, upB_lo hup]
          simpa [byteVals] using hown'
        · go_wp2_with (at_builtin; refine wpList_push rfl _ _ 54 rfl w.heap.size 5 i0 (.int .u8 0) 1 Try.underlying54 hi hz0 hz1 hz2 rfl _ _ _ rfl hown _ rfl rfl (by unfold maxLen; omega) (by omega) hsz ?_; intro v' w' hown' hb' _)
          refine ⟨⟨k + 1, by omega, by go_num, hb.trans hb', ?_⟩, by simp [intOf]; omega⟩
          rw [HS.out, upB_lo hup]
          simpa [byteVals] using hown'
    · have hback := string_own (upS (s.data.toList.take k)) wr w.heap.size k
      have hk2 : s.data.toList.take k = s.data.toList := List.take_of_length_le (by rw [HL.out]; omega)
      rw [hk2] at hown hback
      have hconv := hback u3 (by simp [upS]; omega) hown
      clear hback hk2
      go_wp2
      go_ret
      exact ⟨rfl, hb⟩
end Go.Proofs.Ytlaieijlengojaa
