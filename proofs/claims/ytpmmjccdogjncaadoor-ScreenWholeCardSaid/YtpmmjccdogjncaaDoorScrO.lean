/- The reference's Text. -/
import Derived.Test.YtpmmjccdogjncaaDoorScrN
namespace Go.Proofs.YtpmmjccdogjncaaDoor
open Go.RowKit

theorem trimL_take (l : List UInt8) : l.take (trimL l).length = trimL l := by
  have h : trimL l <+: l := by
    unfold trimL
    have := List.dropWhile_suffix (l := l.reverse) (· == 32)
    rw [← List.reverse_prefix, List.reverse_reverse] at this
    exact this
  exact (List.prefix_iff_eq_take.1 h).symm

/-- The end of what is no blank among the first k. -/
def endK (R : List UInt8) (k : Nat) : Nat := (trimL (R.take k)).length

theorem endK_zero (R : List UInt8) : endK R 0 = 0 := rfl
theorem endK_same (R : List UInt8) {k : Nat} (h : k < R.length) (hc : R.getD k 0 = 32) : endK R (k + 1) = endK R k := by unfold endK; rw [trim_step R h hc]
theorem endK_next (R : List UInt8) {k : Nat} (h : k < R.length) (hc : R.getD k 0 ≠ 32) : endK R (k + 1) = k + 1 := by unfold endK; rw [trim_stop R h hc, List.length_take]; omega
theorem endK_all (R : List UInt8) (h : R.length = 64) : endK R 64 = (trimL R).length := by unfold endK; rw [List.take_of_length_le (by omega)]

theorem take_snoc (R : List UInt8) {k : Nat} (h : k < R.length) : R.take (k + 1) = R.take k ++ [R.getD k 0] := by
  rw [List.take_succ_eq_append_getElem h]
  simp [List.getD, h]

theorem conv1 (x : UInt8) (w : World) :
    (convert 82 9 (.slice (some ⟨w.heap.size, 0, none⟩) 1 1)).run Tryd.prog (w.alloc (.cells #[.int .u8 (x.toNat : Int)] 5)) = .ok (.string ⟨#[x]⟩) (w.alloc (.cells #[.int .u8 (x.toNat : Int)] 5)) := by
  refine string_conv [x] _ w.heap.size 1 1 rfl fun j hj => ?_
  rw [World.cell?_alloc_new]
  match j, hj with
  | 0, _ => rfl

set_option maxRecDepth 20000 in
set_option maxHeartbeats 8000000 in
theorem rText_any (l : List UInt8) (w : World) (hl : l.length = 1536) :
    Calls Tryd.prog 51 #[.agg (byteV l).toArray] w fun e w' => e = .returned (.string (textS l)) ∧ Below w.heap.size w w' := by
  have ha : Arr (w.alloc (.cells (byteV l).toArray 73)) w.heap.size 73 l := heap_alloc_new w _
  have HA := Lib.hid ha
  have HN0 : RowKit.Hid (textN l 0 = ([], [])) := Lib.hid rfl
  have HN1 : RowKit.Hid (∀ k, textN l (k + 1) = if trimL (rowK l k) = [] then ((textN l k).1, (textN l k).2 ++ [10]) else ((textN l k).1 ++ ((textN l k).2 ++ trimL (rowK l k) ++ [10]), [])) := Lib.hid fun _ => rfl
  have HNE : RowKit.Hid (textS l = strOf (textN l 24).1) := Lib.hid rfl
  clear ha
  go_enter Tryd.func51, Tryd.ntmps51
  go_wp2_with fail
  go_loopg [3, 4, 5] 24 (fun g o e i wr => ∃ (k : Nat) (O : ByteArray) (m : Nat), k ≤ 24 ∧ g = 24 - k ∧ i = .int .i64 k ∧ o = .string O ∧ e = .int .i64 m ∧ O.data.toList = (textN l k).1 ++ (textN l k).2 ∧ m = (textN l k).1.length ∧ O.size ≤ 65 * k ∧ Below (w.heap.size + 1) (w.alloc (.cells (byteV l).toArray 73)) wr)
  case atStart => exact ⟨0, ⟨#[]⟩, 0, Nat.zero_le _, rfl, rfl, rfl, rfl, by rw [HN0.out]; rfl, by rw [HN0.out]; rfl, Nat.zero_le _, Below.refl _ _⟩
  case round =>
    obtain ⟨k, O, m, hk, rfl, rfl, rfl, rfl, hO, hm, hOz, hb⟩ := hrel
    have HO := Lib.hid hO
    have HM := Lib.hid hm
    clear hO hm
    by_cases hlt : k < 24
    · have hki : (k : Int) < 24 := by omega
      have hk0 : (0 : Int) ≤ (k : Int) := by omega
      have hrl := rowK_len hl hlt
      have HC : RowKit.Hid (∀ W, Below (w.heap.size + 1) (w.alloc (.cells (byteV l).toArray 73)) W → ∀ j, j < 64 → W.cell? ⟨w.heap.size, k * 64 + j, none⟩ = some (.int .u8 (((rowK l k).getD j 0).toNat : Int))) := Lib.hid fun W h j hj => by
        have harr : Arr W w.heap.size 73 l := HA.out.keep h (by omega)
        rw [harr.cell (by omega), rowK_get hj, Nat.mul_comm]
      have hst := HN1.out k
      have htl := trimL_row l k
      have htk := Lib.hid (trimL_take (rowK l k))
      have hEA := Lib.hid (endK_all (rowK l k) hrl)
      have hE0 := Lib.hid (endK_zero (rowK l k))
      have hES := Lib.hid (fun j => endK_same (rowK l k) (k := j))
      have hEN := Lib.hid (fun j => endK_next (rowK l k) (k := j))
      have hTS := Lib.hid (fun j => take_snoc (rowK l k) (k := j))
      rw [hrl] at hES hEN hTS
      have HST := Lib.hid hst
      have HTL := Lib.hid htl
      generalize rowK l k = R at *
      clear hst htl hrl
      obtain ⟨wo, rfl⟩ : ∃ x : World, x = wr := ⟨_, rfl⟩
      go_wp2_with fail
      go_loopg [6, 7] 64 (fun g e i wr => ∃ j : Nat, j ≤ 64 ∧ g = 64 - j ∧ i = .int .i64 j ∧ e = .int .i64 (endK R j : Nat) ∧ wo = wr)
      case atStart => exact ⟨0, Nat.zero_le _, rfl, rfl, by rw [hE0.out]; rfl, rfl⟩
      case round =>
        obtain ⟨j, hj, rfl, rfl, rfl, rfl⟩ := hrel
        by_cases hj6 : j < 64
        · have hji : (j : Int) < 64 := by omega
          have hj0 : (0 : Int) ≤ (j : Int) := by omega
          have c1 := HC.out _ hb j hj6
          have e1 := hES.out j hj6
          have e2 := hEN.out j hj6
          generalize R.getD j 0 = x at *
          by_cases hx : x = 32
          · have hxb : ((x.toNat : Int) != 32) = false := by rw [hx]; rfl
            have HE := Lib.hid (e1 hx)
            clear e1 e2 hx
            go_wp2
            go_roundg (64 - (j + 1))
            case measure => omega
            case rel => exact ⟨j + 1, by omega, rfl, by go_num, by rw [HE.out], rfl⟩
          · have hxb : ((x.toNat : Int) != 32) = true := by
              rw [bne_iff_ne]
              intro e
              apply hx
              apply UInt8.toNat_inj.1
              show x.toNat = 32
              omega
            have HE := Lib.hid (e2 hx)
            clear e1 e2 hx
            go_wp2
            go_roundg (64 - (j + 1))
            case measure => omega
            case rel => exact ⟨j + 1, by omega, rfl, by go_num, by rw [HE.out]; go_num, rfl⟩
        · have hj64 : j = 64 := by omega
          subst hj64
          rw [hEA.out]
          obtain ⟨E, hE⟩ : ∃ E, E = (trimL R).length := ⟨_, rfl⟩
          rw [← hE]
          have hEz : E ≤ 64 := by rw [hE]; exact HTL.out
          have HE := Lib.hid hE
          clear hE
          go_wp2_with fail
          go_loopg [8, 9] E (fun g o i wr => ∃ (j : Nat) (Q : ByteArray), j ≤ E ∧ g = E - j ∧ i = .int .i64 j ∧ o = .string Q ∧ Q.size = j ∧ Q.data.toList = R.take j ∧ Below (w.heap.size + 1) (w.alloc (.cells (byteV l).toArray 73)) wr)
          case atStart => exact ⟨0, ⟨#[]⟩, Nat.zero_le _, rfl, rfl, rfl, rfl, by simp, hb⟩
          case round =>
            obtain ⟨j, Q, hjE, rfl, rfl, rfl, hQz, hQ, hb2⟩ := hrel
            have HQ := Lib.hid hQ
            clear hQ
            by_cases hjl : j < E
            · have hji : (j : Int) < (E : Int) := by omega
              have hji6 : (j : Int) < 64 := by omega
              have hj0 : (0 : Int) ≤ (j : Int) := by omega
              have c1 := HC.out _ hb2 j (by omega)
              have hts := Lib.hid (hTS.out j (by omega))
              generalize R.getD j 0 = x at *
              have hcv := conv1 x wr
              go_wp2
              go_roundg (E - (j + 1))
              case measure => omega
              case rel => exact ⟨j + 1, _, by omega, rfl, by go_num, rfl, by rw [ByteArray.size_append, hQz]; rfl, by rw [hts.out, ← HQ.out]; simp, hb2.alloc (by have := hb2.size; rw [size_alloc] at this; omega) _⟩
            · have hjE2 : j = E := by omega
              subst hjE2
              have HQT : RowKit.Hid (Q.data.toList = trimL R) := Lib.hid (by rw [HQ.out, HE.out]; exact htk.out)
              clear HQ
              by_cases hE0 : j = 0
              · have hT0 : trimL R = [] := List.length_eq_zero_iff.1 (by rw [← HE.out, hE0])
                have hst := HST.out
                rw [if_pos hT0] at hst
                have HS := Lib.hid hst
                have HT0 := Lib.hid hT0
                have hz : ¬ (0 : Int) < (j : Int) := by omega
                clear hst hT0
                go_wp2
                go_roundg (24 - (k + 1))
                case measure => omega
                case rel => exact ⟨k + 1, _, m, by omega, rfl, by go_num, rfl, rfl, by rw [HS.out, ← List.append_assoc, ← HO.out]; simp [HQT.out, HT0.out], by rw [HS.out]; exact HM.out, by rw [ByteArray.size_append, ByteArray.size_append, hQz]; show O.size + j + 1 ≤ _; omega, hb2⟩
              · have hT0 : ¬ trimL R = [] := fun e => hE0 (by have := HE.out; rw [e] at this; exact this)
                have hst := HST.out
                rw [if_neg hT0] at hst
                have HS := Lib.hid hst
                have hz : (0 : Int) < (j : Int) := by omega
                clear hst hT0
                go_wp2
                go_roundg (24 - (k + 1))
                case measure => omega
                case rel =>
                  refine ⟨k + 1, _, _, by omega, rfl, by go_num, rfl, rfl, ?_, ?_, by rw [ByteArray.size_append, ByteArray.size_append, hQz]; show O.size + j + 1 ≤ _; omega, hb2⟩
                  · rw [HS.out, ← HQT.out]
                    simp only [List.append_nil]
                    rw [← List.append_assoc, ← List.append_assoc, ← HO.out]
                    simp
                  · rw [HS.out, ← HQT.out]
                    simp only []
                    rw [← List.append_assoc, ← List.append_assoc, ← HO.out]
                    simp
                    omega
    · have hk24 : k = 24 := by omega
      subst hk24
      have hmz : m ≤ O.size := by
        have e : O.data.toList.length = O.size := by simp
        rw [← e, HO.out, List.length_append, HM.out]
        exact Nat.le_add_right _ _
      have hmi : (m : Int) ≤ (O.size : Int) := by omega
      go_wp2
      go_ret
      refine ⟨ret_str ?_, ((Below.refl _ _).alloc (Nat.le_refl _) _).trans (hb.mono (by omega))⟩
      have e1 : (O.extract 0 m).data.toList = O.data.toList.take m := by simp
      rw [e1, HNE.out, HO.out, HM.out, List.take_left]
      simp [strOf]
end Go.Proofs.YtpmmjccdogjncaaDoor
