/- The reference's Letters. -/
import Derived.Test.YtahghakpmjfefaaDoorKA
import Derived.Test.YtahghakpmjfefaaDoorKE
import Derived.Test.YtahghakpmjfefaaDoorKD
import Derived.Test.YtahghakpmjfefaaDoorRows
import Derived.WalkKit
import Derived.WalkSpells
import Derived.WalkLawsBesides
import Derived.Lib.ConvBytes
import Derived.Lib.Hide
import Derived.Lib.SliceRun
import Derived.IntWalk
import Derived.BigQuiet
import Derived.Deep.QuietTactic
import Derived.Deep.RegionWith
import Derived.Deep.RegionHeld3
import Derived.Deep.LoopGhost
import Derived.Deep.CutRange
import Derived.Deep.CutBlock
import Derived.Deep.MidRow
import Derived.Laws.OwnMore
import Derived.OwnWalk
import Derived.Laws.AppendOwnNone
import Derived.Maps.AppendAt
import Derived.Laws.Rows
namespace Go.Proofs.YtahghakpmjfefaaDoor
open Go.RowKit
set_option linter.unusedSimpArgs false

set_option maxRecDepth 20000 in
set_option maxHeartbeats 8000000 in
theorem refLetters_any_c (s : ByteArray) (w : World) (hs : s.size ≤ maxLen) :
    Calls Tryd.prog 61 #[.string s] w fun e w' => ∃ L, e = .returned (.tuple #[.string L, .bool (letF s.data.toList).isSome]) ∧ (L.size ≤ 20 ∧ ∀ a, letF s.data.toList = some a → L = strOf a) ∧ Below w.heap.size w w' := by
  have hsm : s.size ≤ 9223372036854775807 := hs
  have hlen : s.data.toList.length = s.size := by simp
  have HLEN := Lib.hid hlen
  clear hlen
  by_cases h0 : s.size = 0
  · have HF : RowKit.Hid (letF s.data.toList = none) := Lib.hid (by
      have : s.data.toList = [] := List.length_eq_zero_iff.1 (by rw [HLEN.out]; exact h0)
      rw [this]; rfl)
    go_enter Tryd.func61, Tryd.ntmps61
    go_wp2
    go_ret2
    exact ⟨_, by rw [HF.out]; rfl, ⟨by decide, fun a h => by rw [HF.out] at h; cases h⟩, Below.refl _ _⟩
  · by_cases h20 : 20 < s.size
    · have HF : RowKit.Hid (letF s.data.toList = none) := Lib.hid (letF_long (by rw [HLEN.out]; exact h20))
      go_enter Tryd.func61, Tryd.ntmps61
      go_wp2
      go_ret2
      exact ⟨_, by rw [HF.out]; rfl, ⟨by decide, fun a h => by rw [HF.out] at h; cases h⟩, Below.refl _ _⟩
    · obtain ⟨q, hq⟩ : ∃ q, s.size = q + 1 := ⟨s.size - 1, by omega⟩
      have hqs : q < s.size := by omega
      have hg0 := get_list s 0 (by omega)
      have hgq := get_list s q hqs
      have HFI : RowKit.Hid ((s.data.toList.getD 0 0).toNat = 46 → letF s.data.toList = none) := Lib.hid fun h => letF_first h (by rw [HLEN.out]; omega)
      have HLA : RowKit.Hid ((s.data.toList.getD q 0).toNat = 46 → letF s.data.toList = none) := Lib.hid fun h => letF_last (by rw [HLEN.out]; omega) (by rw [HLEN.out, hq, show q + 1 - 1 = q by omega]; exact h)
      by_cases hf46 : (s.data.toList.getD 0 0).toNat = 46
      · have HF := Lib.hid (HFI.out hf46)
        have hxe : (((s.data.toList.getD 0 0).toNat : Int) == 46) = true := by rw [beq_iff_eq]; omega
        generalize s.data.toList.getD 0 0 = x at *
        clear hf46 HLA
        go_enter Tryd.func61, Tryd.ntmps61
        go_wp2
        go_ret2
        exact ⟨_, by rw [HF.out]; rfl, ⟨by decide, fun a h => by rw [HF.out] at h; cases h⟩, Below.refl _ _⟩
      · have hxe : (((s.data.toList.getD 0 0).toNat : Int) == 46) = false := by rw [beq_eq_false_iff_ne]; omega
        by_cases hl46 : (s.data.toList.getD q 0).toNat = 46
        · have HF := Lib.hid (HLA.out hl46)
          have hye : (((s.data.toList.getD q 0).toNat : Int) == 46) = true := by rw [beq_iff_eq]; omega
          clear hf46 HFI hl46 HLA
          generalize s.data.toList.getD 0 0 = x at *
          generalize s.data.toList.getD q 0 = y at *
          go_enter Tryd.func61, Tryd.ntmps61
          go_wp2
          go_ret2
          exact ⟨_, by rw [HF.out]; rfl, ⟨by decide, fun a h => by rw [HF.out] at h; cases h⟩, Below.refl _ _⟩
        · have hye : (((s.data.toList.getD q 0).toNat : Int) == 46) = false := by rw [beq_eq_false_iff_ne]; omega
          have HF46 : RowKit.Hid (∀ k, k < q + 1 → (s.data.toList.getD k 0).toNat = 46 → k ≠ 0 ∧ k ≠ q) := Lib.hid fun k _ h => ⟨fun e => hf46 (by rw [e] at h; exact h), fun e => hl46 (by rw [e] at h; exact h)⟩
          have HQ := Lib.hid hq
          clear hf46 HFI hl46 HLA
          generalize s.data.toList.getD 0 0 = x at *
          generalize s.data.toList.getD q 0 = y at *
          go_enter Tryd.func61, Tryd.ntmps61
          have hz1 : (((q : Int) + 1) == 0) = false := by rw [beq_eq_false_iff_ne]; omega
          have h21 : ¬ 20 < (q : Int) + 1 := by omega
          go_wp2
          clear hz1 h21 hxe hye hg0 hgq
          go_loopg [4, 5] (q + 1) (fun g t i wr => ∃ (k : Nat) (S : ByteArray), k ≤ q + 1 ∧ g = q + 1 - k ∧ i = .int .i64 k ∧ t = .string S ∧ letK s.data.toList k = some S.data.toList ∧ S.size ≤ k ∧ Below w.heap.size w wr)
          case atStart => exact ⟨0, ⟨#[]⟩, Nat.zero_le _, rfl, rfl, rfl, rfl, by decide, Below.refl _ _⟩
          case round =>
            obtain ⟨k, S, hk, rfl, rfl, rfl, hK, hSk, hb⟩ := hrel
            have HK := Lib.hid hK
            clear hK
            by_cases hlt : k < q + 1
            · have hki : (k : Int) < (q : Int) + 1 := by omega
              have hk0 : (0 : Int) ≤ (k : Int) := by omega
              have hgk := get_list s k (by omega)
              have hx1 := byte_hi (s.data.toList.getD k 0)
              have hx0 : (0 : Int) ≤ ((s.data.toList.getD k 0).toNat : Int) := by omega
              have HKL : RowKit.Hid (k + 1 ≤ s.data.toList.length) := Lib.hid (by rw [HLEN.out]; omega)
              by_cases h46 : (s.data.toList.getD k 0).toNat = 46
              · obtain ⟨hz, hnl⟩ := HF46.out k hlt h46
                have hxe : (((s.data.toList.getD k 0).toNat : Int) == 46) = true := by rw [beq_iff_eq]; omega
                obtain ⟨j, rfl⟩ : ∃ j, k = j + 1 := ⟨k - 1, by omega⟩
                have hgj := get_list s j (by omega)
                by_cases hp : (s.data.toList.getD j 0).toNat = 46
                · have HF : RowKit.Hid (letF s.data.toList = none) := Lib.hid (letF_none (letK_dot_no HK.out h46 (.inr (.inr hp))) HKL.out)
                  have hpe : (((s.data.toList.getD j 0).toNat : Int) == 46) = true := by rw [beq_iff_eq]; omega
                  clear h46 hp
                  generalize s.data.toList.getD j 0 = y at *
                  generalize s.data.toList.getD (j + 1) 0 = x at *
                  go_wp2_with fail
                  go_ret2
                  exact ⟨_, by rw [HF.out]; rfl, ⟨by decide, fun a h => by rw [HF.out] at h; cases h⟩, hb⟩
                · have HN := Lib.hid (letK_dot HK.out h46 (by omega) (by rw [HLEN.out]; omega) hp)
                  have hpe : (((s.data.toList.getD j 0).toNat : Int) == 46) = false := by rw [beq_eq_false_iff_ne]; omega
                  clear h46 hp
                  generalize s.data.toList.getD j 0 = y at *
                  generalize s.data.toList.getD (j + 1) 0 = x at *
                  go_wp2_with fail
                  go_roundg (q + 1 - (j + 1 + 1))
                  case measure => omega
                  case rel => exact ⟨j + 1 + 1, S, by omega, rfl, by go_num, rfl, HN.out, by omega, hb⟩
              · have hxe : (((s.data.toList.getD k 0).toNat : Int) == 46) = false := by rw [beq_eq_false_iff_ne]; omega
                have hwr : ∀ W, Calls Tryd.prog 57 #[.int .u8 ((s.data.toList.getD k 0).toNat : Int)] W fun e w' => e = .returned (.bool (isL_c ((s.data.toList.getD k 0).toNat : Int))) ∧ w' = W := fun W => (refLetter_any _ W hx0 hx1).mono fun e w' h => ⟨h.1, h.2.symm⟩
                by_cases hL : isL_c (s.data.toList.getD k 0).toNat = true
                · have hLt : isL_c ((s.data.toList.getD k 0).toNat : Int) = true := hL
                  by_cases hz : S.size = 0
                  · have hS : S = ⟨#[]⟩ := by
                      apply str_eq_list
                      have : S.data.toList.length = 0 := by simpa using hz
                      exact List.length_eq_zero_iff.1 this
                    subst hS
                    have HL1 : RowKit.Hid (letK s.data.toList (k + 1) = some [s.data.toList.getD k 0]) := Lib.hid (letK_let HK.out h46 hL (.inl rfl))
                    have hsz1 : (s.extract k (k + 1)).size = 1 := by rw [ByteArray.size_extract]; omega
                    have HA1 : RowKit.Hid ((⟨#[]⟩ ++ s.extract k (k + 1) : ByteArray).data.toList = [s.data.toList.getD k 0]) := Lib.hid (by rw [ByteArray.data_append, Array.toList_append, ext_one_c s k (by omega)]; rfl)
                    rw [hLt] at hwr
                    clear hL h46 hz hLt
                    generalize s.data.toList.getD k 0 = x at *
                    have HQ1 := Lib.hid hwr
                    clear hwr
                    go_upto_region 10 with fail
                    go_quiet (first | (go_at_call 57; (with_reducible refine Calls.quiet_of_same (HQ1.out _))))
                    go_wp2_with fail
                    go_roundg (q + 1 - (k + 1))
                    case measure => omega
                    case rel => exact ⟨k + 1, _, by omega, rfl, by go_num, rfl, by rw [HA1.out]; exact HL1.out, by rw [ByteArray.size_append, hsz1]; show 0 + 1 ≤ k + 1; omega, below_drewN hb _⟩
                  · obtain ⟨n, hn⟩ : ∃ n, S.size = n + 1 := ⟨S.size - 1, by omega⟩
                    have hnS : n < S.size := by omega
                    have hgn := get_list S n hnS
                    have hn0 : decide ((0 : Int) < (S.size : Int)) = true := decide_eq_true (by omega)
                    have hn0' : decide (0 < S.size) = true := decide_eq_true (by omega)
                    have hn1 : IntKind.i64.wrap ((S.size : Int) - 1) = (n : Int) := by
                      rw [show (S.size : Int) - 1 = (n : Int) by omega]
                      exact IntWalk.i64_in _ ⟨by omega, by omega⟩
                    have HSL : RowKit.Hid (S.data.toList.length = n + 1) := Lib.hid (by rw [← hn]; simp)
                    clear hz hn
                    by_cases hlast : (S.data.toList.getD n 0).toNat < (s.data.toList.getD k 0).toNat
                    · have HL1 : RowKit.Hid (letK s.data.toList (k + 1) = some (S.data.toList ++ [s.data.toList.getD k 0])) := Lib.hid (letK_let HK.out h46 hL (.inr (by rw [HSL.out]; exact hlast)))
                      have hsz1 : (s.extract k (k + 1)).size = 1 := by rw [ByteArray.size_extract]; omega
                      have HA1 : RowKit.Hid ((S ++ s.extract k (k + 1) : ByteArray).data.toList = S.data.toList ++ [s.data.toList.getD k 0]) := Lib.hid (by rw [ByteArray.data_append, Array.toList_append, ext_one_c s k (by omega)])
                      have hcm : ¬ ((s.data.toList.getD k 0).toNat : Int) ≤ ((S.data.toList.getD n 0).toNat : Int) := by omega
                      rw [hLt] at hwr
                      clear hL h46 hLt hlast
                      generalize s.data.toList.getD k 0 = x at *
                      generalize S.data.toList.getD n 0 = y at *
                      have HQ1 := Lib.hid hwr
                      clear hwr
                      go_upto_region 10 with fail
                      go_quiet (first | (go_at_call 57; (with_reducible refine Calls.quiet_of_same (HQ1.out _))))
                      go_wp2_with fail
                      go_roundg (q + 1 - (k + 1))
                      case measure => omega
                      case rel => exact ⟨k + 1, _, by omega, rfl, by go_num, rfl, by rw [HA1.out]; exact HL1.out, by rw [ByteArray.size_append, hsz1]; omega, below_drewN hb _⟩
                    · have HF : RowKit.Hid (letF s.data.toList = none) := Lib.hid (letF_none (letK_let_no HK.out h46 (fun h => by
                        rcases h.2 with h0 | h1
                        · rw [HSL.out] at h0; omega
                        · rw [HSL.out] at h1; exact hlast h1)) HKL.out)
                      have hcm : ((s.data.toList.getD k 0).toNat : Int) ≤ ((S.data.toList.getD n 0).toNat : Int) := by omega
                      rw [hLt] at hwr
                      clear hL h46 hLt hlast
                      generalize s.data.toList.getD k 0 = x at *
                      generalize S.data.toList.getD n 0 = y at *
                      have HQ1 := Lib.hid hwr
                      clear hwr
                      go_upto_region 10 with fail
                      go_quiet (first | (go_at_call 57; (with_reducible refine Calls.quiet_of_same (HQ1.out _))))
                      go_wp2_with fail
                      go_ret2
                      exact ⟨_, by rw [HF.out]; rfl, ⟨by decide, fun a h => by rw [HF.out] at h; cases h⟩, below_drewN hb _⟩
                · have HF : RowKit.Hid (letF s.data.toList = none) := Lib.hid (letF_none (letK_let_no HK.out h46 (fun h => hL h.1)) HKL.out)
                  have hLt : isL_c ((s.data.toList.getD k 0).toNat : Int) = false := by simpa using hL
                  rw [hLt] at hwr
                  clear hL h46 hLt
                  generalize s.data.toList.getD k 0 = x at *
                  have HQ1 := Lib.hid hwr
                  clear hwr
                  go_upto_region 10 with fail
                  go_quiet (first | (go_at_call 57; (with_reducible refine Calls.quiet_of_same (HQ1.out _))))
                  go_wp2_with fail
                  go_ret2
                  exact ⟨_, by rw [HF.out]; rfl, ⟨by decide, fun a h => by rw [HF.out] at h; cases h⟩, below_drewN hb _⟩
            · have hke : k = q + 1 := by omega
              subst hke
              have hki : ¬ ((q : Int) + 1) < (q : Int) + 1 := by omega
              by_cases hS10 : S.size ≤ 10
              · have hle : (S.size : Int) ≤ 10 := by omega
                have HF : RowKit.Hid (letF s.data.toList = some S.data.toList) := Lib.hid (by
                  have h1 := HK.out
                  rw [← HQ.out, ← HLEN.out] at h1
                  have hSl : S.data.toList.length = S.size := by simp
                  rw [letF_end h1, if_pos]
                  refine ⟨?_, by omega⟩
                  rcases letK_dots h1 with h2 | h2
                  · rw [HLEN.out] at h2; omega
                  · have := HLEN.out; omega)
                go_wp2_with fail
                go_ret2
                exact ⟨_, by rw [HF.out]; rfl, ⟨by omega, fun a h => by rw [HF.out] at h; injection h with h; rw [← h]; rfl⟩, hb⟩
              · have hle : ¬ (S.size : Int) ≤ 10 := by omega
                have HF : RowKit.Hid (letF s.data.toList = none) := Lib.hid (by
                  have h1 := HK.out
                  have hSl : S.data.toList.length = S.size := by simp
                  exact letF_many h1 (by rw [HLEN.out]; omega) (by omega))
                go_wp2_with fail
                go_ret2
                exact ⟨_, by rw [HF.out]; rfl, ⟨by omega, fun a h => by rw [HF.out] at h; cases h⟩, hb⟩
end Go.Proofs.YtahghakpmjfefaaDoor
