/- plan.letters. -/
import Derived.Test.YtpmmjccdogjncaaDoorPlnD
namespace Go.Proofs.YtpmmjccdogjncaaDoor
open Go.RowKit
set_option linter.unusedSimpArgs false

theorem strOf_list (s : ByteArray) : strOf s.data.toList = s := rfl

theorem toList_ne {s : ByteArray} (h : ¬ s.size = 0) : ¬ s.toList = [] := fun e => h (by
  have h2 : (ByteArray.toList ⟨#[]⟩) = [] := by simp
  rw [toList_inj (e.trans h2.symm)]
  rfl)

set_option maxRecDepth 20000 in
set_option maxHeartbeats 8000000 in
theorem letters_any (s : ByteArray) (w : World) (hs : s.size ≤ maxLen) :
    Calls Tryd.prog 57 #[.string s] w fun e w' => e = .returned (.tuple #[.string (strOf ((letF s.data.toList).getD [])), .bool (letF s.data.toList).isSome]) ∧ Below w.heap.size w w' := by
  have hsm : s.size ≤ 9223372036854775807 := hs
  obtain ⟨w1, cap, hconv, hb1, hz1, hcells⟩ := bytes_conv s w
  have HW := Lib.hid hb1
  have hlen : s.data.toList.length = s.size := by simp
  have HLEN := Lib.hid hlen
  clear hz1 hb1 hlen
  go_enter Tryd.func57, Tryd.ntmps57
  go_wp2
  go_loopg [4, 10] s.size (fun g t i wr => ∃ (k : Nat) (S : ByteArray), k ≤ s.size ∧ g = s.size - k ∧ i = .int .i64 k ∧ t = .string S ∧ letK s.data.toList k = some S.data.toList ∧ S.size ≤ 10 ∧ Below w1.heap.size w1 wr)
  case atStart => exact ⟨0, ⟨#[]⟩, Nat.zero_le _, rfl, rfl, rfl, rfl, by decide, Below.refl _ _⟩
  case round =>
    obtain ⟨k, S, hk, rfl, rfl, rfl, hK, hten0, hb⟩ := hrel
    have HK := Lib.hid hK
    clear hK
    by_cases hlt : k < s.size
    · have hki : (k : Int) < (s.size : Int) := by omega
      have hk0 : (0 : Int) ≤ (k : Int) := by omega
      have c1 := cell_bel hb (hcells k hlt)
      have hx1 := byte_hi (s.data.toList.getD k 0)
      have hx0 : (0 : Int) ≤ ((s.data.toList.getD k 0).toNat : Int) := by omega
      have HKL : RowKit.Hid (k + 1 ≤ s.data.toList.length) := Lib.hid (by rw [HLEN.out]; omega)
      by_cases h46 : (s.data.toList.getD k 0).toNat = 46
      · have hxe : (((s.data.toList.getD k 0).toNat : Int) == 46) = true := by rw [beq_iff_eq]; omega
        by_cases hz : k = 0
        · have HF : RowKit.Hid (letF s.data.toList = none) := Lib.hid (letF_none (letK_dot_no HK.out h46 (.inl hz)) HKL.out)
          subst hz
          have hx46 : ((s.data.toList.getD 0 0).toNat : Int) = 46 := by omega
          rw [hx46] at c1
          clear h46 hxe
          generalize s.data.toList.getD 0 0 = x at *
          go_wp2_with fail
          go_ret2
          exact ⟨by rw [HF.out]; rfl, bel_trans HW.out hb⟩
        · obtain ⟨j, rfl⟩ : ∃ j, k = j + 1 := ⟨k - 1, by omega⟩
          have hgj := get_list s j (by omega)
          have hjj : ((j : Int) + 1 == 0) = false := by rw [beq_eq_false_iff_ne]; omega
          have hx46 : ((s.data.toList.getD (j + 1) 0).toNat : Int) = 46 := by omega
          rw [hx46] at c1
          by_cases hl : j + 1 + 1 = s.size
          · have HF : RowKit.Hid (letF s.data.toList = none) := Lib.hid (letF_none (letK_dot_no HK.out h46 (.inr (.inl (by rw [HLEN.out]; exact hl)))) HKL.out)
            have hle : ((j : Int) + 1 == (s.size : Int) - 1) = true := by rw [beq_iff_eq]; omega
            clear h46 hxe hl hgj
            go_wp2_with fail
            go_ret2
            exact ⟨by rw [HF.out]; rfl, bel_trans HW.out hb⟩
          · have hle : ((j : Int) + 1 == (s.size : Int) - 1) = false := by rw [beq_eq_false_iff_ne]; omega
            have hjl : j < s.size := by omega
            by_cases hp : (s.data.toList.getD j 0).toNat = 46
            · have HF : RowKit.Hid (letF s.data.toList = none) := Lib.hid (letF_none (letK_dot_no HK.out h46 (.inr (.inr hp))) HKL.out)
              have hpe : (((s.data.toList.getD j 0).toNat : Int) == 46) = true := by rw [beq_iff_eq]; omega
              clear h46 hxe hl hp
              generalize s.data.toList.getD j 0 = y at *
              go_wp2_with fail
              go_ret2
              exact ⟨by rw [HF.out]; rfl, bel_trans HW.out hb⟩
            · have HN := Lib.hid (letK_dot HK.out h46 (by omega) (by rw [HLEN.out]; exact hl) hp)
              have hpe : (((s.data.toList.getD j 0).toNat : Int) == 46) = false := by rw [beq_eq_false_iff_ne]; omega
              have hgt : ¬ (10 : Int) < (S.size : Int) := by omega
              clear h46 hxe hl hp
              generalize s.data.toList.getD j 0 = y at *
              go_wp2_with fail
              go_roundg (s.size - (j + 1 + 1))
              case measure => omega
              case rel => exact ⟨j + 1 + 1, S, by omega, rfl, by go_num, rfl, HN.out, hten0, hb⟩
      · have hxe : (((s.data.toList.getD k 0).toNat : Int) == 46) = false := by rw [beq_eq_false_iff_ne]; omega
        by_cases hL : isL (s.data.toList.getD k 0).toNat = true
        · have hd : 65 ≤ ((s.data.toList.getD k 0).toNat : Int) ∧ ((s.data.toList.getD k 0).toNat : Int) ≤ 90 := by unfold isL at hL; exact of_decide_eq_true hL
          obtain ⟨hd1, hd2⟩ := hd
          have hq : ¬ 25 < ((s.data.toList.getD k 0).toNat : Int) - 65 := by omega
          generalize hx : s.data.toList.getD k 0 = x at *
          by_cases hz : S.size = 0
          · have hS : S = ⟨#[]⟩ := by
              apply str_eq_list
              have : S.data.toList.length = 0 := by simpa using hz
              exact List.length_eq_zero_iff.1 this
            subst hS
            have HL1 : RowKit.Hid (letK s.data.toList (k + 1) = some [x]) := Lib.hid (by
              have := letK_let HK.out (by rw [hx]; exact h46) (by rw [hx]; exact hL) (.inl rfl)
              rw [hx] at this
              exact this)
            clear hx h46 hL hz
            have HA1 : RowKit.Hid ((⟨#[]⟩ ++ ⟨#[x]⟩ : ByteArray).data.toList = [x]) := Lib.hid (by simp)
            have hcv := one_conv0 x wr
            go_wp2_with fail
            go_roundg (s.size - (k + 1))
            case measure => omega
            case rel => exact ⟨k + 1, _, by omega, rfl, by go_num, rfl, by rw [HA1.out]; exact HL1.out, by rw [ByteArray.size_append]; show 0 + 1 ≤ 10; omega, hb.alloc hb.size _⟩
          · obtain ⟨q, hq⟩ : ∃ q, S.size = q + 1 := ⟨S.size - 1, by omega⟩
            have hqS : q < S.size := by omega
            have hgq := get_list S q hqS
            have hSl : S.data.toList.length = q + 1 := by rw [← hq]; simp
            have HSL := Lib.hid hSl
            have hne := toList_ne hz
            have hne2 : S.toList.isEmpty = false := by simpa using hne
            clear hSl hz
            by_cases hlast : (S.data.toList.getD q 0).toNat < x.toNat
            · have HL1 : RowKit.Hid (letK s.data.toList (k + 1) = some (S.data.toList ++ [x])) := Lib.hid (by
                have := letK_let HK.out (by rw [hx]; exact h46) (by rw [hx]; exact hL) (.inr (by rw [HSL.out, hx]; exact hlast))
                rw [hx] at this
                exact this)
              have hcm : ¬ (x.toNat : Int) ≤ ((S.data.toList.getD q 0).toNat : Int) := by omega
              clear hx h46 hL hlast
              generalize S.data.toList.getD q 0 = y at *
              have hsz1 : (S ++ ⟨#[x]⟩ : ByteArray).size = S.size + 1 := by rw [ByteArray.size_append]; rfl
              have HA1 : RowKit.Hid ((S ++ ⟨#[x]⟩ : ByteArray).data.toList = S.data.toList ++ [x]) := Lib.hid (by simp)
              have hcv := one_conv0 x wr
              have hcat : ¬ 9223372036854775807 < S.size + 1 := by omega
              have HS10 := Lib.hid hten0
              by_cases hten : S.size = 10
              · have HF : RowKit.Hid (letF s.data.toList = none) := Lib.hid (letF_many HL1.out HKL.out (by simp; omega))
                have hgt : (10 : Int) < (q : Int) + 1 + 1 := by omega
                clear hten
                go_wp2_with fail
                go_ret2
                exact ⟨by rw [HF.out]; rfl, bel_trans HW.out (hb.alloc hb.size _)⟩
              · have hgt : ¬ (10 : Int) < (S.size : Int) + 1 := by omega
                have HT10 : RowKit.Hid (S.size + 1 ≤ 10) := Lib.hid (by omega)
                clear hten
                go_wp2_with fail
                go_roundg (s.size - (k + 1))
                case measure => omega
                case rel => exact ⟨k + 1, _, by omega, rfl, by go_num, rfl, by rw [HA1.out]; exact HL1.out, by rw [hsz1]; exact HT10.out, hb.alloc hb.size _⟩
            · have HF : RowKit.Hid (letF s.data.toList = none) := Lib.hid (letF_none (letK_let_no HK.out (by rw [hx]; exact h46) (fun h => by
                rcases h.2 with h0 | h1
                · rw [HSL.out] at h0; omega
                · rw [HSL.out, hx] at h1; exact hlast h1)) HKL.out)
              have hcm : (x.toNat : Int) ≤ ((S.data.toList.getD q 0).toNat : Int) := by omega
              clear hx h46 hL hlast
              generalize S.data.toList.getD q 0 = y at *
              go_wp2_with fail
              go_ret2
              exact ⟨by rw [HF.out]; rfl, bel_trans HW.out hb⟩
        · have HF : RowKit.Hid (letF s.data.toList = none) := Lib.hid (letF_none (letK_let_no HK.out h46 (fun h => hL h.1)) HKL.out)
          have hn : ¬ (65 ≤ ((s.data.toList.getD k 0).toNat : Int) ∧ ((s.data.toList.getD k 0).toNat : Int) ≤ 90) := fun h => hL (by unfold isL; exact decide_eq_true h)
          clear h46 hL
          generalize s.data.toList.getD k 0 = x at *
          go_wp2_with fail
          go_ret2
          exact ⟨by rw [HF.out]; rfl, bel_trans HW.out hb⟩
    · have hke : k = s.size := by omega
      subst hke
      have hki : ¬ (s.size : Int) < (s.size : Int) := by omega
      by_cases hz : S.size = 0
      · have hS : S = ⟨#[]⟩ := by
          apply str_eq_list
          have : S.data.toList.length = 0 := by simpa using hz
          exact List.length_eq_zero_iff.1 this
        subst hS
        have HF : RowKit.Hid (letF s.data.toList = none) := Lib.hid (by rw [letF_end (by rw [HLEN.out]; exact HK.out), if_neg (by simp)])
        clear hz
        go_wp2_with fail
        go_ret2
        exact ⟨by rw [HF.out]; rfl, bel_trans HW.out hb⟩
      · have hne := toList_ne hz
        have hne2 : S.toList.isEmpty = false := by simpa using hne
        have HF : RowKit.Hid (letF s.data.toList = some S.data.toList) := Lib.hid (by
          have hSl : S.data.toList.length = S.size := by simp
          rw [letF_end (by rw [HLEN.out]; exact HK.out), if_pos (by omega)])
        clear hz
        go_wp2_with fail
        go_ret2
        exact ⟨by rw [HF.out]; rfl, bel_trans HW.out hb⟩
end Go.Proofs.YtpmmjccdogjncaaDoor
