/- Seats read from texts: plan.Read. Seats and their texts: plan.Text, jetwayref09.Text. The letters of a text of letters and points: the plain law. Seats read from texts: jetwayref09.Read. plan.letters. -/
import Derived.Test.YtmhhbnnjilbdnaaGreatDoorKA
import Derived.Test.YtmhhbnnjilbdnaaGreatDoorKE
import Derived.Test.YtmhhbnnjilbdnaaGreatDoorRows
import Derived.WalkKit
import Derived.WalkSpells
import Derived.WalkLawsBesides
import Derived.Lib.ConvBytes
import Derived.Lib.Hide
import Derived.Lib.SliceRun
import Derived.IntWalk
import Derived.BigQuiet
import Derived.Deep.QuietTactic
import Derived.Deep.RegionWith
import Derived.Deep.RegionHeld3
import Derived.Deep.LoopGhost
import Derived.Deep.CutRange
import Derived.Deep.CutBlock
import Derived.Deep.MidRow
import Derived.Laws.OwnMore
import Derived.OwnWalk
import Derived.Laws.AppendOwnNone
import Derived.Maps.AppendAt
import Derived.Laws.Rows
import Derived.Laws.MakeOwn
import Derived.Laws.CopyOwn
import Derived.Laws.BitsAllLaws
import Derived.DeepKeys5
import Derived.Maps.OwnOps
import Derived.Handy
import Derived.Lib.AppendStr
import Derived.StillTailTactics
import Derived.Deep.AppendLies
import Derived.ProofKit
import Derived.OpenShut
import Derived.SliceStrings
import Derived.Lib.SmallJoins
import Derived.Deep.SlicePairs
import Derived.ChangeSlices
import Derived.WideKeyEntry
namespace Go.Proofs.YtmhhbnnjilbdnaaGreatDoor
open Go.RowKit
set_option linter.unusedSimpArgs false

def seatC (r : Int) (c : UInt8) : List Value := [.int .i64 r, .int .u8 c.toNat]

theorem info_seat : (Tryz.prog.info? 46).map (·.size) = some 2 := by kernel_rfl

theorem seatC_one {r : Int} {c : UInt8} : ∀ v ∈ seatC r c, v.oneCell' = true := by
  intro v hv
  simp [seatC] at hv
  rcases hv with rfl | rfl <;> rfl

end Go.Proofs.YtmhhbnnjilbdnaaGreatDoor
namespace Go.Proofs.YtmhhbnnjilbdnaaGreatDoor
open Go.RowKit
set_option linter.unusedSimpArgs false

def isL_c (c : Int) : Bool := decide (65 ≤ c ∧ c ≤ 90)

end Go.Proofs.YtmhhbnnjilbdnaaGreatDoor
namespace Go.Proofs.YtmhhbnnjilbdnaaGreatDoor
open Go.RowKit
set_option linter.unusedSimpArgs false

/-- One byte more. -/
def letS (l : List UInt8) (k : Nat) (a : List UInt8) : Option (List UInt8) :=
  if (l.getD k 0).toNat = 46 then (if k = 0 ∨ k + 1 = l.length ∨ (l.getD (k - 1) 0).toNat = 46 then none else some a)
  else if isL_c (l.getD k 0).toNat = true ∧ (a.length = 0 ∨ (a.getD (a.length - 1) 0).toNat < (l.getD k 0).toNat) then some (a ++ [l.getD k 0]) else none

/-- The letters among the first k bytes. -/
def letK (l : List UInt8) : Nat → Option (List UInt8)
  | 0 => some []
  | k + 1 => (letK l k).bind (letS l k)

/-- The letters of a text, where it is right. -/
def letF (l : List UInt8) : Option (List UInt8) := (letK l l.length).bind fun a => if 0 < a.length ∧ a.length ≤ 10 then some a else none

theorem letK_none {l : List UInt8} {k n : Nat} (h : letK l k = none) (hk : k ≤ n) : letK l n = none := by
  induction n with
  | zero => rw [show k = 0 by omega] at h; exact h
  | succ n ih =>
    rcases Nat.lt_or_ge n k with h1 | h1
    · rw [show n + 1 = k by omega]; exact h
    · rw [letK, ih h1]; rfl

theorem letS_len {l a b : List UInt8} {k : Nat} (h : letS l k a = some b) : a.length ≤ b.length := by
  unfold letS at h
  split at h
  · split at h
    · cases h
    · injection h with h; rw [h]; exact Nat.le_refl _
  · split at h
    · injection h with h; rw [← h]; simp
    · cases h

theorem letK_len {l a b : List UInt8} {k n : Nat} (h : letK l k = some a) (hk : k ≤ n) (hb : letK l n = some b) : a.length ≤ b.length := by
  induction n generalizing b with
  | zero =>
    rw [show k = 0 by omega] at h
    rw [h] at hb
    injection hb with hb
    rw [hb]; exact Nat.le_refl _
  | succ n ih =>
    rcases Nat.lt_or_ge n k with h1 | h1
    · rw [show k = n + 1 by omega, hb] at h
      injection h with h
      rw [h]; exact Nat.le_refl _
    · rw [letK] at hb
      cases hn : letK l n with
      | none => rw [hn] at hb; cases hb
      | some c =>
        rw [hn] at hb
        exact Nat.le_trans (ih h1 hn) (letS_len hb)

theorem letF_none {l : List UInt8} {k : Nat} (h : letK l k = none) (hk : k ≤ l.length) : letF l = none := by
  unfold letF
  rw [letK_none h hk]
  rfl

theorem letF_many {l a : List UInt8} {k : Nat} (h : letK l k = some a) (hk : k ≤ l.length) (ha : 10 < a.length) : letF l = none := by
  unfold letF
  cases hn : letK l l.length with
  | none => rfl
  | some b =>
    have := letK_len h hk hn
    show (if _ then _ else _) = _
    rw [if_neg (by omega)]

theorem letF_end {l a : List UInt8} (h : letK l l.length = some a) : letF l = if 0 < a.length ∧ a.length ≤ 10 then some a else none := by
  unfold letF
  rw [h]
  rfl

theorem letK_dot {l a : List UInt8} {k : Nat} (h : letK l k = some a) (hc : (l.getD k 0).toNat = 46) (h0 : k ≠ 0) (h1 : k + 1 ≠ l.length) (h2 : (l.getD (k - 1) 0).toNat ≠ 46) : letK l (k + 1) = some a := by
  rw [letK, h]
  show letS l k a = _
  unfold letS
  rw [if_pos hc, if_neg (by omega)]

theorem letK_dot_no {l a : List UInt8} {k : Nat} (h : letK l k = some a) (hc : (l.getD k 0).toNat = 46) (h0 : k = 0 ∨ k + 1 = l.length ∨ (l.getD (k - 1) 0).toNat = 46) : letK l (k + 1) = none := by
  rw [letK, h]
  show letS l k a = _
  unfold letS
  rw [if_pos hc, if_pos h0]

theorem letK_let {l a : List UInt8} {k : Nat} (h : letK l k = some a) (hc : (l.getD k 0).toNat ≠ 46) (h0 : isL_c (l.getD k 0).toNat = true) (h1 : a.length = 0 ∨ (a.getD (a.length - 1) 0).toNat < (l.getD k 0).toNat) : letK l (k + 1) = some (a ++ [l.getD k 0]) := by
  rw [letK, h]
  show letS l k a = _
  unfold letS
  rw [if_neg hc, if_pos ⟨h0, h1⟩]

theorem letK_let_no {l a : List UInt8} {k : Nat} (h : letK l k = some a) (hc : (l.getD k 0).toNat ≠ 46) (h0 : ¬ (isL_c (l.getD k 0).toNat = true ∧ (a.length = 0 ∨ (a.getD (a.length - 1) 0).toNat < (l.getD k 0).toNat))) : letK l (k + 1) = none := by
  rw [letK, h]
  show letS l k a = _
  unfold letS
  rw [if_neg hc, if_neg h0]

/-- The letters rise, and are letters. -/
theorem letK_rise {l a : List UInt8} {k : Nat} (h : letK l k = some a) : a.Pairwise (fun x y => x.toNat < y.toNat) ∧ ∀ x ∈ a, isL_c x.toNat = true := by
  induction k generalizing a with
  | zero =>
    injection h with h
    subst h
    exact ⟨List.Pairwise.nil, fun x hx => by cases hx⟩
  | succ k ih =>
    rw [letK] at h
    cases hn : letK l k with
    | none => rw [hn] at h; cases h
    | some c =>
      rw [hn] at h
      have h' : letS l k c = some a := h
      obtain ⟨p1, p2⟩ := ih hn
      unfold letS at h'
      split at h'
      · split at h'
        · cases h'
        · injection h' with h'
          subst h'
          exact ⟨p1, p2⟩
      · split at h'
        · rename_i hh
          injection h' with h'
          subst h'
          refine ⟨List.pairwise_append.2 ⟨p1, List.pairwise_singleton _ _, fun x hx y hy => ?_⟩, fun x hx => ?_⟩
          · rw [List.mem_singleton.1 hy]
            rcases hh.2 with h0 | h1
            · rw [List.length_eq_zero_iff.1 h0] at hx; cases hx
            · obtain ⟨i, hi, rfl⟩ := List.getElem_of_mem hx
              rcases Nat.lt_or_ge i (c.length - 1) with h2 | h2
              · have := List.pairwise_iff_getElem.1 p1 i (c.length - 1) hi (by omega) h2
                rw [List.getD_eq_getElem?_getD, List.getElem?_eq_getElem (by omega)] at h1
                exact Nat.lt_trans this h1
              · have e : i = c.length - 1 := by omega
                subst e
                rw [List.getD_eq_getElem?_getD, List.getElem?_eq_getElem hi] at h1
                exact h1
          · rcases List.mem_append.1 hx with h1 | h1
            · exact p2 x h1
            · rw [List.mem_singleton.1 h1]; exact hh.1
        · cases h'

theorem letF_some {l a : List UInt8} (h : letF l = some a) : 0 < a.length ∧ a.length ≤ 10 ∧ a.Pairwise (fun x y => x.toNat < y.toNat) ∧ ∀ x ∈ a, isL_c x.toNat = true := by
  cases hn : letK l l.length with
  | none => rw [letF_none hn (Nat.le_refl _)] at h; cases h
  | some b =>
    rw [letF_end hn] at h
    split at h
    · injection h with h
      subst h
      rename_i hh
      exact ⟨hh.1, hh.2, (letK_rise hn).1, (letK_rise hn).2⟩
    · cases h
end Go.Proofs.YtmhhbnnjilbdnaaGreatDoor
namespace Go.Proofs.YtmhhbnnjilbdnaaGreatDoor
open Go.RowKit
set_option linter.unusedSimpArgs false

theorem str_eq_list {a b : ByteArray} (h : a.data.toList = b.data.toList) : a = b := by
  obtain ⟨⟨a⟩⟩ := a
  obtain ⟨⟨b⟩⟩ := b
  simp at h
  rw [h]

end Go.Proofs.YtmhhbnnjilbdnaaGreatDoor
namespace Go.Proofs.YtmhhbnnjilbdnaaGreatDoor
open Go.RowKit
set_option linter.unusedSimpArgs false

theorem toList_ne {s : ByteArray} (h : ¬ s.size = 0) : ¬ s.toList = [] := fun e => h (by
  have h2 : (ByteArray.toList ⟨#[]⟩) = [] := by simp
  rw [toList_inj (e.trans h2.symm)]
  rfl)

set_option maxRecDepth 20000 in
set_option maxHeartbeats 8000000 in
theorem letters_any_c (s : ByteArray) (w : World) (hs : s.size ≤ maxLen) :
    Calls Tryz.prog 71 #[.string s] w fun e w' => e = .returned (.tuple #[.string (strOf ((letF s.data.toList).getD [])), .bool (letF s.data.toList).isSome]) ∧ Below w.heap.size w w' := by
  have hsm : s.size ≤ 9223372036854775807 := hs
  obtain ⟨w1, cap, hconv, hb1, hz1, hcells⟩ := bytes_conv s w
  have HW := Lib.hid hb1
  have hlen : s.data.toList.length = s.size := by simp
  have HLEN := Lib.hid hlen
  clear hz1 hb1 hlen
  go_enter Tryz.func71, Tryz.ntmps71
  go_wp2
  go_loopg [4, 10] s.size (fun g t i wr => ∃ (k : Nat) (S : ByteArray), k ≤ s.size ∧ g = s.size - k ∧ i = .int .i64 k ∧ t = .string S ∧ letK s.data.toList k = some S.data.toList ∧ S.size ≤ 10 ∧ Below w1.heap.size w1 wr)
  case atStart => exact ⟨0, ⟨#[]⟩, Nat.zero_le _, rfl, rfl, rfl, rfl, by decide, Below.refl _ _⟩
  case round =>
    obtain ⟨k, S, hk, rfl, rfl, rfl, hK, hten0, hb⟩ := hrel
    have HK := Lib.hid hK
    clear hK
    by_cases hlt : k < s.size
    · have hki : (k : Int) < (s.size : Int) := by omega
      have hk0 : (0 : Int) ≤ (k : Int) := by omega
      have c1 := cell_bel hb (hcells k hlt)
      have hx1 := byte_hi (s.data.toList.getD k 0)
      have hx0 : (0 : Int) ≤ ((s.data.toList.getD k 0).toNat : Int) := by omega
      have HKL : RowKit.Hid (k + 1 ≤ s.data.toList.length) := Lib.hid (by rw [HLEN.out]; omega)
      by_cases h46 : (s.data.toList.getD k 0).toNat = 46
      · have hxe : (((s.data.toList.getD k 0).toNat : Int) == 46) = true := by rw [beq_iff_eq]; omega
        by_cases hz : k = 0
        · have HF : RowKit.Hid (letF s.data.toList = none) := Lib.hid (letF_none (letK_dot_no HK.out h46 (.inl hz)) HKL.out)
          subst hz
          have hx46 : ((s.data.toList.getD 0 0).toNat : Int) = 46 := by omega
          rw [hx46] at c1
          clear h46 hxe
          generalize s.data.toList.getD 0 0 = x at *
          go_wp2_with fail
          go_ret2
          exact ⟨by rw [HF.out]; rfl, bel_trans HW.out hb⟩
        · obtain ⟨j, rfl⟩ : ∃ j, k = j + 1 := ⟨k - 1, by omega⟩
          have hgj := get_list s j (by omega)
          have hjj : ((j : Int) + 1 == 0) = false := by rw [beq_eq_false_iff_ne]; omega
          have hx46 : ((s.data.toList.getD (j + 1) 0).toNat : Int) = 46 := by omega
          rw [hx46] at c1
          by_cases hl : j + 1 + 1 = s.size
          · have HF : RowKit.Hid (letF s.data.toList = none) := Lib.hid (letF_none (letK_dot_no HK.out h46 (.inr (.inl (by rw [HLEN.out]; exact hl)))) HKL.out)
            have hle : ((j : Int) + 1 == (s.size : Int) - 1) = true := by rw [beq_iff_eq]; omega
            clear h46 hxe hl hgj
            go_wp2_with fail
            go_ret2
            exact ⟨by rw [HF.out]; rfl, bel_trans HW.out hb⟩
          · have hle : ((j : Int) + 1 == (s.size : Int) - 1) = false := by rw [beq_eq_false_iff_ne]; omega
            have hjl : j < s.size := by omega
            by_cases hp : (s.data.toList.getD j 0).toNat = 46
            · have HF : RowKit.Hid (letF s.data.toList = none) := Lib.hid (letF_none (letK_dot_no HK.out h46 (.inr (.inr hp))) HKL.out)
              have hpe : (((s.data.toList.getD j 0).toNat : Int) == 46) = true := by rw [beq_iff_eq]; omega
              clear h46 hxe hl hp
              generalize s.data.toList.getD j 0 = y at *
              go_wp2_with fail
              go_ret2
              exact ⟨by rw [HF.out]; rfl, bel_trans HW.out hb⟩
            · have HN := Lib.hid (letK_dot HK.out h46 (by omega) (by rw [HLEN.out]; exact hl) hp)
              have hpe : (((s.data.toList.getD j 0).toNat : Int) == 46) = false := by rw [beq_eq_false_iff_ne]; omega
              have hgt : ¬ (10 : Int) < (S.size : Int) := by omega
              clear h46 hxe hl hp
              generalize s.data.toList.getD j 0 = y at *
              go_wp2_with fail
              go_roundg (s.size - (j + 1 + 1))
              case measure => omega
              case rel => exact ⟨j + 1 + 1, S, by omega, rfl, by go_num, rfl, HN.out, hten0, hb⟩
      · have hxe : (((s.data.toList.getD k 0).toNat : Int) == 46) = false := by rw [beq_eq_false_iff_ne]; omega
        by_cases hL : isL_c (s.data.toList.getD k 0).toNat = true
        · have hd : 65 ≤ ((s.data.toList.getD k 0).toNat : Int) ∧ ((s.data.toList.getD k 0).toNat : Int) ≤ 90 := by unfold isL_c at hL; exact of_decide_eq_true hL
          obtain ⟨hd1, hd2⟩ := hd
          have hq : ¬ 25 < ((s.data.toList.getD k 0).toNat : Int) - 65 := by omega
          generalize hx : s.data.toList.getD k 0 = x at *
          by_cases hz : S.size = 0
          · have hS : S = ⟨#[]⟩ := by
              apply str_eq_list
              have : S.data.toList.length = 0 := by simpa using hz
              exact List.length_eq_zero_iff.1 this
            subst hS
            have HL1 : RowKit.Hid (letK s.data.toList (k + 1) = some [x]) := Lib.hid (by
              have := letK_let HK.out (by rw [hx]; exact h46) (by rw [hx]; exact hL) (.inl rfl)
              rw [hx] at this
              exact this)
            clear hx h46 hL hz
            have HA1 : RowKit.Hid ((⟨#[]⟩ ++ ⟨#[x]⟩ : ByteArray).data.toList = [x]) := Lib.hid (by simp)
            have hcv := one_conv0 x wr
            go_wp2_with fail
            go_roundg (s.size - (k + 1))
            case measure => omega
            case rel => exact ⟨k + 1, _, by omega, rfl, by go_num, rfl, by rw [HA1.out]; exact HL1.out, by rw [ByteArray.size_append]; show 0 + 1 ≤ 10; omega, hb.alloc hb.size _⟩
          · obtain ⟨q, hq⟩ : ∃ q, S.size = q + 1 := ⟨S.size - 1, by omega⟩
            have hqS : q < S.size := by omega
            have hgq := get_list S q hqS
            have hSl : S.data.toList.length = q + 1 := by rw [← hq]; simp
            have HSL := Lib.hid hSl
            have hne := toList_ne hz
            have hne2 : S.toList.isEmpty = false := by simpa using hne
            clear hSl hz
            by_cases hlast : (S.data.toList.getD q 0).toNat < x.toNat
            · have HL1 : RowKit.Hid (letK s.data.toList (k + 1) = some (S.data.toList ++ [x])) := Lib.hid (by
                have := letK_let HK.out (by rw [hx]; exact h46) (by rw [hx]; exact hL) (.inr (by rw [HSL.out, hx]; exact hlast))
                rw [hx] at this
                exact this)
              have hcm : ¬ (x.toNat : Int) ≤ ((S.data.toList.getD q 0).toNat : Int) := by omega
              clear hx h46 hL hlast
              generalize S.data.toList.getD q 0 = y at *
              have hsz1 : (S ++ ⟨#[x]⟩ : ByteArray).size = S.size + 1 := by rw [ByteArray.size_append]; rfl
              have HA1 : RowKit.Hid ((S ++ ⟨#[x]⟩ : ByteArray).data.toList = S.data.toList ++ [x]) := Lib.hid (by simp)
              have hcv := one_conv0 x wr
              have hcat : ¬ 9223372036854775807 < S.size + 1 := by omega
              have HS10 := Lib.hid hten0
              by_cases hten : S.size = 10
              · have HF : RowKit.Hid (letF s.data.toList = none) := Lib.hid (letF_many HL1.out HKL.out (by simp; omega))
                have hgt : (10 : Int) < (q : Int) + 1 + 1 := by omega
                clear hten
                go_wp2_with fail
                go_ret2
                exact ⟨by rw [HF.out]; rfl, bel_trans HW.out (hb.alloc hb.size _)⟩
              · have hgt : ¬ (10 : Int) < (S.size : Int) + 1 := by omega
                have HT10 : RowKit.Hid (S.size + 1 ≤ 10) := Lib.hid (by omega)
                clear hten
                go_wp2_with fail
                go_roundg (s.size - (k + 1))
                case measure => omega
                case rel => exact ⟨k + 1, _, by omega, rfl, by go_num, rfl, by rw [HA1.out]; exact HL1.out, by rw [hsz1]; exact HT10.out, hb.alloc hb.size _⟩
            · have HF : RowKit.Hid (letF s.data.toList = none) := Lib.hid (letF_none (letK_let_no HK.out (by rw [hx]; exact h46) (fun h => by
                rcases h.2 with h0 | h1
                · rw [HSL.out] at h0; omega
                · rw [HSL.out, hx] at h1; exact hlast h1)) HKL.out)
              have hcm : (x.toNat : Int) ≤ ((S.data.toList.getD q 0).toNat : Int) := by omega
              clear hx h46 hL hlast
              generalize S.data.toList.getD q 0 = y at *
              go_wp2_with fail
              go_ret2
              exact ⟨by rw [HF.out]; rfl, bel_trans HW.out hb⟩
        · have HF : RowKit.Hid (letF s.data.toList = none) := Lib.hid (letF_none (letK_let_no HK.out h46 (fun h => hL h.1)) HKL.out)
          have hn : ¬ (65 ≤ ((s.data.toList.getD k 0).toNat : Int) ∧ ((s.data.toList.getD k 0).toNat : Int) ≤ 90) := fun h => hL (by unfold isL_c; exact decide_eq_true h)
          clear h46 hL
          generalize s.data.toList.getD k 0 = x at *
          go_wp2_with fail
          go_ret2
          exact ⟨by rw [HF.out]; rfl, bel_trans HW.out hb⟩
    · have hke : k = s.size := by omega
      subst hke
      have hki : ¬ (s.size : Int) < (s.size : Int) := by omega
      by_cases hz : S.size = 0
      · have hS : S = ⟨#[]⟩ := by
          apply str_eq_list
          have : S.data.toList.length = 0 := by simpa using hz
          exact List.length_eq_zero_iff.1 this
        subst hS
        have HF : RowKit.Hid (letF s.data.toList = none) := Lib.hid (by rw [letF_end (by rw [HLEN.out]; exact HK.out), if_neg (by simp)])
        clear hz
        go_wp2_with fail
        go_ret2
        exact ⟨by rw [HF.out]; rfl, bel_trans HW.out hb⟩
      · have hne := toList_ne hz
        have hne2 : S.toList.isEmpty = false := by simpa using hne
        have HF : RowKit.Hid (letF s.data.toList = some S.data.toList) := Lib.hid (by
          have hSl : S.data.toList.length = S.size := by simp
          rw [letF_end (by rw [HLEN.out]; exact HK.out), if_pos (by omega)])
        clear hz
        go_wp2_with fail
        go_ret2
        exact ⟨by rw [HF.out]; rfl, bel_trans HW.out hb⟩
end Go.Proofs.YtmhhbnnjilbdnaaGreatDoor
