/- Entries: the walk of EntryMore (printed by gen_nt.py). -/
import Derived.Test.YtjahkaidinahpaaDoorNU
import Derived.Test.YtjahkaidinahpaaDoorNV
import Derived.Test.YtjahkaidinahpaaDoorNW
namespace Go.Proofs.YtjahkaidinahpaaDoor.En
open Go Go.RowKit
set_option linter.unusedSimpArgs false
set_option linter.unusedVariables false
set_option maxRecDepth 100000

theorem more_walk (s : ByteArray) (hs : s.size ≤ maxLen) (x : UInt8) (w : World) (ht : Da.LenTab w) (hp : PowTab w) :
    Calls Tryd.prog 9 #[.string s, .int .u8 x.toNat] w fun e w' => e = .returned (.bool true) ∧ Below w.heap.size w w' := by
  cases hr : parse (toL s) with
  | error f => obtain ⟨k, p⟩ := f; exact more_err s hs x w ht hp k p hr
  | ok c =>
    by_cases hl : 255 ≤ s.size
    · exact more_long s hs x w ht hp c hr hl
    · cases hr2 : parse (toL s ++ [x]) with
      | ok d => exact more_two s hs x w ht hp c d hr hl hr2
      | error f =>
        obtain ⟨k, p⟩ := f
        by_cases hkd : c.kind = 6 ∨ c.kind = 9 ∨ c.kind = 10
        · exact more_fr s hs x w ht hp c hr hl k p hr2 hkd
        · exact more_rest s hs x w ht hp c hr hl k p hr2 hkd
theorem more_card (s : ByteArray) (hs : s.size ≤ maxLen) (b : Int) (hb : (Lit.int .u8 b).wf = true) (w : World) (ht : Da.LenTab w) (hp : PowTab w) :
    Calls Tryd.prog 9 #[.string s, .int .u8 b] w fun e w' => e = .returned (.bool true) ∧ Below w.heap.size w w' := by
  have h : 0 ≤ b ∧ b ≤ 255 := by
    have h := hb
    simp [Lit.wf, IntKind.min, IntKind.max, IntKind.signed, IntKind.bits] at h
    omega
  obtain ⟨n, rfl⟩ := Int.eq_ofNat_of_zero_le h.1
  have e : ((UInt8.ofNat n).toNat : Int) = (n : Int) := by
    have : (UInt8.ofNat n).toNat = n := by rw [UInt8.toNat_ofNat']; omega
    rw [this]
  rw [← e]
  exact more_walk s hs _ w ht hp

end Go.Proofs.YtjahkaidinahpaaDoor.En
