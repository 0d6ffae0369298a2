/- Contracts of the functions of package code and of its reference that look at one byte, and at all bytes of a text. -/
import Derived.Test.YtlaieijlengojaaRows
import Derived.WalkKit
import Derived.WalkSpells
import Derived.WalkLawsBesides
import Derived.Lib.ConvBytes
import Derived.Lib.Hide
import Derived.IntWalk
import Derived.BigQuiet
import Derived.Deep.QuietTactic
namespace Go.Proofs.Ytlaieijlengojaa
open Go.RowKit

theorem ret_bool {a b : Bool} (h : a = b) : Ending.returned (.bool a) = .returned (.bool b) := by rw [h]
theorem ret_int {k : IntKind} {a b : Int} (h : a = b) : Ending.returned (.int k a) = .returned (.int k b) := by rw [h]

/-- Is a byte a great letter? -/
def isL (c : Int) : Bool := decide (65 ≤ c ∧ c ≤ 90)
/-- Is a byte a digit? -/
def isD (c : Int) : Bool := decide (48 ≤ c ∧ c ≤ 57)
/-- The same of a byte. -/
def bL (b : UInt8) : Bool := isL (b.toNat : Int)
def bD (b : UInt8) : Bool := isD (b.toNat : Int)

theorem byte_hi (b : UInt8) : (b.toNat : Int) ≤ 255 := by have := b.toNat_lt; omega

theorem letter_any (c : Int) (w : World) (h0 : 0 ≤ c) (h1 : c ≤ 255) :
    Calls Try.prog 57 #[.int .u8 c] w fun e w' => e = .returned (.bool (isL c)) ∧ w = w' := by
  go_enter Try.func57, Try.ntmps57
  go_wp2
  go_ret
  exact ⟨ret_bool (by unfold isL; apply decide_eq_decide.2; omega), rfl⟩

theorem digit_any (c : Int) (w : World) (h0 : 0 ≤ c) (h1 : c ≤ 255) :
    Calls Try.prog 58 #[.int .u8 c] w fun e w' => e = .returned (.bool (isD c)) ∧ w = w' := by
  go_enter Try.func58, Try.ntmps58
  go_wp2
  go_ret
  exact ⟨ret_bool (by unfold isD; apply decide_eq_decide.2; omega), rfl⟩

theorem class_any (c : Int) (w : World) (h0 : 0 ≤ c) (h1 : c ≤ 255) :
    Calls Try.prog 41 #[.int .u8 c] w fun e w' => e = .returned (.bool (isL c)) ∧ w = w' := by
  go_enter Try.func41, Try.ntmps41
  go_wp2_with (go_at_call 57; refine (letter_any _ _ h0 h1).mono ?_; rintro e w' ⟨rfl, rfl⟩)
  go_ret
  exact ⟨rfl, rfl⟩

theorem refLetter_any (c : Int) (w : World) (h0 : 0 ≤ c) (h1 : c ≤ 255) :
    Calls Try.prog 60 #[.int .u8 c] w fun e w' => e = .returned (.bool (isL c)) ∧ w = w' := by
  go_enter Try.func60, Try.ntmps60
  go_wp2
  all_goals
    go_ret
    exact ⟨ret_bool (by unfold isL; first | (symm; apply decide_eq_true; omega) | (symm; apply decide_eq_false; omega) | (apply decide_eq_decide.2; omega)), rfl⟩

theorem refDigit_any (c : Int) (w : World) (h0 : 0 ≤ c) (h1 : c ≤ 255) :
    Calls Try.prog 61 #[.int .u8 c] w fun e w' => e = .returned (.bool (isD c)) ∧ w = w' := by
  go_enter Try.func61, Try.ntmps61
  go_wp2
  all_goals
    go_ret
    exact ⟨ret_bool (by unfold isD; first | (symm; apply decide_eq_true; omega) | (symm; apply decide_eq_false; omega) | (apply decide_eq_decide.2; omega)), rfl⟩

/-- What the walk knows behind '[]byte(s)'. -/
theorem bytes_conv (s : ByteArray) (w : World) : ∃ w1 : World, ∃ cap : Nat, (convert 9 54 (.string s)).run Try.prog w = .ok (.slice (some ⟨w.heap.size, 0, none⟩) s.size cap) w1 ∧
    Below w.heap.size w w1 ∧ w1.heap.size = w.heap.size + 1 ∧ ∀ j, j < s.size → w1.cell? ⟨w.heap.size, j, none⟩ = some (.int .u8 (s.data.toList.getD j 0).toNat) := by
  refine ⟨_, _, Lib.run_convert_string_bytes (P := Try.prog) w 9 54 5 s Try.underlying9 Try.underlying54 Try.underlying5, ?_, Lib.bytesWorld_size _ _ _, fun j hj => Lib.bytesWorld_cell _ _ _ _ hj⟩
  exact ⟨rfl, rfl, rfl, by rw [Lib.bytesWorld_size]; omega, fun i hi => Lib.bytesWorld_at_old _ _ _ _ hi⟩

end Go.Proofs.Ytlaieijlengojaa
