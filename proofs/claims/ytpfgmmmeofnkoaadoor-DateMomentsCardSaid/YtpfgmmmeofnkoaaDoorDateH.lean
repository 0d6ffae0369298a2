/- The contracts of ReadClock and of the reference's ReadClock. -/
import Derived.Test.YtpfgmmmeofnkoaaDoorDateG
namespace Go.Proofs.YtpfgmmmeofnkoaaDoor
open Go.RowKit

def clk (x y : Int) : Option Nat := if 0 ≤ x ∧ x ≤ 23 ∧ 0 ≤ y ∧ y ≤ 59 then some (x.toNat * 60 + y.toNat) else none
theorem readC_clk {l : List UInt8} (h : l.length = 4) : readC l = clk (numS (l.take 2)) (numS (l.drop 2)) := by
  unfold readC clk
  rw [if_pos h]

set_option maxHeartbeats 1000000 in
theorem readClock_any (s : ByteArray) (w : World) :
    Calls Tryd.prog 17 #[.string s] w fun e w' => e = .returned (.tuple #[.int .i64 (optI (readC s.data.toList)), .bool (readC s.data.toList).isSome]) ∧ Below w.heap.size w w' := by
  have hlen : s.data.toList.length = s.size := by simp
  by_cases h4 : s.size = 4
  · have hne : ((s.size : Int) != 4) = false := by rw [h4]; rfl
    have e : readC s.data.toList = clk (numS (s.extract 0 2).data.toList) (numS (s.extract 2 s.size).data.toList) := by
      have h1 : (s.extract 2 s.size).data.toList = s.data.toList.drop 2 := by
        simp
        exact List.take_of_length_le (by simp)
      have h2 : (s.extract 0 2).data.toList = s.data.toList.take 2 := by simp
      rw [h1, h2]
      exact readC_clk (by rw [hlen, h4])
    have hn1 := fun W => number_q (s.extract 0 2) W
    have hn2 := fun W => number_q (s.extract 2 s.size) W
    rw [e]
    clear e
    obtain ⟨x1, x2⟩ := numS_hi (s.extract 0 2).data.toList
    obtain ⟨y1, y2⟩ := numS_hi (s.extract 2 s.size).data.toList
    generalize numS (s.extract 0 2).data.toList = x at hn1 x1 x2 ⊢
    generalize numS (s.extract 2 s.size).data.toList = y at hn2 y1 y2 ⊢
    have g5 : (2 : Int) ≤ (s.size : Int) := by omega
    have g6 : 2 ≤ s.size := by omega
    have N1 := Lib.hid hn1
    have N2 := Lib.hid hn2
    clear hn1 hn2 h4 hlen
    by_cases hx0 : x < 0
    · have e : clk x y = none := by unfold clk; rw [if_neg (by omega)]
      have E := Lib.hid e
      clear e
      go_enter Tryd.func17, Tryd.ntmps17
      go_wp2_with fail
      go_quiet (first | (go_at_call 25; (with_reducible refine Calls.quiet_of (N1.out _))) | (go_at_call 25; (with_reducible refine Calls.quiet_of (N2.out _))))
      go_wp2
      go_ret2
      exact ⟨by rw [E.out]; rfl, below_drewN (Below.refl _ _) _⟩
    by_cases hx1 : 23 < x
    · have e : clk x y = none := by unfold clk; rw [if_neg (by omega)]
      have E := Lib.hid e
      clear e
      go_enter Tryd.func17, Tryd.ntmps17
      go_wp2_with fail
      go_quiet (first | (go_at_call 25; (with_reducible refine Calls.quiet_of (N1.out _))) | (go_at_call 25; (with_reducible refine Calls.quiet_of (N2.out _))))
      go_wp2
      go_ret2
      exact ⟨by rw [E.out]; rfl, below_drewN (Below.refl _ _) _⟩
    by_cases hy0 : y < 0
    · have e : clk x y = none := by unfold clk; rw [if_neg (by omega)]
      have E := Lib.hid e
      clear e
      go_enter Tryd.func17, Tryd.ntmps17
      go_wp2_with fail
      go_quiet (first | (go_at_call 25; (with_reducible refine Calls.quiet_of (N1.out _))) | (go_at_call 25; (with_reducible refine Calls.quiet_of (N2.out _))))
      go_wp2
      go_ret2
      exact ⟨by rw [E.out]; rfl, below_drewN (Below.refl _ _) _⟩
    by_cases hy1 : 59 < y
    · have e : clk x y = none := by unfold clk; rw [if_neg (by omega)]
      have E := Lib.hid e
      clear e
      go_enter Tryd.func17, Tryd.ntmps17
      go_wp2_with fail
      go_quiet (first | (go_at_call 25; (with_reducible refine Calls.quiet_of (N1.out _))) | (go_at_call 25; (with_reducible refine Calls.quiet_of (N2.out _))))
      go_wp2
      go_ret2
      exact ⟨by rw [E.out]; rfl, below_drewN (Below.refl _ _) _⟩
    have e : clk x y = some (x.toNat * 60 + y.toNat) := by unfold clk; rw [if_pos (by omega)]
    have e2 : x * 60 + y = ((x.toNat * 60 + y.toNat : Nat) : Int) := by omega
    have E := Lib.hid e
    have E2 := Lib.hid e2
    clear e e2
    go_enter Tryd.func17, Tryd.ntmps17
    go_wp2_with fail
    go_quiet (first | (go_at_call 25; (with_reducible refine Calls.quiet_of (N1.out _))) | (go_at_call 25; (with_reducible refine Calls.quiet_of (N2.out _))))
    go_wp2
    go_ret2
    refine ⟨?_, below_drewN (Below.refl _ _) _⟩
    rw [E.out]
    show Ending.returned (.tuple #[.int .i64 (x * 60 + y), .bool true]) = .returned (.tuple #[.int .i64 ((x.toNat * 60 + y.toNat : Nat) : Int), .bool true])
    rw [E2.out]
  · have hne : ((s.size : Int) != 4) = true := by rw [bne_iff_ne]; omega
    have e : readC s.data.toList = none := by unfold readC; rw [if_neg (by rw [hlen]; exact h4)]
    have E := Lib.hid e
    clear e h4 hlen
    go_enter Tryd.func17, Tryd.ntmps17
    go_wp2
    go_ret2
    exact ⟨by rw [E.out]; rfl, Below.refl _ _⟩
end Go.Proofs.YtpfgmmmeofnkoaaDoor
