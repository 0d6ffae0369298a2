/- Seats in bits. -/
import Derived.Test.YtjahkaidinahpaaDoorFG
import Derived.Laws.BitsAllLaws
namespace Go.Proofs.YtjahkaidinahpaaDoor
open Go.RowKit Go.ChangeMaps
set_option linter.unusedSimpArgs false
set_option linter.unusedVariables false
set_option maxRecDepth 20000

theorem bits_seat {p r k : Nat} (hp : p < 16) (hr : r < 128) (hk : k < 32) : bits .or .u16 (bits .or .u16 ((p : Int) * 4096) ((r : Int) * 32)) (k : Int) = ((p * 4096 + r * 32 + k : Nat) : Int) := by
  have e1 : (p : Int) * 4096 = ((p * 4096 : Nat) : Int) := by omega
  have e2 : (r : Int) * 32 = ((r * 32 : Nat) : Int) := by omega
  have o1 : p * 4096 ||| r * 32 = p * 4096 + r * 32 := by
    have := or_add (acc := r * 32) (y := p) (m := 12) (by omega)
    rw [Nat.or_comm, show p * 4096 = p * 2 ^ 12 from rfl, this]
    omega
  have o2 : (p * 4096 + r * 32) ||| k = p * 4096 + r * 32 + k := by
    have := or_add (acc := k) (y := p * 128 + r) (m := 5) (by omega)
    rw [Nat.or_comm, show p * 4096 + r * 32 = (p * 128 + r) * 2 ^ 5 by omega, this]
    omega
  rw [e1, e2, u16_or_nat _ _ (by omega) (by omega), o1, u16_or_nat _ _ (by omega) (by omega), o2]

theorem and_seat {n : Nat} (hn : n < 65536) : bits .and .u16 ((n : Int) / 32) 127 = ((n / 32 % 128 : Nat) : Int) ∧ bits .and .u16 (n : Int) 31 = ((n % 32 : Nat) : Int) := by
  constructor
  · rw [show (n : Int) / 32 = ((n / 32 : Nat) : Int) by omega, show (127 : Int) = ((127 : Nat) : Int) from rfl, u16_and_nat _ _ (by omega) (by omega)]
    congr 1
    exact Nat.and_two_pow_sub_one_eq_mod (n / 32) 7
  · rw [show (31 : Int) = ((31 : Nat) : Int) from rfl, u16_and_nat _ _ (by omega) (by omega)]
    congr 1
    exact Nat.and_two_pow_sub_one_eq_mod n 5

/-- A value and a row come back. -/
theorem results_tmp_row {P : Program} {fn : Func} {p q : Tmp} {ty : TypeId} (h : fn.results = #[.tmp q, .cell p ty]) (tmps : Array Value) (w : World) (g : Nat) (t : TypeId) (cs : List Value) (d : TypeDesc)
    (hp : tmps.getD p undef = .pointer (some ⟨g, 0, none⟩)) (hg : Blk w g t cs)
    (hu : P.underlying ty = some d) (hd : (match d with | .struct _ | .array _ _ => true | _ => false) = true) (hi : (P.info? ty).map (·.size) = some cs.length) :
    (results fn tmps).run P w = .ok (.tuple #[tmps.getD q undef, .agg cs.toArray]) w := by
  have hp' : tmps[p]?.getD undef = .pointer (some ⟨g, 0, none⟩) := by simpa using hp
  simp [results, h, hp', asAddr, run_loadVar_row w g t ty cs.toArray (0, 0) d hg hu hd (by simpa using hi)]

theorem packed_any (pax row : Int) (c : UInt8) (w : World) (h1 : 1 ≤ pax) (h2 : pax ≤ 9) (h3 : 1 ≤ row) (h4 : row ≤ 99) (h5 : bL c = true) :
    Calls Tryd.prog 76 #[.int .i64 pax, .agg #[.int .i64 row, .int .u8 c.toNat]] w fun e w' => e = .returned (.int .i64 (bitsN pax row c : Nat)) ∧ Below w.heap.size w w' := by
  obtain ⟨w1, e1, a0, a1, hb1, hz1⟩ := seat_boxed w row c
  obtain ⟨k1, k2⟩ := bL_lo h5
  go_enter Tryd.func76, Tryd.ntmps76
  go_wp2
  go_ret
  refine ⟨ret_int ?_, hb1⟩
  obtain ⟨p, rfl⟩ := Int.eq_ofNat_of_zero_le (show 0 ≤ pax by omega)
  obtain ⟨r, rfl⟩ := Int.eq_ofNat_of_zero_le (show 0 ≤ row by omega)
  obtain ⟨k, hk⟩ := Int.eq_ofNat_of_zero_le (show 0 ≤ (c.toNat : Int) - 65 by omega)
  rw [hk, bits_seat (by omega) (by omega) (by omega), IntWalk.wrap64_in _ (by omega)]
  unfold bitsN
  omega

theorem unpacked_any (n : Nat) (w : World) (h : n < 65536) :
    Calls Tryd.prog 81 #[.int .i64 n] w fun e w' => e = .returned (.tuple #[.int .i64 (n / 4096 : Nat), .agg #[.int .i64 (n / 32 % 128 : Nat), .int .u8 (UInt8.ofNat (65 + n % 32)).toNat]]) ∧ Below w.heap.size w w' := by
  go_enter Tryd.func81, Tryd.ntmps81
  go_wp2
  obtain ⟨e1, e2⟩ := and_seat h
  have e3 : (n : Int) % 32 = ((n % 32 : Nat) : Int) := by omega
  refine bodyPost_ret (results_tmp_row rfl _ _ w.heap.size 39 [.int .i64 (n / 32 % 128 : Nat), .int .u8 (UInt8.ofNat (65 + n % 32)).toNat] _ rfl ?_ Tryd.underlying39 rfl info_seat2) rfl ⟨?_, (Below.refl _ _).alloc (Nat.le_refl _) _⟩
  · rw [e1, e2, IntWalk.wrap64_in _ (by omega), show (65 + ((n % 32 : Nat) : Int)) % 256 = ((UInt8.ofNat (65 + n % 32)).toNat : Int) by rw [UInt8.toNat_ofNat']; omega]
    exact Blk.new w _ _
  · show Ending.returned (.tuple #[.int .i64 ((n : Int) / 4096), _]) = _
    rw [show (n : Int) / 4096 = ((n / 4096 : Nat) : Int) by omega]

theorem seatBits_any (pax row : Int) (c : UInt8) (w : World) (h1 : 1 ≤ pax) (h2 : pax ≤ 9) (h3 : 1 ≤ row) (h4 : row ≤ 99) (h5 : bL c = true) :
    Calls Tryd.prog 79 #[.int .i64 pax, .agg #[.int .i64 row, .int .u8 c.toNat]] w fun e w' => e = .returned (.int .i64 (bitsN pax row c : Nat)) ∧ Below w.heap.size w w' := by
  obtain ⟨w1, e1, a0, a1, hb1, hz1⟩ := seat_boxed w row c
  obtain ⟨k1, k2⟩ := bL_lo h5
  go_enter Tryd.func79, Tryd.ntmps79
  go_wp2
  go_ret
  refine ⟨ret_int ?_, hb1⟩
  unfold bitsN
  omega
end Go.Proofs.YtjahkaidinahpaaDoor
