/- The law ScanPlays: the walk. -/
import Derived.Test.YtlaieijlengojaaScanK
import Derived.Deep.LoopGhost
namespace Go.Proofs.Ytlaieijlengojaa
open Go.RowKit

theorem cell_belA {w wr : World} {p : Addr} {u : Value} (hb : Below w.heap.size w wr) (h : w.cell? p = some u) : wr.cell? p = some u :=
  (hb.cell (World.block_lt_of_cell? w p h)).trans h

set_option maxRecDepth 100000 in
set_option maxHeartbeats 16000000 in
theorem scanPlays_walk (s : ByteArray) (hs : s.size ≤ maxLen) (p : Int) (_hp : (Lit.int .i64 p).wf = true) (va : Value) (a : Nat × (Nat → Int) × (Nat → Int) × (Nat → ByteArray)) (w : World) (ha : Acts w va a) :
    Calls Try.prog 9 #[.string s, .int .i64 p, va] w fun e w' => e = .returned (.bool true) ∧ Below w.heap.size w w' := by
  have HA : RowKit.Hid (∀ W, Calls Try.prog 14 #[] W fun e w' => e = .returned (.bool true) ∧ Below W.heap.size W w') := Lib.hid fun W => awake_scan W
  obtain ⟨n, K, N, S⟩ := a
  obtain ⟨pa, ca, rfl, hnm, hact⟩ := ha
  have HACT := Lib.hid hact
  unfold maxLen at hnm hs
  clear hact
  by_cases h1 : 5000 < s.size
  · have g1 : (5000 : Int) < (s.size : Int) := by omega
    clear h1
    go_enter Try.func9, Try.ntmps9
    go_wp2_with (first
      | (go_at_call 14; (with_reducible refine (HA.out _).mono ?_); rintro e w1 ⟨rfl, hb1⟩))
    go_ret
    exact ⟨rfl, hb1⟩
  have g1 : ¬ (5000 : Int) < (s.size : Int) := by omega
  by_cases h2 : 200 < n
  · have g2 : (200 : Int) < (n : Int) := by omega
    clear h1 h2
    go_enter Try.func9, Try.ntmps9
    go_wp2_with (first
      | (go_at_call 14; (with_reducible refine (HA.out _).mono ?_); rintro e w1 ⟨rfl, hb1⟩))
    go_ret
    exact ⟨rfl, hb1⟩
  have g2 : ¬ (200 : Int) < (n : Int) := by omega
  have hs5 : s.size ≤ 5000 := by omega
  go_enter Try.func9, Try.ntmps9
  go_wp2_with (first
    | (go_at_call 14; (with_reducible refine (HA.out _).mono ?_); rintro e w1 ⟨rfl, hb1⟩))
  go_loopg [8] n (fun g i wr => ∃ (k : Nat) (p' : Int), k ≤ n ∧ g = n - k ∧ i = .int .i64 k ∧ Below w.heap.size w wr ∧ Cur wr w1.heap.size s p')
  case atStart => exact ⟨0, p, Nat.zero_le _, rfl, rfl, hb1.alloc hb1.size _, Cur.new _ _ _⟩
  case round =>
    obtain ⟨k, p', hk, rfl, rfl, hb, hc⟩ := hrel
    by_cases hlt : k < n
    · have hki : (k : Int) < (n : Int) := by omega
      have hk0 : (0 : Int) ≤ (k : Int) := by omega
      obtain ⟨b2, off2, rfl, c1, c2, c3, _, _, hsz⟩ := HACT.out k hlt
      have c1 := cell_belA hb c1
      have c2 := cell_belA hb c2
      have c3 := cell_belA hb c3
      have HC := Lib.hid hc
      have HPL : RowKit.Hid (∀ (kd nn : Int) (q : ByteArray), q.size ≤ maxLen → _) := Lib.hid fun kd nn q hq => play_any w1.heap.size s p' kd nn q wr hs5 hq hc
      generalize K k = kd at *
      generalize N k = nn at *
      generalize S k = q at *
      clear hc
      go_wp2_with (first
        | (go_at_call 24; refine (HPL.out _ _ _ hsz).mono ?_; rintro e w3 ⟨rfl, ⟨p3, hc3⟩, hg3⟩; have m1 := hc3.text))
      go_roundg (n - (k + 1))
      case measure => omega
      case rel => exact ⟨k + 1, p3, by omega, rfl, by go_num, bel_gr hb hb.size hg3 hb1.size, hc3⟩
    · have hkn : k = n := by omega
      subst hkn
      go_wp2
      go_ret
      exact ⟨rfl, hb⟩
end Go.Proofs.Ytlaieijlengojaa
