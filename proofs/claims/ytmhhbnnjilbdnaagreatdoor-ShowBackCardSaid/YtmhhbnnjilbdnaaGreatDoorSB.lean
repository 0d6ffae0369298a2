/- Small texts: numbers, days, times, flights' keys (program and reference). -/
import Derived.Test.YtmhhbnnjilbdnaaGreatDoorKA
import Derived.Test.YtmhhbnnjilbdnaaGreatDoorKB
import Derived.Test.YtmhhbnnjilbdnaaGreatDoorKF
import Derived.Test.YtmhhbnnjilbdnaaGreatDoorPlnP
import Derived.Test.YtmhhbnnjilbdnaaGreatDoorKG
import Derived.Test.YtmhhbnnjilbdnaaGreatDoorRows
import Derived.WalkKit
import Derived.WalkSpells
import Derived.WalkLawsBesides
import Derived.Lib.ConvBytes
import Derived.Lib.Hide
import Derived.Lib.SliceRun
import Derived.IntWalk
import Derived.BigQuiet
import Derived.Deep.QuietTactic
import Derived.Deep.RegionWith
import Derived.Deep.RegionHeld3
import Derived.Deep.LoopGhost
import Derived.Deep.CutRange
import Derived.Deep.CutBlock
import Derived.Deep.MidRow
import Derived.Laws.OwnMore
import Derived.OwnWalk
import Derived.Laws.AppendOwnNone
import Derived.Laws.Rows
import Derived.Laws.MakeOwn
import Derived.Laws.CopyOwn
import Derived.Laws.BitsAllLaws
import Derived.DeepKeys5
import Derived.Maps.OwnOps
import Derived.Handy
import Derived.Lib.AppendStr
import Derived.StillTailTactics
import Derived.Deep.AppendLies
import Derived.ProofKit
import Derived.OpenShut
import Derived.SliceStrings
import Derived.Lib.SmallJoins
import Derived.Deep.SlicePairs
import Derived.ChangeSlices
import Derived.WideKeyEntry
import Derived.Tactics2
import Derived.Defers
import Derived.Recover
import Derived.Shelf.Strconv.Itoa0
import Derived.Shelf.Strconv.Itoa1
import Derived.Shelf.LaysM
import Derived.Shelf.Strconv.Itoa2
import Derived.Shelf.Strconv.Itoa3
import Derived.Maps.AppendAt
import Derived.Lib.Bytealg
import Derived.Deep.RegionLaw
namespace Go.Proofs.YtmhhbnnjilbdnaaGreatDoor.Sh
open Go.RowKit En
set_option linter.unusedSimpArgs false
set_option linter.unusedVariables false
set_option maxRecDepth 20000

/-- The answer is a text. -/
def TxtE (l : List UInt8) (e : Ending) : Prop := ∃ s : ByteArray, e = .returned (.string s) ∧ toL s = l
theorem txt_size {s : ByteArray} {l : List UInt8} (h : toL s = l) : s.size = l.length := by rw [← h]; rfl
theorem toL_app (a b : ByteArray) : toL (a ++ b) = toL a ++ toL b := by simp [toL]
theorem toL_mk (l : List UInt8) : toL ⟨l.toArray⟩ = l := by simp [toL]
theorem toL_lit (a : Array UInt8) : toL ⟨a⟩ = a.toList := rfl

/-- What is told of an error's number. -/
def errL (e : Int) : List UInt8 := if e < 0 then [69, 63] else 69 :: digL e.toNat

theorem errno_any (k : Int) (w : World) (hk : (Lit.int .i64 k).wf = true) :
    Calls Tryz.prog 40 #[.int .i64 k] w fun e w' => TxtE (errL k) e ∧ Below w.heap.size w w' := by
  have hb63 : -9223372036854775808 ≤ k ∧ k ≤ 9223372036854775807 := by
    simp [Lit.wf, IntKind.min, IntKind.max, IntKind.signed, IntKind.bits] at hk
    omega
  clear hk
  by_cases hk0 : k < 0
  · go_enter Tryz.func40, Tryz.ntmps40
    go_wp2
    go_ret
    exact ⟨⟨_, rfl, by unfold errL; rw [if_pos hk0]; rfl⟩, Below.refl _ _⟩
  obtain ⟨N, rfl⟩ := Int.eq_ofNat_of_zero_le (by omega : 0 ≤ k)
  have hN : (N : Int) ≤ 9223372036854775807 := hb63.2
  clear hb63
  go_enter Tryz.func40, Tryz.ntmps40
  go_wp2
  go_loopw [3, 4] (fun x t wr => ∃ (n : Nat) (s : ByteArray), x = .int .i64 n ∧ t = .string s ∧ n ≤ N ∧ (s.size = 0 ∨ s.size + n + 8 ≤ N) ∧ RowKit.Hid (catA n s = digA N) ∧ Below w.heap.size w wr) (fun x _ _ => (intOf x).toNat)
  case atStart => exact ⟨N, ⟨#[]⟩, rfl, rfl, Nat.le_refl _, .inl rfl, Lib.hid (catA_start N), Below.refl _ _⟩
  case round =>
    obtain ⟨n, s, rfl, rfl, hnN, hsz, HC, hb⟩ := hrel
    obtain ⟨M, hM, hn63, hs63⟩ : ∃ M : Int, M ≤ 9223372036854775807 ∧ (n : Int) ≤ M ∧ (s.size : Int) + 4 ≤ M := ⟨9223372036854775807, Int.le_refl _, by omega, by omega⟩
    have HSZ := Lib.hid hsz
    clear hsz hN
    by_cases h : n < 10
    · have hc := dch_conv n (48 + (n : Int)) wr (by omega)
      have h9 : (n : Int) ≤ 9 := by omega
      have HR := Lib.hid (catA_end h s)
      go_wp2
      go_ret
      refine ⟨⟨_, rfl, ?_⟩, hb.alloc hb.size _⟩
      unfold errL
      rw [if_neg (show ¬ ((N : Int) < 0) by omega), toL_app, toL_app]
      have e1 : toL (⟨#[dch n]⟩ : ByteArray) ++ toL s = digL N := by
        rw [← toL_app, show (⟨#[dch n]⟩ : ByteArray) ++ s = catA n s from HR.out, HC.out]
        exact digA_list N
      rw [List.append_assoc, e1]
      rfl
    · have hc := dch_conv n (48 + (n : Int) % 10) wr rfl
      have h9 : 9 < (n : Int) := by omega
      have HS := Lib.hid (catA_step h s)
      go_wp2
      refine ⟨⟨n / 10, ⟨#[dch n]⟩ ++ s, by go_num, rfl, by omega, ?_, Lib.hid (by rw [HS.out]; exact HC.out), hb.alloc hb.size _⟩, by simp [intOf]; omega⟩
      rw [ByteArray.size_append]
      have hsz := HSZ.out
      show _ ∨ 1 + s.size + n / 10 + 8 ≤ N
      omega

theorem day_any (n : Int) (w : World) (ht : Da.LenTab w) : Calls Tryz.prog 30 #[.int .i64 n] w fun e w' => TxtE (dTx n) e ∧ Below w.heap.size w w' := by
  have H : RowKit.Hid (Calls Tryz.prog 56 #[.int .i64 n] w fun e w' => (∃ s z, e = .returned (.tuple #[.string s, .int .i64 z]) ∧ toL s = dTx n) ∧ Below w.heap.size w w') := Lib.hid ((Da.text_all n w ht).mono fun e w' ⟨he, hb⟩ => ⟨⟨_, _, he, by
    unfold Da.dS dTx
    split
    · exact Da.dA_list _
    · rfl⟩, hb⟩)
  go_enter Tryz.func30, Tryz.ntmps30
  go_wp2_with (go_at_call 56; (with_reducible refine H.out.mono ?_); rintro e w1 ⟨⟨s, z, rfl, hs⟩, hb1⟩)
  go_ret
  exact ⟨⟨s, rfl, hs⟩, hb1⟩
theorem clock_anyS (n : Int) (w : World) : Calls Tryz.prog 45 #[.int .i64 n] w fun e w' => TxtE (cTx n) e ∧ Below w.heap.size w w' := by
  have H : RowKit.Hid (Calls Tryz.prog 74 #[.int .i64 n] w fun e w' => (∃ s z, e = .returned (.tuple #[.string s, .int .i64 z]) ∧ toL s = cTx n) ∧ Below w.heap.size w w') := Lib.hid ((Da.clock_all n w).mono fun e w' ⟨he, hb⟩ => ⟨⟨_, _, he, by
    unfold Da.cS cTx
    split
    · exact Da.cA_list _
    · rfl⟩, hb⟩)
  go_enter Tryz.func45, Tryz.ntmps45
  go_wp2_with (go_at_call 74; (with_reducible refine H.out.mono ?_); rintro e w1 ⟨⟨s, z, rfl, hs⟩, hb1⟩)
  go_ret
  exact ⟨⟨s, rfl, hs⟩, hb1⟩
/-- Any number, as a text. -/
theorem itoa_t (n : Int) (hn : (Lit.int .i64 n).wf = true) (w : World) (ht : PowTab w) : Calls Tryz.prog 28 #[.int .i64 n] w fun e w' => TxtE (itoaL n) e ∧ Below w.heap.size w w' :=
  (itoa_m n hn w ht).mono fun e w' ⟨he, hb⟩ => ⟨⟨_, he, toL_mk _⟩, hb⟩
end Go.Proofs.YtmhhbnnjilbdnaaGreatDoor.Sh
