/- The law QueuePlays. -/
import Derived.Test.YtpfgmmmeofnkoaaQOpenA
import Derived.OwnWalk
namespace Go.Proofs.Ytpfgmmmeofnkoaa
open Go.RowKit

/-- Two texts that a list is read from are the same list: SameTexts is true. -/
theorem same_true (a : List ByteArray) (va vb : Value) (w : World) (ha : HasL w va a) (hb : HasL w vb a) (hl : a.length ≤ 1000000) :
    Calls Try.prog 11 #[va, vb] w fun e w' => e = .returned (.bool true) ∧ Below w.heap.size w w' := by
  have h := same_any a a va vb w ha hb hl hl
  simpa using h

theorem OwnL.grown {w w' : World} {B : Nat} {v : Value} {l : List ByteArray} {row : Option Nat} (h : OwnL w B v l) (hg : w.grownBy w' row) (hne : v.ownBlock = none ∨ v.ownBlock ≠ row) : OwnL w' B v l := World.ownsRow.kept h hg hne

theorem remL_len (l : List ByteArray) (s : ByteArray) : (remL l s).length ≤ l.length := by
  unfold remL
  split
  · simp
  · simp [cutL]; omega

theorem putL_len (l : List ByteArray) (s : ByteArray) : (putL l s).length ≤ 40 := by
  unfold putL
  split
  · have := putE_room (by assumption); simp; omega
  · simp

theorem nextL_len (l : List ByteArray) : (nextL l).length = l.length := by
  cases l <;> simp [nextL]
end Go.Proofs.Ytpfgmmmeofnkoaa
