/- queue.Put, queue.Next. -/
import Derived.Test.YtpfgmmmeofnkoaaQListA
namespace Go.Proofs.Ytpfgmmmeofnkoaa
open Go.RowKit

/-- What Put refuses with. -/
def putE (l : List ByteArray) (s : ByteArray) : Int :=
  if lettersS s.data.toList 6 6 = false then 4 else if 0 ≤ atL l s then 8 else if 40 ≤ l.length then 6 else 0

/-- What Put gives. -/
def putL (l : List ByteArray) (s : ByteArray) : List ByteArray := if putE l s = 0 then l ++ [s] else []

theorem own_low {w : World} {base base' : Nat} {e : TypeId} {size : Nat} {v : Value} {n : Nat} {xs : List Value} (h : w.ownsRow base e size v n xs) (hb : base' ≤ base) : w.ownsRow base' e size v n xs := by
  refine ⟨h.1, ?_⟩
  rcases h.2 with h2 | ⟨g, cap, cur, e1, e2, r⟩
  · exact .inl h2
  · exact .inr ⟨g, cap, cur, e1, Nat.le_trans hb e2, r⟩

/-- 'v' is a slice of texts in memory from B on, or nil. -/
def OwnL (w : World) (B : Nat) (v : Value) (l : List ByteArray) : Prop := w.ownsRow B 9 1 v l.length (strV l)

theorem OwnL.nil (w : World) (B : Nat) : OwnL w B (.slice none 0 0) [] := World.ownsRow_nil _ _ _ _

theorem OwnL.has {w : World} {B : Nat} {v : Value} {l : List ByteArray} (h : OwnL w B v l) : HasL w v l := HasL.own h

theorem OwnL.low {w : World} {B B' : Nat} {v : Value} {l : List ByteArray} (h : OwnL w B v l) (hb : B' ≤ B) : OwnL w B' v l := own_low h hb

theorem OwnL.mono {w w' : World} {B : Nat} {v : Value} {l : List ByteArray} (h : OwnL w B v l) (hb : Below w.heap.size w w') : OwnL w' B v l := by
  have hg : w.grownBy w' none := gr_of_below hb none
  refine World.ownsRow.kept h hg ?_
  cases hv : v.ownBlock <;> simp

set_option maxHeartbeats 4000000 in
theorem put_any (l : List ByteArray) (v : Value) (s : ByteArray) (w : World) (hv : HasL w v l) (hl : l.length ≤ 1000000) (hs : s.size ≤ maxLen) :
    Calls Try.prog 16 #[v, .string s] w fun e w' => ∃ v', e = .returned (.tuple #[v', .int .i64 (putE l s)]) ∧ OwnL w' w.heap.size v' (putL l s) ∧ Below w.heap.size w w' := by
  have CL := fun W => locator_any s W hs
  have hp : putL l s = if putE l s = 0 then l ++ [s] else [] := rfl
  cases hL : lettersS s.data.toList 6 6
  · have he : putE l s = 4 := by rw [putE, if_pos hL]
    rw [he] at hp
    rw [he, hp, if_neg (by decide)]
    simp only [hL] at CL
    have H : RowKit.Hid (HasL w v l) := Lib.hid hv
    clear hv he hp hL
    go_enter Try.func16, Try.ntmps16
    go_wp2_with (go_at_call 25; refine (CL _).mono ?_; rintro e w' ⟨rfl, hb⟩)
    go_ret2
    exact ⟨_, rfl, OwnL.nil _ _, hb⟩
  · simp only [hL] at CL
    have CC : ∀ W, HasL W v l → Calls Try.prog 26 #[v, .string s] W fun e w' => e = .returned (.bool (decide (0 ≤ atL l s))) ∧ W = w' := fun W h => contains_any l v s W h hl
    by_cases hat : 0 ≤ atL l s
    · have he : putE l s = 8 := by rw [putE, if_neg (by rw [hL]; decide), if_pos hat]
      rw [he] at hp
      rw [he, hp, if_neg (by decide)]
      simp only [hat, decide_true] at CC
      have H := Lib.hid hv
      have HC := Lib.hid CC
      clear hv he hp hL hat CC
      go_enter Try.func16, Try.ntmps16
      go_wp2_with (first | (go_at_call 25; refine (CL _).mono ?_; rintro e w' ⟨rfl, hb⟩) | (go_at_call 26; refine (HC.out _ (H.out.mono hb)).mono ?_; rintro e w2 ⟨rfl, rfl⟩))
      go_ret2
      exact ⟨_, rfl, OwnL.nil _ _, hb⟩
    · have hC2 := hat
      simp only [hat, decide_false] at CC
      have H := Lib.hid hv
      have HC := Lib.hid CC
      clear CC
      have hlen : ∃ p c, v = .slice p l.length c := by
        rcases hv with ⟨_, _, rfl, rfl, _⟩ | ⟨b, off, c, rfl, _⟩
        · exact ⟨_, _, rfl⟩
        · exact ⟨_, _, rfl⟩
      obtain ⟨p, c, rfl⟩ := hlen
      clear hv
      by_cases h40 : 40 ≤ l.length
      · have he : putE l s = 6 := by rw [putE, if_neg (by rw [hL]; decide), if_neg hat, if_pos h40]
        rw [he] at hp
        rw [he, hp, if_neg (by decide)]
        have h40i : (40 : Int) ≤ (l.length : Int) := by omega
        clear he hp hL hat hC2
        go_enter Try.func16, Try.ntmps16
        go_wp2_with (first | (go_at_call 25; refine (CL _).mono ?_; rintro e w' ⟨rfl, hb⟩) | (go_at_call 26; refine (HC.out _ (H.out.mono hb)).mono ?_; rintro e w2 ⟨rfl, rfl⟩))
        go_ret2
        exact ⟨_, rfl, OwnL.nil _ _, hb⟩
      · have he : putE l s = 0 := by rw [putE, if_neg (by rw [hL]; decide), if_neg hat, if_neg h40]
        rw [he] at hp
        rw [he, hp, if_pos rfl]
        have h40i : ¬ (40 : Int) ≤ (l.length : Int) := by omega
        have CK : ∀ W, HasL W (.slice p l.length c) l → _ := fun W h => clone_any l (.slice p l.length c) W h hl
        have HK := Lib.hid CK
        obtain ⟨i0, hi, hz0, hz1, hz2⟩ := str_info
        clear he hp hL hat hC2 CK
        go_enter Try.func16, Try.ntmps16
        go_wp2_with (first | (go_at_call 25; refine (CL _).mono ?_; rintro e w' ⟨rfl, hb⟩) | (go_at_call 26; refine (HC.out _ (H.out.mono hb)).mono ?_; rintro e w2 ⟨rfl, rfl⟩) | (go_at_call 21; refine (HK.out _ (H.out.mono hb)).mono ?_; rintro e w3 ⟨v3, rfl, hown, hb3⟩) | (at_builtin; refine wpList_push rfl _ _ 22 rfl w'.heap.size 9 i0 (.string ⟨#[]⟩) 16 Try.underlying22 hi hz0 hz1 hz2 rfl _ _ _ rfl hown _ rfl rfl (by unfold maxLen; omega) (by omega) hb3.size ?_; intro v' w4 hown' hb' _))
        go_ret2
        refine ⟨_, rfl, ?_, hb.trans ((hb3.trans hb').mono hb.size)⟩
        have e1 : (l ++ [s]).length = l.length + 1 := by simp
        have e2 : strV (l ++ [s]) = strV l ++ [.string s] := by simp [strV]
        unfold OwnL
        rw [e1, e2]
        exact own_low hown' hb.size
end Go.Proofs.Ytpfgmmmeofnkoaa
