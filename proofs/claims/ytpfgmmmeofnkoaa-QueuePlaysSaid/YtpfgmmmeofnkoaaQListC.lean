/- queue.Next. -/
import Derived.Test.YtpfgmmmeofnkoaaQListB
import Derived.Deep.RegionHeld3
import Derived.Deep.AppendLies
namespace Go.Proofs.Ytpfgmmmeofnkoaa
open Go.RowKit

/-- The first one goes behind all others. -/
def nextL (l : List ByteArray) : List ByteArray := match l with | [] => [] | a :: t => t ++ [a]

theorem held_below {w W W' : World} {p : Addr} {u : Value} (h : W.cell? p = some u ∧ Below w.heap.size w W) (hb : Below W.heap.size W W') : W'.cell? p = some u ∧ Below w.heap.size w W' :=
  ⟨(hb.cell (World.block_lt_of_cell? W _ h.1)).trans h.1, h.2.trans (hb.mono h.2.size)⟩

theorem held_alloc {w W : World} {p : Addr} {u : Value} (h : W.cell? p = some u ∧ Below w.heap.size w W) (o : Obj) : (W.alloc o).cell? p = some u ∧ Below w.heap.size w (W.alloc o) :=
  held_below h ((Below.refl _ _).alloc (Nat.le_refl _) _)

theorem low_ad {w : World} {o : Obj} : w.heap.size ≤ (w.alloc o).drew.heap.size := by
  show w.heap.size ≤ (w.alloc o).heap.size
  simp

theorem held_push {w W W' : World} {p : Addr} {u v : Value} {base : Nat} {e : TypeId} {n : Nat} {xs : List Value} (h : W.cell? p = some u ∧ Below w.heap.size w W) (hp : p.block < w.heap.size) (hB : w.heap.size ≤ base) (hown : W.ownsRow base e 1 v n xs) (hg : W.grownBy W' v.ownBlock) :
    W'.cell? p = some u ∧ Below w.heap.size w W' := by
  have hb : Below w.heap.size w W' := h.2.grown hg h.2.size fun k hk => Nat.le_trans hB (hown.lt k hk).1
  refine ⟨?_, hb⟩
  exact hg.cell h.1 fun e => absurd (hown.lt p.block e.symm).1 (by omega)

set_option maxHeartbeats 4000000 in
theorem next_any (l : List ByteArray) (v : Value) (w : World) (hv : HasL w v l) (hl : l.length ≤ 1000000) :
    Calls Try.prog 10 #[v] w fun e w' => ∃ v', e = .returned v' ∧ OwnL w' w.heap.size v' (nextL l) ∧ Below w.heap.size w w' := by
  cases l with
  | nil =>
    have hlen : ∃ p c, v = .slice p 0 c := by
      rcases hv with ⟨_, _, rfl, _⟩ | ⟨b, off, c, rfl, _⟩
      · exact ⟨_, _, rfl⟩
      · exact ⟨_, _, rfl⟩
    obtain ⟨p, c, rfl⟩ := hlen
    clear hv
    go_enter Try.func10, Try.ntmps10
    go_wp2
    go_ret
    exact ⟨_, rfl, OwnL.nil _ _, Below.refl _ _⟩
  | cons x t =>
    rcases hv with ⟨_, _, _, h, _⟩ | ⟨b, off, c, rfl, h1, h2, h3⟩
    · exact absurd h (by simp)
    have hc := h3 0 (by simp)
    simp only [List.getD_cons_zero, Nat.add_zero] at hc
    have ht : ∀ (W : World), Below w.heap.size w W → ∀ p, p = (some ⟨b, off + 1, none⟩ : Option Addr) → HasL W (.slice p t.length (c - 1)) t := by
      rintro W hb p rfl
      refine .inr ⟨b, off + 1, c - 1, rfl, ?_, by omega, fun j hj => ?_⟩
      · simp only [List.length_cons] at h1; omega
      · have := h3 (j + 1) (by simp only [List.length_cons]; omega)
        rw [← show off + 1 + j = off + (j + 1) by omega] at this
        simp only [List.getD_cons_succ] at this
        exact (hb.cell (World.block_lt_of_cell? w _ this)).trans this
    have hx : OwnL = OwnL := rfl
    simp only [List.length_cons] at h1 hl ⊢
    show Calls _ _ _ _ fun e w' => ∃ v', e = .returned v' ∧ OwnL w' w.heap.size v' (t ++ [x]) ∧ Below w.heap.size w w'
    have hn : 0 < t.length + 1 := by omega
    have hni : (0 : Int) < ((t.length + 1 : Nat) : Int) := by omega
    have hci : ((t.length + 1 : Nat) : Int) ≤ (c : Int) := by omega
    have CK : ∀ W p (k : Nat), HasL W (.slice p t.length k) t → _ := fun W p k h => clone_any t (.slice p t.length k) W h (by omega)
    obtain ⟨i0, hi, hz0, hz1, hz2⟩ := str_info
    have HT := Lib.hid ht
    have HK := Lib.hid CK
    clear h3 ht CK
    have hne : (((t.length + 1 : Nat) : Int) == 0) = false := by rw [beq_eq_false_iff_ne]; omega
    have hsub : t.length + 1 - 1 = t.length := by omega
    by_cases hc1 : c = 1
    · subst hc1
      have ht0 : t = [] := List.length_eq_zero_iff.1 (by omega)
      subst ht0
      have hp : ∀ (W : World), Below w.heap.size w W → ∀ p, p = (some ⟨b, off, none⟩ : Option Addr) → HasL W (.slice p 0 0) [] := by
        rintro W _ p rfl
        exact .inr ⟨b, off, 0, rfl, Nat.le_refl _, by omega, fun j hj => absurd hj (by simp)⟩
      have hbw : b < w.heap.size := World.block_lt_of_cell? w _ hc
      have CK : ∀ W p (k : Nat), HasL W (.slice p 0 k) [] → _ := fun W p k h => clone_any [] (.slice p 0 k) W h (by simp)
      have HK := Lib.hid CK
      clear CK HT hx hne hsub hci hni hn h1 hl h2
      simp only [List.length_nil, Nat.zero_add, List.nil_append]
      go_enter Try.func10, Try.ntmps10
      go_wp2
      go_region_held3 (fun W => W.cell? ⟨b, off, none⟩ = some (.string x) ∧ Below w.heap.size w W)
        (first
          | exact ⟨hc, (Below.refl _ _).drew⟩
          | assumption
          | exact held_push (by assumption) hbw (Nat.le_refl w.heap.size) (hown.alloc _) hgrow
          | exact held_push (by assumption) hbw (And.right (show _ ∧ Below w.heap.size w _ by assumption)).size hown hgrow
          | exact held_below (by assumption) hb3
          | exact held_alloc (by assumption) _
          | exact held_push (by assumption) hbw low_ad hown hgrow)
        (first
          | (go_at_call 21; refine (HK.out _ _ _ (hp _ (And.right (show _ ∧ Below w.heap.size w _ by assumption)) _ rfl)).mono ?_; rintro e w3 ⟨v3, rfl, hown, hb3⟩)
          | (refine step_append_lies _ (by rfl) _ _ _ (by rfl) _ 9 i0 _ 1 16 Try.underlying22 hi hz0 hz1 hz2 rfl (by omega) v3 0 [] (by rfl) (hown.alloc _) ⟨w3.heap.size, 0, none⟩ 1 1 [.string x] (by rfl) (by rfl) (World.news_of_block (cs := #[.string x]) (t := 9) (fr := (0, 0)) (heap_alloc_new w3 _)) (by simp [Value.oneCell']) (by omega) (by unfold maxLen; omega) (by omega) (by have := hb3.size; simp at this ⊢; omega) (w3.heap.size + 1) (by simp) ?_; intro gg cap w4 hown1 hgrow hat hlt)
          | (refine step_append_lies _ (by rfl) _ _ _ (by rfl) _ 9 i0 _ 1 16 Try.underlying22 hi hz0 hz1 hz2 rfl (by omega) v3 0 [] (by rfl) hown ⟨w.heap.size, 0, none⟩ 1 1 [.string x] (by rfl) (by rfl) (World.news_of_block (cs := #[.string x]) (t := 9) (fr := (0, 0)) ((hb3.block w.heap.size (by simp)).trans (heap_alloc_new w _))) (by simp [Value.oneCell']) (by omega) (by unfold maxLen; omega) (by omega) (by have := hb3.size; simp at this ⊢; omega) w3.heap.size rfl ?_; intro gg cap w4 hown1 hgrow hat hlt))
      all_goals (
        go_wp2
        go_ret
        refine ⟨_, rfl, ?_, (show _ ∧ Below w.heap.size w w4 by assumption).2⟩
        have e1 : [x].length = 0 + 1 := by simp
        have e2 : strV [x] = [] ++ [.string x] := by simp [strV]
        unfold OwnL
        rw [e1, e2]
        first | exact own_low hown1 low_ad | exact own_low hown1 (Nat.le_refl w.heap.size))
    generalize t.length + 1 = n at *
    have hn1 : (1 : Int) ≤ (n : Int) := by omega
    have hbw : b < w.heap.size := World.block_lt_of_cell? w _ hc
    have hp := HT.out
    go_enter Try.func10, Try.ntmps10
    go_wp2
    go_region_held3 (fun W => W.cell? ⟨b, off, none⟩ = some (.string x) ∧ Below w.heap.size w W)
      (first
        | exact ⟨hc, (Below.refl _ _).drew⟩
        | assumption
        | exact held_push (by assumption) hbw (Nat.le_refl w.heap.size) (hown.alloc _) hgrow
        | exact held_push (by assumption) hbw (And.right (show _ ∧ Below w.heap.size w _ by assumption)).size hown hgrow
        | exact held_below (by assumption) hb3
        | exact held_alloc (by assumption) _
        | exact held_push (by assumption) hbw low_ad hown hgrow)
      (first
        | (go_at_call 21; refine (HK.out _ _ _ (hp _ (And.right (show _ ∧ Below w.heap.size w _ by assumption)) _ rfl)).mono ?_; rintro e w3 ⟨v3, rfl, hown, hb3⟩)
        | (refine step_append_lies _ (by rfl) _ _ _ (by rfl) _ 9 i0 _ 1 16 Try.underlying22 hi hz0 hz1 hz2 rfl (by omega) v3 t.length (strV t) (by rfl) (hown.alloc _) ⟨w3.heap.size, 0, none⟩ 1 1 [.string x] (by rfl) (by rfl) (World.news_of_block (cs := #[.string x]) (t := 9) (fr := (0, 0)) (heap_alloc_new w3 _)) (by simp [Value.oneCell']) (by omega) (by unfold maxLen; omega) (by omega) (by have := hb3.size; simp at this ⊢; omega) (w3.heap.size + 1) (by simp) ?_; intro gg cap w4 hown1 hgrow hat hlt)
        | (refine step_append_lies _ (by rfl) _ _ _ (by rfl) _ 9 i0 _ 1 16 Try.underlying22 hi hz0 hz1 hz2 rfl (by omega) v3 t.length (strV t) (by rfl) hown ⟨w.heap.size, 0, none⟩ 1 1 [.string x] (by rfl) (by rfl) (World.news_of_block (cs := #[.string x]) (t := 9) (fr := (0, 0)) ((hb3.block w.heap.size (by simp)).trans (heap_alloc_new w _))) (by simp [Value.oneCell']) (by omega) (by unfold maxLen; omega) (by omega) (by have := hb3.size; simp at this ⊢; omega) w3.heap.size rfl ?_; intro gg cap w4 hown1 hgrow hat hlt))
    all_goals (
      go_wp2
      go_ret
      refine ⟨_, rfl, ?_, (show _ ∧ Below w.heap.size w w4 by assumption).2⟩
      have e1 : (t ++ [x]).length = t.length + 1 := by simp
      have e2 : strV (t ++ [x]) = strV t ++ [.string x] := by simp [strV]
      unfold OwnL
      rw [e1, e2]
      first | exact own_low hown1 low_ad | exact own_low hown1 (Nat.le_refl w.heap.size))
end Go.Proofs.Ytpfgmmmeofnkoaa
