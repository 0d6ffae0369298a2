/- Slices of texts: what they read as; Clone, Index, Contains, Head, At. -/
import Derived.Test.YtpfgmmmeofnkoaaQKeyC
import Derived.Lib.SliceRun
namespace Go.Proofs.Ytpfgmmmeofnkoaa
open Go.RowKit

/-- 'v' reads as the texts l in w. -/
def HasL (w : World) (v : Value) (l : List ByteArray) : Prop :=
  (∃ p c, v = .slice p 0 c ∧ l = [] ∧ (p = none → c = 0)) ∨ ∃ b off c, v = .slice (some ⟨b, off, none⟩) l.length c ∧ l.length ≤ c ∧ c ≤ maxLen ∧ ∀ j, j < l.length → w.cell? ⟨b, off + j, none⟩ = some (.string (l.getD j ByteArray.empty))

/-- The cells of the texts l. -/
def strV (l : List ByteArray) : List Value := l.map Value.string

theorem strV_len (l : List ByteArray) : (strV l).length = l.length := by simp [strV]

theorem strV_get {l : List ByteArray} {j : Nat} (h : j < l.length) : (strV l)[j]? = some (.string (l.getD j ByteArray.empty)) := by
  simp [strV, List.getD, h]

theorem strV_one {l : List ByteArray} : ∀ u ∈ strV l, u.oneCell' = true := by
  intro u hu
  simp only [strV, List.mem_map] at hu
  obtain ⟨s, _, rfl⟩ := hu
  rfl

theorem HasL.keep {w w' : World} {v : Value} {l : List ByteArray} (h : HasL w v l) (hk : ∀ a u, w.cell? a = some u → w'.cell? a = some u) : HasL w' v l := by
  rcases h with h | ⟨b, off, c, e, h1, h2, h3⟩
  · exact .inl h
  · exact .inr ⟨b, off, c, e, h1, h2, fun j hj => hk _ _ (h3 j hj)⟩

theorem HasL.mono {w w' : World} {v : Value} {l : List ByteArray} (h : HasL w v l) (hb : Below w.heap.size w w') : HasL w' v l :=
  h.keep fun a _ hu => (hb.cell (World.block_lt_of_cell? w a hu)).trans hu

theorem HasL.nil (w : World) : HasL w (.slice none 0 0) [] := .inl ⟨none, 0, rfl, rfl, fun _ => rfl⟩

theorem HasL.own {w : World} {base : Nat} {e : TypeId} {v : Value} {l : List ByteArray} (h : w.ownsRow base e 1 v l.length (strV l)) : HasL w v l := by
  rcases h.2 with ⟨e1, e2⟩ | ⟨g, cap, cur, e1, _, _, h3, h4, _⟩
  · exact .inl ⟨none, 0, e1, List.length_eq_zero_iff.1 e2, fun _ => rfl⟩
  · refine .inr ⟨g, 0, cap, e1, h3, h4, fun j hj => ?_⟩
    have := h.cells (g := g) (by rw [e1]; rfl) j _ (strV_get hj)
    rw [Addr.add_lit] at this
    exact this

/-- What the dump says of 'string' as an element. -/
theorem str_info : ∃ i0 : TypeInfo, Try.prog.info? 9 = some i0 ∧ i0.zero = some (.string ⟨#[]⟩) ∧ i0.size = 1 ∧ i0.bytes = 16 := by
  have hbyte : (Try.prog.info? 9).map (fun i => (i.zero, i.size, i.bytes)) = some (some (.string ⟨#[]⟩), 1, 16) := by kernel_rfl
  rw [Option.map_eq_some_iff] at hbyte
  obtain ⟨i0, h1, h2⟩ := hbyte
  simp only [Prod.mk.injEq] at h2
  exact ⟨i0, h1, h2.1, h2.2.1, h2.2.2⟩

set_option maxHeartbeats 2000000 in
theorem clone_any (l : List ByteArray) (v : Value) (w : World) (hv : HasL w v l) (hl : l.length ≤ 1000000) :
    Calls Try.prog 21 #[v] w fun e w' => ∃ v', e = .returned v' ∧ w'.ownsRow w.heap.size 9 1 v' l.length (strV l) ∧ Below w.heap.size w w' := by
  have q22 : ∀ (w : World) (a : Option Addr) (n c n' c' : Nat), (binOp .eql 22 (.slice a n c) (.slice none n' c')).run Try.prog w = .ok (.bool a.isNone) w := fun w a n c n' c' => Lib.run_eql_slice_nil w _ _ a n c n' c' Try.underlying22
  rcases hv with ⟨p, c, rfl, rfl, _⟩ | ⟨b, off, c, rfl, h1, h2, h3⟩
  · cases p with
    | none =>
      go_enter Try.func21, Try.ntmps21
      go_wp2
      go_ret
      exact ⟨_, rfl, World.ownsRow_nil _ _ _ _, Below.refl _ _⟩
    | some a =>
      obtain ⟨i0, hi, hz0, hz1, hz2⟩ := str_info
      go_enter Try.func21, Try.ntmps21
      go_wp2_with (at_builtin; refine wpList_append_own _ rfl _ _ 22 rfl w.heap.size 9 i0 (.string ⟨#[]⟩) 1 16 Try.underlying22 hi hz0 hz1 hz2 rfl (by decide) _ _ _ rfl (World.ownsRow_made w #[] 0 (Nat.le_refl _) (Nat.zero_le _) (by simp)) a 0 c [] rfl (by rfl) (by simp) (by simp) (by unfold maxLen; omega) (by omega) (by simp) ?_)
      intro v' w1 hown hgrow hnil
      go_wp2
      go_ret
      refine ⟨v', rfl, by simpa [strV] using hown, ?_⟩
      exact ((Below.refl _ w).alloc (Nat.le_refl _) _).grown hgrow (by simp) (by intro k hk; simp [Value.ownBlock] at hk; omega)
  · obtain ⟨i0, hi, hz0, hz1, hz2⟩ := str_info
    have H3 := Lib.hid h3
    clear h3
    go_enter Try.func21, Try.ntmps21
    go_wp2_with (at_builtin; refine wpList_append_own _ rfl _ _ 22 rfl w.heap.size 9 i0 (.string ⟨#[]⟩) 1 16 Try.underlying22 hi hz0 hz1 hz2 rfl (by decide) _ _ _ rfl (World.ownsRow_made w #[] 0 (Nat.le_refl _) (Nat.zero_le _) (by simp)) ⟨b, off, none⟩ l.length c (strV l) rfl ?qc1 ?qc2 strV_one ?qc4 ?qc5 ?qc6 ?_)
    case qc1 => rw [strV_len]; omega
    case qc2 =>
      intro j u hj
      have hjl : j < l.length := by
        have := (List.getElem?_eq_some_iff.1 hj).1
        rwa [strV_len] at this
      rw [strV_get hjl] at hj
      injection hj with hj
      subst hj
      rw [Addr.add_lit]
      exact Lib.cell?_alloc_some _ (H3.out j hjl)
    case qc4 => unfold maxLen; omega
    case qc5 => omega
    case qc6 => simp
    intro v' w1 hown hgrow hnil
    go_wp2
    go_ret
    refine ⟨v', rfl, by simpa using hown, ?_⟩
    exact ((Below.refl _ w).alloc (Nat.le_refl _) _).grown hgrow (by simp) (by intro k hk; simp [Value.ownBlock] at hk; omega)

/-- The place of s in l, or -1. -/
def atL : List ByteArray → ByteArray → Int
  | [], _ => -1
  | a :: t, s => if a = s then 0 else if atL t s < 0 then -1 else atL t s + 1

theorem atL_hit : ∀ (l : List ByteArray) (s : ByteArray) (k : Nat), k < l.length → l.getD k ByteArray.empty = s → (∀ j, j < k → l.getD j ByteArray.empty ≠ s) → atL l s = (k : Int)
  | [], _, k, h, _, _ => by simp at h
  | a :: t, s, 0, _, h2, _ => by simp at h2; simp [atL, h2]
  | a :: t, s, k + 1, h1, h2, h3 => by
    have h0 := h3 0 (by omega)
    simp at h0 h2 h1
    have := atL_hit t s k h1 (by simpa using h2) (fun j hj => by have := h3 (j + 1) (by omega); simpa using this)
    rw [atL, if_neg h0, this, if_neg (by omega)]
    omega

theorem atL_miss : ∀ (l : List ByteArray) (s : ByteArray), (∀ j, j < l.length → l.getD j ByteArray.empty ≠ s) → atL l s = -1
  | [], _, _ => rfl
  | a :: t, s, h => by
    have h0 := h 0 (by simp)
    simp at h0
    have := atL_miss t s (fun j hj => by have := h (j + 1) (by simp; omega); simpa using this)
    rw [atL, if_neg h0, this]
    rfl

set_option maxHeartbeats 2000000 in
theorem at_any (l : List ByteArray) (v : Value) (s : ByteArray) (w : World) (hv : HasL w v l) (hl : l.length ≤ 1000000) :
    Calls Try.prog 28 #[v, .string s] w fun e w' => e = .returned (.int .i64 (atL l s)) ∧ w = w' := by
  rcases hv with ⟨p, c, rfl, rfl, _⟩ | ⟨b, off, c, rfl, h1, h2, h3⟩
  · go_enter Try.func28, Try.ntmps28
    go_wp2
    refine wp_loop_rounds 1 ?_
    rw [rounds_succ]
    go_wp2
    go_ret
    exact ⟨rfl, rfl⟩
  · have H3 := Lib.hid h3
    clear h3
    go_enter Try.func28, Try.ntmps28
    go_wp2
    go_loop [5] (fun i => ∃ k : Nat, k ≤ l.length ∧ i = .int .i64 k ∧ ∀ j, j < k → l.getD j ByteArray.empty ≠ s) (fun i => l.length - (intOf i).toNat)
    case atStart => exact ⟨0, Nat.zero_le _, rfl, fun j hj => absurd hj (Nat.not_lt_zero _)⟩
    case round =>
      obtain ⟨k, hk, rfl, hne⟩ := hrel
      have HNE := Lib.hid hne
      clear hne
      by_cases hlt : k < l.length
      · have hc := H3.out k hlt
        generalize hg : l.getD k ByteArray.empty = x at hc
        by_cases he : x = s
        · have hks : (x.toList == s.toList) = true := by rw [he]; simp
          have hfin : RowKit.Hid (atL l s = (k : Int)) := Lib.hid (atL_hit l s k hlt (by rw [hg]; exact he) HNE.out)
          clear hg he
          go_wp2
          go_ret
          exact ⟨ret_int hfin.out.symm, rfl⟩
        · have hks : (x.toList == s.toList) = false := by rw [beq_eq_false_iff_ne]; exact fun h => he (toList_inj h)
          have hn2 : RowKit.Hid (l.getD k ByteArray.empty ≠ s) := Lib.hid (by rw [hg]; exact he)
          clear hg he
          go_wp2
          go_round
          case rel => exact ⟨k + 1, by omega, by go_num, fun m hm => by (rcases Nat.lt_or_ge m k with h | h); exact HNE.out m h; rw [show m = k by omega]; exact hn2.out⟩
          case measure => simp [intOf]; omega
      · have hfin : RowKit.Hid (atL l s = -1) := Lib.hid (atL_miss l s fun j hj => HNE.out j (by omega))
        go_wp2
        go_ret
        exact ⟨ret_int hfin.out.symm, rfl⟩

set_option maxHeartbeats 2000000 in
theorem index_any (l : List ByteArray) (v : Value) (s : ByteArray) (w : World) (hv : HasL w v l) (hl : l.length ≤ 1000000) :
    Calls Try.prog 29 #[v, .string s] w fun e w' => e = .returned (.int .i64 (atL l s)) ∧ w = w' := by
  rcases hv with ⟨p, c, rfl, rfl, _⟩ | ⟨b, off, c, rfl, h1, h2, h3⟩
  · go_enter Try.func29, Try.ntmps29
    go_wp2
    refine wp_loop_rounds 1 ?_
    rw [rounds_succ]
    go_wp2
    go_ret
    exact ⟨rfl, rfl⟩
  · have H3 := Lib.hid h3
    clear h3
    go_enter Try.func29, Try.ntmps29
    go_wp2
    go_loop [5, 8] (fun _ i => ∃ k : Nat, k ≤ l.length ∧ i = .int .i64 k ∧ ∀ j, j < k → l.getD j ByteArray.empty ≠ s) (fun _ i => l.length - (intOf i).toNat)
    case atStart => exact ⟨0, Nat.zero_le _, rfl, fun j hj => absurd hj (Nat.not_lt_zero _)⟩
    case round =>
      obtain ⟨k, hk, rfl, hne⟩ := hrel
      have HNE := Lib.hid hne
      clear hne
      by_cases hlt : k < l.length
      · have hc := H3.out k hlt
        generalize hg : l.getD k ByteArray.empty = x at hc
        by_cases he : x = s
        · have hks : (s.toList == x.toList) = true := by rw [he]; simp
          have hfin : RowKit.Hid (atL l s = (k : Int)) := Lib.hid (atL_hit l s k hlt (by rw [hg]; exact he) HNE.out)
          clear hg he
          go_wp2
          go_ret
          exact ⟨ret_int hfin.out.symm, rfl⟩
        · have hks : (s.toList == x.toList) = false := by rw [beq_eq_false_iff_ne]; exact fun h => he (toList_inj h.symm)
          have hn2 : RowKit.Hid (l.getD k ByteArray.empty ≠ s) := Lib.hid (by rw [hg]; exact he)
          clear hg he
          go_wp2
          go_round
          case rel => exact ⟨k + 1, by omega, by go_num, fun m hm => by (rcases Nat.lt_or_ge m k with h | h); exact HNE.out m h; rw [show m = k by omega]; exact hn2.out⟩
          case measure => simp [intOf]; omega
      · have hfin : RowKit.Hid (atL l s = -1) := Lib.hid (atL_miss l s fun j hj => HNE.out j (by omega))
        go_wp2
        go_ret
        exact ⟨ret_int hfin.out.symm, rfl⟩

theorem contains_any (l : List ByteArray) (v : Value) (s : ByteArray) (w : World) (hv : HasL w v l) (hl : l.length ≤ 1000000) :
    Calls Try.prog 26 #[v, .string s] w fun e w' => e = .returned (.bool (decide (0 ≤ atL l s))) ∧ w = w' := by
  have C := index_any l v s w hv hl
  generalize atL l s = i at C
  go_enter Try.func26, Try.ntmps26
  go_wp2_with (go_at_call 29; refine C.mono ?_; rintro e w' ⟨rfl, rfl⟩)
  go_ret
  exact ⟨rfl, rfl⟩

/-- The first of l, or no text. -/
def headS (l : List ByteArray) : ByteArray := l.headD ⟨#[]⟩

theorem head_any (l : List ByteArray) (v : Value) (w : World) (hv : HasL w v l) (hl : l.length ≤ 1000000) :
    Calls Try.prog 9 #[v] w fun e w' => e = .returned (.tuple #[.string (headS l), .bool (decide (0 < l.length))]) ∧ w = w' := by
  rcases hv with ⟨p, c, rfl, rfl, _⟩ | ⟨b, off, c, rfl, h1, h2, h3⟩
  · go_enter Try.func9, Try.ntmps9
    go_wp2
    refine wp_loop_rounds 1 ?_
    rw [rounds_succ]
    go_wp2
    go_ret2
    exact ⟨rfl, rfl⟩
  · cases l with
    | nil =>
      go_enter Try.func9, Try.ntmps9
      go_wp2
      refine wp_loop_rounds 1 ?_
      rw [rounds_succ]
      go_wp2
      go_ret2
      exact ⟨rfl, rfl⟩
    | cons x t =>
      have hc := h3 0 (by simp)
      simp only [List.getD_cons_zero, Nat.add_zero] at hc
      simp only [List.length_cons] at h1 hl ⊢
      have hn : 0 < t.length + 1 := by omega
      have hni : (0 : Int) < ((t.length + 1 : Nat) : Int) := by omega
      show Calls _ _ _ _ fun e w' => e = .returned (.tuple #[.string x, .bool (decide (0 < t.length + 1))]) ∧ w = w'
      generalize t.length + 1 = n at *
      clear h3
      go_enter Try.func9, Try.ntmps9
      go_wp2
      refine wp_loop_rounds 1 ?_
      rw [rounds_succ]
      go_wp2
      go_ret2
      exact ⟨by simp [hn], rfl⟩
end Go.Proofs.Ytpfgmmmeofnkoaa
