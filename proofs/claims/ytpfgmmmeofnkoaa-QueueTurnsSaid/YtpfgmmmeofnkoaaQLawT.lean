/- The law QueueTurns. -/
import Derived.Test.YtpfgmmmeofnkoaaQOpen
namespace Go.Proofs.Ytpfgmmmeofnkoaa
open Go.RowKit

/-- l, turned k times. -/
def rotL (l : List ByteArray) (k : Nat) : List ByteArray := l.drop k ++ l.take k

theorem rotL_len {l : List ByteArray} {k : Nat} (h : k ≤ l.length) : (rotL l k).length = l.length := by
  simp [rotL]; omega

theorem rotL_end (l : List ByteArray) : rotL l l.length = l := by simp [rotL]

theorem rotL_form {l : List ByteArray} {k : Nat} (h : k < l.length) : rotL l k = l.getD k ByteArray.empty :: (l.drop (k + 1) ++ l.take k) := by
  unfold rotL
  have e : l.getD k ByteArray.empty = l[k] := by simp [List.getD, h]
  rw [List.drop_eq_getElem_cons h, e]
  rfl

theorem rotL_head {l : List ByteArray} {k : Nat} (h : k < l.length) : headS (rotL l k) = l.getD k ByteArray.empty := by
  rw [rotL_form h]; rfl

theorem rotL_next {l : List ByteArray} {k : Nat} (h : k < l.length) : nextL (rotL l k) = rotL l (k + 1) := by
  rw [rotL_form h]
  show l.drop (k + 1) ++ l.take k ++ [l.getD k ByteArray.empty] = rotL l (k + 1)
  unfold rotL
  rw [List.take_succ_eq_append_getElem h]
  simp [List.getD, h]

set_option maxHeartbeats 8000000 in
theorem queueTurns_any (l : List ByteArray) (v : Value) (w : World) (hv : HasL w v l) (hm : l.length ≤ maxLen) :
    Calls Try.prog 3 #[v] w fun e w' => e = .returned (.bool true) ∧ Below w.heap.size w w' := by
  have HA : RowKit.Hid (∀ W, Calls Try.prog 7 #[] W fun e w' => e = .returned (.bool true) ∧ Below W.heap.size W w') := Lib.hid fun W => awake_any W
  have CF : ∀ W, HasL W v l → Calls Try.prog 8 #[v] W fun e w' => e = .returned (.bool (fewB l)) ∧ W = w' := fun W h => few_any l v W h hm
  have HV := Lib.hid hv
  cases hf : fewB l
  · rw [hf] at CF
    have HF := Lib.hid CF
    clear CF hf hv
    go_enter Try.func3, Try.ntmps3
    go_wp2_with (first
      | (go_at_call 7; (with_reducible refine (HA.out _).mono ?_); rintro e w1 ⟨rfl, hb1⟩)
      | (go_at_call 8; (with_reducible refine (HF.out _ (HV.out.mono hb1)).mono ?_); rintro e w2 ⟨rfl, rfl⟩))
    go_ret
    exact ⟨rfl, hb1⟩
  · have h5 := fewB_len hf
    rw [hf] at CF
    have HF := Lib.hid CF
    clear CF hf
    by_cases hg : l.length = 0 ∨ 200 < l.length
    · obtain ⟨p, c, rfl⟩ := own_len hv
      have hz : ((l.length : Int) == 0) = decide (l.length = 0) := by
        rw [Bool.eq_iff_iff]; simp
      by_cases h0 : l.length = 0
      · have g0 : ((l.length : Int) == 0) = true := by rw [hz]; simp [h0]
        clear hv hg hz h0
        generalize l.length = n at *
        go_enter Try.func3, Try.ntmps3
        go_wp2_with (first
          | (go_at_call 7; (with_reducible refine (HA.out _).mono ?_); rintro e w1 ⟨rfl, hb1⟩)
          | (go_at_call 8; (with_reducible refine (HF.out _ (HV.out.mono hb1)).mono ?_); rintro e w2 ⟨rfl, rfl⟩))
        go_ret
        exact ⟨rfl, hb1⟩
      · have g0 : ((l.length : Int) == 0) = false := by rw [hz]; simp [h0]
        have g1 : (200 : Int) < (l.length : Int) := by omega
        clear hv hg hz h0
        generalize l.length = n at *
        go_enter Try.func3, Try.ntmps3
        go_wp2_with (first
          | (go_at_call 7; (with_reducible refine (HA.out _).mono ?_); rintro e w1 ⟨rfl, hb1⟩)
          | (go_at_call 8; (with_reducible refine (HF.out _ (HV.out.mono hb1)).mono ?_); rintro e w2 ⟨rfl, rfl⟩))
        go_ret
        exact ⟨rfl, hb1⟩
    · rcases hv with ⟨_, _, _, rfl⟩ | ⟨b, off, c, rfl, h1, h2, h3⟩
      · exact absurd (Or.inl rfl) hg
      have H3 := Lib.hid h3
      have g0 : ((l.length : Int) == 0) = false := by rw [beq_eq_false_iff_ne]; omega
      have g1 : ¬ (200 : Int) < (l.length : Int) := by omega
      have hpos : 0 < l.length := by omega
      have CH : ∀ (W : World) (q : Value) (k : Nat), HasL W q (rotL l k) → k < l.length → Calls Try.prog 9 #[q] W fun e w' => e = .returned (.tuple #[.string (l.getD k ByteArray.empty), .bool true]) ∧ W = w' := fun W q k h hk => by
        have hh := head_any _ _ W h (by rw [rotL_len (by omega)]; omega)
        rw [rotL_head hk, rotL_len (by omega), decide_eq_true hpos] at hh
        exact hh
      have CN : ∀ (W : World) (q : Value) (k : Nat), HasL W q (rotL l k) → k < l.length → Calls Try.prog 10 #[q] W fun e w' => ∃ p' c', e = .returned (.slice p' l.length c') ∧ HasL w' (.slice p' l.length c') (rotL l (k + 1)) ∧ Below W.heap.size W w' := fun W q k h hk => by
        have hh := next_any _ _ W h (by rw [rotL_len (by omega)]; omega)
        rw [rotL_next hk] at hh
        refine hh.mono ?_
        rintro e w' ⟨v', rfl, ho, hb⟩
        obtain ⟨p', c', rfl⟩ := own_len ho.has
        have hl2 := rotL_len (l := l) (k := k + 1) hk
        rw [hl2] at ho ⊢
        exact ⟨p', c', rfl, by have := ho.has; exact this, hb⟩
      have CS : ∀ (W : World) (q q2 : Value), HasL W q l → HasL W q2 l → Calls Try.prog 11 #[q, q2] W fun e w' => e = .returned (.bool true) ∧ Below W.heap.size W w' := fun W q q2 h h' => by
        have hh := same_any l l q q2 W h h' (by omega) (by omega)
        simpa using hh
      have HH := Lib.hid CH
      have HN := Lib.hid CN
      have HS := Lib.hid CS
      have HE := Lib.hid (rotL_end l)
      have HZ : RowKit.Hid (rotL l 0 = l) := Lib.hid (by simp [rotL])
      clear CH CN CS h3 hg hm
      generalize hn : l.length = n at *
      clear hn
      go_enter Try.func3, Try.ntmps3
      go_wp2_with (first
        | (go_at_call 7; (with_reducible refine (HA.out _).mono ?_); rintro e w1 ⟨rfl, hb1⟩)
        | (go_at_call 8; (with_reducible refine (HF.out _ (HV.out.mono hb1)).mono ?_); rintro e w2 ⟨rfl, rfl⟩))
      go_loopw [3, 4] (fun q i wr => ∃ (k : Nat) (p : Option Addr) (c' : Nat), k ≤ n ∧ Below w.heap.size w wr ∧ i = .int .i64 k ∧ q = .slice p n c' ∧ HasL wr (.slice p n c') (rotL l k)) (fun _ i _ => n - (intOf i).toNat)
      case atStart => exact ⟨0, _, _, Nat.zero_le _, hb1, rfl, rfl, by rw [HZ.out]; exact HV.out.mono hb1⟩
      case round =>
        obtain ⟨k, p, c', hk, hb, rfl, rfl, hq⟩ := hrel
        have HQ := Lib.hid hq
        clear hq
        by_cases hlt : k < n
        · have c1 := cell_bel hb (H3.out k hlt)
          have hki : (k : Int) < (n : Int) := by omega
          have hk0 : (0 : Int) ≤ (k : Int) := by omega
          have CH2 : Calls Try.prog 9 #[.slice p n c'] _ _ := HH.out _ _ k HQ.out hlt
          have CN2 : Calls Try.prog 10 #[.slice p n c'] _ _ := HN.out _ _ k HQ.out hlt
          generalize l.getD k ByteArray.empty = x at c1 CH2
          have D1 := Lib.hid CH2
          have D2 := Lib.hid CN2
          clear CH2 CN2
          go_wp2_with (first
            | (go_at_call 9; (with_reducible refine D1.out.mono ?_); rintro e w3 ⟨rfl, rfl⟩)
            | (go_at_call 10; (with_reducible refine D2.out.mono ?_); rintro e w4 ⟨p', c2, rfl, hq2, hb4⟩; have HQ2 := Lib.hid hq2; clear hq2))
          go_roundw
          case rel => exact ⟨k + 1, _, _, by omega, hb.trans (hb4.mono hb.size), by go_num, rfl, HQ2.out⟩
          case measure => simp [intOf]; omega
        · have hkn : k = n := by omega
          subst hkn
          have D3 : RowKit.Hid (∀ W, Below _ _ W → _) := Lib.hid fun W hbW => HS.out W _ _ ((by have := HQ.out; rw [HE.out] at this; exact this.mono hbW)) (HV.out.mono (hb.trans (hbW.mono hb.size)))
          go_wp2_with (go_at_call 11; (with_reducible refine (D3.out _ (Below.refl _ _)).mono ?_); rintro e w5 ⟨rfl, hb5⟩)
          go_ret
          exact ⟨rfl, hb.trans (hb5.mono hb.size)⟩

theorem queueTurns_walk (v : Value) (l : List ByteArray) (w : World) (h : Texts w v l) :
    Calls Try.prog 3 #[v] w fun e w' => e = .returned (.bool true) ∧ Below w.heap.size w w' := queueTurns_any l v w h.1 h.2.1
end Go.Proofs.Ytpfgmmmeofnkoaa
