/- The reader's methods: fixed, locator, begin. -/
import Derived.Test.YtjahkaidinahpaaDoorEL
namespace Go.Proofs.YtjahkaidinahpaaDoor
open Go.RowKit Go.ChangeMaps
set_option linter.unusedSimpArgs false
set_option linter.unusedVariables false
set_option maxRecDepth 20000

theorem pFix_some {k : Nat} {l r : List UInt8} {n : Nat} (h : pFix k l = some (n, r)) : k ≤ l.length ∧ n = valB (l.take k) ∧ r = l.drop k := by
  unfold pFix at h
  split at h
  · rename_i hk
    injection h with h
    injection h with h1 h2
    exact ⟨hk, h1.symm, h2.symm⟩
  · cases h

theorem pFix_none {k : Nat} {l : List UInt8} (h : pFix k l = none) : l.length < k := by
  unfold pFix at h
  split at h
  · cases h
  · omega

theorem val_small {l : List UInt8} (h : l.length ≤ 4) : valB l < 4294967296 := by
  have h1 := valB_lt l
  have h2 : 256 ^ l.length ≤ 256 ^ 4 := Nat.pow_le_pow_right (by omega) h
  have e : (256 : Nat) ^ 4 = 4294967296 := by decide
  omega

theorem val_zero : ∀ n, valB (List.replicate n 0) = 0 := by
  intro n
  unfold valB
  induction n with
  | zero => rfl
  | succ n ih => rw [List.replicate_succ, List.foldl_cons]; exact ih

theorem rfix_yes (g : Nat) (l r : List UInt8) (bad : Bool) (k n : Nat) (w0 w : World) (h : RS w0 w g l bad) (h1 : 1 ≤ k) (h4 : k ≤ 4) (hl : l.length ≤ 1000000) (hp : pFix k l = some (n, r)) :
    Calls Tryd.prog 82 #[.pointer (some ⟨g, 0, none⟩), .int .i64 k] w fun e w' => e = .returned (.int .i64 n) ∧ RS w0 w' g r bad ∧ w.grownBy w' (some g) := by
  obtain ⟨hk, rfl, rfl⟩ := pFix_some hp
  have HB := Lib.hid (rbytes_yes g l bad k w0 w h h1 hk hl)
  have hlk : (l.take k).length = k := by rw [List.length_take]; omega
  have hsm := val_small (l := l.take k) (by omega)
  have HG : RowKit.Hid (∀ W v, HasE byteC W v (l.take k) → Calls Tryd.prog 156 #[v, .int .i64 0, .int .i64 k] W fun e w' => e = .returned (.tuple #[.int .u64 (valB (l.take k) : Nat), .int .i64 0]) ∧ W = w') := Lib.hid fun W v hv => get_any (l.take k) v k W hv hlk h1 h4
  generalize valB (l.take k) = n at *
  have hw2 : IntKind.i64.wrap (n : Int) = (n : Int) := by rw [IntKind.wrap_i64]; omega
  clear hsm hlk hl hp
  go_enter Tryd.func82, Tryd.ntmps82
  go_wp2_with (first
    | (go_at_call 80; (with_reducible refine HB.out.mono ?_); rintro e w1 ⟨⟨v1, rfl, hv1⟩, hr1, hg1⟩)
    | (go_at_call 156; (with_reducible refine (HG.out _ _ hv1).mono ?_); rintro e w2 ⟨rfl, rfl⟩))
  go_ret
  exact ⟨rfl, hr1, hg1⟩

theorem rfix_no (g : Nat) (l : List UInt8) (bad : Bool) (k : Nat) (w0 w : World) (h : RS w0 w g l bad) (h1 : 1 ≤ k) (h4 : k ≤ 4) (hp : pFix k l = none) :
    Calls Tryd.prog 82 #[.pointer (some ⟨g, 0, none⟩), .int .i64 k] w fun e w' => e = .returned (.int .i64 0) ∧ RS w0 w' g [] true ∧ w.grownBy w' (some g) := by
  have hk := pFix_none hp
  have HB := Lib.hid (rbytes_no g l bad k w0 w h h1 (by omega) hk)
  have hlk : (List.replicate k (0 : UInt8)).length = k := List.length_replicate
  have HG : RowKit.Hid (∀ W v, HasE byteC W v (List.replicate k 0) → Calls Tryd.prog 156 #[v, .int .i64 0, .int .i64 k] W fun e w' => e = .returned (.tuple #[.int .u64 0, .int .i64 0]) ∧ W = w') := Lib.hid fun W v hv => by
    have := get_any (List.replicate k 0) v k W hv hlk h1 h4
    rw [val_zero] at this
    exact this
  clear hlk hp hk
  go_enter Tryd.func82, Tryd.ntmps82
  go_wp2_with (first
    | (go_at_call 80; (with_reducible refine HB.out.mono ?_); rintro e w1 ⟨⟨v1, rfl, hv1⟩, hr1, hg1⟩)
    | (go_at_call 156; (with_reducible refine (HG.out _ _ hv1).mono ?_); rintro e w2 ⟨rfl, rfl⟩))
  go_ret
  exact ⟨rfl, hr1, hg1⟩

theorem pLoc_some {l r s : List UInt8} (h : pLoc l = some (s, r)) : ∃ n, pFix 4 l = some (n, r) ∧ n < 308915776 ∧ s = txt (turnN n) := by
  unfold pLoc at h
  cases hf : pFix 4 l with
  | none => rw [hf] at h; cases h
  | some x =>
    obtain ⟨n, r'⟩ := x
    rw [hf] at h
    have h' : (if n < 308915776 then some (txt (turnN n), r') else none) = some (s, r) := h
    split at h'
    · rename_i hn
      injection h' with h'
      injection h' with h1 h2
      subst h1 h2
      exact ⟨n, rfl, hn, rfl⟩
    · cases h'

theorem pLoc_none {l : List UInt8} (h : pLoc l = none) : pFix 4 l = none ∨ ∃ n r, pFix 4 l = some (n, r) ∧ 308915776 ≤ n := by
  unfold pLoc at h
  cases hf : pFix 4 l with
  | none => exact .inl rfl
  | some x =>
    obtain ⟨n, r'⟩ := x
    rw [hf] at h
    have h' : (if n < 308915776 then some (txt (turnN n), r') else none) = none := h
    split at h'
    · cases h'
    · exact .inr ⟨n, r', rfl, by omega⟩

theorem set_bad {w0 w1 w2 : World} {g : Nat} {r : List UInt8} {bad : Bool} (b2 : Bool) (h : RS w0 w1 g r bad) (hb : Below w1.heap.size w1 w2) : RS w0 (w2.setCell ⟨g, 1, none⟩ (.bool b2)) g r b2 ∧ w1.grownBy (w2.setCell ⟨g, 1, none⟩ (.bool b2)) (some g) := by
  obtain ⟨h1, ⟨v, h2, h3⟩, h4⟩ := h
  exact ⟨⟨h1, ⟨v, (h2.mono hb).set 1 (.bool b2), h3⟩, (h4.trans (hb.mono h4.size)).setCell (p := ⟨g, 1, none⟩) h1 _⟩, gr_setCell1 (gr_of_below hb _) 1 _⟩

theorem RS.bad {w0 w : World} {g : Nat} {l : List UInt8} {bad : Bool} (h : RS w0 w g l bad) : w.cell? ⟨g, 1, none⟩ = some (.bool bad) ∧ w.frozen? ⟨g, 1, none⟩ = false := by
  obtain ⟨_, ⟨v, h2, _⟩, _⟩ := h
  exact ⟨(h2.cell 1).trans rfl, h2.frozen 1⟩

theorem rloc_yes (g : Nat) (l r s : List UInt8) (bad : Bool) (w0 w : World) (h : RS w0 w g l bad) (hl : l.length ≤ 1000000) (hp : pLoc l = some (s, r)) :
    Calls Tryd.prog 55 #[.pointer (some ⟨g, 0, none⟩)] w fun e w' => e = .returned (.string ⟨s.toArray⟩) ∧ RS w0 w' g r bad ∧ w.grownBy w' (some g) := by
  obtain ⟨n, hf, hn, rfl⟩ := pLoc_some hp
  have HF : RowKit.Hid (Calls Tryd.prog 82 #[.pointer (some ⟨g, 0, none⟩), .int .i64 4] w fun e w' => e = .returned (.int .i64 n) ∧ RS w0 w' g r bad ∧ w.grownBy w' (some g)) := Lib.hid (rfix_yes g l r bad 4 n w0 w h (by omega) (by omega) hl hf)
  have HT := Lib.hid fun W => ltext_yes n W hn
  generalize (txt (turnN n)).toArray = tx at *
  clear hp hf hl h
  cases bad
  all_goals
    go_enter Tryd.func55, Tryd.ntmps55
    go_wp2_with (first
      | (go_at_call 82; (with_reducible refine HF.out.mono ?_); rintro e w1 ⟨rfl, hr1, hg1⟩)
      | (go_at_call 116; (with_reducible refine (HT.out _).mono ?_); rintro e w2 ⟨rfl, hb2⟩; obtain ⟨b1, b2⟩ := (hr1.mono hb2).bad))
    go_ret
    obtain ⟨k1, k2⟩ := set_bad _ hr1 hb2
    exact ⟨rfl, k1, gby_trans hg1 k2⟩

/-- Where there is no locator, or it was bad already. -/
theorem rloc_no (g : Nat) (l : List UInt8) (bad : Bool) (w0 w : World) (h : RS w0 w g l bad) (hl : l.length ≤ 1000000) (hp : pLoc l = none ∨ bad = true) :
    Calls Tryd.prog 55 #[.pointer (some ⟨g, 0, none⟩)] w fun e w' => (∃ s : ByteArray, s.size ≤ 6 ∧ e = .returned (.string s)) ∧ (∃ r, RS w0 w' g r true ∧ r.length ≤ 1000000) ∧ w.grownBy w' (some g) := by
  cases hpl : pLoc l with
  | some x =>
    obtain ⟨s, r⟩ := x
    rcases hp with hp | rfl
    · rw [hpl] at hp; cases hp
    · obtain ⟨n, hf, hn, rfl⟩ := pLoc_some hpl
      have hr := (pFix_some hf).2.2
      refine (rloc_yes g l r _ true w0 w h hl hpl).mono ?_
      rintro e w' ⟨rfl, h1, h2⟩
      exact ⟨⟨_, Nat.le_refl _, rfl⟩, ⟨r, h1, by rw [hr, List.length_drop]; omega⟩, h2⟩
  | none =>
    rcases pLoc_none hpl with hf | ⟨n, r, hf, hn⟩
    · have HF : RowKit.Hid (Calls Tryd.prog 82 #[.pointer (some ⟨g, 0, none⟩), .int .i64 4] w fun e w' => e = .returned (.int .i64 0) ∧ RS w0 w' g [] true ∧ w.grownBy w' (some g)) := Lib.hid (rfix_no g l bad 4 w0 w h (by omega) (by omega) hf)
      have HT : RowKit.Hid (∀ W, Calls Tryd.prog 116 #[.int .i64 0] W fun e w' => e = .returned (.tuple #[.string ⟨(txt (turnN 0)).toArray⟩, .int .i64 0]) ∧ Below W.heap.size W w') := Lib.hid fun W => ltext_yes 0 W (by omega)
      have hsz : (⟨(txt (turnN 0)).toArray⟩ : ByteArray).size ≤ 6 := Nat.le_refl _
      generalize (⟨(txt (turnN 0)).toArray⟩ : ByteArray) = tx at *
      have HSZ := Lib.hid hsz
      clear hp hf hl h hpl hsz
      go_enter Tryd.func55, Tryd.ntmps55
      go_wp2_with (first
        | (go_at_call 82; (with_reducible refine HF.out.mono ?_); rintro e w1 ⟨rfl, hr1, hg1⟩)
        | (go_at_call 116; (with_reducible refine (HT.out _).mono ?_); rintro e w2 ⟨rfl, hb2⟩; obtain ⟨b1, b2⟩ := (hr1.mono hb2).bad))
      go_ret
      obtain ⟨k1, k2⟩ := set_bad _ hr1 hb2
      exact ⟨⟨_, HSZ.out, rfl⟩, ⟨_, k1, Nat.zero_le _⟩, gby_trans hg1 k2⟩
    · have hr := (pFix_some hf).2.2
      have HR : RowKit.Hid (r.length ≤ 1000000) := Lib.hid (by rw [hr, List.length_drop]; omega)
      have HF : RowKit.Hid (Calls Tryd.prog 82 #[.pointer (some ⟨g, 0, none⟩), .int .i64 4] w fun e w' => e = .returned (.int .i64 n) ∧ RS w0 w' g r bad ∧ w.grownBy w' (some g)) := Lib.hid (rfix_yes g l r bad 4 n w0 w h (by omega) (by omega) hl hf)
      have HT := Lib.hid fun W => ltext_no (n : Int) W (.inr (by omega))
      clear hp hf hl h hpl hr
      cases bad
      all_goals
        go_enter Tryd.func55, Tryd.ntmps55
        go_wp2_with (first
          | (go_at_call 82; (with_reducible refine HF.out.mono ?_); rintro e w1 ⟨rfl, hr1, hg1⟩)
          | (go_at_call 116; (with_reducible refine (HT.out _).mono ?_); rintro e w2 ⟨rfl, hb2⟩; obtain ⟨b1, b2⟩ := (hr1.mono hb2).bad))
        go_ret
        obtain ⟨k1, k2⟩ := set_bad true hr1 hb2
        exact ⟨⟨_, Nat.zero_le _, rfl⟩, ⟨_, k1, HR.out⟩, gby_trans hg1 k2⟩

theorem begin_yes (g : Nat) (c : UInt8) (l : List UInt8) (w0 w : World) (h : RS w0 w g (c :: l) false) (hl : l.length ≤ 900000) :
    Calls Tryd.prog 53 #[.pointer (some ⟨g, 0, none⟩), .int .u8 c.toNat] w fun e w' => e = .returned (.tuple #[]) ∧ RS w0 w' g l false ∧ w.grownBy w' (some g) := by
  have HB : RowKit.Hid (Calls Tryd.prog 80 #[.pointer (some ⟨g, 0, none⟩), .int .i64 1] w fun e w' => (∃ v, e = .returned v ∧ HasE byteC w' v [c]) ∧ RS w0 w' g l false ∧ w.grownBy w' (some g)) := Lib.hid (rbytes_yes g (c :: l) false 1 w0 w h (Nat.le_refl _) (by rw [List.length_cons]; omega) (by rw [List.length_cons]; omega))
  have hcc : ((c.toNat : Int) != (c.toNat : Int)) = false := by simp
  clear hl h
  go_enter Tryd.func53, Tryd.ntmps53
  go_wp2_with (first
    | (go_at_call 80; (with_reducible refine HB.out.mono ?_); rintro e w1 ⟨⟨v1, rfl, hv1⟩, hr1, hg1⟩; obtain ⟨p1, c1, rfl⟩ := hv1.len; obtain ⟨bb, off, rfl, k0⟩ := byte_at hv1 (i := 0) (by simp); replace k0 : w1.cell? ⟨bb, off, none⟩ = some (.int .u8 c.toNat) := k0; obtain ⟨b1, b2⟩ := hr1.bad))
  go_returns
  obtain ⟨k1, k2⟩ := set_bad false hr1 (Below.refl _ _)
  exact ⟨rfl, k1, gby_trans hg1 k2⟩

/-- Where the first byte is another one, or there is none. -/
theorem begin_no (g : Nat) (c : UInt8) (l : List UInt8) (w0 w : World) (h : RS w0 w g l false) (hl : l.length ≤ 900000) (hc0 : c.toNat ≠ 0) (hne : ∀ r, l ≠ c :: r) :
    Calls Tryd.prog 53 #[.pointer (some ⟨g, 0, none⟩), .int .u8 c.toNat] w fun e w' => e = .returned (.tuple #[]) ∧ (∃ r, RS w0 w' g r true ∧ r.length ≤ 1000000) ∧ w.grownBy w' (some g) := by
  cases l with
  | nil =>
    have HB : RowKit.Hid (Calls Tryd.prog 80 #[.pointer (some ⟨g, 0, none⟩), .int .i64 1] w fun e w' => (∃ v, e = .returned v ∧ HasE byteC w' v [0]) ∧ RS w0 w' g [] true ∧ w.grownBy w' (some g)) := Lib.hid (rbytes_no g [] false 1 w0 w h (Nat.le_refl _) (by omega) (by decide))
    have hcc : ((0 : Int) != (c.toNat : Int)) = true := by rw [bne_iff_ne]; omega
    clear hl h hne hc0
    go_enter Tryd.func53, Tryd.ntmps53
    go_wp2_with (first
      | (go_at_call 80; (with_reducible refine HB.out.mono ?_); rintro e w1 ⟨⟨v1, rfl, hv1⟩, hr1, hg1⟩; obtain ⟨p1, c1, rfl⟩ := hv1.len; obtain ⟨bb, off, rfl, k0⟩ := byte_at hv1 (i := 0) (by simp); replace k0 : w1.cell? ⟨bb, off, none⟩ = some (.int .u8 0) := k0; obtain ⟨b1, b2⟩ := hr1.bad))
    go_returns
    obtain ⟨k1, k2⟩ := set_bad true hr1 (Below.refl _ _)
    exact ⟨rfl, ⟨_, k1, Nat.zero_le _⟩, gby_trans hg1 k2⟩
  | cons x r =>
    have hxc : x ≠ c := fun e => hne r (by rw [e])
    have hxn : x.toNat ≠ c.toNat := fun e => hxc (UInt8.toNat_inj.1 e)
    have HB : RowKit.Hid (Calls Tryd.prog 80 #[.pointer (some ⟨g, 0, none⟩), .int .i64 1] w fun e w' => (∃ v, e = .returned v ∧ HasE byteC w' v [x]) ∧ RS w0 w' g r false ∧ w.grownBy w' (some g)) := Lib.hid (rbytes_yes g (x :: r) false 1 w0 w h (Nat.le_refl _) (by rw [List.length_cons]; omega) (by rw [List.length_cons] at hl; rw [List.length_cons]; omega))
    have HR : RowKit.Hid (r.length ≤ 1000000) := Lib.hid (by rw [List.length_cons] at hl; omega)
    have hcc : ((x.toNat : Int) != (c.toNat : Int)) = true := by rw [bne_iff_ne]; omega
    clear hl h hne hc0 hxc hxn
    go_enter Tryd.func53, Tryd.ntmps53
    go_wp2_with (first
      | (go_at_call 80; (with_reducible refine HB.out.mono ?_); rintro e w1 ⟨⟨v1, rfl, hv1⟩, hr1, hg1⟩; obtain ⟨p1, c1, rfl⟩ := hv1.len; obtain ⟨bb, off, rfl, k0⟩ := byte_at hv1 (i := 0) (by simp); replace k0 : w1.cell? ⟨bb, off, none⟩ = some (.int .u8 x.toNat) := k0; obtain ⟨b1, b2⟩ := hr1.bad))
    go_returns
    obtain ⟨k1, k2⟩ := set_bad true hr1 (Below.refl _ _)
    exact ⟨rfl, ⟨_, k1, HR.out⟩, gby_trans hg1 k2⟩
end Go.Proofs.YtjahkaidinahpaaDoor
