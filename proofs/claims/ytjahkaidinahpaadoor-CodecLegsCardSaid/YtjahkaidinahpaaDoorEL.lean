/- The reader's methods: bytes, number, fixed, locator, begin. -/
import Derived.Test.YtjahkaidinahpaaDoorEK
namespace Go.Proofs.YtjahkaidinahpaaDoor
open Go.RowKit Go.ChangeMaps
set_option linter.unusedSimpArgs false
set_option linter.unusedVariables false
set_option maxRecDepth 20000

/-- A reader at g, made behind the world w0; what is ahead, and whether it is bad. -/
structure RS (w0 w : World) (g : Nat) (l : List UInt8) (bad : Bool) : Prop where
  low : w0.heap.size ≤ g
  blk : ∃ v, Blk w g 118 [v, .bool bad] ∧ HasE byteC w0 v l
  bel : Below w0.heap.size w0 w

theorem RS.lt {w0 w : World} {g : Nat} {l : List UInt8} {bad : Bool} (h : RS w0 w g l bad) : g < w.heap.size := by
  obtain ⟨_, ⟨v, h1, _⟩, _⟩ := h
  exact h1.lt

theorem RS.mono {w0 w w' : World} {g : Nat} {l : List UInt8} {bad : Bool} (h : RS w0 w g l bad) (hb : Below w.heap.size w w') : RS w0 w' g l bad := by
  obtain ⟨h1, ⟨v, h2, h3⟩, h4⟩ := h
  exact ⟨h1, ⟨v, h2.mono hb, h3⟩, h4.trans (hb.mono h4.size)⟩

theorem RS.kept {w0 w w' : World} {g : Nat} {l : List UInt8} {bad : Bool} {row : Option Nat} (h : RS w0 w g l bad) (hg : w.grownBy w' row) (hne : some g ≠ row) (hr : ∀ k, row = some k → w0.heap.size ≤ k) : RS w0 w' g l bad := by
  obtain ⟨h1, ⟨v, h2, h3⟩, h4⟩ := h
  exact ⟨h1, ⟨v, h2.far hg hne, h3⟩, h4.grown hg h4.size hr⟩

theorem HasE.drop {w : World} {b off c n : Nat} {l : List UInt8} (h : HasE byteC w (.slice (some ⟨b, off, none⟩) l.length c) l) (hn : n ≤ l.length) (hc : l.length ≤ c) (hm : c ≤ maxLen) : HasE byteC w (.slice (some ⟨b, off + n, none⟩) (l.length - n) (c - n)) (l.drop n) := by
  rcases h with ⟨p, c', e, rfl, _⟩ | ⟨b', off', c', e, h1, h2, h3⟩
  · have : n = 0 := by simpa using hn
    subst this
    exact .inl ⟨_, _, rfl, rfl, fun e => by cases e⟩
  · injection e with e1 e2 e3
    injection e1 with e1
    injection e1 with e1 e4
    subst e1 e3 e4
    refine .inr ⟨b, off + n, c - n, by rw [List.length_drop], by rw [List.length_drop]; omega, by omega, fun j u hj => ?_⟩
    have := h3 (n + j) u (by
      rw [flat_byte] at hj ⊢
      rw [List.map_drop, List.getElem?_drop] at hj
      exact hj)
    rwa [← Nat.add_assoc] at this

theorem HasE.take {w : World} {b off c n : Nat} {l : List UInt8} (h : HasE byteC w (.slice (some ⟨b, off, none⟩) l.length c) l) (hn : n ≤ l.length) (hc : l.length ≤ c) (hm : c ≤ maxLen) : HasE byteC w (.slice (some ⟨b, off, none⟩) n c) (l.take n) := by
  have hl : (l.take n).length = n := by rw [List.length_take]; omega
  rcases h with ⟨p, c', e, rfl, _⟩ | ⟨b', off', c', e, h1, h2, h3⟩
  · have : n = 0 := by simpa using hn
    subst this
    exact .inl ⟨_, _, rfl, rfl, fun e => by cases e⟩
  · injection e with e1 e2 e3
    injection e1 with e1
    injection e1 with e1 e4
    subst e1 e3 e4
    refine .inr ⟨b, off, c, by rw [hl], by rw [hl]; omega, hm, fun j u hj => h3 j u ?_⟩
    rw [flat_byte] at hj ⊢
    rw [List.map_take, List.getElem?_take] at hj
    split at hj
    · exact hj
    · cases hj

set_option maxHeartbeats 8000000 in
theorem rbytes_yes (g : Nat) (l : List UInt8) (bad : Bool) (n : Nat) (w0 w : World) (h : RS w0 w g l bad) (h1 : 1 ≤ n) (hn : n ≤ l.length) (hl : l.length ≤ 1000000) :
    Calls Tryd.prog 80 #[.pointer (some ⟨g, 0, none⟩), .int .i64 n] w fun e w' => (∃ v, e = .returned v ∧ HasE byteC w' v (l.take n)) ∧ RS w0 w' g (l.drop n) bad ∧ w.grownBy w' (some g) := by
  obtain ⟨hlow, ⟨v, hg, hv⟩, hbel⟩ := h
  have hv2 := hv
  rcases hv2 with ⟨p, c, rfl, rfl, _⟩ | ⟨b, off, c, rfl, hc1, hc2, _⟩
  · simp at hn; omega
  have HG := Lib.hid hg
  have HD := Lib.hid (HasE.drop hv hn hc1 hc2)
  have HT := Lib.hid (HasE.take hv hn hc1 hc2)
  have HB := Lib.hid hbel
  have c0 : w.cell? ⟨g, 0, none⟩ = some (.slice (some ⟨b, off, none⟩) l.length c) := (hg.cell 0).trans rfl
  have hfz := hg.frozen 0
  have hni : ¬ (l.length : Int) < (n : Int) := by omega
  have hn0 : (0 : Int) ≤ (n : Int) := by omega
  have hnl : (n : Int) ≤ (l.length : Int) := by omega
  have hnc : (n : Int) ≤ (c : Int) := by omega
  have hlc : (l.length : Int) ≤ (c : Int) := by omega
  generalize hN : l.length = N at *
  have HN := Lib.hid hN
  have hgl := hg.lt
  clear hv hg hbel hN
  by_cases hcn : c = n
  · subst hcn
    go_enter Tryd.func80, Tryd.ntmps80
    go_wp2
    go_ret
    have e2 : l.drop c = [] := List.drop_eq_nil_of_le (by rw [HN.out]; omega)
    rw [e2]
    exact ⟨⟨_, rfl, HT.out.mono (HB.out.setCell (p := ⟨g, 0, none⟩) hlow _)⟩, ⟨hlow, ⟨_, HG.out.set 0 _, .inl ⟨_, _, rfl, rfl, fun e => by cases e⟩⟩, HB.out.setCell (p := ⟨g, 0, none⟩) hlow _⟩, gr_setCell1 (World.grownBy.refl _ _) 0 _⟩
  · go_enter Tryd.func80, Tryd.ntmps80
    go_wp2
    go_ret
    exact ⟨⟨_, rfl, HT.out.mono (HB.out.setCell (p := ⟨g, 0, none⟩) hlow _)⟩, ⟨hlow, ⟨_, HG.out.set 0 _, HD.out⟩, HB.out.setCell (p := ⟨g, 0, none⟩) hlow _⟩, gr_setCell1 (World.grownBy.refl _ _) 0 _⟩

theorem zeros_has (g n : Nat) (h : n ≤ maxLen) {w1 : World} (hb : Blk w1 g 5 (zerosV n)) : HasE byteC w1 (.slice (some ⟨g, 0, none⟩) n n) (List.replicate n 0) := by
  have e : (List.replicate n (0 : UInt8)).flatMap byteC = zerosV n := by
    rw [flat_byte, List.map_replicate]; rfl
  have h2 := OwnB.of_blk (l := List.replicate n 0) (t := []) (B := 0) (g := g) (c := n) (by rw [e, List.append_nil]; exact hb) (Nat.zero_le _) (by simp) h
  rw [List.length_replicate] at h2
  exact h2.has

set_option maxHeartbeats 8000000 in
theorem rbytes_no (g : Nat) (l : List UInt8) (bad : Bool) (n : Nat) (w0 w : World) (h : RS w0 w g l bad) (h1 : 1 ≤ n) (hn8 : n ≤ 8) (hn : l.length < n) :
    Calls Tryd.prog 80 #[.pointer (some ⟨g, 0, none⟩), .int .i64 n] w fun e w' => (∃ v, e = .returned v ∧ HasE byteC w' v (List.replicate n 0)) ∧ RS w0 w' g [] true ∧ w.grownBy w' (some g) := by
  obtain ⟨hlow, ⟨v, hg, hv⟩, hbel⟩ := h
  obtain ⟨p, c, rfl⟩ := hv.len
  have HG := Lib.hid hg
  have HB := Lib.hid hbel
  have c0 : w.cell? ⟨g, 0, none⟩ = some (.slice p l.length c) := (hg.cell 0).trans rfl
  have c1 : w.cell? ⟨g, 1, none⟩ = some (.bool bad) := (hg.cell 1).trans rfl
  have hfz := hg.frozen 0
  have hfz1 := hg.frozen 1
  have hni : (l.length : Int) < (n : Int) := by omega
  have hn8i : (n : Int) ≤ 8 := by omega
  generalize hN : l.length = N at *
  have hgl := hg.lt
  clear hv hg hbel hN
  go_enter Tryd.func80, Tryd.ntmps80
  go_wp2_with (first
    | (at_make; refine wpList_make_bytes rfl _ _ rfl n n rfl rfl rfl rfl (Nat.le_refl _) (by omega) ?_; intro w5 hbk5 hb5 hz5))
  go_ret
  have hg2 := (HG.out.set 0 (.slice none 0 0)).set 1 (.bool true)
  have hs2 : ((w.setCell ⟨g, 0, none⟩ (.slice none 0 0)).setCell ⟨g, 1, none⟩ (.bool true)).heap.size = w.heap.size := by simp [World.setCell]
  have hbb : Below w0.heap.size w0 ((w.setCell ⟨g, 0, none⟩ (.slice none 0 0)).setCell ⟨g, 1, none⟩ (.bool true)) := (HB.out.setCell (p := ⟨g, 0, none⟩) hlow _).setCell (p := ⟨g, 1, none⟩) hlow _
  have hgg : w.grownBy ((w.setCell ⟨g, 0, none⟩ (.slice none 0 0)).setCell ⟨g, 1, none⟩ (.bool true)) (some g) := gr_setCell1 (gr_setCell1 (World.grownBy.refl _ _) 0 _) 1 _
  have hz := zeros_has _ n (by unfold maxLen; omega) hbk5
  rw [hs2] at hz
  exact ⟨⟨_, rfl, hz⟩, ⟨hlow, ⟨_, hg2.mono hb5, HasE.nil _⟩, hbb.trans (hb5.mono hbb.size)⟩, gby_trans hgg (gr_of_below hb5 _)⟩

theorem pNum_some {most : Nat} {l r : List UInt8} {n : Nat} (h : pNum most l = some (n, r)) : ∃ k, rvL 0 0 l = some (n, k) ∧ n ≤ most ∧ r = l.drop k ∧ 0 < k ∧ k ≤ l.length := by
  unfold pNum at h
  cases hr : rvL 0 0 l with
  | none => rw [hr] at h; cases h
  | some x =>
    obtain ⟨n', k⟩ := x
    rw [hr] at h
    have h' : (if n' ≤ most then some (n', l.drop k) else none) = some (n, r) := h
    split at h'
    · rename_i hle
      injection h' with h'
      injection h' with h1 h2
      subst h1 h2
      obtain ⟨_, g2, g3, _⟩ := rvL_lt l 0 0 n' k (by omega) (by decide) hr
      exact ⟨k, rfl, hle, rfl, g2, by omega⟩
    · cases h'

theorem pNum_none {most : Nat} {l : List UInt8} (h : pNum most l = none) : rvL 0 0 l = none ∨ ∃ n k, rvL 0 0 l = some (n, k) ∧ most < n := by
  unfold pNum at h
  cases hr : rvL 0 0 l with
  | none => exact .inl rfl
  | some x =>
    obtain ⟨n', k⟩ := x
    rw [hr] at h
    have h' : (if n' ≤ most then some (n', l.drop k) else none) = none := h
    split at h'
    · cases h'
    · exact .inr ⟨n', k, rfl, by omega⟩

set_option maxHeartbeats 8000000 in
theorem rnum_yes (g : Nat) (l r : List UInt8) (bad : Bool) (most n : Nat) (w0 w : World) (h : RS w0 w g l bad) (hl : l.length ≤ 1000000) (hm : most ≤ 4000000000) (hp : pNum most l = some (n, r)) :
    Calls Tryd.prog 54 #[.pointer (some ⟨g, 0, none⟩), .int .i64 most] w fun e w' => e = .returned (.int .i64 n) ∧ RS w0 w' g r bad ∧ w.grownBy w' (some g) := by
  obtain ⟨k, hrv, hnm, rfl, hk0, hkl⟩ := pNum_some hp
  obtain ⟨hlow, ⟨v, hg, hv⟩, hbel⟩ := h
  have hv2 := hv
  rcases hv2 with ⟨p, c, rfl, rfl, _⟩ | ⟨b, off, c, rfl, hc1, hc2, _⟩
  · simp at hkl; omega
  have HG := Lib.hid hg
  have HD := Lib.hid (HasE.drop hv hkl hc1 hc2)
  have HB := Lib.hid hbel
  have HRV : RowKit.Hid (Calls Tryd.prog 115 #[.slice (some ⟨b, off, none⟩) l.length c] w fun e w' => e = .returned (.tuple #[.int .u64 n, .int .i64 k, .int .i64 0]) ∧ w = w') := Lib.hid ((readVar_any l _ w (hv.mono hbel) hl).mono (by
    rintro e w' ⟨h1, rfl⟩
    rcases h1 with ⟨n', k', h2, rfl⟩ | ⟨h2, _⟩
    · rw [hrv] at h2
      injection h2 with h2
      injection h2 with h2 h3
      subst h2 h3
      exact ⟨rfl, rfl⟩
    · rw [hrv] at h2; cases h2))
  have c0 : w.cell? ⟨g, 0, none⟩ = some (.slice (some ⟨b, off, none⟩) l.length c) := (hg.cell 0).trans rfl
  have hfz := hg.frozen 0
  have hw1 : IntKind.u64.wrap (most : Int) = (most : Int) := by rw [IntKind.wrap_u64]; omega
  have hw2 : IntKind.i64.wrap (n : Int) = (n : Int) := by rw [IntKind.wrap_i64]; omega
  have hni : ¬ (most : Int) < (n : Int) := by omega
  have hk0i : (0 : Int) ≤ (k : Int) := by omega
  have hnl : (k : Int) ≤ (l.length : Int) := by omega
  have hnc : (k : Int) ≤ (c : Int) := by omega
  have hlc : (l.length : Int) ≤ (c : Int) := by omega
  generalize hN : l.length = N at *
  have HN := Lib.hid hN
  have hgl := hg.lt
  clear hv hg hbel hN hm hnm hl hp hrv
  by_cases hcn : c = k
  · subst hcn
    go_enter Tryd.func54, Tryd.ntmps54
    go_wp2_with (first
      | (go_at_call 115; (with_reducible refine HRV.out.mono ?_); rintro e w1 ⟨rfl, rfl⟩))
    go_ret
    have e2 : l.drop c = [] := List.drop_eq_nil_of_le (by rw [HN.out]; omega)
    rw [e2]
    exact ⟨rfl, ⟨hlow, ⟨_, HG.out.set 0 _, .inl ⟨_, _, rfl, rfl, fun e => by cases e⟩⟩, HB.out.setCell (p := ⟨g, 0, none⟩) hlow _⟩, gr_setCell1 (World.grownBy.refl _ _) 0 _⟩
  · go_enter Tryd.func54, Tryd.ntmps54
    go_wp2_with (first
      | (go_at_call 115; (with_reducible refine HRV.out.mono ?_); rintro e w1 ⟨rfl, rfl⟩))
    go_ret
    exact ⟨rfl, ⟨hlow, ⟨_, HG.out.set 0 _, HD.out⟩, HB.out.setCell (p := ⟨g, 0, none⟩) hlow _⟩, gr_setCell1 (World.grownBy.refl _ _) 0 _⟩

theorem bad_two {w0 w : World} {g : Nat} {x y : Value} (hlow : w0.heap.size ≤ g) (hg : Blk w g 118 [x, y]) (hb : Below w0.heap.size w0 w) :
    RS w0 ((w.setCell ⟨g, 0, none⟩ (.slice none 0 0)).setCell ⟨g, 1, none⟩ (.bool true)) g [] true ∧ w.grownBy ((w.setCell ⟨g, 0, none⟩ (.slice none 0 0)).setCell ⟨g, 1, none⟩ (.bool true)) (some g) :=
  ⟨⟨hlow, ⟨_, (hg.set 0 (.slice none 0 0)).set 1 (.bool true), HasE.nil _⟩, (hb.setCell (p := ⟨g, 0, none⟩) hlow _).setCell (p := ⟨g, 1, none⟩) hlow _⟩, gr_setCell1 (gr_setCell1 (World.grownBy.refl _ _) 0 _) 1 _⟩

set_option maxHeartbeats 8000000 in
theorem rnum_no (g : Nat) (l : List UInt8) (bad : Bool) (most : Nat) (w0 w : World) (h : RS w0 w g l bad) (hl : l.length ≤ 1000000) (hm : most ≤ 4000000000) (hp : pNum most l = none) :
    Calls Tryd.prog 54 #[.pointer (some ⟨g, 0, none⟩), .int .i64 most] w fun e w' => e = .returned (.int .i64 0) ∧ RS w0 w' g [] true ∧ w.grownBy w' (some g) := by
  obtain ⟨hlow, ⟨v, hg, hv⟩, hbel⟩ := h
  obtain ⟨p, c, rfl⟩ := hv.len
  have HRV := (readVar_any l _ w (hv.mono hbel) hl)
  have HG := Lib.hid hg
  have HB := Lib.hid hbel
  have c0 : w.cell? ⟨g, 0, none⟩ = some (.slice p l.length c) := (hg.cell 0).trans rfl
  have c1 : w.cell? ⟨g, 1, none⟩ = some (.bool bad) := (hg.cell 1).trans rfl
  have hfz := hg.frozen 0
  have hfz1 := hg.frozen 1
  have hw1 : IntKind.u64.wrap (most : Int) = (most : Int) := by rw [IntKind.wrap_u64]; omega
  have hgl := hg.lt
  rcases pNum_none hp with hrv | ⟨n, k, hrv, hmn⟩
  · have HRV2 : RowKit.Hid (Calls Tryd.prog 115 #[.slice p l.length c] w fun e w' => ∃ z : Int, (z != 0) = true ∧ e = .returned (.tuple #[.int .u64 0, .int .i64 0, .int .i64 z]) ∧ w = w') := Lib.hid (HRV.mono (by
      rintro e w' ⟨h1, rfl⟩
      rcases h1 with ⟨n', k', h2, rfl⟩ | ⟨h2, z, hz, rfl⟩
      · rw [hrv] at h2; cases h2
      · exact ⟨z, by rw [bne_iff_ne]; exact hz, rfl, rfl⟩))
    clear hv hg hbel hm hl hp hrv HRV
    go_enter Tryd.func54, Tryd.ntmps54
    go_wp2_with (first
      | (go_at_call 115; (with_reducible refine HRV2.out.mono ?_); rintro e w1 ⟨z, hz, rfl, rfl⟩))
    go_ret
    exact ⟨rfl, bad_two hlow HG.out HB.out⟩
  · have HRV2 : RowKit.Hid (Calls Tryd.prog 115 #[.slice p l.length c] w fun e w' => e = .returned (.tuple #[.int .u64 n, .int .i64 k, .int .i64 0]) ∧ w = w') := Lib.hid (HRV.mono (by
      rintro e w' ⟨h1, rfl⟩
      rcases h1 with ⟨n', k', h2, rfl⟩ | ⟨h2, _⟩
      · rw [hrv] at h2
        injection h2 with h2
        injection h2 with h2 h3
        subst h2 h3
        exact ⟨rfl, rfl⟩
      · rw [hrv] at h2; cases h2))
    have hmi : (most : Int) < (n : Int) := by omega
    clear hv hg hbel hm hl hp hrv HRV hmn
    go_enter Tryd.func54, Tryd.ntmps54
    go_wp2_with (first
      | (go_at_call 115; (with_reducible refine HRV2.out.mono ?_); rintro e w1 ⟨rfl, rfl⟩))
    go_ret
    exact ⟨rfl, bad_two hlow HG.out HB.out⟩
end Go.Proofs.YtjahkaidinahpaaDoor
