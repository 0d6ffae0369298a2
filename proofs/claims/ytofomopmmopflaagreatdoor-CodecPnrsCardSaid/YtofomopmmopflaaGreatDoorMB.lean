/- The reader's methods: bytes, number, fixed, locator, begin. The reader's methods: fixed, locator, begin. bytes.Equal, again. The reader's steps, whatever comes; codec.ReadQueue. codec.ReadCount. -/
import Derived.Test.YtofomopmmopflaaGreatDoorMA
import Derived.Test.YtofomopmmopflaaGreatDoorRows
import Derived.WalkKit
import Derived.WalkSpells
import Derived.WalkLawsBesides
import Derived.Lib.ConvBytes
import Derived.Lib.Hide
import Derived.Lib.SliceRun
import Derived.IntWalk
import Derived.BigQuiet
import Derived.Deep.QuietTactic
import Derived.Deep.RegionWith
import Derived.Deep.RegionHeld3
import Derived.Deep.LoopGhost
import Derived.Deep.CutRange
import Derived.Deep.CutBlock
import Derived.Deep.MidRow
import Derived.Laws.OwnMore
import Derived.OwnWalk
import Derived.Laws.AppendOwnNone
import Derived.Laws.Rows
import Derived.Laws.MakeOwn
import Derived.Laws.CopyOwn
import Derived.Laws.BitsAllLaws
import Derived.DeepKeys5
import Derived.Maps.OwnOps
import Derived.Handy
namespace Go.Proofs.YtofomopmmopflaaGreatDoor
open Go.RowKit Go.ChangeMaps
set_option linter.unusedSimpArgs false
set_option linter.unusedVariables false
set_option maxRecDepth 20000

/-- A reader at g, made behind the world w0; what is ahead, and whether it is bad. -/
structure RS (w0 w : World) (g : Nat) (l : List UInt8) (bad : Bool) : Prop where
  low : w0.heap.size ≤ g
  blk : ∃ v, Blk w g 84 [v, .bool bad] ∧ HasE byteC w0 v l
  bel : Below w0.heap.size w0 w

theorem RS.lt {w0 w : World} {g : Nat} {l : List UInt8} {bad : Bool} (h : RS w0 w g l bad) : g < w.heap.size := by
  obtain ⟨_, ⟨v, h1, _⟩, _⟩ := h
  exact h1.lt

theorem RS.mono {w0 w w' : World} {g : Nat} {l : List UInt8} {bad : Bool} (h : RS w0 w g l bad) (hb : Below w.heap.size w w') : RS w0 w' g l bad := by
  obtain ⟨h1, ⟨v, h2, h3⟩, h4⟩ := h
  exact ⟨h1, ⟨v, h2.mono hb, h3⟩, h4.trans (hb.mono h4.size)⟩

theorem RS.kept {w0 w w' : World} {g : Nat} {l : List UInt8} {bad : Bool} {row : Option Nat} (h : RS w0 w g l bad) (hg : w.grownBy w' row) (hne : some g ≠ row) (hr : ∀ k, row = some k → w0.heap.size ≤ k) : RS w0 w' g l bad := by
  obtain ⟨h1, ⟨v, h2, h3⟩, h4⟩ := h
  exact ⟨h1, ⟨v, h2.far hg hne, h3⟩, h4.grown hg h4.size hr⟩

theorem HasE.drop {w : World} {b off c n : Nat} {l : List UInt8} (h : HasE byteC w (.slice (some ⟨b, off, none⟩) l.length c) l) (hn : n ≤ l.length) (hc : l.length ≤ c) (hm : c ≤ maxLen) : HasE byteC w (.slice (some ⟨b, off + n, none⟩) (l.length - n) (c - n)) (l.drop n) := by
  rcases h with ⟨p, c', e, rfl, _⟩ | ⟨b', off', c', e, h1, h2, h3⟩
  · have : n = 0 := by simpa using hn
    subst this
    exact .inl ⟨_, _, rfl, rfl, fun e => by cases e⟩
  · injection e with e1 e2 e3
    injection e1 with e1
    injection e1 with e1 e4
    subst e1 e3 e4
    refine .inr ⟨b, off + n, c - n, by rw [List.length_drop], by rw [List.length_drop]; omega, by omega, fun j u hj => ?_⟩
    have := h3 (n + j) u (by
      rw [flat_byte] at hj ⊢
      rw [List.map_drop, List.getElem?_drop] at hj
      exact hj)
    rwa [← Nat.add_assoc] at this

theorem HasE.take {w : World} {b off c n : Nat} {l : List UInt8} (h : HasE byteC w (.slice (some ⟨b, off, none⟩) l.length c) l) (hn : n ≤ l.length) (hc : l.length ≤ c) (hm : c ≤ maxLen) : HasE byteC w (.slice (some ⟨b, off, none⟩) n c) (l.take n) := by
  have hl : (l.take n).length = n := by rw [List.length_take]; omega
  rcases h with ⟨p, c', e, rfl, _⟩ | ⟨b', off', c', e, h1, h2, h3⟩
  · have : n = 0 := by simpa using hn
    subst this
    exact .inl ⟨_, _, rfl, rfl, fun e => by cases e⟩
  · injection e with e1 e2 e3
    injection e1 with e1
    injection e1 with e1 e4
    subst e1 e3 e4
    refine .inr ⟨b, off, c, by rw [hl], by rw [hl]; omega, hm, fun j u hj => h3 j u ?_⟩
    rw [flat_byte] at hj ⊢
    rw [List.map_take, List.getElem?_take] at hj
    split at hj
    · exact hj
    · cases hj

set_option maxHeartbeats 8000000 in
theorem rbytes_yes (g : Nat) (l : List UInt8) (bad : Bool) (n : Nat) (w0 w : World) (h : RS w0 w g l bad) (h1 : 1 ≤ n) (hn : n ≤ l.length) (hl : l.length ≤ 1000000) :
    Calls Tryz.prog 38 #[.pointer (some ⟨g, 0, none⟩), .int .i64 n] w fun e w' => (∃ v, e = .returned v ∧ HasE byteC w' v (l.take n)) ∧ RS w0 w' g (l.drop n) bad ∧ w.grownBy w' (some g) := by
  obtain ⟨hlow, ⟨v, hg, hv⟩, hbel⟩ := h
  have hv2 := hv
  rcases hv2 with ⟨p, c, rfl, rfl, _⟩ | ⟨b, off, c, rfl, hc1, hc2, _⟩
  · simp at hn; omega
  have HG := Lib.hid hg
  have HD := Lib.hid (HasE.drop hv hn hc1 hc2)
  have HT := Lib.hid (HasE.take hv hn hc1 hc2)
  have HB := Lib.hid hbel
  have c0 : w.cell? ⟨g, 0, none⟩ = some (.slice (some ⟨b, off, none⟩) l.length c) := (hg.cell 0).trans rfl
  have hfz := hg.frozen 0
  have hni : ¬ (l.length : Int) < (n : Int) := by omega
  have hn0 : (0 : Int) ≤ (n : Int) := by omega
  have hnl : (n : Int) ≤ (l.length : Int) := by omega
  have hnc : (n : Int) ≤ (c : Int) := by omega
  have hlc : (l.length : Int) ≤ (c : Int) := by omega
  generalize hN : l.length = N at *
  have HN := Lib.hid hN
  have hgl := hg.lt
  clear hv hg hbel hN
  by_cases hcn : c = n
  · subst hcn
    go_enter Tryz.func38, Tryz.ntmps38
    go_wp2
    go_ret
    have e2 : l.drop c = [] := List.drop_eq_nil_of_le (by rw [HN.out]; omega)
    rw [e2]
    exact ⟨⟨_, rfl, HT.out.mono (HB.out.setCell (p := ⟨g, 0, none⟩) hlow _)⟩, ⟨hlow, ⟨_, HG.out.set 0 _, .inl ⟨_, _, rfl, rfl, fun e => by cases e⟩⟩, HB.out.setCell (p := ⟨g, 0, none⟩) hlow _⟩, gr_setCell1 (World.grownBy.refl _ _) 0 _⟩
  · go_enter Tryz.func38, Tryz.ntmps38
    go_wp2
    go_ret
    exact ⟨⟨_, rfl, HT.out.mono (HB.out.setCell (p := ⟨g, 0, none⟩) hlow _)⟩, ⟨hlow, ⟨_, HG.out.set 0 _, HD.out⟩, HB.out.setCell (p := ⟨g, 0, none⟩) hlow _⟩, gr_setCell1 (World.grownBy.refl _ _) 0 _⟩

theorem zeros_has (g n : Nat) (h : n ≤ maxLen) {w1 : World} (hb : Blk w1 g 5 (zerosV n)) : HasE byteC w1 (.slice (some ⟨g, 0, none⟩) n n) (List.replicate n 0) := by
  have e : (List.replicate n (0 : UInt8)).flatMap byteC = zerosV n := by
    rw [flat_byte, List.map_replicate]; rfl
  have h2 := OwnB.of_blk (l := List.replicate n 0) (t := []) (B := 0) (g := g) (c := n) (by rw [e, List.append_nil]; exact hb) (Nat.zero_le _) (by simp) h
  rw [List.length_replicate] at h2
  exact h2.has

set_option maxHeartbeats 8000000 in
theorem rbytes_no (g : Nat) (l : List UInt8) (bad : Bool) (n : Nat) (w0 w : World) (h : RS w0 w g l bad) (h1 : 1 ≤ n) (hn8 : n ≤ 8) (hn : l.length < n) :
    Calls Tryz.prog 38 #[.pointer (some ⟨g, 0, none⟩), .int .i64 n] w fun e w' => (∃ v, e = .returned v ∧ HasE byteC w' v (List.replicate n 0)) ∧ RS w0 w' g [] true ∧ w.grownBy w' (some g) := by
  obtain ⟨hlow, ⟨v, hg, hv⟩, hbel⟩ := h
  obtain ⟨p, c, rfl⟩ := hv.len
  have HG := Lib.hid hg
  have HB := Lib.hid hbel
  have c0 : w.cell? ⟨g, 0, none⟩ = some (.slice p l.length c) := (hg.cell 0).trans rfl
  have c1 : w.cell? ⟨g, 1, none⟩ = some (.bool bad) := (hg.cell 1).trans rfl
  have hfz := hg.frozen 0
  have hfz1 := hg.frozen 1
  have hni : (l.length : Int) < (n : Int) := by omega
  have hn8i : (n : Int) ≤ 8 := by omega
  generalize hN : l.length = N at *
  have hgl := hg.lt
  clear hv hg hbel hN
  go_enter Tryz.func38, Tryz.ntmps38
  go_wp2_with (first
    | (at_make; refine wpList_make_bytes rfl _ _ rfl n n rfl rfl rfl rfl (Nat.le_refl _) (by omega) ?_; intro w5 hbk5 hb5 hz5))
  go_ret
  have hg2 := (HG.out.set 0 (.slice none 0 0)).set 1 (.bool true)
  have hs2 : ((w.setCell ⟨g, 0, none⟩ (.slice none 0 0)).setCell ⟨g, 1, none⟩ (.bool true)).heap.size = w.heap.size := by simp [World.setCell]
  have hbb : Below w0.heap.size w0 ((w.setCell ⟨g, 0, none⟩ (.slice none 0 0)).setCell ⟨g, 1, none⟩ (.bool true)) := (HB.out.setCell (p := ⟨g, 0, none⟩) hlow _).setCell (p := ⟨g, 1, none⟩) hlow _
  have hgg : w.grownBy ((w.setCell ⟨g, 0, none⟩ (.slice none 0 0)).setCell ⟨g, 1, none⟩ (.bool true)) (some g) := gr_setCell1 (gr_setCell1 (World.grownBy.refl _ _) 0 _) 1 _
  have hz := zeros_has _ n (by unfold maxLen; omega) hbk5
  rw [hs2] at hz
  exact ⟨⟨_, rfl, hz⟩, ⟨hlow, ⟨_, hg2.mono hb5, HasE.nil _⟩, hbb.trans (hb5.mono hbb.size)⟩, gby_trans hgg (gr_of_below hb5 _)⟩

theorem pNum_some {most : Nat} {l r : List UInt8} {n : Nat} (h : pNum most l = some (n, r)) : ∃ k, rvL 0 0 l = some (n, k) ∧ n ≤ most ∧ r = l.drop k ∧ 0 < k ∧ k ≤ l.length := by
  unfold pNum at h
  cases hr : rvL 0 0 l with
  | none => rw [hr] at h; cases h
  | some x =>
    obtain ⟨n', k⟩ := x
    rw [hr] at h
    have h' : (if n' ≤ most then some (n', l.drop k) else none) = some (n, r) := h
    split at h'
    · rename_i hle
      injection h' with h'
      injection h' with h1 h2
      subst h1 h2
      obtain ⟨_, g2, g3, _⟩ := rvL_lt l 0 0 n' k (by omega) (by decide) hr
      exact ⟨k, rfl, hle, rfl, g2, by omega⟩
    · cases h'

theorem pNum_none {most : Nat} {l : List UInt8} (h : pNum most l = none) : rvL 0 0 l = none ∨ ∃ n k, rvL 0 0 l = some (n, k) ∧ most < n := by
  unfold pNum at h
  cases hr : rvL 0 0 l with
  | none => exact .inl rfl
  | some x =>
    obtain ⟨n', k⟩ := x
    rw [hr] at h
    have h' : (if n' ≤ most then some (n', l.drop k) else none) = none := h
    split at h'
    · cases h'
    · exact .inr ⟨n', k, rfl, by omega⟩

set_option maxHeartbeats 8000000 in
theorem rnum_yes (g : Nat) (l r : List UInt8) (bad : Bool) (most n : Nat) (w0 w : World) (h : RS w0 w g l bad) (hl : l.length ≤ 1000000) (hm : most ≤ 4000000000) (hp : pNum most l = some (n, r)) :
    Calls Tryz.prog 40 #[.pointer (some ⟨g, 0, none⟩), .int .i64 most] w fun e w' => e = .returned (.int .i64 n) ∧ RS w0 w' g r bad ∧ w.grownBy w' (some g) := by
  obtain ⟨k, hrv, hnm, rfl, hk0, hkl⟩ := pNum_some hp
  obtain ⟨hlow, ⟨v, hg, hv⟩, hbel⟩ := h
  have hv2 := hv
  rcases hv2 with ⟨p, c, rfl, rfl, _⟩ | ⟨b, off, c, rfl, hc1, hc2, _⟩
  · simp at hkl; omega
  have HG := Lib.hid hg
  have HD := Lib.hid (HasE.drop hv hkl hc1 hc2)
  have HB := Lib.hid hbel
  have HRV : RowKit.Hid (Calls Tryz.prog 67 #[.slice (some ⟨b, off, none⟩) l.length c] w fun e w' => e = .returned (.tuple #[.int .u64 n, .int .i64 k, .int .i64 0]) ∧ w = w') := Lib.hid ((readVar_any l _ w (hv.mono hbel) hl).mono (by
    rintro e w' ⟨h1, rfl⟩
    rcases h1 with ⟨n', k', h2, rfl⟩ | ⟨h2, _⟩
    · rw [hrv] at h2
      injection h2 with h2
      injection h2 with h2 h3
      subst h2 h3
      exact ⟨rfl, rfl⟩
    · rw [hrv] at h2; cases h2))
  have c0 : w.cell? ⟨g, 0, none⟩ = some (.slice (some ⟨b, off, none⟩) l.length c) := (hg.cell 0).trans rfl
  have hfz := hg.frozen 0
  have hw1 : IntKind.u64.wrap (most : Int) = (most : Int) := by rw [IntKind.wrap_u64]; omega
  have hw2 : IntKind.i64.wrap (n : Int) = (n : Int) := by rw [IntKind.wrap_i64]; omega
  have hni : ¬ (most : Int) < (n : Int) := by omega
  have hk0i : (0 : Int) ≤ (k : Int) := by omega
  have hnl : (k : Int) ≤ (l.length : Int) := by omega
  have hnc : (k : Int) ≤ (c : Int) := by omega
  have hlc : (l.length : Int) ≤ (c : Int) := by omega
  generalize hN : l.length = N at *
  have HN := Lib.hid hN
  have hgl := hg.lt
  clear hv hg hbel hN hm hnm hl hp hrv
  by_cases hcn : c = k
  · subst hcn
    go_enter Tryz.func40, Tryz.ntmps40
    go_wp2_with (first
      | (go_at_call 67; (with_reducible refine HRV.out.mono ?_); rintro e w1 ⟨rfl, rfl⟩))
    go_ret
    have e2 : l.drop c = [] := List.drop_eq_nil_of_le (by rw [HN.out]; omega)
    rw [e2]
    exact ⟨rfl, ⟨hlow, ⟨_, HG.out.set 0 _, .inl ⟨_, _, rfl, rfl, fun e => by cases e⟩⟩, HB.out.setCell (p := ⟨g, 0, none⟩) hlow _⟩, gr_setCell1 (World.grownBy.refl _ _) 0 _⟩
  · go_enter Tryz.func40, Tryz.ntmps40
    go_wp2_with (first
      | (go_at_call 67; (with_reducible refine HRV.out.mono ?_); rintro e w1 ⟨rfl, rfl⟩))
    go_ret
    exact ⟨rfl, ⟨hlow, ⟨_, HG.out.set 0 _, HD.out⟩, HB.out.setCell (p := ⟨g, 0, none⟩) hlow _⟩, gr_setCell1 (World.grownBy.refl _ _) 0 _⟩

theorem bad_two {w0 w : World} {g : Nat} {x y : Value} (hlow : w0.heap.size ≤ g) (hg : Blk w g 84 [x, y]) (hb : Below w0.heap.size w0 w) :
    RS w0 ((w.setCell ⟨g, 0, none⟩ (.slice none 0 0)).setCell ⟨g, 1, none⟩ (.bool true)) g [] true ∧ w.grownBy ((w.setCell ⟨g, 0, none⟩ (.slice none 0 0)).setCell ⟨g, 1, none⟩ (.bool true)) (some g) :=
  ⟨⟨hlow, ⟨_, (hg.set 0 (.slice none 0 0)).set 1 (.bool true), HasE.nil _⟩, (hb.setCell (p := ⟨g, 0, none⟩) hlow _).setCell (p := ⟨g, 1, none⟩) hlow _⟩, gr_setCell1 (gr_setCell1 (World.grownBy.refl _ _) 0 _) 1 _⟩

set_option maxHeartbeats 8000000 in
theorem rnum_no (g : Nat) (l : List UInt8) (bad : Bool) (most : Nat) (w0 w : World) (h : RS w0 w g l bad) (hl : l.length ≤ 1000000) (hm : most ≤ 4000000000) (hp : pNum most l = none) :
    Calls Tryz.prog 40 #[.pointer (some ⟨g, 0, none⟩), .int .i64 most] w fun e w' => e = .returned (.int .i64 0) ∧ RS w0 w' g [] true ∧ w.grownBy w' (some g) := by
  obtain ⟨hlow, ⟨v, hg, hv⟩, hbel⟩ := h
  obtain ⟨p, c, rfl⟩ := hv.len
  have HRV := (readVar_any l _ w (hv.mono hbel) hl)
  have HG := Lib.hid hg
  have HB := Lib.hid hbel
  have c0 : w.cell? ⟨g, 0, none⟩ = some (.slice p l.length c) := (hg.cell 0).trans rfl
  have c1 : w.cell? ⟨g, 1, none⟩ = some (.bool bad) := (hg.cell 1).trans rfl
  have hfz := hg.frozen 0
  have hfz1 := hg.frozen 1
  have hw1 : IntKind.u64.wrap (most : Int) = (most : Int) := by rw [IntKind.wrap_u64]; omega
  have hgl := hg.lt
  rcases pNum_none hp with hrv | ⟨n, k, hrv, hmn⟩
  · have HRV2 : RowKit.Hid (Calls Tryz.prog 67 #[.slice p l.length c] w fun e w' => ∃ z : Int, (z != 0) = true ∧ e = .returned (.tuple #[.int .u64 0, .int .i64 0, .int .i64 z]) ∧ w = w') := Lib.hid (HRV.mono (by
      rintro e w' ⟨h1, rfl⟩
      rcases h1 with ⟨n', k', h2, rfl⟩ | ⟨h2, z, hz, rfl⟩
      · rw [hrv] at h2; cases h2
      · exact ⟨z, by rw [bne_iff_ne]; exact hz, rfl, rfl⟩))
    clear hv hg hbel hm hl hp hrv HRV
    go_enter Tryz.func40, Tryz.ntmps40
    go_wp2_with (first
      | (go_at_call 67; (with_reducible refine HRV2.out.mono ?_); rintro e w1 ⟨z, hz, rfl, rfl⟩))
    go_ret
    exact ⟨rfl, bad_two hlow HG.out HB.out⟩
  · have HRV2 : RowKit.Hid (Calls Tryz.prog 67 #[.slice p l.length c] w fun e w' => e = .returned (.tuple #[.int .u64 n, .int .i64 k, .int .i64 0]) ∧ w = w') := Lib.hid (HRV.mono (by
      rintro e w' ⟨h1, rfl⟩
      rcases h1 with ⟨n', k', h2, rfl⟩ | ⟨h2, _⟩
      · rw [hrv] at h2
        injection h2 with h2
        injection h2 with h2 h3
        subst h2 h3
        exact ⟨rfl, rfl⟩
      · rw [hrv] at h2; cases h2))
    have hmi : (most : Int) < (n : Int) := by omega
    clear hv hg hbel hm hl hp hrv HRV hmn
    go_enter Tryz.func40, Tryz.ntmps40
    go_wp2_with (first
      | (go_at_call 67; (with_reducible refine HRV2.out.mono ?_); rintro e w1 ⟨rfl, rfl⟩))
    go_ret
    exact ⟨rfl, bad_two hlow HG.out HB.out⟩
end Go.Proofs.YtofomopmmopflaaGreatDoor
namespace Go.Proofs.YtofomopmmopflaaGreatDoor
open Go.RowKit Go.ChangeMaps
set_option linter.unusedSimpArgs false
set_option linter.unusedVariables false
set_option maxRecDepth 20000

theorem pFix_some {k : Nat} {l r : List UInt8} {n : Nat} (h : pFix k l = some (n, r)) : k ≤ l.length ∧ n = valB (l.take k) ∧ r = l.drop k := by
  unfold pFix at h
  split at h
  · rename_i hk
    injection h with h
    injection h with h1 h2
    exact ⟨hk, h1.symm, h2.symm⟩
  · cases h

theorem pFix_none {k : Nat} {l : List UInt8} (h : pFix k l = none) : l.length < k := by
  unfold pFix at h
  split at h
  · cases h
  · omega

theorem val_small {l : List UInt8} (h : l.length ≤ 4) : valB l < 4294967296 := by
  have h1 := valB_lt l
  have h2 : 256 ^ l.length ≤ 256 ^ 4 := Nat.pow_le_pow_right (by omega) h
  have e : (256 : Nat) ^ 4 = 4294967296 := by decide
  omega

theorem val_zero : ∀ n, valB (List.replicate n 0) = 0 := by
  intro n
  unfold valB
  induction n with
  | zero => rfl
  | succ n ih => rw [List.replicate_succ, List.foldl_cons]; exact ih

theorem rfix_yes (g : Nat) (l r : List UInt8) (bad : Bool) (k n : Nat) (w0 w : World) (h : RS w0 w g l bad) (h1 : 1 ≤ k) (h4 : k ≤ 4) (hl : l.length ≤ 1000000) (hp : pFix k l = some (n, r)) :
    Calls Tryz.prog 68 #[.pointer (some ⟨g, 0, none⟩), .int .i64 k] w fun e w' => e = .returned (.int .i64 n) ∧ RS w0 w' g r bad ∧ w.grownBy w' (some g) := by
  obtain ⟨hk, rfl, rfl⟩ := pFix_some hp
  have HB := Lib.hid (rbytes_yes g l bad k w0 w h h1 hk hl)
  have hlk : (l.take k).length = k := by rw [List.length_take]; omega
  have hsm := val_small (l := l.take k) (by omega)
  have HG : RowKit.Hid (∀ W v, HasE byteC W v (l.take k) → Calls Tryz.prog 94 #[v, .int .i64 0, .int .i64 k] W fun e w' => e = .returned (.tuple #[.int .u64 (valB (l.take k) : Nat), .int .i64 0]) ∧ W = w') := Lib.hid fun W v hv => get_any (l.take k) v k W hv hlk h1 h4
  generalize valB (l.take k) = n at *
  have hw2 : IntKind.i64.wrap (n : Int) = (n : Int) := by rw [IntKind.wrap_i64]; omega
  clear hsm hlk hl hp
  go_enter Tryz.func68, Tryz.ntmps68
  go_wp2_with (first
    | (go_at_call 38; (with_reducible refine HB.out.mono ?_); rintro e w1 ⟨⟨v1, rfl, hv1⟩, hr1, hg1⟩)
    | (go_at_call 94; (with_reducible refine (HG.out _ _ hv1).mono ?_); rintro e w2 ⟨rfl, rfl⟩))
  go_ret
  exact ⟨rfl, hr1, hg1⟩

theorem rfix_no (g : Nat) (l : List UInt8) (bad : Bool) (k : Nat) (w0 w : World) (h : RS w0 w g l bad) (h1 : 1 ≤ k) (h4 : k ≤ 4) (hp : pFix k l = none) :
    Calls Tryz.prog 68 #[.pointer (some ⟨g, 0, none⟩), .int .i64 k] w fun e w' => e = .returned (.int .i64 0) ∧ RS w0 w' g [] true ∧ w.grownBy w' (some g) := by
  have hk := pFix_none hp
  have HB := Lib.hid (rbytes_no g l bad k w0 w h h1 (by omega) hk)
  have hlk : (List.replicate k (0 : UInt8)).length = k := List.length_replicate
  have HG : RowKit.Hid (∀ W v, HasE byteC W v (List.replicate k 0) → Calls Tryz.prog 94 #[v, .int .i64 0, .int .i64 k] W fun e w' => e = .returned (.tuple #[.int .u64 0, .int .i64 0]) ∧ W = w') := Lib.hid fun W v hv => by
    have := get_any (List.replicate k 0) v k W hv hlk h1 h4
    rw [val_zero] at this
    exact this
  clear hlk hp hk
  go_enter Tryz.func68, Tryz.ntmps68
  go_wp2_with (first
    | (go_at_call 38; (with_reducible refine HB.out.mono ?_); rintro e w1 ⟨⟨v1, rfl, hv1⟩, hr1, hg1⟩)
    | (go_at_call 94; (with_reducible refine (HG.out _ _ hv1).mono ?_); rintro e w2 ⟨rfl, rfl⟩))
  go_ret
  exact ⟨rfl, hr1, hg1⟩

theorem pLoc_some {l r s : List UInt8} (h : pLoc l = some (s, r)) : ∃ n, pFix 4 l = some (n, r) ∧ n < 308915776 ∧ s = txt (turnN n) := by
  unfold pLoc at h
  cases hf : pFix 4 l with
  | none => rw [hf] at h; cases h
  | some x =>
    obtain ⟨n, r'⟩ := x
    rw [hf] at h
    have h' : (if n < 308915776 then some (txt (turnN n), r') else none) = some (s, r) := h
    split at h'
    · rename_i hn
      injection h' with h'
      injection h' with h1 h2
      subst h1 h2
      exact ⟨n, rfl, hn, rfl⟩
    · cases h'

theorem pLoc_none {l : List UInt8} (h : pLoc l = none) : pFix 4 l = none ∨ ∃ n r, pFix 4 l = some (n, r) ∧ 308915776 ≤ n := by
  unfold pLoc at h
  cases hf : pFix 4 l with
  | none => exact .inl rfl
  | some x =>
    obtain ⟨n, r'⟩ := x
    rw [hf] at h
    have h' : (if n < 308915776 then some (txt (turnN n), r') else none) = none := h
    split at h'
    · cases h'
    · exact .inr ⟨n, r', rfl, by omega⟩

theorem set_bad {w0 w1 w2 : World} {g : Nat} {r : List UInt8} {bad : Bool} (b2 : Bool) (h : RS w0 w1 g r bad) (hb : Below w1.heap.size w1 w2) : RS w0 (w2.setCell ⟨g, 1, none⟩ (.bool b2)) g r b2 ∧ w1.grownBy (w2.setCell ⟨g, 1, none⟩ (.bool b2)) (some g) := by
  obtain ⟨h1, ⟨v, h2, h3⟩, h4⟩ := h
  exact ⟨⟨h1, ⟨v, (h2.mono hb).set 1 (.bool b2), h3⟩, (h4.trans (hb.mono h4.size)).setCell (p := ⟨g, 1, none⟩) h1 _⟩, gr_setCell1 (gr_of_below hb _) 1 _⟩

theorem RS.bad {w0 w : World} {g : Nat} {l : List UInt8} {bad : Bool} (h : RS w0 w g l bad) : w.cell? ⟨g, 1, none⟩ = some (.bool bad) ∧ w.frozen? ⟨g, 1, none⟩ = false := by
  obtain ⟨_, ⟨v, h2, _⟩, _⟩ := h
  exact ⟨(h2.cell 1).trans rfl, h2.frozen 1⟩

theorem rloc_yes (g : Nat) (l r s : List UInt8) (bad : Bool) (w0 w : World) (h : RS w0 w g l bad) (hl : l.length ≤ 1000000) (hp : pLoc l = some (s, r)) :
    Calls Tryz.prog 47 #[.pointer (some ⟨g, 0, none⟩)] w fun e w' => e = .returned (.string ⟨s.toArray⟩) ∧ RS w0 w' g r bad ∧ w.grownBy w' (some g) := by
  obtain ⟨n, hf, hn, rfl⟩ := pLoc_some hp
  have HF : RowKit.Hid (Calls Tryz.prog 68 #[.pointer (some ⟨g, 0, none⟩), .int .i64 4] w fun e w' => e = .returned (.int .i64 n) ∧ RS w0 w' g r bad ∧ w.grownBy w' (some g)) := Lib.hid (rfix_yes g l r bad 4 n w0 w h (by omega) (by omega) hl hf)
  have HT := Lib.hid fun W => ltext_yes n W hn
  generalize (txt (turnN n)).toArray = tx at *
  clear hp hf hl h
  cases bad
  all_goals
    go_enter Tryz.func47, Tryz.ntmps47
    go_wp2_with (first
      | (go_at_call 68; (with_reducible refine HF.out.mono ?_); rintro e w1 ⟨rfl, hr1, hg1⟩)
      | (go_at_call 78; (with_reducible refine (HT.out _).mono ?_); rintro e w2 ⟨rfl, hb2⟩; obtain ⟨b1, b2⟩ := (hr1.mono hb2).bad))
    go_ret
    obtain ⟨k1, k2⟩ := set_bad _ hr1 hb2
    exact ⟨rfl, k1, gby_trans hg1 k2⟩

/-- Where there is no locator, or it was bad already. -/
theorem rloc_no (g : Nat) (l : List UInt8) (bad : Bool) (w0 w : World) (h : RS w0 w g l bad) (hl : l.length ≤ 1000000) (hp : pLoc l = none ∨ bad = true) :
    Calls Tryz.prog 47 #[.pointer (some ⟨g, 0, none⟩)] w fun e w' => (∃ s : ByteArray, s.size ≤ 6 ∧ e = .returned (.string s)) ∧ (∃ r, RS w0 w' g r true ∧ r.length ≤ 1000000) ∧ w.grownBy w' (some g) := by
  cases hpl : pLoc l with
  | some x =>
    obtain ⟨s, r⟩ := x
    rcases hp with hp | rfl
    · rw [hpl] at hp; cases hp
    · obtain ⟨n, hf, hn, rfl⟩ := pLoc_some hpl
      have hr := (pFix_some hf).2.2
      refine (rloc_yes g l r _ true w0 w h hl hpl).mono ?_
      rintro e w' ⟨rfl, h1, h2⟩
      exact ⟨⟨_, Nat.le_refl _, rfl⟩, ⟨r, h1, by rw [hr, List.length_drop]; omega⟩, h2⟩
  | none =>
    rcases pLoc_none hpl with hf | ⟨n, r, hf, hn⟩
    · have HF : RowKit.Hid (Calls Tryz.prog 68 #[.pointer (some ⟨g, 0, none⟩), .int .i64 4] w fun e w' => e = .returned (.int .i64 0) ∧ RS w0 w' g [] true ∧ w.grownBy w' (some g)) := Lib.hid (rfix_no g l bad 4 w0 w h (by omega) (by omega) hf)
      have HT : RowKit.Hid (∀ W, Calls Tryz.prog 78 #[.int .i64 0] W fun e w' => e = .returned (.tuple #[.string ⟨(txt (turnN 0)).toArray⟩, .int .i64 0]) ∧ Below W.heap.size W w') := Lib.hid fun W => ltext_yes 0 W (by omega)
      have hsz : (⟨(txt (turnN 0)).toArray⟩ : ByteArray).size ≤ 6 := Nat.le_refl _
      generalize (⟨(txt (turnN 0)).toArray⟩ : ByteArray) = tx at *
      have HSZ := Lib.hid hsz
      clear hp hf hl h hpl hsz
      go_enter Tryz.func47, Tryz.ntmps47
      go_wp2_with (first
        | (go_at_call 68; (with_reducible refine HF.out.mono ?_); rintro e w1 ⟨rfl, hr1, hg1⟩)
        | (go_at_call 78; (with_reducible refine (HT.out _).mono ?_); rintro e w2 ⟨rfl, hb2⟩; obtain ⟨b1, b2⟩ := (hr1.mono hb2).bad))
      go_ret
      obtain ⟨k1, k2⟩ := set_bad _ hr1 hb2
      exact ⟨⟨_, HSZ.out, rfl⟩, ⟨_, k1, Nat.zero_le _⟩, gby_trans hg1 k2⟩
    · have hr := (pFix_some hf).2.2
      have HR : RowKit.Hid (r.length ≤ 1000000) := Lib.hid (by rw [hr, List.length_drop]; omega)
      have HF : RowKit.Hid (Calls Tryz.prog 68 #[.pointer (some ⟨g, 0, none⟩), .int .i64 4] w fun e w' => e = .returned (.int .i64 n) ∧ RS w0 w' g r bad ∧ w.grownBy w' (some g)) := Lib.hid (rfix_yes g l r bad 4 n w0 w h (by omega) (by omega) hl hf)
      have HT := Lib.hid fun W => ltext_no (n : Int) W (.inr (by omega))
      clear hp hf hl h hpl hr
      cases bad
      all_goals
        go_enter Tryz.func47, Tryz.ntmps47
        go_wp2_with (first
          | (go_at_call 68; (with_reducible refine HF.out.mono ?_); rintro e w1 ⟨rfl, hr1, hg1⟩)
          | (go_at_call 78; (with_reducible refine (HT.out _).mono ?_); rintro e w2 ⟨rfl, hb2⟩; obtain ⟨b1, b2⟩ := (hr1.mono hb2).bad))
        go_ret
        obtain ⟨k1, k2⟩ := set_bad true hr1 hb2
        exact ⟨⟨_, Nat.zero_le _, rfl⟩, ⟨_, k1, HR.out⟩, gby_trans hg1 k2⟩

theorem begin_yes (g : Nat) (c : UInt8) (l : List UInt8) (w0 w : World) (h : RS w0 w g (c :: l) false) (hl : l.length ≤ 900000) :
    Calls Tryz.prog 33 #[.pointer (some ⟨g, 0, none⟩), .int .u8 c.toNat] w fun e w' => e = .returned (.tuple #[]) ∧ RS w0 w' g l false ∧ w.grownBy w' (some g) := by
  have HB : RowKit.Hid (Calls Tryz.prog 38 #[.pointer (some ⟨g, 0, none⟩), .int .i64 1] w fun e w' => (∃ v, e = .returned v ∧ HasE byteC w' v [c]) ∧ RS w0 w' g l false ∧ w.grownBy w' (some g)) := Lib.hid (rbytes_yes g (c :: l) false 1 w0 w h (Nat.le_refl _) (by rw [List.length_cons]; omega) (by rw [List.length_cons]; omega))
  have hcc : ((c.toNat : Int) != (c.toNat : Int)) = false := by simp
  clear hl h
  go_enter Tryz.func33, Tryz.ntmps33
  go_wp2_with (first
    | (go_at_call 38; (with_reducible refine HB.out.mono ?_); rintro e w1 ⟨⟨v1, rfl, hv1⟩, hr1, hg1⟩; obtain ⟨p1, c1, rfl⟩ := hv1.len; obtain ⟨bb, off, rfl, k0⟩ := byte_at hv1 (i := 0) (by simp); replace k0 : w1.cell? ⟨bb, off, none⟩ = some (.int .u8 c.toNat) := k0; obtain ⟨b1, b2⟩ := hr1.bad))
  go_returns
  obtain ⟨k1, k2⟩ := set_bad false hr1 (Below.refl _ _)
  exact ⟨rfl, k1, gby_trans hg1 k2⟩

/-- Where the first byte is another one, or there is none. -/
theorem begin_no (g : Nat) (c : UInt8) (l : List UInt8) (w0 w : World) (h : RS w0 w g l false) (hl : l.length ≤ 900000) (hc0 : c.toNat ≠ 0) (hne : ∀ r, l ≠ c :: r) :
    Calls Tryz.prog 33 #[.pointer (some ⟨g, 0, none⟩), .int .u8 c.toNat] w fun e w' => e = .returned (.tuple #[]) ∧ (∃ r, RS w0 w' g r true ∧ r.length ≤ 1000000) ∧ w.grownBy w' (some g) := by
  cases l with
  | nil =>
    have HB : RowKit.Hid (Calls Tryz.prog 38 #[.pointer (some ⟨g, 0, none⟩), .int .i64 1] w fun e w' => (∃ v, e = .returned v ∧ HasE byteC w' v [0]) ∧ RS w0 w' g [] true ∧ w.grownBy w' (some g)) := Lib.hid (rbytes_no g [] false 1 w0 w h (Nat.le_refl _) (by omega) (by decide))
    have hcc : ((0 : Int) != (c.toNat : Int)) = true := by rw [bne_iff_ne]; omega
    clear hl h hne hc0
    go_enter Tryz.func33, Tryz.ntmps33
    go_wp2_with (first
      | (go_at_call 38; (with_reducible refine HB.out.mono ?_); rintro e w1 ⟨⟨v1, rfl, hv1⟩, hr1, hg1⟩; obtain ⟨p1, c1, rfl⟩ := hv1.len; obtain ⟨bb, off, rfl, k0⟩ := byte_at hv1 (i := 0) (by simp); replace k0 : w1.cell? ⟨bb, off, none⟩ = some (.int .u8 0) := k0; obtain ⟨b1, b2⟩ := hr1.bad))
    go_returns
    obtain ⟨k1, k2⟩ := set_bad true hr1 (Below.refl _ _)
    exact ⟨rfl, ⟨_, k1, Nat.zero_le _⟩, gby_trans hg1 k2⟩
  | cons x r =>
    have hxc : x ≠ c := fun e => hne r (by rw [e])
    have hxn : x.toNat ≠ c.toNat := fun e => hxc (UInt8.toNat_inj.1 e)
    have HB : RowKit.Hid (Calls Tryz.prog 38 #[.pointer (some ⟨g, 0, none⟩), .int .i64 1] w fun e w' => (∃ v, e = .returned v ∧ HasE byteC w' v [x]) ∧ RS w0 w' g r false ∧ w.grownBy w' (some g)) := Lib.hid (rbytes_yes g (x :: r) false 1 w0 w h (Nat.le_refl _) (by rw [List.length_cons]; omega) (by rw [List.length_cons] at hl; rw [List.length_cons]; omega))
    have HR : RowKit.Hid (r.length ≤ 1000000) := Lib.hid (by rw [List.length_cons] at hl; omega)
    have hcc : ((x.toNat : Int) != (c.toNat : Int)) = true := by rw [bne_iff_ne]; omega
    clear hl h hne hc0 hxc hxn
    go_enter Tryz.func33, Tryz.ntmps33
    go_wp2_with (first
      | (go_at_call 38; (with_reducible refine HB.out.mono ?_); rintro e w1 ⟨⟨v1, rfl, hv1⟩, hr1, hg1⟩; obtain ⟨p1, c1, rfl⟩ := hv1.len; obtain ⟨bb, off, rfl, k0⟩ := byte_at hv1 (i := 0) (by simp); replace k0 : w1.cell? ⟨bb, off, none⟩ = some (.int .u8 x.toNat) := k0; obtain ⟨b1, b2⟩ := hr1.bad))
    go_returns
    obtain ⟨k1, k2⟩ := set_bad true hr1 (Below.refl _ _)
    exact ⟨rfl, ⟨_, k1, HR.out⟩, gby_trans hg1 k2⟩
end Go.Proofs.YtofomopmmopflaaGreatDoor
namespace Go.Proofs.YtofomopmmopflaaGreatDoor
open Go.RowKit Go.ChangeMaps
set_option linter.unusedSimpArgs false
set_option linter.unusedVariables false
set_option maxRecDepth 20000

/-- 'string(b)' of a list that may lie anywhere. -/
theorem conv_has {w : World} {v : Value} {l : List UInt8} (h : HasE byteC w v l) : (convert 30 9 v).run Tryz.prog w = .ok (.string ⟨l.toArray⟩) w := by
  rcases h with ⟨p, c, rfl, rfl, hpn⟩ | ⟨b, off, c, rfl, h1, h2, h3⟩
  · cases p with
    | none =>
      have hc := hpn rfl
      subst hc
      simp [convert, run_underlying Tryz.underlying30, run_underlying Tryz.underlying5, run_underlying Tryz.underlying9, Conv.bytesToString, go_sem]
      rfl
    | some ad =>
      exact run_convert_bytes_back (P := Tryz.prog) w 30 9 5 ad c [] Tryz.underlying30 Tryz.underlying5 Tryz.underlying9 fun j hj => absurd hj (Nat.not_lt_zero _)
  · refine run_convert_bytes_back (P := Tryz.prog) w 30 9 5 ⟨b, off, none⟩ c l Tryz.underlying30 Tryz.underlying5 Tryz.underlying9 fun j hj => ?_
    have := h3 j (.int .u8 (l[j]).toNat) (by rw [flat_byte, List.getElem?_map, List.getElem?_eq_getElem hj]; rfl)
    rw [Addr.add_lit]
    exact this

theorem equal_any (la lb : List UInt8) (va vb : Value) (w : World) (ha : HasE byteC w va la) (hb : HasE byteC w vb lb) :
    Calls Tryz.prog 70 #[va, vb] w fun e w' => e = .returned (.bool (decide (la = lb))) ∧ w = w' := by
  have h1 := conv_has ha
  have h2 := conv_has hb
  by_cases he : la = lb
  · have hks : (la == lb) = true := by rw [he]; simp
    have HD := Lib.hid (decide_eq_true he)
    clear he ha hb
    go_enter Tryz.func70, Tryz.ntmps70
    go_wp2
    go_ret
    exact ⟨ret_bool (by rw [HD.out]), rfl⟩
  · have hks : (la == lb) = false := by rw [beq_eq_false_iff_ne]; exact he
    have HD := Lib.hid (decide_eq_false he)
    clear he ha hb
    go_enter Tryz.func70, Tryz.ntmps70
    go_wp2
    go_ret
    exact ⟨ret_bool (by rw [HD.out]), rfl⟩

theorem again_yes (la lb : List UInt8) (va vb : Value) (w : World) (ha : HasE byteC w va la) (hb : HasE byteC w vb lb) :
    Calls Tryz.prog 42 #[va, vb, .int .i64 0] w fun e w' => e = .returned (.bool (decide (la = lb))) ∧ w = w' := by
  have HE := Lib.hid (equal_any la lb va vb w ha hb)
  go_enter Tryz.func42, Tryz.ntmps42
  go_wp2_with (first
    | (go_at_call 70; (with_reducible refine HE.out.mono ?_); rintro e w1 ⟨rfl, rfl⟩))
  go_ret
  exact ⟨rfl, rfl⟩

theorem again_no (va vb : Value) (z : Int) (w : World) (hz : (z == 0) = false) :
    Calls Tryz.prog 42 #[va, vb, .int .i64 z] w fun e w' => e = .returned (.bool false) ∧ w = w' := by
  go_enter Tryz.func42, Tryz.ntmps42
  go_wp2
  go_ret
  exact ⟨rfl, rfl⟩
end Go.Proofs.YtofomopmmopflaaGreatDoor
namespace Go.Proofs.YtofomopmmopflaaGreatDoor
open Go.RowKit Go.ChangeMaps
set_option linter.unusedSimpArgs false
set_option linter.unusedVariables false
set_option maxRecDepth 20000

theorem begin_any (g : Nat) (c : UInt8) (l : List UInt8) (w0 w : World) (h : RS w0 w g l false) (hl : l.length ≤ 900000) (hc0 : c.toNat ≠ 0) :
    Calls Tryz.prog 33 #[.pointer (some ⟨g, 0, none⟩), .int .u8 c.toNat] w fun e w' => e = .returned (.tuple #[]) ∧ (∃ r bad, RS w0 w' g r bad ∧ r.length ≤ 1000000 ∧ (bad = false → l = c :: r) ∧ (bad = true → ∀ r, l ≠ c :: r)) ∧ w.grownBy w' (some g) := by
  by_cases hx : ∃ r, l = c :: r
  · obtain ⟨r, rfl⟩ := hx
    rw [List.length_cons] at hl
    refine (begin_yes g c r w0 w h (by omega)).mono ?_
    rintro e w' ⟨rfl, h1, h2⟩
    exact ⟨rfl, ⟨r, false, h1, by omega, (fun _ => rfl), (fun h => by cases h)⟩, h2⟩
  · have hne : ∀ r, l ≠ c :: r := fun r e => hx ⟨r, e⟩
    refine (begin_no g c l w0 w h hl hc0 hne).mono ?_
    rintro e w' ⟨rfl, ⟨r, h1, h3⟩, h2⟩
    exact ⟨rfl, ⟨r, true, h1, h3, (fun h => by cases h), (fun _ => hne)⟩, h2⟩

theorem rnum_any (g : Nat) (l : List UInt8) (bad : Bool) (most : Nat) (w0 w : World) (h : RS w0 w g l bad) (hl : l.length ≤ 1000000) (hm : most ≤ 4000000000) :
    Calls Tryz.prog 40 #[.pointer (some ⟨g, 0, none⟩), .int .i64 most] w fun e w' => ∃ (n : Nat) (r : List UInt8) (b2 : Bool), e = .returned (.int .i64 n) ∧ n ≤ most ∧ RS w0 w' g r b2 ∧ r.length ≤ 1000000 ∧ (b2 = false → bad = false ∧ pNum most l = some (n, r)) ∧ (b2 = true → bad = true ∨ pNum most l = none) ∧ w.grownBy w' (some g) := by
  cases hp : pNum most l with
  | some x =>
    obtain ⟨n, r⟩ := x
    obtain ⟨k, _, hn, hr, _⟩ := pNum_some hp
    refine (rnum_yes g l r bad most n w0 w h hl hm hp).mono ?_
    rintro e w' ⟨rfl, h1, h2⟩
    exact ⟨n, r, bad, rfl, hn, h1, by rw [hr, List.length_drop]; omega, fun h => ⟨h, rfl⟩, fun h => .inl h, h2⟩
  | none =>
    refine (rnum_no g l bad most w0 w h hl hm hp).mono ?_
    rintro e w' ⟨rfl, h1, h2⟩
    exact ⟨0, [], true, rfl, Nat.zero_le _, h1, Nat.zero_le _, (fun h => by cases h), (fun _ => .inr rfl), h2⟩

theorem rloc_any (g : Nat) (l : List UInt8) (bad : Bool) (w0 w : World) (h : RS w0 w g l bad) (hl : l.length ≤ 1000000) :
    Calls Tryz.prog 47 #[.pointer (some ⟨g, 0, none⟩)] w fun e w' => ∃ (s : ByteArray) (r : List UInt8) (b2 : Bool), e = .returned (.string s) ∧ s.size ≤ 6 ∧ RS w0 w' g r b2 ∧ r.length ≤ 1000000 ∧ (b2 = false → bad = false ∧ pLoc l = some (toL s, r)) ∧ (b2 = true → bad = true ∨ pLoc l = none) ∧ w.grownBy w' (some g) := by
  by_cases hb : pLoc l = none ∨ bad = true
  · refine (rloc_no g l bad w0 w h hl hb).mono ?_
    rintro e w' ⟨⟨s, hs, rfl⟩, ⟨r, h1, h3⟩, h2⟩
    exact ⟨s, r, true, rfl, hs, h1, h3, (fun h => by cases h), (fun _ => hb.symm), h2⟩
  · cases hp : pLoc l with
    | none => exact absurd (.inl hp) hb
    | some x =>
      obtain ⟨s, r⟩ := x
      have hbf : bad = false := by
        cases bad
        · rfl
        · exact absurd (.inr rfl) hb
      obtain ⟨n, hf, hn, hs⟩ := pLoc_some hp
      have hr := (pFix_some hf).2.2
      refine (rloc_yes g l r s bad w0 w h hl hp).mono ?_
      rintro e w' ⟨rfl, h1, h2⟩
      refine ⟨⟨s.toArray⟩, r, bad, rfl, ?_, h1, by rw [hr, List.length_drop]; omega, fun h => ⟨h, ?_⟩, fun h => .inl h, h2⟩
      · rw [hs]; exact Nat.le_refl _
      · show some (s, r) = some (s.toArray.toList, r)
        simp

theorem pLocs_none {n m : Nat} {l : List UInt8} (h : pLocs n l = none) (hnm : n ≤ m) : pLocs m l = none := by
  induction m with
  | zero => rw [show n = 0 by omega] at h; exact h
  | succ m ih =>
    by_cases he : n = m + 1
    · rw [← he]; exact h
    · rw [pLocs, ih (by omega)]

theorem pLocs_on {n : Nat} {l r r' : List UInt8} {o : List (List UInt8)} {s : List UInt8} (h : pLocs n l = some (o, r)) (hs : pLoc r = some (s, r')) : pLocs (n + 1) l = some (o ++ [s], r') := by
  rw [pLocs, h]
  show (match pLoc r with | some (s, r') => some (o ++ [s], r') | none => none) = _
  rw [hs]

theorem pLocs_off {n : Nat} {l r : List UInt8} {o : List (List UInt8)} (h : pLocs n l = some (o, r)) (hs : pLoc r = none) : pLocs (n + 1) l = none := by
  rw [pLocs, h]
  show (match pLoc r with | some (s, r') => some (o ++ [s], r') | none => none) = _
  rw [hs]

theorem pQueue_at {b r r0 : List UInt8} {n : Nat} (hb : b = 81 :: r) (hn : pNum 40 r = some (n, r0)) : pQueue b = ((pLocs n r0).map fun x => x.1) := by
  subst hb
  show (match pNum 40 r with | some (n, r') => ((pLocs n r').map fun x : List (List UInt8) × List UInt8 => x.1) | none => none) = _
  rw [hn]

theorem pQueue_num {b r : List UInt8} (hb : b = 81 :: r) (hn : pNum 40 r = none) : pQueue b = none := by
  subst hb
  show (match pNum 40 r with | some (n, r') => ((pLocs n r').map fun x : List (List UInt8) × List UInt8 => x.1) | none => none) = _
  rw [hn]

theorem pQueue_no {b : List UInt8} (h : ∀ r, b ≠ 81 :: r) : pQueue b = none := by
  unfold pQueue
  split
  · exact absurd rfl (h _)
  · rfl

theorem readQ_none {b : List UInt8} (h : pQueue b = none) : readQ b = none := by
  unfold readQ; rw [h]
theorem readQ_some {b : List UInt8} {l : List ByteArray} (h : pQueue b = some (l.map toL)) (hq : queueB l = some b) : readQ b = some (l.map toL) := by
  unfold readQ; rw [h]; exact if_pos hq
theorem readQ_other {b : List UInt8} {l : List ByteArray} (h : pQueue b = some (l.map toL)) (hq : queueB l ≠ some b) : readQ b = none := by
  unfold readQ; rw [h]; exact if_neg hq

theorem byP_form {B : Nat} {o : Option (List UInt8)} {e : Ending} {w : World} (h : byP B o e w) : ∃ v z, e = .returned (.tuple #[v, .int .i64 z]) := by
  rcases h with ⟨bs, v, _, h, _⟩ | ⟨_, h⟩
  · exact ⟨_, _, h⟩
  · exact ⟨_, _, h⟩

/-- Texts, or ErrForm. -/
def liP (B : Nat) (o : Option (List (List UInt8))) (e : Ending) (w : World) : Prop :=
  (∃ l v, o = some (l.map toL) ∧ e = .returned (.tuple #[v, .int .i64 0]) ∧ OwnL w B v l) ∨ (o = none ∧ e = .returned (.tuple #[.slice none 0 0, .int .i64 4]))

theorem wpList_push_str {wr : World} {ops : Array Oper} {rest : List Oper} {o : Oper} {a : Act} {Q : Exit → Act → World → Prop} (hgd : o.guard = none) (x y : Operand)
    (ho : o.op = .call { callee := .builtin .append, args := #[x, y], argTypes := #[24, 24] })
    (base : Nat) (v : Value) (l : List ByteArray) (c : ByteArray) (hs : a.eval x = v) (hown : OwnL wr base v l) (hx : a.eval y = .slice (some ⟨wr.heap.size, 0, none⟩) 1 1)
    (hm : l.length + 1 ≤ 1000000) (hbase : base ≤ wr.heap.size)
    (h : ∀ v' w', OwnL w' base v' (l ++ [c]) → Below base wr w' → wpList Tryz.prog ops Q rest (a.put o.dst v') w') :
    wpList Tryz.prog ops Q (o :: rest) a (wr.alloc (.cells #[.string c] 9)) := by
  obtain ⟨i0, hi, hz, hsz, hby⟩ := str_info
  refine wpList_push hgd x y 24 ho base 9 i0 _ _ Tryz.underlying24 hi hz hsz hby rfl v l.length (strV l) hs hown (.string c) hx rfl (by unfold maxLen; omega) (by omega) hbase ?_
  intro v' w' hown' hb hg
  refine h v' w' ?_ hb
  unfold OwnL
  rw [List.length_append, show strV (l ++ [c]) = strV l ++ [.string c] by simp [strV]]
  exact hown'

theorem OwnL.kept2 {w w' : World} {B g : Nat} {v : Value} {l : List ByteArray} (h : OwnL w B v l) (hg : w.grownBy w' (some g)) (hB : g < B) : OwnL w' B v l := World.ownsRow.kept h hg (own_ne h hB)

theorem RS.keep {w0 w w' : World} {g B : Nat} {l : List UInt8} {bad : Bool} (h : RS w0 w g l bad) (hb : Below B w w') (hg : g < B) : RS w0 w' g l bad := by
  obtain ⟨h1, ⟨v, h2, h3⟩, h4⟩ := h
  exact ⟨h1, ⟨v, h2.keep hb hg, h3⟩, h4.trans (below_le hb (by omega))⟩

set_option maxHeartbeats 16000000 in
theorem readQueue_any (v : Value) (b : List UInt8) (w : World) (hv : HasE byteC w v b) (hl : b.length ≤ 20000) :
    Calls Tryz.prog 16 #[v] w fun e w' => liP w.heap.size (readQ b) e w' ∧ Below w.heap.size w w' := by
  obtain ⟨p, c, rfl⟩ := hv.len
  have HV := Lib.hid hv
  have hrs : RS w (w.alloc (.cells #[.slice p b.length c, .bool false] 84)) w.heap.size b false :=
    ⟨Nat.le_refl _, ⟨_, Blk.new w 84 [.slice p b.length c, .bool false], hv⟩, (Below.refl _ _).alloc (Nat.le_refl _) _⟩
  have HBEG : RowKit.Hid (∀ W, RS w W w.heap.size b false → Calls Tryz.prog 33 #[.pointer (some ⟨w.heap.size, 0, none⟩), .int .u8 81] W fun e w' => e = .returned (.tuple #[]) ∧ (∃ r bad, RS w w' w.heap.size r bad ∧ r.length ≤ 1000000 ∧ (bad = false → b = 81 :: r) ∧ (bad = true → ∀ r, b ≠ 81 :: r)) ∧ W.grownBy w' (some w.heap.size)) := Lib.hid fun W h => begin_any w.heap.size 81 b w W h (by omega) (by decide)
  have HRS := Lib.hid hrs
  generalize hN : b.length = N at *
  clear hv hrs hl hN
  go_enter Tryz.func16, Tryz.ntmps16
  go_upto_region 3 with (first
    | (go_at_call 33; (with_reducible refine (HBEG.out _ HRS.out).mono ?_); rintro e w2 ⟨rfl, ⟨r, bad, hr2, hrl, hg1, hg2⟩, hgr2⟩))
  have HR2 := Lib.hid hr2
  have HG1 := Lib.hid hg1
  have HG2 := Lib.hid hg2
  have hz2 : w.heap.size + 1 ≤ w2.heap.size := by have := hgr2.size; simp at this; omega
  have HNUM : RowKit.Hid (∀ W, RS w W w.heap.size r bad → Calls Tryz.prog 40 #[.pointer (some ⟨w.heap.size, 0, none⟩), .int .i64 40] W fun e w' => ∃ (n : Nat) (r2 : List UInt8) (b2 : Bool), e = .returned (.int .i64 n) ∧ n ≤ 40 ∧ RS w w' w.heap.size r2 b2 ∧ r2.length ≤ 1000000 ∧ (b2 = false → bad = false ∧ pNum 40 r = some (n, r2)) ∧ (b2 = true → bad = true ∨ pNum 40 r = none) ∧ W.grownBy w' (some w.heap.size)) := Lib.hid fun W h => rnum_any w.heap.size r bad 40 w W h hrl (by omega)
  clear hr2 hg1 hg2 hrl
  go_wp2_with (first
    | (go_at_call 40; (with_reducible refine (HNUM.out _ HR2.out).mono ?_); rintro e w3 ⟨n, r0, bad3, rfl, hn, hr3, hrl3, hg3, hb3, hgr3⟩))
  have HQ0 : RowKit.Hid (bad3 = false → pQueue b = (pLocs n r0).map fun x => x.1) := Lib.hid fun h => by
    obtain ⟨h1, h2⟩ := hg3 h
    exact pQueue_at (HG1.out h1) h2
  have HQ1 : RowKit.Hid (bad3 = true → pQueue b = none) := Lib.hid fun h => by
    cases hb : bad with
    | true => exact pQueue_no (HG2.out hb)
    | false =>
      rcases hb3 h with h1 | h1
      · rw [hb] at h1; cases h1
      · exact pQueue_num (HG1.out hb) h1
  have hz3 : w.heap.size + 1 ≤ w3.heap.size := by have := hgr3.size; omega
  clear hg3 hb3 HNUM HBEG HR2 HRS HG1 HG2
  go_loopg [5, 15] n (fun g0 s5 s15 wr => ∃ (i : Nat) (lst : List ByteArray) (rest : List UInt8) (b2 : Bool), i ≤ n ∧ g0 = n - i ∧ s15 = .int .i64 (i : Int) ∧ OwnL wr (w.heap.size + 1) s5 lst ∧ lst.length = i ∧ (∀ s ∈ lst, s.size ≤ maxLen) ∧ RS w wr w.heap.size rest b2 ∧ rest.length ≤ 1000000 ∧ (b2 = false → bad3 = false ∧ pLocs i r0 = some (lst.map toL, rest)) ∧ (b2 = true → pQueue b = none) ∧ w.heap.size + 1 ≤ wr.heap.size)
  case atStart => exact ⟨0, [], r0, bad3, Nat.zero_le _, rfl, rfl, OwnL.nil _ _, rfl, (fun s h => by cases h), hr3, hrl3, (fun h => ⟨h, rfl⟩), HQ1.out, hz3⟩
  case round =>
    obtain ⟨i, lst, rest, b2, hin, rfl, rfl, ho, hll, hsz, hrs, hrl, hf, ht, hz⟩ := hrel
    have HO := Lib.hid ho
    have HLL := Lib.hid hll
    have HSZ := Lib.hid hsz
    have HF := Lib.hid hf
    have HT := Lib.hid ht
    have HRS := Lib.hid hrs
    have HRL := Lib.hid hrl
    clear ho hll hsz hf ht hrs hrl
    by_cases hlt : i < n
    · have hii : (i : Int) < (n : Int) := by omega
      have HLOC : RowKit.Hid (∀ W, RS w W w.heap.size rest b2 → Calls Tryz.prog 47 #[.pointer (some ⟨w.heap.size, 0, none⟩)] W fun e w' => ∃ (s : ByteArray) (r : List UInt8) (b3 : Bool), e = .returned (.string s) ∧ s.size ≤ 6 ∧ RS w w' w.heap.size r b3 ∧ r.length ≤ 1000000 ∧ (b3 = false → b2 = false ∧ pLoc rest = some (toL s, r)) ∧ (b3 = true → b2 = true ∨ pLoc rest = none) ∧ W.grownBy w' (some w.heap.size)) := Lib.hid fun W h => rloc_any w.heap.size rest b2 w W h HRL.out
      have hl1 : lst.length + 1 ≤ 1000000 := by rw [HLL.out]; omega
      go_wp2_with (first
        | (go_at_call 47; (with_reducible refine (HLOC.out _ HRS.out).mono ?_); rintro e w5 ⟨s, r5, b5, rfl, hs6, hr5, hrl5, hf5, ht5, hgr5⟩; have hz5 : w.heap.size + 1 ≤ w5.heap.size := Nat.le_trans hz hgr5.size; have HO5 := Lib.hid (HO.out.kept2 hgr5 (Nat.lt_succ_self _)))
        | (at_builtin; refine wpList_push_str rfl _ _ rfl (w.heap.size + 1) u5 lst s rfl HO5.out rfl hl1 hz5 ?_; intro v6 w6 ho6 hb6))
      have hr6 := hr5.keep hb6 (Nat.lt_succ_self _)
      have hz6 := Nat.le_trans hz5 hb6.size
      have HF6 : RowKit.Hid (b5 = false → bad3 = false ∧ pLocs (i + 1) r0 = some ((lst ++ [s]).map toL, r5)) := Lib.hid fun h => by
        obtain ⟨h1, h2⟩ := hf5 h
        obtain ⟨h3, h4⟩ := HF.out h1
        exact ⟨h3, by rw [pLocs_on h4 h2, List.map_append]; rfl⟩
      have HT6 : RowKit.Hid (b5 = true → pQueue b = none) := Lib.hid fun h => by
        cases hb2 : b2 with
        | true => exact HT.out hb2
        | false =>
          rcases ht5 h with h1 | h1
          · rw [hb2] at h1; cases h1
          · obtain ⟨h3, h4⟩ := HF.out hb2
            rw [HQ0.out h3, pLocs_none (pLocs_off h4 h1) (by omega : i + 1 ≤ n)]
            rfl
      go_roundg (n - (i + 1))
      case measure => omega
      case rel => exact ⟨i + 1, lst ++ [s], r5, b5, by omega, rfl, by go_num, ho6, by rw [List.length_append, HLL.out]; rfl, (fun t ht => by
        rcases List.mem_append.1 ht with h1 | h1
        · exact HSZ.out t h1
        · rw [List.mem_singleton.1 h1]; unfold maxLen; omega), hr6, hrl5, HF6.out, HT6.out, hz6⟩
    · have hie : i = n := by omega
      subst hie
      have hii : ¬ (i : Int) < (i : Int) := by omega
      have HQU := Lib.hid (queue_any u5 lst wr HO.out.has HSZ.out)
      have hbr := HRS.out.bel
      have HBR := Lib.hid hbr
      have HPB : RowKit.Hid (b2 = false → pQueue b = some (lst.map toL)) := Lib.hid fun h => by
        obtain ⟨h1, h2⟩ := HF.out h
        rw [HQ0.out h1, h2]
        rfl
      clear hbr
      cases b2 with
      | true =>
        have HNO := Lib.hid (readQ_none (HT.out rfl))
        go_wp2_with (first
          | (go_at_call 14; (with_reducible refine HQU.out.mono ?_); rintro e w7 ⟨hby, hb7⟩; obtain ⟨v7, z7, rfl⟩ := byP_form hby; obtain ⟨k1, k2⟩ := (HRS.out.mono hb7).bad))
        go_ret2
        exact ⟨.inr ⟨HNO.out, rfl⟩, below_low HBR.out HBR.out.size hb7⟩
      | false =>
        have HPB2 := Lib.hid (HPB.out rfl)
        go_upto_region 9 with (first
          | (go_at_call 14; (with_reducible refine HQU.out.mono ?_); rintro e w7 ⟨hby, hb7⟩; obtain ⟨v7, z7, rfl⟩ := byP_form hby; obtain ⟨k1, k2⟩ := (HRS.out.mono hb7).bad))
        rcases hby with ⟨bs, v8, h1, h2, h3⟩ | ⟨h1, h2⟩
        · injection h2 with h2
          injection h2 with h2
          simp at h2
          obtain ⟨rfl, rfl⟩ := h2
          have HAG := Lib.hid (again_yes b bs _ _ w7 ((HV.out.mono HBR.out).mono hb7) h3.has)
          have HOW : RowKit.Hid (OwnL w7 w.heap.size u5 lst) := Lib.hid ((HO.out.mono hb7).low (by omega))
          by_cases hbb : b = bs
          · have HY := Lib.hid (readQ_some HPB2.out (by rw [h1, hbb]))
            rw [decide_eq_true hbb] at HAG
            clear h1 h3 hbb
            go_wp2_with (first
              | (go_at_call 42; (with_reducible refine HAG.out.mono ?_); rintro e w8 ⟨rfl, rfl⟩))
            go_ret2
            exact ⟨.inl ⟨lst, _, HY.out, rfl, HOW.out⟩, below_low HBR.out HBR.out.size hb7⟩
          · have HY := Lib.hid (readQ_other HPB2.out (by rw [h1]; exact fun e => hbb (by injection e with e; exact e.symm)))
            rw [decide_eq_false hbb] at HAG
            clear h1 h3 hbb
            go_wp2_with (first
              | (go_at_call 42; (with_reducible refine HAG.out.mono ?_); rintro e w8 ⟨rfl, rfl⟩))
            go_ret2
            exact ⟨.inr ⟨HY.out, rfl⟩, below_low HBR.out HBR.out.size hb7⟩
        · injection h2 with h2
          injection h2 with h2
          simp at h2
          obtain ⟨rfl, rfl⟩ := h2
          have HAG := Lib.hid (again_no (.slice p N c) (.slice none 0 0) 4 w7 (by decide))
          have HY := Lib.hid (readQ_other HPB2.out (by rw [h1]; exact fun e => by cases e))
          clear h1
          go_wp2_with (first
            | (go_at_call 42; (with_reducible refine HAG.out.mono ?_); rintro e w8 ⟨rfl, rfl⟩))
          go_ret2
          exact ⟨.inr ⟨HY.out, rfl⟩, below_low HBR.out HBR.out.size hb7⟩
end Go.Proofs.YtofomopmmopflaaGreatDoor
namespace Go.Proofs.YtofomopmmopflaaGreatDoor
open Go.RowKit Go.ChangeMaps
set_option linter.unusedSimpArgs false
set_option linter.unusedVariables false
set_option maxRecDepth 20000

/-- A row and a value come back. -/
theorem results_row_tmp {P : Program} {fn : Func} {p q : Tmp} {ty : TypeId} (h : fn.results = #[.cell p ty, .tmp q]) (tmps : Array Value) (w : World) (g : Nat) (t : TypeId) (cs : List Value) (d : TypeDesc)
    (hp : tmps.getD p undef = .pointer (some ⟨g, 0, none⟩)) (hg : Blk w g t cs)
    (hu : P.underlying ty = some d) (hd : (match d with | .struct _ | .array _ _ => true | _ => false) = true) (hi : (P.info? ty).map (·.size) = some cs.length) :
    (results fn tmps).run P w = .ok (.tuple #[.agg cs.toArray, tmps.getD q undef]) w := by
  have hp' : tmps[p]?.getD undef = .pointer (some ⟨g, 0, none⟩) := by simpa using hp
  simp [results, h, hp', asAddr, run_loadVar_row w g t ty cs.toArray (0, 0) d hg hu hd (by simpa using hi)]

end Go.Proofs.YtofomopmmopflaaGreatDoor
