/- The reader's text, names, texts. -/
import Derived.Test.YtofomopmmopflaaGreatDoorMA
import Derived.Test.YtofomopmmopflaaGreatDoorMB
import Derived.Test.YtofomopmmopflaaGreatDoorMC
import Derived.Test.YtofomopmmopflaaGreatDoorME
import Derived.Test.YtofomopmmopflaaGreatDoorFN
import Derived.Test.YtofomopmmopflaaGreatDoorGB
import Derived.Test.YtofomopmmopflaaGreatDoorGK
import Derived.Test.YtofomopmmopflaaGreatDoorGJA
import Derived.Test.YtofomopmmopflaaGreatDoorRows
import Derived.WalkKit
import Derived.WalkSpells
import Derived.WalkLawsBesides
import Derived.Lib.ConvBytes
import Derived.Lib.Hide
import Derived.Lib.SliceRun
import Derived.IntWalk
import Derived.BigQuiet
import Derived.Deep.QuietTactic
import Derived.Deep.RegionWith
import Derived.Deep.RegionHeld3
import Derived.Deep.LoopGhost
import Derived.Deep.CutRange
import Derived.Deep.CutBlock
import Derived.Deep.MidRow
import Derived.Laws.OwnMore
import Derived.OwnWalk
import Derived.Laws.AppendOwnNone
import Derived.Laws.Rows
import Derived.Laws.MakeOwn
import Derived.Laws.CopyOwn
import Derived.Laws.BitsAllLaws
import Derived.DeepKeys5
import Derived.Maps.OwnOps
import Derived.Handy
import Derived.Lib.AppendStr
import Derived.StillTailTactics
import Derived.Deep.AppendLies
namespace Go.Proofs.YtofomopmmopflaaGreatDoor
open Go.RowKit Go.ChangeMaps
set_option linter.unusedSimpArgs false
set_option linter.unusedVariables false
set_option maxRecDepth 20000

set_option maxHeartbeats 8000000 in
/-- No byte. -/
theorem rbytes_zero (g : Nat) (l : List UInt8) (bad : Bool) (w0 w : World) (h : RS w0 w g l bad) (hl : l.length ≤ 1000000) :
    Calls Tryz.prog 38 #[.pointer (some ⟨g, 0, none⟩), .int .i64 0] w fun e w' => (∃ v, e = .returned v ∧ HasE byteC w' v []) ∧ RS w0 w' g l bad ∧ w.grownBy w' (some g) := by
  obtain ⟨hlow, ⟨v, hg, hv⟩, hbel⟩ := h
  have hv2 := hv
  have hfz := hg.frozen 0
  have HG := Lib.hid hg
  have HB := Lib.hid hbel
  have hgl := hg.lt
  rcases hv2 with ⟨p, c, rfl, rfl, hpn⟩ | ⟨b, off, c, rfl, hc1, hc2, _⟩
  · have c0 : w.cell? ⟨g, 0, none⟩ = some (.slice p 0 c) := (hg.cell 0).trans rfl
    have hc0 : (0 : Int) ≤ (c : Int) := by omega
    cases p with
    | none =>
      have hc := hpn rfl
      subst hc
      clear hv hg hbel hpn
      go_enter Tryz.func38, Tryz.ntmps38
      go_wp2
      go_ret
      exact ⟨⟨_, rfl, .inl ⟨_, _, rfl, rfl, fun e => rfl⟩⟩, ⟨hlow, ⟨_, HG.out.set 0 _, .inl ⟨_, _, rfl, rfl, fun e => rfl⟩⟩, HB.out.setCell (p := ⟨g, 0, none⟩) hlow _⟩, gr_setCell1 (World.grownBy.refl _ _) 0 _⟩
    | some ad =>
      obtain ⟨ab, ao, an⟩ := ad
      clear hv hg hbel hpn
      by_cases hcz : c = 0
      · subst hcz
        go_enter Tryz.func38, Tryz.ntmps38
        go_wp2
        go_ret
        exact ⟨⟨_, rfl, .inl ⟨_, _, rfl, rfl, fun e => by first | rfl | cases e⟩⟩, ⟨hlow, ⟨_, HG.out.set 0 _, .inl ⟨_, _, rfl, rfl, fun e => by first | rfl | cases e⟩⟩, HB.out.setCell (p := ⟨g, 0, none⟩) hlow _⟩, gr_setCell1 (World.grownBy.refl _ _) 0 _⟩
      · go_enter Tryz.func38, Tryz.ntmps38
        go_wp2
        go_ret
        exact ⟨⟨_, rfl, .inl ⟨_, _, rfl, rfl, fun e => by cases e⟩⟩, ⟨hlow, ⟨_, HG.out.set 0 _, .inl ⟨_, _, rfl, rfl, fun e => by cases e⟩⟩, HB.out.setCell (p := ⟨g, 0, none⟩) hlow _⟩, gr_setCell1 (World.grownBy.refl _ _) 0 _⟩
  · have HV := Lib.hid hv
    have HT : RowKit.Hid (∀ W, HasE byteC W (.slice (some ⟨b, off, none⟩) 0 c) []) := Lib.hid fun W => .inl ⟨_, _, rfl, rfl, fun e => by cases e⟩
    have c0 : w.cell? ⟨g, 0, none⟩ = some (.slice (some ⟨b, off, none⟩) l.length c) := (hg.cell 0).trans rfl
    have hc0 : (0 : Int) ≤ (c : Int) := by omega
    have hlc : (l.length : Int) ≤ (c : Int) := by omega
    by_cases hcz : c = 0
    · have hl0 : l.length = 0 := by omega
      subst hcz
      rw [hl0] at c0 HV
      clear hv hg hbel
      go_enter Tryz.func38, Tryz.ntmps38
      go_wp2
      go_ret
      exact ⟨⟨_, rfl, HT.out _⟩, ⟨hlow, ⟨_, HG.out.set 0 _, HV.out⟩, HB.out.setCell (p := ⟨g, 0, none⟩) hlow _⟩, gr_setCell1 (World.grownBy.refl _ _) 0 _⟩
    · generalize hN : l.length = N at *
      clear hv hg hbel hN
      go_enter Tryz.func38, Tryz.ntmps38
      go_wp2
      go_ret
      exact ⟨⟨_, rfl, HT.out _⟩, ⟨hlow, ⟨_, HG.out.set 0 _, HV.out⟩, HB.out.setCell (p := ⟨g, 0, none⟩) hlow _⟩, gr_setCell1 (World.grownBy.refl _ _) 0 _⟩

set_option maxHeartbeats 8000000 in
/-- More bytes than 8 that are not there. -/
theorem rbytes_lack (g : Nat) (l : List UInt8) (bad : Bool) (n : Nat) (w0 w : World) (h : RS w0 w g l bad) (h8 : 8 < n) (hn4 : n ≤ 1000) (hn : l.length < n) :
    Calls Tryz.prog 38 #[.pointer (some ⟨g, 0, none⟩), .int .i64 n] w fun e w' => (∃ v, e = .returned v ∧ HasE byteC w' v (List.replicate 8 0)) ∧ RS w0 w' g [] true ∧ w.grownBy w' (some g) := by
  obtain ⟨hlow, ⟨v, hg, hv⟩, hbel⟩ := h
  obtain ⟨p, c, rfl⟩ := hv.len
  have HG := Lib.hid hg
  have HB := Lib.hid hbel
  have c0 : w.cell? ⟨g, 0, none⟩ = some (.slice p l.length c) := (hg.cell 0).trans rfl
  have c1 : w.cell? ⟨g, 1, none⟩ = some (.bool bad) := (hg.cell 1).trans rfl
  have hfz := hg.frozen 0
  have hfz1 := hg.frozen 1
  have hni : (l.length : Int) < (n : Int) := by omega
  have hn8i : ¬ (n : Int) ≤ 8 := by omega
  have hn8j : (8 : Int) < (n : Int) := by omega
  generalize hN : l.length = N at *
  have hgl := hg.lt
  clear hv hg hbel hN
  go_enter Tryz.func38, Tryz.ntmps38
  go_wp2_with (first
    | (at_make; refine wpList_make_bytes rfl _ _ rfl 8 8 rfl rfl rfl rfl (Nat.le_refl _) (by omega) ?_; intro w5 hbk5 hb5 hz5))
  go_ret
  have hg2 := (HG.out.set 0 (.slice none 0 0)).set 1 (.bool true)
  have hs2 : ((w.setCell ⟨g, 0, none⟩ (.slice none 0 0)).setCell ⟨g, 1, none⟩ (.bool true)).heap.size = w.heap.size := by simp [World.setCell]
  have hbb : Below w0.heap.size w0 ((w.setCell ⟨g, 0, none⟩ (.slice none 0 0)).setCell ⟨g, 1, none⟩ (.bool true)) := (HB.out.setCell (p := ⟨g, 0, none⟩) hlow _).setCell (p := ⟨g, 1, none⟩) hlow _
  have hgg : w.grownBy ((w.setCell ⟨g, 0, none⟩ (.slice none 0 0)).setCell ⟨g, 1, none⟩ (.bool true)) (some g) := gr_setCell1 (gr_setCell1 (World.grownBy.refl _ _) 0 _) 1 _
  have hz := zeros_has _ 8 (by unfold maxLen; omega) hbk5
  rw [hs2] at hz
  exact ⟨⟨_, rfl, hz⟩, ⟨hlow, ⟨_, hg2.mono hb5, HasE.nil _⟩, hbb.trans (hb5.mono hbb.size)⟩, gby_trans hgg (gr_of_below hb5 _)⟩

/-- So many bytes, whatever comes. -/
theorem rbytes_any (g : Nat) (l : List UInt8) (bad : Bool) (n : Nat) (w0 w : World) (h : RS w0 w g l bad) (hl : l.length ≤ 1000000) (hn : n ≤ 1000) :
    Calls Tryz.prog 38 #[.pointer (some ⟨g, 0, none⟩), .int .i64 n] w fun e w' => ∃ (v : Value) (bs r : List UInt8) (b2 : Bool), e = .returned v ∧ HasE byteC w' v bs ∧ bs.length ≤ n ∧ RS w0 w' g r b2 ∧ r.length ≤ 1000000 ∧ (b2 = false → bad = false ∧ pTake n l = some (bs, r)) ∧ (b2 = true → bad = true ∨ pTake n l = none) ∧ w.grownBy w' (some g) := by
  by_cases h0 : n = 0
  · subst h0
    refine (rbytes_zero g l bad w0 w h hl).mono ?_
    rintro e w' ⟨⟨v, rfl, hv⟩, h2, h3⟩
    exact ⟨v, [], l, bad, rfl, hv, Nat.zero_le _, h2, hl, fun h => ⟨h, rfl⟩, fun h => .inl h, h3⟩
  · by_cases hlt : n ≤ l.length
    · refine (rbytes_yes g l bad n w0 w h (by omega) hlt hl).mono ?_
      rintro e w' ⟨⟨v, rfl, hv⟩, h2, h3⟩
      exact ⟨v, l.take n, l.drop n, bad, rfl, hv, by rw [List.length_take]; omega, h2, by rw [List.length_drop]; omega, fun h => ⟨h, by unfold pTake; rw [if_pos hlt]⟩, fun h => .inl h, h3⟩
    · have hp : pTake n l = none := by unfold pTake; rw [if_neg hlt]
      by_cases h8 : n ≤ 8
      · refine (rbytes_no g l bad n w0 w h (by omega) h8 (by omega)).mono ?_
        rintro e w' ⟨⟨v, rfl, hv⟩, h2, h3⟩
        exact ⟨v, _, [], true, rfl, hv, by rw [List.length_replicate]; exact Nat.le_refl _, h2, Nat.zero_le _, (fun h => by cases h), (fun _ => .inr hp), h3⟩
      · refine (rbytes_lack g l bad n w0 w h (by omega) hn (by omega)).mono ?_
        rintro e w' ⟨⟨v, rfl, hv⟩, h2, h3⟩
        exact ⟨v, _, [], true, rfl, hv, by rw [List.length_replicate]; omega, h2, Nat.zero_le _, (fun h => by cases h), (fun _ => .inr hp), h3⟩

theorem text_two {bad b1 b2 : Bool} {l r1 r2 bs : List UInt8} {n : Nat} (h1 : b1 = false → bad = false ∧ pNum 40 l = some (n, r1)) (h2 : b1 = true → bad = true ∨ pNum 40 l = none)
    (k1 : b2 = false → b1 = false ∧ pTake n r1 = some (bs, r2)) (k2 : b2 = true → b1 = true ∨ pTake n r1 = none) :
    (b2 = false → bad = false ∧ pText l = some (⟨bs.toArray⟩, r2)) ∧ (b2 = true → bad = true ∨ pText l = none) := by
  refine ⟨fun e => ?_, fun e => ?_⟩
  · obtain ⟨e1, e2⟩ := k1 e
    obtain ⟨e3, e4⟩ := h1 e1
    exact ⟨e3, by unfold pText; rw [bindP_some e4, bindP_some e2]⟩
  · rcases k2 e with e1 | e1
    · rcases h2 e1 with e2 | e2
      · exact .inl e2
      · exact .inr (bindP_none e2)
    · cases hb : b1 with
      | true =>
        rcases h2 hb with e2 | e2
        · exact .inl e2
        · exact .inr (bindP_none e2)
      | false =>
        obtain ⟨e3, e4⟩ := h1 hb
        exact .inr (by unfold pText; rw [bindP_some e4, bindP_none e1])

set_option maxHeartbeats 8000000 in
theorem rtext_any (g : Nat) (l : List UInt8) (bad : Bool) (w0 w : World) (h : RS w0 w g l bad) (hl : l.length ≤ 1000000) :
    Calls Tryz.prog 34 #[.pointer (some ⟨g, 0, none⟩)] w fun e w' => ∃ (s : ByteArray) (r : List UInt8) (b2 : Bool), e = .returned (.string s) ∧ s.size ≤ 40 ∧ RS w0 w' g r b2 ∧ r.length ≤ 1000000 ∧ (b2 = false → bad = false ∧ pText l = some (s, r)) ∧ (b2 = true → bad = true ∨ pText l = none) ∧ w.grownBy w' (some g) := by
  have HN : RowKit.Hid (Calls Tryz.prog 40 #[.pointer (some ⟨g, 0, none⟩), .int .i64 40] w fun e w' => ∃ (n : Nat) (r : List UInt8) (b2 : Bool), e = .returned (.int .i64 n) ∧ n ≤ 40 ∧ RS w0 w' g r b2 ∧ r.length ≤ 1000000 ∧ (b2 = false → bad = false ∧ pNum 40 l = some (n, r)) ∧ (b2 = true → bad = true ∨ pNum 40 l = none) ∧ w.grownBy w' (some g)) := Lib.hid (rnum_any g l bad 40 w0 w h hl (by omega))
  have HBY : RowKit.Hid (∀ W (n : Nat) r b, RS w0 W g r b → r.length ≤ 1000000 → n ≤ 1000 → Calls Tryz.prog 38 #[.pointer (some ⟨g, 0, none⟩), .int .i64 n] W fun e w' => ∃ (v : Value) (bs r2 : List UInt8) (b2 : Bool), e = .returned v ∧ HasE byteC w' v bs ∧ bs.length ≤ n ∧ RS w0 w' g r2 b2 ∧ r2.length ≤ 1000000 ∧ (b2 = false → b = false ∧ pTake n r = some (bs, r2)) ∧ (b2 = true → b = true ∨ pTake n r = none) ∧ W.grownBy w' (some g)) := Lib.hid fun W n r b h h1 h2 => rbytes_any g r b n w0 W h h1 h2
  clear hl
  go_enter Tryz.func34, Tryz.ntmps34
  go_wp2_with (first
    | (go_at_call 40; (with_reducible refine HN.out.mono ?_); rintro e w1 ⟨n, r1, b1, rfl, hn1, hr1, hrl1, hf1, ht1, hg1⟩)
    | (go_at_call 38; (with_reducible refine (HBY.out _ n _ _ hr1 hrl1 (by omega)).mono ?_); rintro e w2 ⟨v2, bs, r2, b2, rfl, hv2, hbl2, hr2, hrl2, hf2, ht2, hg2⟩; have hcv := conv_has hv2))
  go_ret
  obtain ⟨k1, k2⟩ := text_two hf1 ht1 hf2 ht2
  exact ⟨_, r2, b2, rfl, by show bs.toArray.size ≤ 40; simp; omega, hr2, hrl2, k1, k2, gby_trans hg1 hg2⟩

/-- A list of one's own, next to the reader. -/
theorem own_far {w w' : World} {B g : Nat} {e : TypeId} {st n : Nat} {v : Value} {xs : List Value} (h : w.ownsRow B e st v n xs) (hg : w.grownBy w' (some g)) (hlt : g < B) : w'.ownsRow B e st v n xs := World.ownsRow.kept h hg (own_ne h hlt)

theorem own_slice {w : World} {B : Nat} {e : TypeId} {st n : Nat} {v : Value} {xs : List Value} (h : w.ownsRow B e st v n xs) : ∃ p n' c, v = .slice p n' c := by
  rcases h.2 with ⟨e, _⟩ | ⟨gg, cap, cur, e, _⟩
  · exact ⟨_, _, _, e⟩
  · exact ⟨_, _, _, e⟩

/-- What the reading of a list comes to: a list of its own, and where the reader stands. -/
def ListP {α β : Type} (enc : α → List Value) (E : TypeId) (st most : Nat) (ok : α → Prop) (o : Option β) (K : List α → List UInt8 → Option β) (g : Nat) (w0 w : World) (e : Ending) (w' : World) : Prop :=
  ∃ (v : Value) (nm : List α) (r : List UInt8) (b2 : Bool), e = .returned v ∧ w'.ownsRow w.heap.size E st v nm.length (nm.flatMap enc) ∧ nm.length ≤ most ∧ (∀ x ∈ nm, ok x) ∧ RS w0 w' g r b2 ∧ r.length ≤ 1000000 ∧ Stg o b2 (K nm r) ∧ w.grownBy w' (some g)

theorem name_step {β : Type} {o : Option β} {K : List NameT → List UInt8 → Option β} {bad b5 b7 : Bool} {r r5 r7 : List UInt8} {a b : ByteArray} {k : Nat} {lst : List NameT} (h : Stg o bad (pRun pName K (k + 1) lst r))
    (hf5 : b5 = false → bad = false ∧ pText r = some (a, r5)) (ht5 : b5 = true → bad = true ∨ pText r = none) (hf7 : b7 = false → b5 = false ∧ pText r5 = some (b, r7)) (ht7 : b7 = true → b5 = true ∨ pText r5 = none) :
    Stg o b7 (pRun pName K k (lst ++ [⟨a, b⟩]) r7) := by
  have h2 := stg_two (q := pText) (F := fun a b => (⟨a, b⟩ : NameT)) hf5 ht5 hf7 ht7
  exact Stg.step (p := pName r) (K := fun s r' => pRun pName K k (lst ++ [s]) r') h h2.1 h2.2

theorem name_tinfo : ∃ i0 : TypeInfo, Tryz.prog.info? 59 = some i0 ∧ i0.zero = some (.agg #[.string ⟨#[]⟩, .string ⟨#[]⟩]) ∧ i0.size = 2 ∧ i0.bytes = 32 := by
  have hbyte : (Tryz.prog.info? 59).map (fun i => (i.zero, i.size, i.bytes)) = some (some (.agg #[.string ⟨#[]⟩, .string ⟨#[]⟩]), 2, 32) := by kernel_rfl
  rw [Option.map_eq_some_iff] at hbyte
  obtain ⟨i0, h1, h2⟩ := hbyte
  simp only [Prod.mk.injEq] at h2
  exact ⟨i0, h1, h2.1, h2.2.1, h2.2.2⟩

set_option maxHeartbeats 16000000 in
theorem rnames_any {β : Type} {o : Option β} {K : List NameT → List UInt8 → Option β} (g : Nat) (l : List UInt8) (bad : Bool) (w0 w : World) (h : RS w0 w g l bad) (hl : l.length ≤ 1000000) (hst : Stg o bad (bindP (pNum 9 l) fun n r => pRun pName K n [] r)) :
    Calls Tryz.prog 35 #[.pointer (some ⟨g, 0, none⟩)] w fun e w' => ListP nameC 59 2 9 (fun x => x.last.size ≤ 40 ∧ x.first.size ≤ 40) o K g w0 w e w' := by
  have HN : RowKit.Hid (Calls Tryz.prog 40 #[.pointer (some ⟨g, 0, none⟩), .int .i64 9] w fun e w' => ∃ (n : Nat) (r : List UInt8) (b2 : Bool), e = .returned (.int .i64 n) ∧ n ≤ 9 ∧ RS w0 w' g r b2 ∧ r.length ≤ 1000000 ∧ (b2 = false → bad = false ∧ pNum 9 l = some (n, r)) ∧ (b2 = true → bad = true ∨ pNum 9 l = none) ∧ w.grownBy w' (some g)) := Lib.hid (rnum_any g l bad 9 w0 w h hl (by omega))
  have HTX : RowKit.Hid (∀ W r b, RS w0 W g r b → r.length ≤ 1000000 → Calls Tryz.prog 34 #[.pointer (some ⟨g, 0, none⟩)] W fun e w' => ∃ (s : ByteArray) (r2 : List UInt8) (b2 : Bool), e = .returned (.string s) ∧ s.size ≤ 40 ∧ RS w0 w' g r2 b2 ∧ r2.length ≤ 1000000 ∧ (b2 = false → b = false ∧ pText r = some (s, r2)) ∧ (b2 = true → b = true ∨ pText r = none) ∧ W.grownBy w' (some g)) := Lib.hid fun W r b h h1 => rtext_any g r b w0 W h h1
  have HST := Lib.hid hst
  have hgl := h.lt
  have hlo := h.1
  clear hst hl
  go_enter Tryz.func35, Tryz.ntmps35
  go_upto_block 0 with (first
    | (go_at_call 40; (with_reducible refine HN.out.mono ?_); rintro e w1 ⟨n, r1, b1, rfl, hn1, hr1, hrl1, hf1, ht1, hg1⟩))
  have HS1 : RowKit.Hid (Stg o b1 (pRun pName K n [] r1)) := Lib.hid (HST.out.step (K := fun n r2 => pRun pName K n [] r2) hf1 ht1)
  have HR1 := Lib.hid hr1
  have HG1 := Lib.hid hg1
  clear hf1 ht1 hr1 hg1 HST HN
  go_wp2
  go_loopg [3, 6] n (fun g0 s3 s6 wr => ∃ (i : Nat) (lst : List NameT) (r : List UInt8) (bad : Bool) (p3 : Option Addr) (n3 c3 : Nat), i ≤ n ∧ g0 = n - i ∧ s6 = .int .i64 (i : Int) ∧ s3 = .slice p3 n3 c3 ∧ wr.ownsRow w.heap.size 59 2 (.slice p3 n3 c3) i (lst.flatMap nameC) ∧ lst.length = i ∧ (∀ x ∈ lst, x.last.size ≤ 40 ∧ x.first.size ≤ 40) ∧ RS w0 wr g r bad ∧ r.length ≤ 1000000 ∧ Stg o bad (pRun pName K (n - i) lst r) ∧ w.grownBy wr (some g))
  case atStart => exact ⟨0, [], r1, b1, none, 0, 0, Nat.zero_le _, rfl, rfl, rfl, World.ownsRow_nil _ _ _ _, rfl, (fun x hx => by cases hx), HR1.out, hrl1, HS1.out, HG1.out⟩
  case round =>
    obtain ⟨i, lst, r, bad, p3, n3, c3, hin, rfl, rfl, rfl, hown, hll, hsz, hrs, hrl, hst, hgr⟩ := hrel
    have HOWN := Lib.hid hown
    have HLL := Lib.hid hll
    have HSZ := Lib.hid hsz
    have HRS := Lib.hid hrs
    have HST := Lib.hid hst
    have HGR := Lib.hid hgr
    clear hown hll hsz hrs hst hgr HR1 HS1 HG1 hrl1
    by_cases hlt : i < n
    · have hii : (i : Int) < (n : Int) := by omega
      obtain ⟨i0, hi0, hz0, hsz0, hby0⟩ := name_tinfo
      have hm1 : i + 1 ≤ maxLen := by unfold maxLen; omega
      have hm2 : (i + 1) * 32 ≤ 140737488355328 := by omega
      go_wp2_with (first
        | (go_at_call 34; (with_reducible refine (HTX.out _ _ _ HRS.out hrl).mono ?_); rintro e w5 ⟨s5, r5, b5, rfl, hs5, hr5, hrl5, hf5, ht5, hg5⟩)
        | (go_at_call 34; (with_reducible refine (HTX.out _ _ _ hr5 hrl5).mono ?_); rintro e w7 ⟨s7, r7, b7, rfl, hs7, hr7, hrl7, hf7, ht7, hg7⟩; have ho7 := own_far (own_far HOWN.out hg5 hgl) hg7 hgl; have hg57 := gby_trans (gby_trans HGR.out hg5) hg7; have hB7 := hg57.size)
        | (at_builtin; refine wpList_pushC rfl _ _ 22 rfl w.heap.size 59 i0 _ 2 32 Tryz.underlying22 hi0 hz0 hsz0 hby0 rfl (by decide) _ i _ rfl ho7 (nameC ⟨s5, s7⟩) rfl rfl (nameC_one _) hm1 hm2 hB7 ?_; intro v4 w4 ho4 hb4 hg4; replace hg4 : World.grownBy _ w4 (Value.slice p3 n3 c3).ownBlock := hg4; obtain ⟨p4, n4, c4, rfl⟩ := own_slice ho4))
      have hstn := name_step (k := n - (i + 1)) (by have := HST.out; rw [show n - i = (n - (i + 1)) + 1 by omega] at this; exact this) hf5 ht5 hf7 ht7
      have hr4 := hr7.farA hg4 (fun e => by rcases own_ne ho7 hgl with h | h; · rw [h] at e; cases e
                                            exact h e) (fun k hk => by have := (World.ownsRow.lt ho7 k hk).1; omega)
      have hgrn : w.grownBy w4 (some g) := by
        refine ⟨hb4.os.trans hg57.os, hb4.tape.trans hg57.tape, hb4.output.trans hg57.output, Nat.le_trans hg57.size (Nat.le_trans (by simp) hg4.size), fun k hk hne => ?_⟩
        exact (hb4.block k hk).trans (hg57.block k hk hne)
      go_roundg (n - (i + 1))
      case measure => omega
      case rel => exact ⟨i + 1, lst ++ [⟨s5, s7⟩], r7, b7, _, _, _, by omega, rfl, by go_num, rfl, by rw [List.flatMap_append, show ([⟨s5, s7⟩] : List NameT).flatMap nameC = nameC ⟨s5, s7⟩ by simp]; exact ho4, by rw [List.length_append, HLL.out]; rfl, (fun t ht => by
        rcases List.mem_append.1 ht with h1 | h1
        · exact HSZ.out t h1
        · rw [List.mem_singleton.1 h1]; exact ⟨hs5, hs7⟩), hr4, hrl7, hstn, hgrn⟩
    · have hie : i = n := by omega
      subst hie
      have hii : ¬ (i : Int) < (i : Int) := by omega
      go_wp2
      go_ret
      exact ⟨_, lst, r, bad, rfl, by rw [HLL.out]; exact HOWN.out, by rw [HLL.out]; exact hn1, HSZ.out, HRS.out, hrl, by have := HST.out; rw [Nat.sub_self] at this; exact this, HGR.out⟩
end Go.Proofs.YtofomopmmopflaaGreatDoor
