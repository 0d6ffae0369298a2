/- The reader's segments. -/
import Derived.Test.YtofomopmmopflaaGreatDoorMA
import Derived.Test.YtofomopmmopflaaGreatDoorMB
import Derived.Test.YtofomopmmopflaaGreatDoorMC
import Derived.Test.YtofomopmmopflaaGreatDoorMD
import Derived.Test.YtofomopmmopflaaGreatDoorME
import Derived.Test.YtofomopmmopflaaGreatDoorFN
import Derived.Test.YtofomopmmopflaaGreatDoorFQ
import Derived.Test.YtofomopmmopflaaGreatDoorGB
import Derived.Test.YtofomopmmopflaaGreatDoorGH
import Derived.Test.YtofomopmmopflaaGreatDoorGK
import Derived.Test.YtofomopmmopflaaGreatDoorGJA
import Derived.Test.YtofomopmmopflaaGreatDoorGO
import Derived.Test.YtofomopmmopflaaGreatDoorGQ
import Derived.Test.YtofomopmmopflaaGreatDoorGR
import Derived.Test.YtofomopmmopflaaGreatDoorRows
import Derived.WalkKit
import Derived.WalkSpells
import Derived.WalkLawsBesides
import Derived.Lib.ConvBytes
import Derived.Lib.Hide
import Derived.Lib.SliceRun
import Derived.IntWalk
import Derived.BigQuiet
import Derived.Deep.QuietTactic
import Derived.Deep.RegionWith
import Derived.Deep.RegionHeld3
import Derived.Deep.LoopGhost
import Derived.Deep.CutRange
import Derived.Deep.CutBlock
import Derived.Deep.MidRow
import Derived.Laws.OwnMore
import Derived.OwnWalk
import Derived.Laws.AppendOwnNone
import Derived.Laws.Rows
import Derived.Laws.MakeOwn
import Derived.Laws.CopyOwn
import Derived.Laws.BitsAllLaws
import Derived.DeepKeys5
import Derived.Maps.OwnOps
import Derived.Handy
import Derived.Lib.AppendStr
import Derived.StillTailTactics
import Derived.Deep.AppendLies
import Derived.WideKeyEntry
namespace Go.Proofs.YtofomopmmopflaaGreatDoor
open Go.RowKit Go.ChangeMaps
set_option linter.unusedSimpArgs false
set_option linter.unusedVariables false
set_option maxRecDepth 20000

theorem has_far2 {α : Type} {enc : α → List Value} {W W' : World} {v : Value} {l : List α} {b : Nat} {T : TypeId} {cs : List Value} (h : HasE enc W v l) (hb : Blk W b T cs) (hc : ∀ a, ∀ u ∈ enc a, u ∉ cs) (hg : W.grownBy W' (some b)) : HasE enc W' v l := by
  rcases h with h | ⟨bb, off, c, e, h1, h2, h3⟩
  · exact .inl h
  · refine .inr ⟨bb, off, c, e, h1, h2, fun j u hj => ?_⟩
    have hcell := h3 j u hj
    refine gr_cell hg hcell ?_
    rintro rfl
    rw [hb.cell] at hcell
    obtain ⟨a, _, ha⟩ := List.mem_flatMap.1 (List.mem_of_getElem? hj)
    exact hc a u ha (List.mem_of_getElem? hcell)

theorem seg_tinfo : ∃ i0 : TypeInfo, Tryz.prog.info? 65 = some i0 ∧ i0.zero = some (.agg #[.string ⟨#[]⟩, .int .i64 0, .int .i64 0, .int .u8 0, .bool false]) ∧ i0.size = 5 ∧ i0.bytes = 40 := by
  have hbyte : (Tryz.prog.info? 65).map (fun i => (i.zero, i.size, i.bytes)) = some (some (.agg #[.string ⟨#[]⟩, .int .i64 0, .int .i64 0, .int .u8 0, .bool false]), 5, 40) := by kernel_rfl
  rw [Option.map_eq_some_iff] at hbyte
  obtain ⟨i0, h1, h2⟩ := hbyte
  simp only [Prod.mk.injEq] at h2
  exact ⟨i0, h1, h2.1, h2.2.1, h2.2.2⟩

/-- The cells of no segment. -/
def segZ : List Value := [.string ⟨#[]⟩, .int .i64 0, .int .i64 0, .int .u8 0, .bool false]

theorem zcells {w : World} {b : Nat} (h : Blk w b 65 segZ) : (w.cell? ⟨b, 0, none⟩ = some (.string ⟨#[]⟩) ∧ w.cell? ⟨b, 1, none⟩ = some (.int .i64 0) ∧ w.cell? ⟨b, 2, none⟩ = some (.int .i64 0) ∧ w.cell? ⟨b, 3, none⟩ = some (.int .u8 0) ∧ w.cell? ⟨b, 4, none⟩ = some (.bool false)) ∧ (w.frozen? ⟨b, 0, none⟩ = false ∧ w.frozen? ⟨b, 1, none⟩ = false ∧ w.frozen? ⟨b, 2, none⟩ = false ∧ w.frozen? ⟨b, 3, none⟩ = false ∧ w.frozen? ⟨b, 4, none⟩ = false) :=
  ⟨⟨(h.cell 0).trans rfl, (h.cell 1).trans rfl, (h.cell 2).trans rfl, (h.cell 3).trans rfl, (h.cell 4).trans rfl⟩, h.frozen 0, h.frozen 1, h.frozen 2, h.frozen 3, h.frozen 4⟩

/-- The reader's bytes as a text, in whatever world behind. -/
theorem rtake_any (g : Nat) (l : List UInt8) (bad : Bool) (n : Nat) (w0 w : World) (h : RS w0 w g l bad) (hl : l.length ≤ 1000000) (hn : n ≤ 1000) :
    Calls Tryz.prog 38 #[.pointer (some ⟨g, 0, none⟩), .int .i64 n] w fun e w' => ∃ (v : Value) (bs r : List UInt8) (b2 : Bool), e = .returned v ∧ bs.length ≤ n ∧ RS w0 w' g r b2 ∧ r.length ≤ 1000000 ∧ (b2 = false → bad = false ∧ pTake n l = some (bs, r)) ∧ (b2 = true → bad = true ∨ pTake n l = none) ∧ w.grownBy w' (some g) ∧ ∀ W, w'.grownBy W (some g) → (convert 30 9 v).run Tryz.prog W = .ok (.string ⟨bs.toArray⟩) W := by
  refine (rbytes_any g l bad n w0 w h hl hn).mono ?_
  rintro e w' ⟨v, bs, r, b2, rfl, hv, hbl, hr, hrl, hf, ht, hg⟩
  obtain ⟨_, ⟨vx, k1, k2⟩, _⟩ := id hr
  obtain ⟨p, c, rfl⟩ := k2.len
  refine ⟨v, bs, r, b2, rfl, hbl, hr, hrl, hf, ht, hg, fun W hW => conv_has (has_far2 hv k1 (fun a u hu hm => ?_) hW)⟩
  have hu' : u = .int .u8 a.toNat := by simpa [byteC] using hu
  subst hu'
  simp at hm

/-- What the making of a segment's beginning leaves. -/
def SegIn (w0 wr : World) (g : Nat) (r : List UInt8) (bad : Bool) (v : Value) (wx : World) : Prop :=
  ∃ (gx : Nat) (car : ByteArray) (n : Nat) (r7 : List UInt8) (b7 : Bool), v = .pointer (some ⟨gx, 0, none⟩) ∧ Blk wx gx 65 [.string car, .int .i64 (n : Int), .int .i64 0, .int .u8 0, .bool false] ∧ wr.heap.size ≤ gx ∧ RS w0 wx g r7 b7 ∧ wr.grownBy wx (some g) ∧ car.size ≤ 2 ∧ n ≤ 9999 ∧ r7.length ≤ 1000000 ∧
    (b7 = false → bad = false ∧ (bindP (pTake 2 r) fun k r => bindP (pNum 9999 r) fun n r2 => some (((⟨k.toArray⟩ : ByteArray), n), r2)) = some ((car, n), r7)) ∧ (b7 = true → bad = true ∨ (bindP (pTake 2 r) fun k r => bindP (pNum 9999 r) fun n r2 => some (((⟨k.toArray⟩ : ByteArray), n), r2)) = none)

theorem seg_done {w0 wr w7 : World} {g : Nat} {r r5 r7 bs : List UInt8} {bad b5 b7 : Bool} {n7 : Nat} (hw0 : w0.heap.size ≤ wr.heap.size) (hgr : wr.grownBy w7 (some g)) (hr7 : RS w0 w7 g r7 b7) (hrl7 : r7.length ≤ 1000000) (hbl : bs.length ≤ 2) (hn7 : n7 ≤ 9999)
    (hf5 : b5 = false → bad = false ∧ pTake 2 r = some (bs, r5)) (ht5 : b5 = true → bad = true ∨ pTake 2 r = none) (hf7 : b7 = false → b5 = false ∧ pNum 9999 r5 = some (n7, r7)) (ht7 : b7 = true → b5 = true ∨ pNum 9999 r5 = none) :
    SegIn w0 wr g r bad (.pointer (some ⟨w7.heap.size, 0, none⟩)) (w7.alloc (.cells #[.string ⟨bs.toArray⟩, .int .i64 (n7 : Int), .int .i64 0, .int .u8 0, .bool false] 65)) ∧
    ∀ gz, wr.heap.size ≤ gz → gz ≠ g → Blk w7 gz 65 segZ → SegIn w0 wr g r bad (.pointer (some ⟨gz, 0, none⟩)) (((((w7.setCell ⟨gz, 0, none⟩ (.string ⟨bs.toArray⟩)).setCell ⟨gz, 1, none⟩ (.int .i64 (n7 : Int))).setCell ⟨gz, 2, none⟩ (.int .i64 0)).setCell ⟨gz, 3, none⟩ (.int .u8 0)).setCell ⟨gz, 4, none⟩ (.bool false)) := by
  have h2 := stg_two (q := pNum 9999) (F := fun (k : List UInt8) (n : Nat) => ((⟨k.toArray⟩ : ByteArray), n)) hf5 ht5 hf7 ht7
  have hsz : (⟨bs.toArray⟩ : ByteArray).size ≤ 2 := by show bs.toArray.size ≤ 2; simpa using hbl
  have hal : Below w7.heap.size w7 (w7.alloc (.cells #[.string ⟨bs.toArray⟩, .int .i64 (n7 : Int), .int .i64 0, .int .u8 0, .bool false] 65)) := (Below.refl _ _).alloc (Nat.le_refl _) _
  refine ⟨⟨_, _, n7, r7, b7, rfl, Blk.new w7 _ _, hgr.size, hr7.mono hal, gby_trans hgr (gr_of_below hal _), hsz, hn7, hrl7, h2.1, h2.2⟩, fun gz h0 hne hz => ?_⟩
  have hg5 : w7.grownBy (((((w7.setCell ⟨gz, 0, none⟩ (.string ⟨bs.toArray⟩)).setCell ⟨gz, 1, none⟩ (.int .i64 (n7 : Int))).setCell ⟨gz, 2, none⟩ (.int .i64 0)).setCell ⟨gz, 3, none⟩ (.int .u8 0)).setCell ⟨gz, 4, none⟩ (.bool false)) (some gz) := gr_setCell1 (gr_setCell1 (gr_setCell1 (gr_setCell1 (gr_setCell1 (World.grownBy.refl _ _) 0 _) 1 _) 2 _) 3 _) 4 _
  have hb := ((((hz.set 0 (.string ⟨bs.toArray⟩)).set 1 (.int .i64 (n7 : Int))).set 2 (.int .i64 0)).set 3 (.int .u8 0)).set 4 (.bool false)
  have hgz : wr.grownBy (((((w7.setCell ⟨gz, 0, none⟩ (.string ⟨bs.toArray⟩)).setCell ⟨gz, 1, none⟩ (.int .i64 (n7 : Int))).setCell ⟨gz, 2, none⟩ (.int .i64 0)).setCell ⟨gz, 3, none⟩ (.int .u8 0)).setCell ⟨gz, 4, none⟩ (.bool false)) (some g) := gr_new hgr hg5 h0
  refine ⟨gz, ⟨bs.toArray⟩, n7, r7, b7, rfl, hb, h0, RS.kept (row := some gz) hr7 hg5 (by intro e; injection e with e; exact hne e.symm) (fun k hk => by
    injection hk with hk
    subst hk
    exact Nat.le_trans hw0 h0), hgz, hsz, hn7, hrl7, h2.1, h2.2⟩

theorem pSeg_eq (r : List UInt8) : pSeg r = bindP (bindP (pTake 2 r) fun k r => bindP (pNum 9999 r) fun n r2 => some (((⟨k.toArray⟩ : ByteArray), n), r2)) fun cn r2 => bindP (pNum 731 r2) fun d r3 => bindP (pFix 1 r3) fun c r4 => some (⟨cn.1, (cn.2 : Int), ((d / 2 : Nat) : Int), UInt8.ofNat c, d % 2 == 1⟩, r4) := by
  unfold pSeg
  cases h1 : pTake 2 r with
  | none => rw [bindP_none rfl, bindP_none rfl, bindP_none rfl]
  | some x =>
    obtain ⟨k, r1⟩ := x
    rw [bindP_some rfl, bindP_some rfl]
    cases h2 : pNum 9999 r1 with
    | none => rw [bindP_none rfl, bindP_none rfl, bindP_none rfl]
    | some y =>
      obtain ⟨n, r2⟩ := y
      rw [bindP_some rfl, bindP_some rfl, bindP_some rfl]

theorem seg_step {β : Type} {o : Option β} {K : List SegT → List UInt8 → Option β} {bad b7 b9 b10 : Bool} {r r7 r9 r10 : List UInt8} {car : ByteArray} {n d k : Nat} {x : UInt8} {lst : List SegT} (h : Stg o bad (pRun pSeg K (k + 1) lst r))
    (h1 : b7 = false → bad = false ∧ (bindP (pTake 2 r) fun k r => bindP (pNum 9999 r) fun n r2 => some (((⟨k.toArray⟩ : ByteArray), n), r2)) = some ((car, n), r7)) (h2 : b7 = true → bad = true ∨ (bindP (pTake 2 r) fun k r => bindP (pNum 9999 r) fun n r2 => some (((⟨k.toArray⟩ : ByteArray), n), r2)) = none)
    (h3 : b9 = false → b7 = false ∧ pNum 731 r7 = some (d, r9)) (h4 : b9 = true → b7 = true ∨ pNum 731 r7 = none) (h5 : b10 = false → b9 = false ∧ pFix 1 r9 = some (x.toNat, r10)) (h6 : b10 = true → b9 = true ∨ pFix 1 r9 = none) :
    Stg o b10 (pRun pSeg K k (lst ++ [⟨car, (n : Int), ((d / 2 : Nat) : Int), x, d % 2 == 1⟩]) r10) := by
  refine Stg.step (p := pSeg r) (K := fun s r' => pRun pSeg K k (lst ++ [s]) r') h (fun e => ?_) (fun e => ?_)
  · obtain ⟨e1, e2⟩ := h5 e
    obtain ⟨e3, e4⟩ := h3 e1
    obtain ⟨e5, e6⟩ := h1 e3
    refine ⟨e5, ?_⟩
    rw [pSeg_eq, bindP_some e6, bindP_some e4, bindP_some e2]
    simp
  · rw [pSeg_eq]
    rcases h6 e with e1 | e1
    · rcases h4 e1 with e2 | e2
      · rcases h2 e2 with e3 | e3
        · exact .inl e3
        · exact .inr (bindP_none e3)
      · cases hb : b7 with
        | true =>
          rcases h2 hb with e3 | e3
          · exact .inl e3
          · exact .inr (bindP_none e3)
        | false =>
          obtain ⟨_, e4⟩ := h1 hb
          exact .inr (by rw [bindP_some e4, bindP_none e2])
    · cases hb : b9 with
      | true =>
        rcases h4 hb with e2 | e2
        · rcases h2 e2 with e3 | e3
          · exact .inl e3
          · exact .inr (bindP_none e3)
        · cases hb7 : b7 with
          | true =>
            rcases h2 hb7 with e3 | e3
            · exact .inl e3
            · exact .inr (bindP_none e3)
          | false =>
            obtain ⟨_, e4⟩ := h1 hb7
            exact .inr (by rw [bindP_some e4, bindP_none e2])
      | false =>
        obtain ⟨e7, e2⟩ := h3 hb
        obtain ⟨_, e4⟩ := h1 e7
        exact .inr (by rw [bindP_some e4, bindP_some e2, bindP_none e1])

set_option maxHeartbeats 32000000 in
theorem rsegs_any {β : Type} {o : Option β} {K : List SegT → List UInt8 → Option β} (g : Nat) (l : List UInt8) (bad : Bool) (w0 w : World) (h : RS w0 w g l bad) (hl : l.length ≤ 1000000) (hst : Stg o bad (bindP (pNum 8 l) fun n r => pRun pSeg K n [] r)) :
    Calls Tryz.prog 36 #[.pointer (some ⟨g, 0, none⟩)] w fun e w' => ListP segC 65 5 8 (fun x => x.car.size ≤ 2) o K g w0 w e w' := by
  have HNU : RowKit.Hid (∀ (most : Nat) W r b, most ≤ 10000 → RS w0 W g r b → r.length ≤ 1000000 → Calls Tryz.prog 40 #[.pointer (some ⟨g, 0, none⟩), .int .i64 most] W fun e w' => ∃ (n : Nat) (r2 : List UInt8) (b2 : Bool), e = .returned (.int .i64 n) ∧ n ≤ most ∧ RS w0 w' g r2 b2 ∧ r2.length ≤ 1000000 ∧ (b2 = false → b = false ∧ pNum most r = some (n, r2)) ∧ (b2 = true → b = true ∨ pNum most r = none) ∧ W.grownBy w' (some g)) := Lib.hid fun most W r b hm h h1 => rnum_any g r b most w0 W h h1 (by omega)
  have HN8 : RowKit.Hid (Calls Tryz.prog 40 #[.pointer (some ⟨g, 0, none⟩), .int .i64 8] w fun e w' => ∃ (n : Nat) (r2 : List UInt8) (b2 : Bool), e = .returned (.int .i64 n) ∧ n ≤ 8 ∧ RS w0 w' g r2 b2 ∧ r2.length ≤ 1000000 ∧ (b2 = false → bad = false ∧ pNum 8 l = some (n, r2)) ∧ (b2 = true → bad = true ∨ pNum 8 l = none) ∧ w.grownBy w' (some g)) := Lib.hid (HNU.out 8 w l bad (by omega) h hl)
  have HN9 : RowKit.Hid (∀ W r b, RS w0 W g r b → r.length ≤ 1000000 → Calls Tryz.prog 40 #[.pointer (some ⟨g, 0, none⟩), .int .i64 9999] W fun e w' => ∃ (n : Nat) (r2 : List UInt8) (b2 : Bool), e = .returned (.int .i64 n) ∧ n ≤ 9999 ∧ RS w0 w' g r2 b2 ∧ r2.length ≤ 1000000 ∧ (b2 = false → b = false ∧ pNum 9999 r = some (n, r2)) ∧ (b2 = true → b = true ∨ pNum 9999 r = none) ∧ W.grownBy w' (some g)) := Lib.hid fun W r b => HNU.out 9999 W r b (by omega)
  have HN7 : RowKit.Hid (∀ W r b, RS w0 W g r b → r.length ≤ 1000000 → Calls Tryz.prog 40 #[.pointer (some ⟨g, 0, none⟩), .int .i64 731] W fun e w' => ∃ (n : Nat) (r2 : List UInt8) (b2 : Bool), e = .returned (.int .i64 n) ∧ n ≤ 731 ∧ RS w0 w' g r2 b2 ∧ r2.length ≤ 1000000 ∧ (b2 = false → b = false ∧ pNum 731 r = some (n, r2)) ∧ (b2 = true → b = true ∨ pNum 731 r = none) ∧ W.grownBy w' (some g)) := Lib.hid fun W r b => HNU.out 731 W r b (by omega)
  have HB2 : RowKit.Hid (∀ W r b, RS w0 W g r b → r.length ≤ 1000000 → Calls Tryz.prog 38 #[.pointer (some ⟨g, 0, none⟩), .int .i64 2] W fun e w' => ∃ (v : Value) (bs r2 : List UInt8) (b2 : Bool), e = .returned v ∧ bs.length ≤ 2 ∧ RS w0 w' g r2 b2 ∧ r2.length ≤ 1000000 ∧ (b2 = false → b = false ∧ pTake 2 r = some (bs, r2)) ∧ (b2 = true → b = true ∨ pTake 2 r = none) ∧ W.grownBy w' (some g) ∧ ∀ W', w'.grownBy W' (some g) → (convert 30 9 v).run Tryz.prog W' = .ok (.string ⟨bs.toArray⟩) W') := Lib.hid fun W r b h h1 => rtake_any g r b 2 w0 W h h1 (by omega)
  have HONE : RowKit.Hid (∀ W r b, RS w0 W g r b → r.length ≤ 1000000 → Calls Tryz.prog 38 #[.pointer (some ⟨g, 0, none⟩), .int .i64 1] W fun e w' => ∃ (x : UInt8) (r2 : List UInt8) (b2 : Bool) (b' off c : Nat), e = .returned (.slice (some ⟨b', off, none⟩) 1 c) ∧ w'.cell? ⟨b', off, none⟩ = some (.int .u8 x.toNat) ∧ RS w0 w' g r2 b2 ∧ r2.length ≤ 1000000 ∧ (b2 = false → b = false ∧ pFix 1 r = some (x.toNat, r2)) ∧ (b2 = true → b = true ∨ pFix 1 r = none) ∧ W.grownBy w' (some g)) := Lib.hid fun W r b h h1 => rone_any g r b w0 W h h1
  have HST := Lib.hid hst
  have hgl := h.lt
  have hlo := h.1
  clear hst hl HNU
  go_enter Tryz.func36, Tryz.ntmps36
  go_upto_block 0 with (first
    | (go_at_call 40; (with_reducible refine HN8.out.mono ?_); rintro e w1 ⟨n, r1, b1, rfl, hn1, hr1, hrl1, hf1, ht1, hg1⟩))
  have HS1 : RowKit.Hid (Stg o b1 (pRun pSeg K n [] r1)) := Lib.hid (HST.out.step (K := fun n r2 => pRun pSeg K n [] r2) hf1 ht1)
  have HR1 := Lib.hid hr1
  have HG1 := Lib.hid hg1
  clear hf1 ht1 hr1 hg1 HST HN8
  go_wp2
  go_loopg [3, 8] n (fun g0 s3 s8 wr => ∃ (i : Nat) (lst : List SegT) (r : List UInt8) (bad : Bool) (p3 : Option Addr) (n3 c3 : Nat), i ≤ n ∧ g0 = n - i ∧ s8 = .int .i64 (i : Int) ∧ s3 = .slice p3 n3 c3 ∧ wr.ownsRow w.heap.size 65 5 (.slice p3 n3 c3) i (lst.flatMap segC) ∧ lst.length = i ∧ (∀ x ∈ lst, x.car.size ≤ 2) ∧ RS w0 wr g r bad ∧ r.length ≤ 1000000 ∧ Stg o bad (pRun pSeg K (n - i) lst r) ∧ w.grownBy wr (some g))
  case atStart => exact ⟨0, [], r1, b1, none, 0, 0, Nat.zero_le _, rfl, rfl, rfl, World.ownsRow_nil _ _ _ _, rfl, (fun x hx => by cases hx), HR1.out, hrl1, HS1.out, HG1.out⟩
  case round =>
    obtain ⟨i, lst, r, bad, p3, n3, c3, hin, rfl, rfl, rfl, hown, hll, hsz, hrs, hrl, hst, hgr⟩ := hrel
    have HOWN := Lib.hid hown
    have HLL := Lib.hid hll
    have HSZ := Lib.hid hsz
    have HRS := Lib.hid hrs
    have HST := Lib.hid hst
    have HGR := Lib.hid hgr
    clear hown hll hsz hrs hst hgr HR1 HS1 HG1 hrl1
    by_cases hlt : i < n
    · have hii : (i : Int) < (n : Int) := by omega
      obtain ⟨i0, hi0, hz0, hsz0, hby0⟩ := seg_tinfo
      have hm1 : i + 1 ≤ maxLen := by unfold maxLen; omega
      have hm2 : (i + 1) * 40 ≤ 140737488355328 := by omega
      have hgr2 : g < wr.heap.size := HRS.out.lt
      have HRA : RowKit.Hid (RS w0 wr.drew g r bad) := Lib.hid (HRS.out.mono (Below.refl _ _).drew)
      have HRB : RowKit.Hid (RS w0 (wr.alloc (.cells #[.string ⟨#[]⟩, .int .i64 0, .int .i64 0, .int .u8 0, .bool false] 65)).drew g r bad) := Lib.hid (HRS.out.mono ((Below.refl _ _).alloc (Nat.le_refl _) _).drew)
      have HZB : RowKit.Hid (Blk (wr.alloc (.cells #[.string ⟨#[]⟩, .int .i64 0, .int .i64 0, .int .u8 0, .bool false] 65)).drew wr.heap.size 65 segZ) := Lib.hid (Blk.mono (Blk.new wr 65 segZ) (Below.refl _ _).drew)
      go_upto_region 4 with fail
      go_cut [4] from 10 to 17 (fun s4 wx => SegIn w0 wr g r bad s4 wx)
      case first =>
        clear HN7 HONE HST HSZ HLL
        go_region_law (first
          | (go_simp; go_at_call 38; refine (HB2.out _ _ _ (by first | exact HRA.out | exact HRB.out) hrl).mono ?_; rintro e w5 ⟨v5, bs, r5, b5, rfl, hbl, hr5, hrl5, hf5, ht5, hg5, hc5⟩; have HC5 := Lib.hid hc5; clear hc5; have c1 := HC5.out w5 (World.grownBy.refl _ _); have c2 := HC5.out (w5.alloc (.cells #[.string ⟨#[]⟩, .int .i64 0, .int .i64 0, .int .u8 0, .bool false] 65)) (gr_of_below ((Below.refl _ _).alloc (Nat.le_refl _) _) _); (first | (have hz5 := Blk.far HZB.out hg5 (by intro e; injection e with e; omega)) | skip))
          | (go_simp; go_at_call 40; refine (HN9.out _ _ _ (by first | exact hr5 | exact hr5.mono ((Below.refl _ _).alloc (Nat.le_refl _) _)) hrl5).mono ?_; rintro e w7 ⟨n7, r7, b7, rfl, hn7, hr7, hrl7, hf7, ht7, hg7⟩; (first | (have c3 := HC5.out w7 hg7; have c4 := HC5.out (w7.alloc (.cells #[.string ⟨#[]⟩, .int .i64 0, .int .i64 0, .int .u8 0, .bool false] 65)) (gby_trans hg7 (gr_of_below ((Below.refl _ _).alloc (Nat.le_refl _) _) _))) | (have c3 := HC5.out w7 (gby_trans (gr_of_below ((Below.refl _ _).alloc (Nat.le_refl _) _) _) hg7))); (first | (have hz7 := Blk.far hz5 hg7 (by intro e; injection e with e; omega); obtain ⟨⟨z0, z1, z2, z3, z4⟩, f0, f1, f2, f3, f4⟩ := zcells hz7) | (have hz7 := Blk.far (Blk.new w5 65 segZ) hg7 (by intro e; injection e with e; have := hr5.lt; omega); obtain ⟨⟨z0, z1, z2, z3, z4⟩, f0, f1, f2, f3, f4⟩ := zcells hz7) | skip)))
        all_goals (
          go_wp2
          go_meet
          first
            | exact (seg_done HRS.out.bel.size (gby_trans (gr_of_below (Below.refl _ _).drew _) (gby_trans hg5 hg7)) hr7 hrl7 hbl hn7 hf5 ht5 hf7 ht7).1
            | exact (seg_done HRS.out.bel.size (gby_trans (gr_of_below (Below.refl _ _).drew _) (gby_trans hg5 (gby_trans (gr_of_below ((Below.refl _ _).alloc (Nat.le_refl _) _) _) hg7))) hr7 hrl7 hbl hn7 hf5 ht5 hf7 ht7).2 _ (by have := hg5.size; simpa using this) (by have := hr5.lt; omega) hz7
            | exact (seg_done HRS.out.bel.size (gby_trans (gr_of_below ((Below.refl _ _).alloc (Nat.le_refl _) _).drew _) (gby_trans hg5 hg7)) hr7 hrl7 hbl hn7 hf5 ht5 hf7 ht7).2 _ (Nat.le_refl _) (by omega) hz7)
      case rest =>
        rename World => wx
        obtain ⟨gx, car, n9, r7, b7, rfl, hbx, h0, hr7, hg7, hcs, hn9, hrl7, hF, hT⟩ := hcut
        have hgne : gx ≠ g := by omega
        have HBX := Lib.hid hbx
        have HF7 := Lib.hid hF
        have HT7 := Lib.hid hT
        have HCS := Lib.hid hcs
        have HOX : RowKit.Hid (wx.ownsRow w.heap.size 65 5 (.slice p3 n3 c3) i (lst.flatMap segC)) := Lib.hid (own_far HOWN.out hg7 hgl)
        have HGX : RowKit.Hid (w.grownBy wx (some g)) := Lib.hid (gby_trans HGR.out hg7)
        have hw0 := HRS.out.bel.size
        have hgxw : w.heap.size ≤ gx := by have := HGR.out.size; omega
        have HNB : RowKit.Hid ((Value.slice p3 n3 c3).ownBlock ≠ some gx) := Lib.hid fun e => by
          have := (World.ownsRow.lt HOWN.out _ e).2
          omega
        clear hbx hF hT hcs hg7 HRA HRB HZB HB2 HN9 HOWN HGR
        go_upto_region 6 with (first
          | (go_at_call 40; (with_reducible refine (HN7.out _ _ _ hr7 hrl7).mono ?_); rintro e w9 ⟨d, r9, b9, rfl, hd, hr9, hrl9, hf9, ht9, hg9⟩))
        have hb9 := HBX.out.far hg9 (fun e => hgne (by injection e))
        have k2 : w9.cell? ⟨gx, 2, none⟩ = some (.int .i64 0) := (hb9.cell 2).trans rfl
        have k4 : w9.cell? ⟨gx, 4, none⟩ = some (.bool false) := (hb9.cell 4).trans rfl
        have f2 := hb9.frozen 2
        have f4 := hb9.frozen 4
        have hand : bits .and .i64 (d : Int) 1 = ((d % 2 : Nat) : Int) := and_one (by omega)
        obtain ⟨m1, hm1d⟩ : ∃ m1 : Nat, m1 = d % 2 := ⟨_, rfl⟩
        obtain ⟨lv, hlv⟩ : ∃ lv : Bool, lv = (d % 2 == 1) := ⟨_, rfl⟩
        have hlv2 : (((m1 : Nat) : Int) == 1) = lv := by
          rw [hlv, hm1d, Bool.eq_iff_iff, beq_iff_eq, beq_iff_eq]
          omega
        rw [← hm1d] at hand
        obtain ⟨q, hq⟩ : ∃ q : Nat, q = d / 2 := ⟨_, rfl⟩
        have hsr : ((d : Nat) : Int) / 2 = (q : Int) := by omega
        have HQ := Lib.hid hq
        have HLV := Lib.hid hlv
        have hs1 : w9.grownBy ((w9.setCell ⟨gx, 2, none⟩ (.int .i64 (q : Int))).setCell ⟨gx, 4, none⟩ (.bool lv)) (some gx) := gr_setCell1 (gr_setCell1 (World.grownBy.refl _ _) 2 _) 4 _
        have HB10 : RowKit.Hid (Blk ((w9.setCell ⟨gx, 2, none⟩ (.int .i64 (q : Int))).setCell ⟨gx, 4, none⟩ (.bool lv)) gx 65 [.string car, .int .i64 (n9 : Int), .int .i64 (q : Int), .int .u8 0, .bool lv]) := Lib.hid ((hb9.set 2 _).set 4 _)
        have HR10 : RowKit.Hid (RS w0 ((w9.setCell ⟨gx, 2, none⟩ (.int .i64 (q : Int))).setCell ⟨gx, 4, none⟩ (.bool lv)) g r9 b9) := Lib.hid (RS.kept (row := some gx) hr9 hs1 (by intro e; injection e with e; exact hgne e.symm) (fun k hk => by injection hk with hk; omega))
        have HG10 : RowKit.Hid (w.grownBy ((w9.setCell ⟨gx, 2, none⟩ (.int .i64 (q : Int))).setCell ⟨gx, 4, none⟩ (.bool lv)) (some g)) := Lib.hid (gr_new (gby_trans HGX.out hg9) hs1 hgxw)
        have HO10 : RowKit.Hid (((w9.setCell ⟨gx, 2, none⟩ (.int .i64 (q : Int))).setCell ⟨gx, 4, none⟩ (.bool lv)).ownsRow w.heap.size 65 5 (.slice p3 n3 c3) i (lst.flatMap segC)) := Lib.hid (World.ownsRow.kept (own_far HOX.out hg9 hgl) hs1 (.inr HNB.out))
        have HF9 := Lib.hid hf9
        have HT9 := Lib.hid ht9
        clear hb9 hm1d hlv hq hs1 hf9 ht9 hg9 hr9 hr7 HBX HOX HGX
        go_upto_region 7 with fail
        clear k2 k4 f2 f4 hand hlv2 hsr
        generalize (w9.setCell ⟨gx, 2, none⟩ (.int .i64 (q : Int))).setCell ⟨gx, 4, none⟩ (.bool lv) = w10 at *
        go_upto_region 8 with (first
          | (go_at_call 38; (with_reducible refine (HONE.out _ _ _ HR10.out hrl9).mono ?_); rintro e w11 ⟨x, r11, b11, bb, off, cc, rfl, hx, hr11, hrl11, hf11, ht11, hg11⟩; have hb11 := HB10.out.far hg11 (fun e => hgne (by injection e)); have HB11 := Lib.hid hb11; have k3 : w11.cell? ⟨gx, 3, none⟩ = some (.int .u8 0) := (hb11.cell 3).trans rfl; have f3 := hb11.frozen 3))
        have hs2 := gr_setCell1 (b := gx) (World.grownBy.refl w11 _) 3 (.int .u8 x.toNat)
        have HR12 : RowKit.Hid (RS w0 (w11.setCell ⟨gx, 3, none⟩ (.int .u8 x.toNat)) g r11 b11) := Lib.hid (RS.kept (row := some gx) hr11 hs2 (by intro e; injection e with e; exact hgne e.symm) (fun k hk => by injection hk with hk; omega))
        have hrr : (w11.setCell ⟨gx, 3, none⟩ (.int .u8 x.toNat)).rangeAt gx 0 [.string car, .int .i64 (n9 : Int), .int .i64 (q : Int), .int .u8 x.toNat, .bool lv] := (HB11.out.set 3 (.int .u8 x.toNat)).range
        have HG12 : RowKit.Hid (w.grownBy (w11.setCell ⟨gx, 3, none⟩ (.int .u8 x.toNat)) (some g)) := Lib.hid (gr_new (gby_trans HG10.out hg11) hs2 hgxw)
        have HO12 : RowKit.Hid ((w11.setCell ⟨gx, 3, none⟩ (.int .u8 x.toNat)).ownsRow w.heap.size 65 5 (.slice p3 n3 c3) i (lst.flatMap segC)) := Lib.hid (World.ownsRow.kept (own_far HO10.out hg11 hgl) hs2 (.inr HNB.out))
        have hstn := seg_step (k := n - (i + 1)) (by have := HST.out; rw [show n - i = (n - (i + 1)) + 1 by omega] at this; exact this) HF7.out HT7.out HF9.out HT9.out hf11 ht11
        rw [← HQ.out, ← HLV.out] at hstn
        have HSTn := Lib.hid hstn
        clear hb11 k3 f3 hs2 hr11 hf11 ht11 hg11 hstn hx
        generalize w11.setCell ⟨gx, 3, none⟩ (.int .u8 x.toNat) = w12 at *
        have hB12 := HG12.out.size
        go_wp2_with (first
          | (refine wpList_load_mid rfl 65 (.tmp 4) rfl gx 0 rfl [.string car, .int .i64 (n9 : Int), .int .i64 (q : Int), .int .u8 x.toNat, .bool lv] _ hrr Tryz.underlying65 rfl info_seg ?_)
          | (at_builtin; refine wpList_pushC rfl _ _ 23 rfl w.heap.size 65 i0 _ 5 40 Tryz.underlying23 hi0 hz0 hsz0 hby0 rfl (by decide) _ i _ rfl HO12.out (segC ⟨car, (n9 : Int), (q : Int), x, lv⟩) rfl rfl (segC_one _) hm1 hm2 hB12 ?_; intro v4 w4 ho4 hb4 hg4; replace hg4 : World.grownBy _ w4 (Value.slice p3 n3 c3).ownBlock := hg4; obtain ⟨p4, n4, c4, rfl⟩ := own_slice ho4))
        have hr4 := HR12.out.farA hg4 (own_row_ne HO12.out hgl) (fun k hk => by have := (World.ownsRow.lt HO12.out k hk).1; omega)
        have hgrn : w.grownBy w4 (some g) := gr_push HG12.out hb4 (Nat.le_trans (by simp) hg4.size)
        go_roundg (n - (i + 1))
        case measure => omega
        case rel => exact ⟨i + 1, lst ++ [⟨car, (n9 : Int), (q : Int), x, lv⟩], r11, b11, _, _, _, by omega, rfl, by go_num, rfl, by rw [List.flatMap_append, show ([⟨car, (n9 : Int), (q : Int), x, lv⟩] : List SegT).flatMap segC = segC ⟨car, (n9 : Int), (q : Int), x, lv⟩ by simp]; exact ho4, by rw [List.length_append, HLL.out]; rfl, (fun t ht => by
          rcases List.mem_append.1 ht with h1 | h1
          · exact HSZ.out t h1
          · rw [List.mem_singleton.1 h1]; exact HCS.out), hr4, hrl11, HSTn.out, hgrn⟩
    · have hie : i = n := by omega
      subst hie
      have hii : ¬ (i : Int) < (i : Int) := by omega
      go_wp2
      go_ret
      exact ⟨_, lst, r, bad, rfl, by rw [HLL.out]; exact HOWN.out, by rw [HLL.out]; exact hn1, HSZ.out, HRS.out, hrl, by have := HST.out; rw [Nat.sub_self] at this; exact this, HGR.out⟩
end Go.Proofs.YtofomopmmopflaaGreatDoor
