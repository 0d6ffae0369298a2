/- codec.ReadPnr. -/
import Derived.Test.YtofomopmmopflaaGreatDoorMA
import Derived.Test.YtofomopmmopflaaGreatDoorMB
import Derived.Test.YtofomopmmopflaaGreatDoorMC
import Derived.Test.YtofomopmmopflaaGreatDoorMD
import Derived.Test.YtofomopmmopflaaGreatDoorME
import Derived.Test.YtofomopmmopflaaGreatDoorFN
import Derived.Test.YtofomopmmopflaaGreatDoorFQ
import Derived.Test.YtofomopmmopflaaGreatDoorGB
import Derived.Test.YtofomopmmopflaaGreatDoorGK
import Derived.Test.YtofomopmmopflaaGreatDoorGJA
import Derived.Test.YtofomopmmopflaaGreatDoorGO
import Derived.Test.YtofomopmmopflaaGreatDoorGP
import Derived.Test.YtofomopmmopflaaGreatDoorGQ
import Derived.Test.YtofomopmmopflaaGreatDoorGR
import Derived.Test.YtofomopmmopflaaGreatDoorGS
import Derived.Test.YtofomopmmopflaaGreatDoorRows
import Derived.WalkKit
import Derived.WalkSpells
import Derived.WalkLawsBesides
import Derived.Lib.ConvBytes
import Derived.Lib.Hide
import Derived.Lib.SliceRun
import Derived.IntWalk
import Derived.BigQuiet
import Derived.Deep.QuietTactic
import Derived.Deep.RegionWith
import Derived.Deep.RegionHeld3
import Derived.Deep.LoopGhost
import Derived.Deep.CutRange
import Derived.Deep.CutBlock
import Derived.Deep.MidRow
import Derived.Laws.OwnMore
import Derived.OwnWalk
import Derived.Laws.AppendOwnNone
import Derived.Laws.Rows
import Derived.Laws.MakeOwn
import Derived.Laws.CopyOwn
import Derived.Laws.BitsAllLaws
import Derived.DeepKeys5
import Derived.Maps.OwnOps
import Derived.Handy
import Derived.Lib.AppendStr
import Derived.StillTailTactics
import Derived.Deep.AppendLies
import Derived.WideKeyEntry
namespace Go.Proofs.YtofomopmmopflaaGreatDoor
open Go.RowKit Go.ChangeMaps
set_option linter.unusedSimpArgs false
set_option linter.unusedVariables false
set_option maxRecDepth 20000

/-- A PNR, or ErrForm. -/
def pnP (o : Option PnrT) (e : Ending) (w : World) : Prop :=
  (∃ p vn vs vp vr vx, o = some p ∧ e = .returned (.tuple #[.agg (pnrC p vn vs vp vr vx).toArray, .int .i64 0]) ∧ PIn w p vn vs vp vr vx) ∨ (o = none ∧ e = .returned (.tuple #[.agg zeroC.toArray, .int .i64 4]))

/-- The state of ReadPnr: the reader at g, the PNR at gp with the cells cs, what comes back at w's end. -/
structure RP (w W : World) (g gp : Nat) (r : List UInt8) (bad : Bool) (cs : List Value) : Prop where
  rs : RS w W g r bad
  blk : Blk W gp 29 cs
  res : Blk W w.heap.size 29 zeroC
  gg : w.heap.size < g ∧ g < gp ∧ gp < W.heap.size

theorem RP.reader {w W W' : World} {g gp : Nat} {r r' : List UInt8} {bad b2 : Bool} {cs : List Value} (k : RP w W g gp r bad cs) (hr : RS w W' g r' b2) (hg : W.grownBy W' (some g)) : RP w W' g gp r' b2 cs :=
  ⟨hr, k.blk.far hg (fun e => by injection e with e; have := k.gg; omega), k.res.far hg (fun e => by injection e with e; have := k.gg; omega), k.gg.1, k.gg.2.1, Nat.lt_of_lt_of_le k.gg.2.2 hg.size⟩

theorem RP.set {w W : World} {g gp : Nat} {r : List UInt8} {bad : Bool} {cs : List Value} (k : RP w W g gp r bad cs) (j : Nat) (v : Value) : RP w (W.setCell ⟨gp, j, none⟩ v) g gp r bad (cs.set j v) := by
  have hg := gr_setCell1 (b := gp) (World.grownBy.refl W _) j v
  refine ⟨RS.kept (row := some gp) k.rs hg (by intro e; injection e with e; have := k.gg; omega) (fun i hi => by injection hi with hi; have := k.gg; omega), k.blk.set j v, k.res.far hg (fun e => by injection e with e; have := k.gg; omega), k.gg.1, k.gg.2.1, ?_⟩
  have e2 : (W.setCell ⟨gp, j, none⟩ v).heap.size = W.heap.size := by simp [World.setCell]
  rw [e2]
  exact k.gg.2.2

theorem own_setp {W : World} {B gp : Nat} {e : TypeId} {st n : Nat} {v : Value} {xs : List Value} (h : W.ownsRow B e st v n xs) (hlt : gp < B) (j : Nat) (u : Value) : (W.setCell ⟨gp, j, none⟩ u).ownsRow B e st v n xs :=
  World.ownsRow.kept h (gr_setCell1 (b := gp) (World.grownBy.refl W _) j u) (own_ne h hlt)

theorem own_lowR {W : World} {B B' : Nat} {e : TypeId} {st n : Nat} {v : Value} {xs : List Value} (h : W.ownsRow B e st v n xs) (hb : B' ≤ B) : W.ownsRow B' e st v n xs := by
  obtain ⟨h1, h2 | ⟨gg, cap, cur, e1, h3, h4⟩⟩ := h
  · exact ⟨h1, .inl h2⟩
  · exact ⟨h1, .inr ⟨gg, cap, cur, e1, Nat.le_trans hb h3, h4⟩⟩

theorem own_texts {W : World} {B : Nat} {v : Value} {l : List ByteArray} (h : W.ownsRow B 9 1 v l.length (l.flatMap strE)) : OwnL W B v l := by
  unfold OwnL
  rw [← flat_strE]
  exact h

theorem own_mono {W W' : World} {B : Nat} {e : TypeId} {st n : Nat} {v : Value} {xs : List Value} (h : W.ownsRow B e st v n xs) (hb : Below W.heap.size W W') : W'.ownsRow B e st v n xs :=
  World.ownsRow.kept h (gr_of_below hb none) (by cases hv : v.ownBlock <;> simp)

theorem pn_back {fn : Func} {p q : Tmp} (hf : fn.results = #[.cell p 29, .tmp q]) {a : Act} {w w0 : World} {g : Nat} {cs : List Value} {z : Int} {o : Option PnrT}
    (hp : a.tmps.getD p undef = .pointer (some ⟨g, 0, none⟩)) (hq : a.tmps.getD q undef = .int .i64 z) (hd : a.defers = []) (hg : Blk w g 29 cs) (hl : cs.length = 12) (hw : Below w0.heap.size w0 w)
    (h : (∃ x vn vs vp vr vx, o = some x ∧ cs = pnrC x vn vs vp vr vx ∧ PIn w x vn vs vp vr vx ∧ z = 0) ∨ (o = none ∧ cs = zeroC ∧ z = 4)) :
    bodyPost Tryz.prog fn (fun e w' => pnP o e w' ∧ Below w0.heap.size w0 w') .ret a w := by
  refine bodyPost_ret (results_row_tmp hf a.tmps w g 29 cs _ hp hg Tryz.underlying29 rfl (by rw [hl]; exact info_pnr)) hd ?_
  rw [hq]
  rcases h with ⟨x, vn, vs, vp, vr, vx, h1, rfl, h2, rfl⟩ | ⟨h1, rfl, rfl⟩
  · exact ⟨.inl ⟨x, vn, vs, vp, vr, vx, h1, rfl, h2⟩, hw⟩
  · exact ⟨.inr ⟨h1, rfl⟩, hw⟩

theorem zeroC_one : ∀ v ∈ zeroC, v.oneCell' = true := by
  intro v hv
  unfold zeroC at hv
  simp only [List.mem_cons, List.not_mem_nil, or_false] at hv
  rcases hv with rfl | rfl | rfl | rfl | rfl | rfl | rfl | rfl | rfl | rfl | rfl | rfl <;> rfl

theorem pnrC_one {x : PnrT} {p1 p2 p3 p4 p5 : Option Addr} {n1 n2 n3 n4 n5 c1 c2 c3 c4 c5 : Nat} : ∀ v ∈ pnrC x (.slice p1 n1 c1) (.slice p2 n2 c2) (.slice p3 n3 c3) (.slice p4 n4 c4) (.slice p5 n5 c5), v.oneCell' = true := by
  intro v hv
  simp [pnrC] at hv
  rcases hv with rfl | rfl | rfl | rfl | rfl | rfl | rfl | rfl | rfl | rfl | rfl | rfl <;> rfl

theorem split_any (n : Nat) (w : World) (h : n ≤ 527039) :
    Calls Tryz.prog 39 #[.int .i64 (n : Int)] w fun e w' => e = .returned (.tuple #[.int .i64 ((n / 1440 : Nat) : Int), .int .i64 ((n % 1440 : Nat) : Int), .int .i64 0]) ∧ w = w' := by
  have := split_yes (n : Int) w (by omega) (by omega)
  rwa [show (n : Int) / 1440 = ((n / 1440 : Nat) : Int) by omega, show (n : Int) % 1440 = ((n % 1440 : Nat) : Int) by omega] at this

/-- What the ticketing field's reading leaves. -/
def TickIn (o : Option (PnrT × List UInt8)) (w : World) (g gp : Nat) (loc off : ByteArray) (nm : List NameT) (sg : List SegT) (ph : List ByteArray) (k kq : Nat) (qb : Bool) (vn vs vp : Value) (wx : World) : Prop :=
  ∃ (td tm : Nat) (r : List UInt8) (bad : Bool), RP w wx g gp r bad [.string loc, .string off, vn, vs, vp, .int .i64 (kq : Int), .int .i64 (td : Int), .int .i64 (tm : Int), .string ⟨#[]⟩, .slice none 0 0, .slice none 0 0, .bool qb] ∧ r.length ≤ 1000000 ∧ Stg o bad (pP7 loc off nm sg ph k td tm r) ∧
    wx.ownsRow (gp + 1) 59 2 vn nm.length (nm.flatMap nameC) ∧ wx.ownsRow (gp + 1) 65 5 vs sg.length (sg.flatMap segC) ∧ wx.ownsRow (gp + 1) 9 1 vp ph.length (ph.flatMap strE)

set_option maxHeartbeats 64000000 in
theorem readPnr_any (v : Value) (b : List UInt8) (w : World) (hv : HasE byteC w v b) (hl : b.length ≤ 20000) :
    Calls Tryz.prog 12 #[v] w fun e w' => pnP (readPn b) e w' ∧ Below w.heap.size w w' := by
  obtain ⟨p, c, rfl⟩ := hv.len
  have HV := Lib.hid hv
  have hz1 : (w.alloc (.cells zeroC.toArray 29)).heap.size = w.heap.size + 1 := by simp
  have hrs : RS w ((w.alloc (.cells zeroC.toArray 29)).alloc (.cells #[.slice p b.length c, .bool false] 84)) (w.heap.size + 1) b false :=
    ⟨Nat.le_succ _, ⟨_, by have h := Blk.new (w.alloc (.cells zeroC.toArray 29)) 84 [.slice p b.length c, .bool false]; rw [hz1] at h; exact h, hv⟩, ((Below.refl _ _).alloc (Nat.le_refl _) _).alloc (by simp) _⟩
  have hres : Blk ((w.alloc (.cells zeroC.toArray 29)).alloc (.cells #[.slice p b.length c, .bool false] 84)) w.heap.size 29 zeroC := (Blk.new w 29 zeroC).alloc _
  generalize hg : w.heap.size + 1 = g at *
  have hgw : w.heap.size < g := by omega
  have HBEG : RowKit.Hid (∀ W, RS w W g b false → Calls Tryz.prog 33 #[.pointer (some ⟨g, 0, none⟩), .int .u8 80] W fun e w' => e = .returned (.tuple #[]) ∧ (∃ r bad, RS w w' g r bad ∧ r.length ≤ 1000000 ∧ (bad = false → b = 80 :: r) ∧ (bad = true → ∀ r, b ≠ 80 :: r)) ∧ W.grownBy w' (some g)) := Lib.hid fun W h => begin_any g 80 b w W h (by omega) (by decide)
  have HTX : RowKit.Hid (∀ W r b, RS w W g r b → r.length ≤ 1000000 → Calls Tryz.prog 34 #[.pointer (some ⟨g, 0, none⟩)] W fun e w' => ∃ (s : ByteArray) (r2 : List UInt8) (b2 : Bool), e = .returned (.string s) ∧ s.size ≤ 40 ∧ RS w w' g r2 b2 ∧ r2.length ≤ 1000000 ∧ (b2 = false → b = false ∧ pText r = some (s, r2)) ∧ (b2 = true → b = true ∨ pText r = none) ∧ W.grownBy w' (some g)) := Lib.hid fun W r b h h1 => rtext_any g r b w W h h1
  have HNU : RowKit.Hid (∀ W r b, RS w W g r b → r.length ≤ 1000000 → Calls Tryz.prog 40 #[.pointer (some ⟨g, 0, none⟩), .int .i64 527039] W fun e w' => ∃ (n : Nat) (r2 : List UInt8) (b2 : Bool), e = .returned (.int .i64 n) ∧ n ≤ 527039 ∧ RS w w' g r2 b2 ∧ r2.length ≤ 1000000 ∧ (b2 = false → b = false ∧ pNum 527039 r = some (n, r2)) ∧ (b2 = true → b = true ∨ pNum 527039 r = none) ∧ W.grownBy w' (some g)) := Lib.hid fun W r b h h1 => rnum_any g r b 527039 w W h h1 (by omega)
  have HONE : RowKit.Hid (∀ W r b, RS w W g r b → r.length ≤ 1000000 → Calls Tryz.prog 38 #[.pointer (some ⟨g, 0, none⟩), .int .i64 1] W fun e w' => ∃ (x : UInt8) (r2 : List UInt8) (b2 : Bool) (b' off c : Nat), e = .returned (.slice (some ⟨b', off, none⟩) 1 c) ∧ w'.cell? ⟨b', off, none⟩ = some (.int .u8 x.toNat) ∧ RS w w' g r2 b2 ∧ r2.length ≤ 1000000 ∧ (b2 = false → b = false ∧ pFix 1 r = some (x.toNat, r2)) ∧ (b2 = true → b = true ∨ pFix 1 r = none) ∧ W.grownBy w' (some g)) := Lib.hid fun W r b h h1 => rone_any g r b w W h h1
  have HRS := Lib.hid hrs
  have HRES := Lib.hid hres
  generalize hN : b.length = N at *
  have HG := Lib.hid hg
  clear hv hrs hres hz1 hN
  unfold zeroC at HRS HRES
  have HTG : RowKit.Hid (∀ r bad, (bad = false → b = 80 :: r) → (bad = true → ∀ r, b ≠ 80 :: r) → Stg (pPnr b) bad (bindP (pText r) fun loc r => bindP (pText r) fun off r => pP3 loc off r)) := Lib.hid fun r bad h1 h2 => Stg.start (α := Unit) (c := 80) (l := b) (K := fun (_ : Unit) r => bindP (pText r) fun loc r => bindP (pText r) fun off r => pP3 loc off r) rfl h1 h2
  go_enter Tryz.func12, Tryz.ntmps12
  go_upto_region 2 with fail
  go_upto_region 3 with (first
    | (go_at_call 33; (with_reducible refine (HBEG.out _ HRS.out).mono ?_); rintro e w2 ⟨rfl, ⟨r2, bad2, hr2, hrl2, hf2, ht2⟩, hg2⟩))
  have hst2 := HTG.out r2 bad2 hf2 ht2
  have HRES2 := Lib.hid (HRES.out.far hg2 (fun e => by injection e with e; omega))
  have hz2 : g < w2.heap.size := hr2.lt
  clear HTG HBEG HRS HRES hf2 ht2 hg2
  go_upto_region 4 with (first
    | (go_at_call 34; (with_reducible refine (HTX.out _ _ _ hr2 hrl2).mono ?_); rintro e w3 ⟨loc, r3, b3, rfl, hs3, hr3, hrl3, hf3, ht3, hg3⟩)
    | (go_at_call 34; (with_reducible refine (HTX.out _ _ _ hr3 hrl3).mono ?_); rintro e w4 ⟨off, r4, b4, rfl, hs4, hr4, hrl4, hf4, ht4, hg4⟩)
    | (refine wpList_store_blk rfl 29 (.tmp 5) (.tmp 18) rfl w4.heap.size 29 zeroC [.string loc, .string off, .slice none 0 0, .slice none 0 0, .slice none 0 0, .int .i64 0, .int .i64 0, .int .i64 0, .string ⟨#[]⟩, .slice none 0 0, .slice none 0 0, .bool false] rfl rfl (Blk.new w4 29 zeroC) rfl info_pnr (by intro v hv; simp only [List.mem_cons, List.not_mem_nil, or_false] at hv; rcases hv with rfl | rfl | rfl | rfl | rfl | rfl | rfl | rfl | rfl | rfl | rfl | rfl <;> rfl) ?_; intro w5 ha5 hb5 hgr5))
  try dsimp only [Act.put]
  have hst4 := (hst2.step (K := fun loc r => bindP (pText r) fun off r => pP3 loc off r) hf3 ht3).step (K := fun off r => pP3 loc off r) hf4 ht4
  have h45 : Below w4.heap.size w4 w5 := ((Below.refl _ _).alloc (Nat.le_refl _) _).trans hb5
  have hg24 := gby_trans hg3 hg4
  have hk5 : RP w w5 g w4.heap.size r4 b4 [.string loc, .string off, .slice none 0 0, .slice none 0 0, .slice none 0 0, .int .i64 0, .int .i64 0, .int .i64 0, .string ⟨#[]⟩, .slice none 0 0, .slice none 0 0, .bool false] :=
    ⟨hr4.mono h45, ha5, (HRES2.out.far hg24 (fun e => by injection e with e; omega)).mono h45, hgw, by have := hr4.lt; omega, ha5.lt⟩
  have HST4 := Lib.hid hst4
  have HK5 := Lib.hid hk5
  clear hst2 hst4 hf3 ht3 hf4 ht4 hg3 hg4 hg24 hr2 hr3 hr4 h45 ha5 hb5 hgr5 hk5 HRES2 hrl2 hrl3 hz2
  generalize hgp : w4.heap.size = gp at *
  clear hgp
  have hgpg : gp ≠ g := by have := HK5.out.gg; omega
  have hggp : g < gp + 1 := by have := HK5.out.gg; omega
  have HNM : RowKit.Hid (Calls Tryz.prog 35 #[.pointer (some ⟨g, 0, none⟩)] w5 fun e w' => ListP nameC 59 2 9 (fun x => x.last.size ≤ 40 ∧ x.first.size ≤ 40) (pPnr b) (fun nm r => pP4 loc off nm r) g w w5 e w') := Lib.hid (rnames_any g r4 b4 w w5 HK5.out.rs hrl4 HST4.out)
  have HSG : RowKit.Hid (∀ W nm r bad, RS w W g r bad → r.length ≤ 1000000 → Stg (pPnr b) bad (pP4 loc off nm r) → Calls Tryz.prog 36 #[.pointer (some ⟨g, 0, none⟩)] W fun e w' => ListP segC 65 5 8 (fun x => x.car.size ≤ 2) (pPnr b) (fun sg r => pP5 loc off nm sg r) g w W e w') := Lib.hid fun W nm r bad h1 h2 h3 => rsegs_any g r bad w W h1 h2 h3
  have HT4 : RowKit.Hid (∀ W nm sg r bad, RS w W g r bad → r.length ≤ 1000000 → Stg (pPnr b) bad (pP5 loc off nm sg r) → Calls Tryz.prog 37 #[.pointer (some ⟨g, 0, none⟩), .int .i64 4] W fun e w' => ListP strE 9 1 4 (fun x => x.size ≤ 40) (pPnr b) (fun ph r => pP6 loc off nm sg ph r) g w W e w') := Lib.hid fun W nm sg r bad h1 h2 h3 => rtexts_any g r bad 4 w W h1 h2 (by omega) h3
  go_upto_region 5 with (first
    | (go_at_call 35; (with_reducible refine HNM.out.mono ?_); rintro e w6 ⟨v6, nm, r6, b6, rfl, ho6, hn6, hz6, hr6, hrl6, hst6, hg6⟩; have hk6 := HK5.out.reader hr6 hg6; obtain ⟨q1, n1, c1, rfl⟩ := own_slice ho6)
    | (go_at_call 36; (with_reducible refine (HSG.out _ nm _ _ hr6 hrl6 hst6).mono ?_); rintro e w7 ⟨v7, sg, r7, b7, rfl, ho7, hn7, hz7, hr7, hrl7, hst7, hg7⟩; have hk7 := hk6.reader hr7 hg7; obtain ⟨q2, n2, c2, rfl⟩ := own_slice ho7)
    | (go_at_call 37; (with_reducible refine (HT4.out _ nm sg _ _ hr7 hrl7 hst7).mono ?_); rintro e w8 ⟨v8, ph, r8, b8, rfl, ho8, hn8, hz8, hr8, hrl8, hst8, hg8⟩; have hk8 := hk7.reader hr8 hg8; obtain ⟨q3, n3, c3, rfl⟩ := own_slice ho8; have x2 : w8.cell? ⟨gp, 2, none⟩ = some (.slice none 0 0) := (hk8.blk.cell 2).trans rfl; have x3 : w8.cell? ⟨gp, 3, none⟩ = some (.slice none 0 0) := (hk8.blk.cell 3).trans rfl; have x4 : w8.cell? ⟨gp, 4, none⟩ = some (.slice none 0 0) := (hk8.blk.cell 4).trans rfl; have f2 := hk8.blk.frozen 2; have f3 := hk8.blk.frozen 3; have f4 := hk8.blk.frozen 4))
  have hgl5 : gp + 1 ≤ w5.heap.size := HK5.out.gg.2.2
  have hk9 : RP w (((w8.setCell ⟨gp, 2, none⟩ (.slice q1 n1 c1)).setCell ⟨gp, 3, none⟩ (.slice q2 n2 c2)).setCell ⟨gp, 4, none⟩ (.slice q3 n3 c3)) g gp r8 b8 [.string loc, .string off, .slice q1 n1 c1, .slice q2 n2 c2, .slice q3 n3 c3, .int .i64 0, .int .i64 0, .int .i64 0, .string ⟨#[]⟩, .slice none 0 0, .slice none 0 0, .bool false] := ((hk8.set 2 _).set 3 _).set 4 _
  have hon := own_setp (own_setp (own_setp (own_far (own_far (own_lowR ho6 hgl5) hg7 hggp) hg8 hggp) (Nat.lt_succ_self _) 2 (.slice q1 n1 c1)) (Nat.lt_succ_self _) 3 (.slice q2 n2 c2)) (Nat.lt_succ_self _) 4 (.slice q3 n3 c3)
  have hos := own_setp (own_setp (own_setp (own_far (own_lowR ho7 (Nat.le_trans hgl5 hg6.size)) hg8 hggp) (Nat.lt_succ_self _) 2 (.slice q1 n1 c1)) (Nat.lt_succ_self _) 3 (.slice q2 n2 c2)) (Nat.lt_succ_self _) 4 (.slice q3 n3 c3)
  have hop := own_setp (own_setp (own_setp (own_lowR ho8 (Nat.le_trans hgl5 (Nat.le_trans hg6.size hg7.size))) (Nat.lt_succ_self _) 2 (.slice q1 n1 c1)) (Nat.lt_succ_self _) 3 (.slice q2 n2 c2)) (Nat.lt_succ_self _) 4 (.slice q3 n3 c3)
  have HK9 := Lib.hid hk9
  have HON := Lib.hid hon
  have HOS := Lib.hid hos
  have HOP := Lib.hid hop
  have HST8 : RowKit.Hid (Stg (pPnr b) b8 (bindP (pFix 1 r8) fun k r => bindP (pTick k r) fun t r => pP7 loc off nm sg ph k t.1 t.2 r)) := Lib.hid hst8
  have HZ6 := Lib.hid (And.intro hn6 hz6)
  have HZ7 := Lib.hid (And.intro hn7 hz7)
  have HZ8 := Lib.hid (And.intro hn8 hz8)
  clear x2 x3 x4 f2 f3 f4 hk6 hk7 hk8 ho6 ho7 ho8 hst6 hst7 hst8 hg6 hg7 hg8 hr6 hr7 hr8 hrl6 hrl7 hn6 hz6 hn7 hz7 hn8 hz8 HK5 HST4 HNM HSG HT4 hk9 hon hos hop hgl5
  generalize ((w8.setCell ⟨gp, 2, none⟩ (.slice q1 n1 c1)).setCell ⟨gp, 3, none⟩ (.slice q2 n2 c2)).setCell ⟨gp, 4, none⟩ (.slice q3 n3 c3) = w9 at *
  go_upto_region 6 with (first
    | (go_at_call 38; (with_reducible refine (HONE.out _ _ _ HK9.out.rs hrl8).mono ?_); rintro e w10 ⟨x, r10, b10, bb, off2, cc, rfl, hx, hr10, hrl10, hf10, ht10, hg10⟩; have hk10 := HK9.out.reader hr10 hg10; have hxl := byte_hi x; have hxl0 : (0 : Int) ≤ (x.toNat : Int) := (by omega)))
  have x5 : w10.cell? ⟨gp, 5, none⟩ = some (.int .i64 0) := (hk10.blk.cell 5).trans rfl
  have x11 : w10.cell? ⟨gp, 11, none⟩ = some (.bool false) := (hk10.blk.cell 11).trans rfl
  have f5 := hk10.blk.frozen 5
  have f11 := hk10.blk.frozen 11
  have HON := Lib.hid (own_far HON.out hg10 hggp)
  have HOS := Lib.hid (own_far HOS.out hg10 hggp)
  have HOP := Lib.hid (own_far HOP.out hg10 hggp)
  have HST10 := Lib.hid (HST8.out.step (K := fun k r => bindP (pTick k r) fun t r => pP7 loc off nm sg ph k t.1 t.2 r) hf10 ht10)
  have hkk : x.toNat < 256 := UInt8.toNat_lt x
  generalize x.toNat = kk at *
  have hand : bits .and .i64 (kk : Int) 1 = ((kk % 2 : Nat) : Int) := and_one (by omega)
  obtain ⟨m1, hm1d⟩ : ∃ m1 : Nat, m1 = kk % 2 := ⟨_, rfl⟩
  obtain ⟨qb, hqb⟩ : ∃ qb : Bool, qb = (kk % 2 == 1) := ⟨_, rfl⟩
  have hqb2 : (((m1 : Nat) : Int) == 1) = qb := by
    rw [hqb, hm1d, Bool.eq_iff_iff, beq_iff_eq, beq_iff_eq]
    omega
  rw [← hm1d] at hand
  obtain ⟨kq, hkq⟩ : ∃ kq : Nat, kq = kk / 2 := ⟨_, rfl⟩
  have hsr : ((kk : Nat) : Int) / 2 = (kq : Int) := by omega
  have HKQ := Lib.hid hkq
  have HQB := Lib.hid hqb
  have hk11 : RP w ((w10.setCell ⟨gp, 5, none⟩ (.int .i64 (kq : Int))).setCell ⟨gp, 11, none⟩ (.bool qb)) g gp r10 b10 [.string loc, .string off, .slice q1 n1 c1, .slice q2 n2 c2, .slice q3 n3 c3, .int .i64 (kq : Int), .int .i64 0, .int .i64 0, .string ⟨#[]⟩, .slice none 0 0, .slice none 0 0, .bool qb] := (hk10.set 5 _).set 11 _
  have HK11 := Lib.hid hk11
  have HON := Lib.hid (own_setp (own_setp HON.out (Nat.lt_succ_self _) 5 (.int .i64 (kq : Int))) (Nat.lt_succ_self _) 11 (.bool qb))
  have HOS := Lib.hid (own_setp (own_setp HOS.out (Nat.lt_succ_self _) 5 (.int .i64 (kq : Int))) (Nat.lt_succ_self _) 11 (.bool qb))
  have HOP := Lib.hid (own_setp (own_setp HOP.out (Nat.lt_succ_self _) 5 (.int .i64 (kq : Int))) (Nat.lt_succ_self _) 11 (.bool qb))
  clear hk10 hk11 hr10 hf10 ht10 hg10 HK9 HST8 hrl8 hkk hm1d hqb hkq hx hxl hxl0
  go_upto_region 7 with fail
  clear x5 x11 f5 f11 hand hqb2 hsr
  generalize (w10.setCell ⟨gp, 5, none⟩ (.int .i64 (kq : Int))).setCell ⟨gp, 11, none⟩ (.bool qb) = w11 at *
  have x5 : w11.cell? ⟨gp, 5, none⟩ = some (.int .i64 (kq : Int)) := (HK11.out.blk.cell 5).trans rfl
  go_upto_if 44 with fail
  go_cut [] from 41 to 55 (fun wx => TickIn (pPnr b) w g gp loc off nm sg ph kk kq qb (.slice q1 n1 c1) (.slice q2 n2 c2) (.slice q3 n3 c3) wx)
  case first =>
    by_cases h1 : kq = 1
    · have hb1 : (((kq : Nat) : Int) == 1) = true := by rw [beq_iff_eq]; omega
      have HTI : RowKit.Hid (pTick kk r10 = bindP (pNum 527039 r10) fun m r => some ((m / 1440, m % 1440), r)) := Lib.hid (if_pos (by rw [← HKQ.out]; exact h1))
      have x6 : w11.cell? ⟨gp, 6, none⟩ = some (.int .i64 0) := (HK11.out.blk.cell 6).trans rfl
      have HSP : RowKit.Hid (∀ (n : Nat) W, n ≤ 527039 → Calls Tryz.prog 39 #[.int .i64 (n : Int)] W fun e w' => ∃ td tm : Nat, (td = n / 1440 ∧ tm = n % 1440) ∧ e = .returned (.tuple #[.int .i64 (td : Int), .int .i64 (tm : Int), .int .i64 0]) ∧ W = w') := Lib.hid fun n W h => (split_any n W h).mono fun e w' h => ⟨_, _, ⟨rfl, rfl⟩, h.1, h.2⟩
      clear h1
      go_wp2_with (first
        | (go_at_call 40; (with_reducible refine (HNU.out _ _ _ HK11.out.rs hrl10).mono ?_); rintro e w12 ⟨n, r12, b12, rfl, hn12, hr12, hrl12, hf12, ht12, hg12⟩; have hk12 := HK11.out.reader hr12 hg12; have HK12 := Lib.hid hk12; have y6 : w12.cell? ⟨gp, 6, none⟩ = some (.int .i64 0) := (hk12.blk.cell 6).trans rfl; have y7 : w12.cell? ⟨gp, 7, none⟩ = some (.int .i64 0) := (hk12.blk.cell 7).trans rfl; have f6 := hk12.blk.frozen 6; have f7 := hk12.blk.frozen 7)
        | (go_at_call 39; (with_reducible refine (HSP.out n _ hn12).mono ?_); rintro e w13 ⟨td, tm, htt, rfl, rfl⟩; have HTT := Lib.hid htt; clear htt))
      go_meet
      have hk13 : RP w ((w12.setCell ⟨gp, 6, none⟩ (.int .i64 (td : Int))).setCell ⟨gp, 7, none⟩ (.int .i64 (tm : Int))) g gp r12 b12 [.string loc, .string off, .slice q1 n1 c1, .slice q2 n2 c2, .slice q3 n3 c3, .int .i64 (kq : Int), .int .i64 (td : Int), .int .i64 (tm : Int), .string ⟨#[]⟩, .slice none 0 0, .slice none 0 0, .bool qb] := (HK12.out.set 6 _).set 7 _
      refine ⟨td, tm, r12, b12, hk13, hrl12, ?_, own_setp (own_setp (own_far HON.out hg12 hggp) (Nat.lt_succ_self _) 6 _) (Nat.lt_succ_self _) 7 _, own_setp (own_setp (own_far HOS.out hg12 hggp) (Nat.lt_succ_self _) 6 _) (Nat.lt_succ_self _) 7 _, own_setp (own_setp (own_far HOP.out hg12 hggp) (Nat.lt_succ_self _) 6 _) (Nat.lt_succ_self _) 7 _⟩
      have := Stg.step (p := pTick kk r10) (K := fun t r => pP7 loc off nm sg ph kk t.1 t.2 r) (a := (td, tm)) (r := r12) (b2 := b12) HST10.out (fun e => by
        obtain ⟨k1, k2⟩ := hf12 e
        exact ⟨k1, by rw [HTI.out, bindP_some k2, HTT.out.1, HTT.out.2]⟩) (fun e => by
        rcases ht12 e with k1 | k1
        · exact .inl k1
        · exact .inr (by rw [HTI.out]; exact bindP_none k1))
      exact this
    · have hb1 : (((kq : Nat) : Int) == 1) = false := by rw [beq_eq_false_iff_ne]; omega
      have HTI : RowKit.Hid (pTick kk r10 = some ((0, 0), r10)) := Lib.hid (if_neg (by rw [← HKQ.out]; exact h1))
      clear h1
      go_wp2
      go_meet
      refine ⟨0, 0, r10, b10, HK11.out, hrl10, ?_, HON.out, HOS.out, HOP.out⟩
      have := HST10.out
      rw [HTI.out] at this
      exact this
  case rest =>
    rename World => w14
    obtain ⟨td, tm, r14, b14, hk14, hrl14, hst14, hon, hos, hop⟩ := hcut
    have HK14 := Lib.hid hk14
    have HON := Lib.hid hon
    have HOS := Lib.hid hos
    have HOP := Lib.hid hop
    have HST14 : RowKit.Hid (Stg (pPnr b) b14 (bindP (pText r14) fun rc r => pP8 loc off nm sg ph kk td tm rc r)) := Lib.hid hst14
    clear hk14 hst14 hon hos hop HK11 HST10 x5 hrl10 HNU HONE
    go_upto_region 9 with fail
    go_upto_region 10 with (first
      | (go_at_call 34; (with_reducible refine (HTX.out _ _ _ HK14.out.rs hrl14).mono ?_); rintro e w15 ⟨rc, r15, b15, rfl, hs15, hr15, hrl15, hf15, ht15, hg15⟩; have hk15 := HK14.out.reader hr15 hg15; have HK15 := Lib.hid hk15; have x8 : w15.cell? ⟨gp, 8, none⟩ = some (.string ⟨#[]⟩) := (hk15.blk.cell 8).trans rfl; have f8 := hk15.blk.frozen 8))
    have hk16 : RP w (w15.setCell ⟨gp, 8, none⟩ (.string rc)) g gp r15 b15 [.string loc, .string off, .slice q1 n1 c1, .slice q2 n2 c2, .slice q3 n3 c3, .int .i64 (kq : Int), .int .i64 (td : Int), .int .i64 (tm : Int), .string rc, .slice none 0 0, .slice none 0 0, .bool qb] := HK15.out.set 8 _
    have HK16 := Lib.hid hk16
    have HON := Lib.hid (own_setp (own_far HON.out hg15 hggp) (Nat.lt_succ_self _) 8 (.string rc))
    have HOS := Lib.hid (own_setp (own_far HOS.out hg15 hggp) (Nat.lt_succ_self _) 8 (.string rc))
    have HOP := Lib.hid (own_setp (own_far HOP.out hg15 hggp) (Nat.lt_succ_self _) 8 (.string rc))
    have HST15 : RowKit.Hid (Stg (pPnr b) b15 (bindP (pNum 10 r15) fun n r => pRun pText (fun rm r => pP9 loc off nm sg ph kk td tm rc rm r) n [] r)) := Lib.hid (HST14.out.step (K := fun rc r => pP8 loc off nm sg ph kk td tm rc r) hf15 ht15)
    have HS15 := Lib.hid hs15
    clear hk15 HK15 hk16 hr15 hf15 ht15 hg15 x8 f8 HK14 HST14 hrl14 hs15
    generalize w15.setCell ⟨gp, 8, none⟩ (.string rc) = w16 at *
    have HRT : RowKit.Hid (Calls Tryz.prog 37 #[.pointer (some ⟨g, 0, none⟩), .int .i64 10] w16 fun e w' => ListP strE 9 1 10 (fun x => x.size ≤ 40) (pPnr b) (fun rm r => pP9 loc off nm sg ph kk td tm rc rm r) g w w16 e w') := Lib.hid (rtexts_any g r15 b15 10 w w16 HK16.out.rs hrl15 (by omega) HST15.out)
    have HSE : RowKit.Hid (∀ W rm r bad, RS w W g r bad → r.length ≤ 1000000 → Stg (pPnr b) bad (pP9 loc off nm sg ph kk td tm rc rm r) → Calls Tryz.prog 41 #[.pointer (some ⟨g, 0, none⟩)] W fun e w' => ListP placeC 73 4 72 (fun x => (Lit.int .i64 x.seg).wf = true) (pPnr b) (fun st r => some (⟨loc, off, nm, sg, ph, ((kk / 2 : Nat) : Int), (td : Int), (tm : Int), rc, rm, st, kk % 2 == 1⟩, r)) g w W e w') := Lib.hid fun W rm r bad h1 h2 h3 => rseats_any g r bad w W h1 h2 h3
    go_upto_region 11 with (first
      | (go_at_call 37; (with_reducible refine HRT.out.mono ?_); rintro e w17 ⟨v17, rm, r17, b17, rfl, ho17, hn17, hz17, hr17, hrl17, hst17, hg17⟩; have hk17 := HK16.out.reader hr17 hg17; obtain ⟨q4, n4, c4, rfl⟩ := own_slice ho17)
      | (go_at_call 41; (with_reducible refine (HSE.out _ rm _ _ hr17 hrl17 hst17).mono ?_); rintro e w18 ⟨v18, st, r18, b18, rfl, ho18, hn18, hz18, hr18, hrl18, hst18, hg18⟩; have hk18 := hk17.reader hr18 hg18; have HK18 := Lib.hid hk18; obtain ⟨q5, n5, c5, rfl⟩ := own_slice ho18; have x9 : w18.cell? ⟨gp, 9, none⟩ = some (.slice none 0 0) := (hk18.blk.cell 9).trans rfl; have x10 : w18.cell? ⟨gp, 10, none⟩ = some (.slice none 0 0) := (hk18.blk.cell 10).trans rfl; have f9 := hk18.blk.frozen 9; have f10 := hk18.blk.frozen 10))
    have hgl16 : gp + 1 ≤ w16.heap.size := HK16.out.gg.2.2
    have hk19 : RP w ((w18.setCell ⟨gp, 9, none⟩ (.slice q4 n4 c4)).setCell ⟨gp, 10, none⟩ (.slice q5 n5 c5)) g gp r18 b18 [.string loc, .string off, .slice q1 n1 c1, .slice q2 n2 c2, .slice q3 n3 c3, .int .i64 (kq : Int), .int .i64 (td : Int), .int .i64 (tm : Int), .string rc, .slice q4 n4 c4, .slice q5 n5 c5, .bool qb] := (HK18.out.set 9 _).set 10 _
    have HK19 := Lib.hid hk19
    have HON := Lib.hid (own_setp (own_setp (own_far (own_far HON.out hg17 hggp) hg18 hggp) (Nat.lt_succ_self _) 9 (.slice q4 n4 c4)) (Nat.lt_succ_self _) 10 (.slice q5 n5 c5))
    have HOS := Lib.hid (own_setp (own_setp (own_far (own_far HOS.out hg17 hggp) hg18 hggp) (Nat.lt_succ_self _) 9 (.slice q4 n4 c4)) (Nat.lt_succ_self _) 10 (.slice q5 n5 c5))
    have HOP := Lib.hid (own_setp (own_setp (own_far (own_far HOP.out hg17 hggp) hg18 hggp) (Nat.lt_succ_self _) 9 (.slice q4 n4 c4)) (Nat.lt_succ_self _) 10 (.slice q5 n5 c5))
    have HOR := Lib.hid (own_setp (own_setp (own_far (own_lowR ho17 hgl16) hg18 hggp) (Nat.lt_succ_self _) 9 (.slice q4 n4 c4)) (Nat.lt_succ_self _) 10 (.slice q5 n5 c5))
    have HOX := Lib.hid (own_setp (own_setp (own_lowR ho18 (Nat.le_trans hgl16 hg17.size)) (Nat.lt_succ_self _) 9 (.slice q4 n4 c4)) (Nat.lt_succ_self _) 10 (.slice q5 n5 c5))
    have HSTF : RowKit.Hid (Stg (pPnr b) b18 (some ((⟨loc, off, nm, sg, ph, (kq : Int), (td : Int), (tm : Int), rc, rm, st, qb⟩ : PnrT), r18))) := Lib.hid (by rw [HKQ.out, HQB.out]; exact hst18)
    have HZ17 := Lib.hid (And.intro hn17 hz17)
    have HZ18 := Lib.hid (And.intro hn18 hz18)
    clear hk17 hk18 HK18 hk19 ho17 ho18 hst17 hst18 hg17 hg18 hr17 hr18 hrl17 hrl18 hn17 hz17 hn18 hz18 x9 x10 f9 f10 HRT HSE HK16 HST15 hrl15
    generalize (w18.setCell ⟨gp, 9, none⟩ (.slice q4 n4 c4)).setCell ⟨gp, 10, none⟩ (.slice q5 n5 c5) = w19 at *
    have HLW : RowKit.Hid (w.heap.size < gp + 1) := Lib.hid (by have := HK19.out.gg; omega)
    have HPI : RowKit.Hid (∀ W, w19.grownBy W (some w.heap.size) → PIn W ⟨loc, off, nm, sg, ph, (kq : Int), (td : Int), (tm : Int), rc, rm, st, qb⟩ (.slice q1 n1 c1) (.slice q2 n2 c2) (.slice q3 n3 c3) (.slice q4 n4 c4) (.slice q5 n5 c5)) := Lib.hid fun W hW => by
      have hm : (40 : Nat) ≤ maxLen := by unfold maxLen; omega
      have h15 := HS15.out
      refine ⟨HasE.own (own_far HON.out hW HLW.out), HasE.own (own_far HOS.out hW HLW.out), (own_texts (own_far HOP.out hW HLW.out)).has, (own_texts (own_far HOR.out hW HLW.out)).has, HasE.own (own_far HOX.out hW HLW.out), ⟨Nat.le_trans hs3 hm, Nat.le_trans hs4 hm, fun x hx => ⟨Nat.le_trans (HZ6.out.2 x hx).1 hm, Nat.le_trans (HZ6.out.2 x hx).2 hm⟩, fun x hx => Nat.le_trans (HZ7.out.2 x hx) (Nat.le_trans (by omega) hm), fun x hx => Nat.le_trans (HZ8.out.2 x hx) hm, Nat.le_trans h15 hm, fun x hx => Nat.le_trans (HZ17.out.2 x hx) hm⟩, HZ18.out.2, ?_⟩
      exact ⟨Nat.le_trans HZ6.out.1 (by omega), Nat.le_trans HZ7.out.1 (by omega), Nat.le_trans HZ8.out.1 (by omega), Nat.le_trans HZ17.out.1 (by omega), Nat.le_trans HZ18.out.1 (by omega)⟩
    have HPN : RowKit.Hid (Calls Tryz.prog 8 #[.agg #[.string loc, .string off, .slice q1 n1 c1, .slice q2 n2 c2, .slice q3 n3 c3, .int .i64 (kq : Int), .int .i64 (td : Int), .int .i64 (tm : Int), .string rc, .slice q4 n4 c4, .slice q5 n5 c5, .bool qb]] w19 fun e w' => byP w19.heap.size (pnrF ⟨loc, off, nm, sg, ph, (kq : Int), (td : Int), (tm : Int), rc, rm, st, qb⟩) e w' ∧ Below w19.heap.size w19 w') := Lib.hid (pnr_any ⟨loc, off, nm, sg, ph, (kq : Int), (td : Int), (tm : Int), rc, rm, st, qb⟩ _ _ _ _ _ w19 (HPI.out w19 (World.grownBy.refl _ _)))
    have HCF : RowKit.Hid (∀ W, PIn W ⟨loc, off, nm, sg, ph, (kq : Int), (td : Int), (tm : Int), rc, rm, st, qb⟩ (.slice q1 n1 c1) (.slice q2 n2 c2) (.slice q3 n3 c3) (.slice q4 n4 c4) (.slice q5 n5 c5) → ∃ x vn vs vp vr vx, some (⟨loc, off, nm, sg, ph, (kq : Int), (td : Int), (tm : Int), rc, rm, st, qb⟩ : PnrT) = some x ∧ ([.string loc, .string off, .slice q1 n1 c1, .slice q2 n2 c2, .slice q3 n3 c3, .int .i64 (kq : Int), .int .i64 (td : Int), .int .i64 (tm : Int), .string rc, .slice q4 n4 c4, .slice q5 n5 c5, .bool qb] : List Value) = pnrC x vn vs vp vr vx ∧ PIn W x vn vs vp vr vx) := Lib.hid fun W h => ⟨_, _, _, _, _, _, rfl, rfl, h⟩
    have H1 : RowKit.Hid (∀ v ∈ ([.string loc, .string off, .slice q1 n1 c1, .slice q2 n2 c2, .slice q3 n3 c3, .int .i64 (kq : Int), .int .i64 (td : Int), .int .i64 (tm : Int), .string rc, .slice q4 n4 c4, .slice q5 n5 c5, .bool qb] : List Value), v.oneCell' = true) := Lib.hid (pnrC_one (x := ⟨loc, off, nm, sg, ph, (kq : Int), (td : Int), (tm : Int), rc, rm, st, qb⟩))
    have HBR := Lib.hid HK19.out.rs.bel
    have HRE := Lib.hid HK19.out.res
    have HRSx := Lib.hid HK19.out.rs
    have HBK := Lib.hid HK19.out.blk
    have hrr := HBK.out.range
    clear HON HOS HOP HOR HOX HZ6 HZ7 HZ8 HZ17 HZ18 HK19 HLW HKQ HQB HS15 hs3 hs4 HTX
    generalize (⟨loc, off, nm, sg, ph, (kq : Int), (td : Int), (tm : Int), rc, rm, st, qb⟩ : PnrT) = P at *
    cases b18 with
    | true =>
      have HNO := Lib.hid (readPn_none (HSTF.out.2 rfl))
      go_wp2_with (first
        | (refine wpList_load_mid rfl 29 (.tmp 5) rfl gp 0 rfl _ _ hrr Tryz.underlying29 rfl info_pnr ?_)
        | (go_at_call 8; (with_reducible refine HPN.out.mono ?_); rintro e w20 ⟨hby, hb20⟩; obtain ⟨v20, z20, rfl⟩ := byP_form hby; obtain ⟨k1, k2⟩ := (HRSx.out.mono hb20).bad)
        | (refine wpList_store_blk rfl 29 (.tmp 2) (.tmp 81) rfl w.heap.size 29 zeroC zeroC rfl rfl (HRE.out.mono hb20) rfl info_pnr zeroC_one ?_; intro w8 hb8 hl8 _))
      exact pn_back rfl rfl rfl rfl hb8 rfl ((below_low HBR.out HBR.out.size hb20).trans hl8) (.inr ⟨HNO.out, rfl, rfl⟩)
    | false =>
      have HPB := Lib.hid (HSTF.out.1 rfl)
      go_upto_region 12 with (first
        | (refine wpList_load_mid rfl 29 (.tmp 5) rfl gp 0 rfl _ _ hrr Tryz.underlying29 rfl info_pnr ?_)
        | (go_at_call 8; (with_reducible refine HPN.out.mono ?_); rintro e w20 ⟨hby, hb20⟩; obtain ⟨v20, z20, rfl⟩ := byP_form hby; obtain ⟨k1, k2⟩ := (HRSx.out.mono hb20).bad))
      rcases hby with ⟨bs, v8, h1, h2, h3⟩ | ⟨h1, h2⟩
      · injection h2 with h2
        injection h2 with h2
        simp at h2
        obtain ⟨rfl, rfl⟩ := h2
        have HAG := Lib.hid (again_yes b bs _ _ w20 ((HV.out.mono HBR.out).mono hb20) h3.has)
        by_cases hbb : b = bs
        · have HY := Lib.hid (readPn_some HPB.out (by rw [h1, hbb]))
          rw [decide_eq_true hbb] at HAG
          have HPI7 : RowKit.Hid (∀ W', w20.grownBy W' (some w.heap.size) → w19.grownBy W' (some w.heap.size)) := Lib.hid fun W' hg => gr_same (gr_of_below hb20 _) hg
          have hrr2 := (HBK.out.mono hb20).range
          clear h1 h3 hbb
          go_wp2_with (first
            | (go_at_call 42; (with_reducible refine HAG.out.mono ?_); rintro e w21 ⟨rfl, rfl⟩)
            | (refine wpList_load_mid rfl 29 (.tmp 5) rfl gp 0 rfl _ _ hrr2 Tryz.underlying29 rfl info_pnr ?_)
            | (refine wpList_store_blk rfl 29 (.tmp 2) (.tmp 82) rfl w.heap.size 29 zeroC [.string loc, .string off, .slice q1 n1 c1, .slice q2 n2 c2, .slice q3 n3 c3, .int .i64 (kq : Int), .int .i64 (td : Int), .int .i64 (tm : Int), .string rc, .slice q4 n4 c4, .slice q5 n5 c5, .bool qb] rfl rfl (HRE.out.mono hb20) rfl info_pnr H1.out ?_; intro w8 hb8 hl8 hg8))
          obtain ⟨x, vn, vs, vp, vr, vx, e1, e2, e3⟩ := HCF.out w8 (HPI.out _ (HPI7.out _ hg8))
          exact pn_back rfl rfl rfl rfl hb8 rfl ((below_low HBR.out HBR.out.size hb20).trans hl8) (.inl ⟨x, vn, vs, vp, vr, vx, HY.out.trans e1, e2, e3, rfl⟩)
        · have HY := Lib.hid (readPn_other HPB.out (by rw [h1]; exact fun e => hbb (by injection e with e; exact e.symm)))
          rw [decide_eq_false hbb] at HAG
          clear h1 h3 hbb
          go_wp2_with (first
            | (go_at_call 42; (with_reducible refine HAG.out.mono ?_); rintro e w21 ⟨rfl, rfl⟩)
            | (refine wpList_store_blk rfl 29 (.tmp 2) (.tmp 81) rfl w.heap.size 29 zeroC zeroC rfl rfl (HRE.out.mono hb20) rfl info_pnr zeroC_one ?_; intro w8 hb8 hl8 _))
          exact pn_back rfl rfl rfl rfl hb8 rfl ((below_low HBR.out HBR.out.size hb20).trans hl8) (.inr ⟨HY.out, rfl, rfl⟩)
      · injection h2 with h2
        injection h2 with h2
        simp at h2
        obtain ⟨rfl, rfl⟩ := h2
        have HAG := Lib.hid (again_no (.slice p N c) (.slice none 0 0) 4 w20 (by decide))
        have HY := Lib.hid (readPn_other HPB.out (by rw [h1]; exact fun e => by cases e))
        clear h1
        go_wp2_with (first
          | (go_at_call 42; (with_reducible refine HAG.out.mono ?_); rintro e w21 ⟨rfl, rfl⟩)
          | (refine wpList_store_blk rfl 29 (.tmp 2) (.tmp 81) rfl w.heap.size 29 zeroC zeroC rfl rfl (HRE.out.mono hb20) rfl info_pnr zeroC_one ?_; intro w8 hb8 hl8 _))
        exact pn_back rfl rfl rfl rfl hb8 rfl ((below_low HBR.out HBR.out.size hb20).trans hl8) (.inr ⟨HY.out, rfl, rfl⟩)
end Go.Proofs.YtofomopmmopflaaGreatDoor
