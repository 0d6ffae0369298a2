/- An edit that writes a text (the reference). -/
import Derived.Test.YtjahkaidinahpaaDoorHC
namespace Go.Proofs.YtjahkaidinahpaaDoor
open Go.RowKit Go.ChangeMaps
set_option linter.unusedSimpArgs false
set_option linter.unusedVariables false
set_option maxRecDepth 20000

/-- Each part of a PNR is formed. -/
structure FmdP (p : PnrT) : Prop where
  nm : ∀ x ∈ p.names, nameOk x
  sg : ∀ x ∈ p.segs, segOk x
  ph : ∀ s ∈ p.phones, freeP s
  rm : ∀ s ∈ p.remarks, freeP s
  rc : toL p.recv = [] ∨ freeP p.recv
  tk : tickOk p.tk p.td p.tm p.queued
  st : ∀ x ∈ p.seats, 1 ≤ x.row ∧ x.row ≤ 99 ∧ bL x.c = true

/-- What an edit leaves as it was. -/
def Kept (p x : PnrT) : Prop := x.loc = p.loc ∧ x.off = p.off ∧ (FmdP p → FmdP x)
theorem Kept.refl (p : PnrT) : Kept p p := ⟨rfl, rfl, fun h => h⟩
theorem all_snoc {α : Type} {P : α → Prop} {l : List α} {a : α} (h : ∀ x ∈ l, P x) (ha : P a) : ∀ x ∈ l ++ [a], P x := fun x hx => by
  rcases List.mem_append.1 hx with h1 | h1
  · exact h x h1
  · rw [List.mem_singleton.1 h1]; exact ha
theorem free_of_ref {s : ByteArray} (h : refFreeS s.data.toList = true) : freeP s := by
  unfold freeP toL
  rw [free_eq]
  exact h

/-- W reads as w does, below lo and from hi on. -/
def Agr (lo hi : Nat) (w W : World) : Prop := ∀ a u, (a.block < lo ∨ hi ≤ a.block) → w.cell? a = some u → W.cell? a = some u
theorem Agr.refl (lo hi : Nat) (w : World) : Agr lo hi w w := fun _ _ _ h => h

theorem own_agr {α : Type} {enc : α → List Value} {lo hi B st : Nat} {w W : World} {e : TypeId} {v : Value} {l : List α} (h : w.ownsRow B e st v l.length (l.flatMap enc)) (hB : hi ≤ B) (hA : Agr lo hi w W) : HasE enc W v l := by
  rcases h.2 with ⟨e1, e2⟩ | ⟨g, cap, cur, e1, hb, _, h3, h4, _⟩
  · exact .inl ⟨none, 0, e1, List.length_eq_zero_iff.1 e2, fun _ => rfl⟩
  · refine .inr ⟨g, 0, cap, e1, h3, h4, fun j u hj => hA _ _ (.inr (Nat.le_trans hB hb)) ?_⟩
    have := h.cells (g := g) (by rw [e1]; rfl) j _ hj
    rw [Addr.add_lit] at this
    exact this

theorem ownL_agr {lo hi B : Nat} {w W : World} {v : Value} {l : List ByteArray} (h : OwnL w B v l) (hB : hi ≤ B) (hA : Agr lo hi w W) : HasL W v l := by
  rcases h.2 with ⟨e1, e2⟩ | ⟨g, cap, cur, e1, hb, _, h3, h4, _⟩
  · exact .inl ⟨none, 0, e1, List.length_eq_zero_iff.1 e2, fun _ => rfl⟩
  · refine .inr ⟨g, 0, cap, e1, h3, h4, fun j hj => hA _ _ (.inr (Nat.le_trans hB hb)) ?_⟩
    have := World.ownsRow.cells h (g := g) (by rw [e1]; rfl) j _ (strV_get hj)
    rw [Addr.add_lit] at this
    exact this

theorem PIn.keep {w w' : World} {p : PnrT} {vn vs vp vr vx : Value} (h : PIn w p vn vs vp vr vx) (hk : ∀ a u, w.cell? a = some u → w'.cell? a = some u) : PIn w' p vn vs vp vr vx :=
  ⟨h.n.keep hk, h.s.keep hk, h.ph.keep hk, h.rm.keep hk, h.x.keep hk, h.fit, h.wf, h.few⟩

/-- A PNR that lies in memory below lo. -/
def LowP (lo : Nat) (w : World) (p : PnrT) (vn vs vp vr vx : Value) : Prop := ∀ V, (∀ a u, a.block < lo → w.cell? a = some u → V.cell? a = some u) → PIn V p vn vs vp vr vx
theorem LowP.pin {lo : Nat} {w : World} {p : PnrT} {vn vs vp vr vx : Value} (h : LowP lo w p vn vs vp vr vx) : PIn w p vn vs vp vr vx := h w fun _ _ _ k => k
theorem LowP.mono {lo : Nat} {w W : World} {p : PnrT} {vn vs vp vr vx : Value} (h : LowP lo w p vn vs vp vr vx) (hb : Below w.heap.size w W) : LowP lo W p vn vs vp vr vx := fun V hV => h V fun a u ha hc => hV a u ha (cell_bel hb hc)
theorem LowP.agr {lo hi : Nat} {w W : World} {p : PnrT} {vn vs vp vr vx : Value} (h : LowP lo w p vn vs vp vr vx) (hA : Agr lo hi w W) : PIn W p vn vs vp vr vx := h W fun a u ha hc => hA a u (.inl ha) hc
theorem LowP.of {w W : World} {p : PnrT} {vn vs vp vr vx : Value} (h : PIn w p vn vs vp vr vx) (hb : Below w.heap.size w W) : LowP w.heap.size W p vn vs vp vr vx := fun V hV => h.keep fun a u hc => hV a u (World.block_lt_of_cell? w a hc) (cell_bel hb hc)

/-- What an edit comes to: some PNR in memory, below lo or from hi on, and some number. -/
def ChgP (lo hi : Nat) (p : PnrT) (e : Ending) (w : World) : Prop := ∃ x vn vs vp vr vx z, e = .returned (.tuple #[.agg (pnrC x vn vs vp vr vx).toArray, .int .i64 z]) ∧ (∀ W, Agr lo hi w W → PIn W x vn vs vp vr vx) ∧ Kept p x

theorem chg_back {fn : Func} {p q : Tmp} {pp : PnrT} {lo hi : Nat} (hf : fn.results = #[.cell p 29, .tmp q]) {a : Act} {w w0 : World} {g : Nat} {cs : List Value} {z : Int}
    (hp : a.tmps.getD p undef = .pointer (some ⟨g, 0, none⟩)) (hq : a.tmps.getD q undef = .int .i64 z) (hd : a.defers = []) (hg : Blk w g 29 cs) (hl : cs.length = 12) (hw : Below w0.heap.size w0 w)
    (h : ∃ x vn vs vp vr vx, cs = pnrC x vn vs vp vr vx ∧ (∀ W, Agr lo hi w W → PIn W x vn vs vp vr vx) ∧ Kept pp x) :
    bodyPost Tryd.prog fn (fun e w' => ChgP lo hi pp e w' ∧ Below w0.heap.size w0 w') .ret a w := by
  refine bodyPost_ret (results_row_tmp hf a.tmps w g 29 cs _ hp hg Tryd.underlying29 rfl (by rw [hl]; exact info_pnr)) hd ?_
  rw [hq]
  obtain ⟨x, vn, vs, vp, vr, vx, rfl, h2⟩ := h
  exact ⟨⟨x, vn, vs, vp, vr, vx, z, rfl, h2⟩, hw⟩

/-- Lists that an edit can lengthen. -/
def Room (p : PnrT) : Prop := p.names.length ≤ 900 ∧ p.segs.length ≤ 900 ∧ p.phones.length ≤ 900 ∧ p.remarks.length ≤ 900 ∧ p.seats.length ≤ 900

theorem boxes3 (w : World) (pc dc : List Value) : ∃ w3, ((w.alloc (.cells pc.toArray 29)).alloc (.cells dc.toArray 41)).alloc (.cells zeroC.toArray 29) = w3 ∧ Blk w3 w.heap.size 29 pc ∧ Blk w3 (w.heap.size + 1) 41 dc ∧ Blk w3 (w.heap.size + 2) 29 zeroC ∧ Below w.heap.size w w3 ∧ w3.heap.size = w.heap.size + 3 := by
  refine ⟨_, rfl, ((Blk.new w _ pc).alloc _).alloc _, ?_, ?_, ?_, ?_⟩
  · have := (Blk.new (w.alloc (.cells pc.toArray 29)) 41 dc).alloc (.cells zeroC.toArray 29)
    rwa [show (w.alloc (.cells pc.toArray 29)).heap.size = w.heap.size + 1 by simp] at this
  · have := Blk.new ((w.alloc (.cells pc.toArray 29)).alloc (.cells dc.toArray 41)) 29 zeroC
    rwa [show ((w.alloc (.cells pc.toArray 29)).alloc (.cells dc.toArray 41)).heap.size = w.heap.size + 2 by simp] at this
  · exact bel_trans (bel_trans ((Below.refl _ _).alloc (Nat.le_refl _) _) ((Below.refl _ _).alloc (Nat.le_refl _) _)) ((Below.refl _ _).alloc (Nat.le_refl _) _)
  · simp

/-- A list that was lengthened, laid into a PNR's cell j. -/
def PAdd (w : World) (cs : Value → List Value) (l : List ByteArray) (wx : World) : Prop := ∃ p n c, Blk wx w.heap.size 29 (cs (.slice p n c)) ∧ Blk wx (w.heap.size + 2) 29 zeroC ∧ Below w.heap.size w wx ∧ OwnL wx (w.heap.size + 3) (.slice p n c) l

theorem txt_done {w wA w4 : World} {B n : Nat} {v : Value} {p4 : Option Addr} {n4 c4 : Nat} {cs : List Value} {l : List ByteArray} {xs : List Value} (j : Nat) (h0 : Blk wA w.heap.size 29 cs) (h2 : Blk wA (w.heap.size + 2) 29 zeroC) (hb : Below w.heap.size w wA) (hv : wA.ownsRow B 9 1 v n xs) (hB : w.heap.size + 3 ≤ B) (hg : wA.grownBy w4 v.ownBlock) (ho : w4.ownsRow B 9 1 (.slice p4 n4 c4) l.length (strV l)) :
    PAdd w (fun u => cs.set j u) l (w4.setCell ⟨w.heap.size, j, none⟩ (.slice p4 n4 c4)) := by
  have hne : ∀ k, k < w.heap.size + 3 → some k ≠ v.ownBlock := fun k hk e => by
    have := (World.ownsRow.lt hv k e.symm).1
    omega
  have h04 := h0.far hg (hne _ (by omega))
  have h24 := h2.far hg (hne _ (by omega))
  have hs : w4.grownBy (w4.setCell ⟨w.heap.size, j, none⟩ (.slice p4 n4 c4)) (some w.heap.size) := gr_setCell1 (World.grownBy.refl _ _) j _
  have hb4 : Below w.heap.size w w4 := hb.grown hg hb.size fun k hk => by
    have := (World.ownsRow.lt hv k hk).1
    omega
  refine ⟨p4, n4, c4, h04.set j _, h24.far hs (by intro e; injection e with e; omega), hb4.grown hs hb4.size (fun k hk => by injection hk with hk; omega), ?_⟩
  have ho' : OwnL w4 B (.slice p4 n4 c4) l := ho
  exact (ho'.grown hs (own_ne ho' (by omega))).low hB

set_option maxHeartbeats 16000000 in
theorem write_any (lo : Nat) (p : PnrT) (vn vs vp vr vx : Value) (d : EditT) (w : World) (h : LowP lo w p vn vs vp vr vx) (hf : Room p) (hd : EditOk d) :
    Calls Tryd.prog 103 #[.agg (pnrC p vn vs vp vr vx).toArray, .agg (editC d).toArray] w fun e w' => ChgP lo w.heap.size p e w' ∧ Below w.heap.size w w' := by
  have hlow := h
  replace h := h.pin
  obtain ⟨pn, cn, rfl⟩ := h.n.len
  obtain ⟨ps, cs, rfl⟩ := h.s.len
  obtain ⟨pp, cp, rfl⟩ := own_len h.ph
  obtain ⟨pr, cr, rfl⟩ := own_len h.rm
  obtain ⟨px, cx, rfl⟩ := h.x.len
  have HPL := Lib.hid hlow
  obtain ⟨w3, e3, b0, b1, b2, hb3, hz3⟩ := boxes3 w (pnrC p (.slice pn p.names.length cn) (.slice ps p.segs.length cs) (.slice pp p.phones.length cp) (.slice pr p.remarks.length cr) (.slice px p.seats.length cx)) (editC d)
  have HPI := Lib.hid h
  have HDT := Lib.hid hd.text
  have HFR : RowKit.Hid (∀ W, Calls Tryd.prog 100 #[.string d.text] W fun e w' => e = .returned (.bool (refFreeS d.text.data.toList)) ∧ W = w') := Lib.hid fun W => refFree_any d.text W hd.text
  have HB := Lib.hid hb3
  have HCT : RowKit.Hid (∀ v l W, HasL W v l → l.length ≤ 1000 → Calls Tryd.prog 169 #[v] W fun e w' => (∃ v', e = .returned v' ∧ OwnL w' W.heap.size v' l) ∧ Below W.heap.size W w') := Lib.hid fun v l W h1 h2 => copyTexts_any v l W h1 h2
  have HF := Lib.hid hf
  have HOLD : RowKit.Hid (∀ W, Below w.heap.size w W → ∃ x vn vs vp vr vx, pnrC p (.slice pn p.names.length cn) (.slice ps p.segs.length cs) (.slice pp p.phones.length cp) (.slice pr p.remarks.length cr) (.slice px p.seats.length cx) = pnrC x vn vs vp vr vx ∧ (∀ V, Agr lo w.heap.size W V → PIn V x vn vs vp vr vx) ∧ Kept p x) := Lib.hid fun W hW => ⟨_, _, _, _, _, _, rfl, fun V hA => (hlow.mono hW).agr hA, Kept.refl p⟩
  have HO1 : RowKit.Hid (∀ v ∈ pnrC p (.slice pn p.names.length cn) (.slice ps p.segs.length cs) (.slice pp p.phones.length cp) (.slice pr p.remarks.length cr) (.slice px p.seats.length cx), v.oneCell' = true) := Lib.hid pnrC_one
  clear h hd hf hb3 hlow
  obtain ⟨loc, off, names, segs, phones, tk, td, tm, recv, remarks, seats, queued⟩ := p
  obtain ⟨kd, ⟨nl, nf⟩, ⟨car, num, day, cls, live⟩, ek, ed, em, tx, n, pax, row, c⟩ := d
  generalize hfr : refFreeS tx.data.toList = fr at *
  have HFE := Lib.hid hfr
  clear hfr
  unfold pnrC at b0 e3 HOLD HO1 ⊢
  unfold editC at b1 e3 ⊢
  unfold zeroC at e3
  simp only at b0 b1 e3 HOLD HO1 HFR HDT ⊢
  have hr0 := b0.range
  have HB0 := Lib.hid b0
  have HB2 := Lib.hid b2
  have d0 : w3.cell? ⟨w.heap.size + 1, 0, none⟩ = some (.int .i64 kd) := (b1.cell 0).trans rfl
  have d4 : w3.cell? ⟨w.heap.size + 1, 11, none⟩ = some (.string tx) := (b1.cell 11).trans rfl
  have p4 : w3.cell? ⟨w.heap.size, 4, none⟩ = some (.slice pp phones.length cp) := (b0.cell 4).trans rfl
  have p7 : w3.cell? ⟨w.heap.size, 9, none⟩ = some (.slice pr remarks.length cr) := (b0.cell 9).trans rfl
  have f8 := b0.frozen 8
  have p8 : w3.cell? ⟨w.heap.size, 8, none⟩ = some (.string recv) := (b0.cell 8).trans rfl
  have HB1 := Lib.hid b1
  clear b0 b1 b2
  go_enter Tryd.func103, Tryd.ntmps103
  go_upto_region 1 with fail
  try rw [e3]
  clear e3
  rw [show w.heap.size + 1 + 1 = w.heap.size + 2 from rfl]
  have HBW : RowKit.Hid (∀ W, Below (w.heap.size + 2) w3 W → Below w.heap.size w W) := Lib.hid fun W hW => HB.out.trans (below_le hW (by omega))
  cases fr with
  | false =>
    go_wp2_with (first
      | (go_at_call 100; (with_reducible refine (HFR.out _).mono ?_); rintro e W ⟨rfl, rfl⟩)
      | (refine wpList_load_mid rfl 29 (.tmp 2) rfl w.heap.size 0 rfl _ _ hr0 Tryd.underlying29 rfl info_pnr ?_)
      | (refine wpList_store_blk rfl 29 (.tmp 4) (.tmp 10) rfl (w.heap.size + 2) 29 zeroC [.string loc, .string off, .slice pn names.length cn, .slice ps segs.length cs, .slice pp phones.length cp, .int .i64 tk, .int .i64 td, .int .i64 tm, .string recv, .slice pr remarks.length cr, .slice px seats.length cx, .bool queued] rfl rfl HB2.out rfl info_pnr HO1.out ?_; intro w8 hb8 hl8 hg8))
    exact chg_back rfl rfl rfl rfl hb8 rfl (HBW.out _ hl8) (HOLD.out _ (HBW.out _ hl8))
  | true =>
    by_cases k5 : kd = 5
    · subst k5
      have hb4 := HB0.out.set 8 (.string tx)
      have hrr := hb4.range
      have hb24 : Blk (w3.setCell ⟨w.heap.size, 8, none⟩ (.string tx)) (w.heap.size + 2) 29 zeroC := HB2.out.far (gr_setCell1 (World.grownBy.refl _ _) 8 _) (by intro e; injection e with e; omega)
      have HS1 : RowKit.Hid (Below w.heap.size w (w3.setCell ⟨w.heap.size, 8, none⟩ (.string tx))) := Lib.hid (HB.out.grown (gr_setCell1 (World.grownBy.refl w3 (some w.heap.size)) 8 (.string tx)) HB.out.size (fun k hk => by injection hk with hk; exact Nat.le_of_eq hk))
      have HN1 := Lib.hid (pnrC_one (x := ⟨loc, off, names, segs, phones, tk, td, tm, tx, remarks, seats, queued⟩) (p1 := pn) (n1 := names.length) (c1 := cn) (p2 := ps) (n2 := segs.length) (c2 := cs) (p3 := pp) (n3 := phones.length) (c3 := cp) (p4 := pr) (n4 := remarks.length) (c4 := cr) (p5 := px) (n5 := seats.length) (c5 := cx))
      go_wp2_with (first
        | (go_at_call 100; (with_reducible refine (HFR.out _).mono ?_); rintro e W ⟨rfl, rfl⟩)
        | (refine wpList_load_mid rfl 29 (.tmp 2) rfl w.heap.size 0 rfl _ _ hrr Tryd.underlying29 rfl info_pnr ?_)
        | (refine wpList_store_blk rfl 29 (.tmp 4) (.tmp 17) rfl (w.heap.size + 2) 29 zeroC [.string loc, .string off, .slice pn names.length cn, .slice ps segs.length cs, .slice pp phones.length cp, .int .i64 tk, .int .i64 td, .int .i64 tm, .string tx, .slice pr remarks.length cr, .slice px seats.length cx, .bool queued] rfl rfl hb24 rfl info_pnr HN1.out ?_; intro w8 hb8 hl8 hg8))
      have hW := HS1.out.trans (below_le hl8 (by omega))
      have k := HPI.out.mono hW
      obtain ⟨q1, q2, q3, q4, q5, q6, q7⟩ := k.fit
      exact chg_back rfl rfl rfl rfl hb8 rfl hW ⟨⟨loc, off, names, segs, phones, tk, td, tm, tx, remarks, seats, queued⟩, _, _, _, _, _, rfl, (fun V hA => have k := (HPL.out.mono hW).agr hA; ⟨k.n, k.s, k.ph, k.rm, k.x, ⟨q1, q2, q3, q4, q5, HDT.out, q7⟩, k.wf, k.few⟩), rfl, rfl, fun f => ⟨f.nm, f.sg, f.ph, f.rm, .inr (free_of_ref HFE.out), f.tk, f.st⟩⟩
    by_cases k3 : kd = 3
    · subst k3
      by_cases k4 : phones.length ≥ 4
      · have i4 : (phones.length : Int) ≥ 4 := by omega
        go_wp2_with (first
          | (go_at_call 100; (with_reducible refine (HFR.out _).mono ?_); rintro e W ⟨rfl, rfl⟩)
          | (refine wpList_load_mid rfl 29 (.tmp 2) rfl w.heap.size 0 rfl _ _ hr0 Tryd.underlying29 rfl info_pnr ?_)
          | (refine wpList_store_blk rfl 29 (.tmp 4) (.tmp 25) rfl (w.heap.size + 2) 29 zeroC [.string loc, .string off, .slice pn names.length cn, .slice ps segs.length cs, .slice pp phones.length cp, .int .i64 tk, .int .i64 td, .int .i64 tm, .string recv, .slice pr remarks.length cr, .slice px seats.length cx, .bool queued] rfl rfl HB2.out rfl info_pnr HO1.out ?_; intro w8 hb8 hl8 hg8))
        exact chg_back rfl rfl rfl rfl hb8 rfl (HBW.out _ hl8) (HOLD.out _ (HBW.out _ hl8))
      · have i4 : ¬ (phones.length : Int) ≥ 4 := by omega
        obtain ⟨i0, hi0, hz0, hsz0, hby0⟩ := str_tinfo
        have hll : phones.length ≤ 900 := by have := HF.out; unfold Room at this; simp only at this; omega
        have hm1 : phones.length + 1 ≤ maxLen := by unfold maxLen; omega
        have hm2 : (phones.length + 1) * 16 ≤ 140737488355328 := by omega
        have hl3 : phones.length ≤ 1000 := by omega
        have HPA : RowKit.Hid (HasL w3.drew (.slice pp phones.length cp) phones) := Lib.hid ((HPI.out.mono HB.out).ph.mono (Below.refl _ _).drew)
        have HPB : RowKit.Hid (HasL (w3.alloc (.cells #[.string tx] 9)).drew (.slice pp phones.length cp) phones) := Lib.hid ((HPI.out.mono HB.out).ph.mono ((Below.refl _ _).alloc (Nat.le_refl _) _).drew)
        have HD1 : RowKit.Hid (Below w3.heap.size w3 w3.drew) := Lib.hid (Below.refl _ _).drew
        have HD2 : RowKit.Hid (Below w3.heap.size w3 (w3.alloc (.cells #[.string tx] 9)).drew) := Lib.hid ((Below.refl _ _).alloc (Nat.le_refl _) _).drew
        have HZ1 : RowKit.Hid (w.heap.size + 3 ≤ w3.drew.heap.size) := Lib.hid (by simp [hz3])
        have HZ2 : RowKit.Hid (w.heap.size + 3 ≤ (w3.alloc (.cells #[.string tx] 9)).drew.heap.size) := Lib.hid (by simp [hz3])
        have HZ3 : RowKit.Hid (w.heap.size + 3 < (w3.alloc (.cells #[.string tx] 9)).drew.heap.size) := Lib.hid (by simp [hz3])
        have HNB : RowKit.Hid ((w3.alloc (.cells #[.string tx] 9)).drew.heap[w.heap.size + 3]? = some (.cells #[.string tx] 9 (0, 0))) := Lib.hid (by rw [← hz3]; exact heap_alloc_new w3 _)
        have HTC : RowKit.Hid (∀ W, Below w3.heap.size w3 W → W.cell? ⟨w.heap.size + 1, 11, none⟩ = some (.string tx) ∧ W.cell? ⟨w.heap.size, 4, none⟩ = some (.slice pp phones.length cp) ∧ W.frozen? ⟨w.heap.size, 4, none⟩ = false) := Lib.hid fun W hW => ⟨((HB1.out.mono hW).cell 11).trans rfl, ((HB0.out.mono hW).cell 4).trans rfl, (HB0.out.mono hW).frozen 4⟩
        go_upto_region 9 with (first
          | (go_at_call 100; (with_reducible refine (HFR.out _).mono ?_); rintro e W ⟨rfl, rfl⟩))
        go_cut [] from 26 to 33 (fun wx => PAdd w (fun u => [.string loc, .string off, .slice pn names.length cn, .slice ps segs.length cs, u, .int .i64 tk, .int .i64 td, .int .i64 tm, .string recv, .slice pr remarks.length cr, .slice px seats.length cx, .bool queued]) (phones ++ [tx]) wx)
        case first =>
          go_region_law (first
            | (go_simp; go_at_call 169; refine (HCT.out _ _ _ (by first | exact HPA.out | exact HPB.out) hl3).mono ?_; rintro e wC ⟨⟨vC, rfl, hoC⟩, hbC⟩; obtain ⟨pC, nC, cC, rfl⟩ := own_slice hoC; (first | (have hb5 := bel_trans HD1.out hbC; have hoL := own_low (base' := w.heap.size + 3) hoC HZ1.out) | (have hb5 := bel_trans HD2.out hbC; have hoL := own_low (base' := w.heap.size + 3) hoC HZ2.out; have hnb := (hbC.block (w.heap.size + 3) HZ3.out).trans HNB.out)); obtain ⟨tcx, tcp, tcf⟩ := HTC.out _ hb5; have hs5 := hb5.size; have hbs1 : w.heap.size + 3 ≤ (wC.alloc (.cells #[.string tx] 9)).heap.size := (by simp; omega); have hbs2 : w.heap.size + 3 ≤ wC.heap.size := (by omega))
            | (refine step_append_lies _ (by rfl) _ _ _ (by rfl) (w.heap.size + 3) 9 i0 _ 1 16 Tryd.underlying24 hi0 hz0 hsz0 hby0 rfl (by decide) _ phones.length (strV phones) (by rfl) (World.ownsRow.alloc hoL _) ⟨wC.heap.size, 0, none⟩ 1 1 [.string tx] (by rfl) (by rfl) (World.news_of_block (cs := #[.string tx]) (t := 9) (fr := (0, 0)) (heap_alloc_new wC _)) (txtC_one tx) (by decide) hm1 hm2 hbs1 (wC.heap.size + 1) (by simp) ?_; intro gq cq w4 ho4 hg4 hr4 hl4; have hA0 := (HB0.out.mono hb5).alloc (.cells #[.string tx] 9); have hA2 := (HB2.out.mono hb5).alloc (.cells #[.string tx] 9); have hbA := bel_trans (bel_trans HB.out hb5) ((Below.refl _ _).alloc (Nat.le_refl _) (.cells #[.string tx] 9)); have hvA := World.ownsRow.alloc hoL (.cells #[.string tx] 9); have hx := hA0.far hg4 (own_row_ne hvA (by omega)).symm; have hxc := (hx.cell 4).trans rfl; have hxf := hx.frozen 4)
            | (refine step_append_lies _ (by rfl) _ _ _ (by rfl) (w.heap.size + 3) 9 i0 _ 1 16 Tryd.underlying24 hi0 hz0 hsz0 hby0 rfl (by decide) _ phones.length (strV phones) (by rfl) hoL ⟨w.heap.size + 3, 0, none⟩ 1 1 [.string tx] (by rfl) (by rfl) (World.news_of_block (cs := #[.string tx]) (t := 9) (fr := (0, 0)) hnb) (txtC_one tx) (by decide) hm1 hm2 hbs2 wC.heap.size rfl ?_; intro gq cq w4 ho4 hg4 hr4 hl4; have hA0 := HB0.out.mono hb5; have hA2 := HB2.out.mono hb5; have hbA := bel_trans HB.out hb5; have hvA := hoL; have hx := hA0.far hg4 (own_row_ne hvA (by omega)).symm; have hxc := (hx.cell 4).trans rfl; have hxf := hx.frozen 4))
          all_goals (
            go_wp2
            go_meet
            exact txt_done 4 hA0 hA2 hbA hvA (Nat.le_refl _) hg4 (by rw [List.length_append, strV, List.map_append]; exact ho4))
        case rest =>
          rename World => wx
          obtain ⟨p4, n4, c4, k0, k2, kb, kl⟩ := hcut
          have hrr := k0.range
          have HN1 := Lib.hid (pnrC_one (x := ⟨loc, off, names, segs, phones, tk, td, tm, recv, remarks, seats, queued⟩) (p1 := pn) (n1 := names.length) (c1 := cn) (p2 := ps) (n2 := segs.length) (c2 := cs) (p3 := p4) (n3 := n4) (c3 := c4) (p4 := pr) (n4 := remarks.length) (c4 := cr) (p5 := px) (n5 := seats.length) (c5 := cx))
          go_wp2_with (first
            | (refine wpList_load_mid rfl 29 (.tmp 2) rfl w.heap.size 0 rfl _ _ hrr Tryd.underlying29 rfl info_pnr ?_)
            | (refine wpList_store_blk rfl 29 (.tmp 4) (.tmp 34) rfl (w.heap.size + 2) 29 zeroC [.string loc, .string off, .slice pn names.length cn, .slice ps segs.length cs, .slice p4 n4 c4, .int .i64 tk, .int .i64 td, .int .i64 tm, .string recv, .slice pr remarks.length cr, .slice px seats.length cx, .bool queued] rfl rfl k2 rfl info_pnr HN1.out ?_; intro w8 hb8 hl8 hg8))
          have hW := kb.trans (below_le hl8 (by omega))
          have k := HPI.out.mono hW
          obtain ⟨q1, q2, q3, q4, q5, q6, q7⟩ := k.fit
          obtain ⟨f1, f2, f3, f4, f5⟩ := k.few
          have kz : ∀ V, Agr lo w.heap.size w8 V → HasL V (.slice p4 n4 c4) _ := fun V hA => ownL_agr (kl.grown hg8 (own_ne kl (by omega))) (by omega) hA
          have kf : (phones ++ [tx]).length ≤ 1000 := by rw [List.length_append, List.length_singleton]; omega
          have kt : ∀ s ∈ phones ++ [tx], s.size ≤ maxLen := fun s hs => by
            rcases List.mem_append.1 hs with h1 | h1
            · exact q5 s h1
            · rw [List.mem_singleton.1 h1]; exact HDT.out
          exact chg_back rfl rfl rfl rfl hb8 rfl hW ⟨⟨loc, off, names, segs, phones ++ [tx], tk, td, tm, recv, remarks, seats, queued⟩, _, _, _, _, _, rfl, (fun V hA => have k := (HPL.out.mono hW).agr hA; ⟨k.n, k.s, kz V hA, k.rm, k.x, ⟨q1, q2, q3, q4, kt, q6, q7⟩, k.wf, ⟨f1, f2, kf, f4, f5⟩⟩), rfl, rfl, fun f => ⟨f.nm, f.sg, all_snoc f.ph (free_of_ref HFE.out), f.rm, f.rc, f.tk, f.st⟩⟩
    have g5 : (kd == 5) = false := by simp [k5]
    have g3 : (kd == 3) = false := by simp [k3]
    clear k5 k3
    by_cases k4 : remarks.length ≥ 10
    · have i4 : (remarks.length : Int) ≥ 10 := by omega
      go_wp2_with (first
        | (go_at_call 100; (with_reducible refine (HFR.out _).mono ?_); rintro e W ⟨rfl, rfl⟩)
        | (refine wpList_load_mid rfl 29 (.tmp 2) rfl w.heap.size 0 rfl _ _ hr0 Tryd.underlying29 rfl info_pnr ?_)
        | (refine wpList_store_blk rfl 29 (.tmp 4) (.tmp 39) rfl (w.heap.size + 2) 29 zeroC [.string loc, .string off, .slice pn names.length cn, .slice ps segs.length cs, .slice pp phones.length cp, .int .i64 tk, .int .i64 td, .int .i64 tm, .string recv, .slice pr remarks.length cr, .slice px seats.length cx, .bool queued] rfl rfl HB2.out rfl info_pnr HO1.out ?_; intro w8 hb8 hl8 hg8))
      exact chg_back rfl rfl rfl rfl hb8 rfl (HBW.out _ hl8) (HOLD.out _ (HBW.out _ hl8))
    · have i4 : ¬ (remarks.length : Int) ≥ 10 := by omega
      obtain ⟨i0, hi0, hz0, hsz0, hby0⟩ := str_tinfo
      have hll : remarks.length ≤ 900 := by have := HF.out; unfold Room at this; simp only at this; omega
      have hm1 : remarks.length + 1 ≤ maxLen := by unfold maxLen; omega
      have hm2 : (remarks.length + 1) * 16 ≤ 140737488355328 := by omega
      have hl3 : remarks.length ≤ 1000 := by omega
      have HPA : RowKit.Hid (HasL w3.drew (.slice pr remarks.length cr) remarks) := Lib.hid ((HPI.out.mono HB.out).rm.mono (Below.refl _ _).drew)
      have HPB : RowKit.Hid (HasL (w3.alloc (.cells #[.string tx] 9)).drew (.slice pr remarks.length cr) remarks) := Lib.hid ((HPI.out.mono HB.out).rm.mono ((Below.refl _ _).alloc (Nat.le_refl _) _).drew)
      have HD1 : RowKit.Hid (Below w3.heap.size w3 w3.drew) := Lib.hid (Below.refl _ _).drew
      have HD2 : RowKit.Hid (Below w3.heap.size w3 (w3.alloc (.cells #[.string tx] 9)).drew) := Lib.hid ((Below.refl _ _).alloc (Nat.le_refl _) _).drew
      have HZ1 : RowKit.Hid (w.heap.size + 3 ≤ w3.drew.heap.size) := Lib.hid (by simp [hz3])
      have HZ2 : RowKit.Hid (w.heap.size + 3 ≤ (w3.alloc (.cells #[.string tx] 9)).drew.heap.size) := Lib.hid (by simp [hz3])
      have HZ3 : RowKit.Hid (w.heap.size + 3 < (w3.alloc (.cells #[.string tx] 9)).drew.heap.size) := Lib.hid (by simp [hz3])
      have HNB : RowKit.Hid ((w3.alloc (.cells #[.string tx] 9)).drew.heap[w.heap.size + 3]? = some (.cells #[.string tx] 9 (0, 0))) := Lib.hid (by rw [← hz3]; exact heap_alloc_new w3 _)
      have HTC : RowKit.Hid (∀ W, Below w3.heap.size w3 W → W.cell? ⟨w.heap.size + 1, 11, none⟩ = some (.string tx) ∧ W.cell? ⟨w.heap.size, 9, none⟩ = some (.slice pr remarks.length cr) ∧ W.frozen? ⟨w.heap.size, 9, none⟩ = false) := Lib.hid fun W hW => ⟨((HB1.out.mono hW).cell 11).trans rfl, ((HB0.out.mono hW).cell 9).trans rfl, (HB0.out.mono hW).frozen 9⟩
      go_upto_region 13 with (first
        | (go_at_call 100; (with_reducible refine (HFR.out _).mono ?_); rintro e W ⟨rfl, rfl⟩))
      go_cut [] from 40 to 47 (fun wx => PAdd w (fun u => [.string loc, .string off, .slice pn names.length cn, .slice ps segs.length cs, .slice pp phones.length cp, .int .i64 tk, .int .i64 td, .int .i64 tm, .string recv, u, .slice px seats.length cx, .bool queued]) (remarks ++ [tx]) wx)
      case first =>
        go_region_law (first
          | (go_simp; go_at_call 169; refine (HCT.out _ _ _ (by first | exact HPA.out | exact HPB.out) hl3).mono ?_; rintro e wC ⟨⟨vC, rfl, hoC⟩, hbC⟩; obtain ⟨pC, nC, cC, rfl⟩ := own_slice hoC; (first | (have hb5 := bel_trans HD1.out hbC; have hoL := own_low (base' := w.heap.size + 3) hoC HZ1.out) | (have hb5 := bel_trans HD2.out hbC; have hoL := own_low (base' := w.heap.size + 3) hoC HZ2.out; have hnb := (hbC.block (w.heap.size + 3) HZ3.out).trans HNB.out)); obtain ⟨tcx, tcp, tcf⟩ := HTC.out _ hb5; have hs5 := hb5.size; have hbs1 : w.heap.size + 3 ≤ (wC.alloc (.cells #[.string tx] 9)).heap.size := (by simp; omega); have hbs2 : w.heap.size + 3 ≤ wC.heap.size := (by omega))
          | (refine step_append_lies _ (by rfl) _ _ _ (by rfl) (w.heap.size + 3) 9 i0 _ 1 16 Tryd.underlying24 hi0 hz0 hsz0 hby0 rfl (by decide) _ remarks.length (strV remarks) (by rfl) (World.ownsRow.alloc hoL _) ⟨wC.heap.size, 0, none⟩ 1 1 [.string tx] (by rfl) (by rfl) (World.news_of_block (cs := #[.string tx]) (t := 9) (fr := (0, 0)) (heap_alloc_new wC _)) (txtC_one tx) (by decide) hm1 hm2 hbs1 (wC.heap.size + 1) (by simp) ?_; intro gq cq w4 ho4 hg4 hr4 hl4; have hA0 := (HB0.out.mono hb5).alloc (.cells #[.string tx] 9); have hA2 := (HB2.out.mono hb5).alloc (.cells #[.string tx] 9); have hbA := bel_trans (bel_trans HB.out hb5) ((Below.refl _ _).alloc (Nat.le_refl _) (.cells #[.string tx] 9)); have hvA := World.ownsRow.alloc hoL (.cells #[.string tx] 9); have hx := hA0.far hg4 (own_row_ne hvA (by omega)).symm; have hxc := (hx.cell 9).trans rfl; have hxf := hx.frozen 9)
          | (refine step_append_lies _ (by rfl) _ _ _ (by rfl) (w.heap.size + 3) 9 i0 _ 1 16 Tryd.underlying24 hi0 hz0 hsz0 hby0 rfl (by decide) _ remarks.length (strV remarks) (by rfl) hoL ⟨w.heap.size + 3, 0, none⟩ 1 1 [.string tx] (by rfl) (by rfl) (World.news_of_block (cs := #[.string tx]) (t := 9) (fr := (0, 0)) hnb) (txtC_one tx) (by decide) hm1 hm2 hbs2 wC.heap.size rfl ?_; intro gq cq w4 ho4 hg4 hr4 hl4; have hA0 := HB0.out.mono hb5; have hA2 := HB2.out.mono hb5; have hbA := bel_trans HB.out hb5; have hvA := hoL; have hx := hA0.far hg4 (own_row_ne hvA (by omega)).symm; have hxc := (hx.cell 9).trans rfl; have hxf := hx.frozen 9))
        all_goals (
          go_wp2
          go_meet
          exact txt_done 9 hA0 hA2 hbA hvA (Nat.le_refl _) hg4 (by rw [List.length_append, strV, List.map_append]; exact ho4))
      case rest =>
        rename World => wx
        obtain ⟨p4, n4, c4, k0, k2, kb, kl⟩ := hcut
        have hrr := k0.range
        have HN1 := Lib.hid (pnrC_one (x := ⟨loc, off, names, segs, phones, tk, td, tm, recv, remarks, seats, queued⟩) (p1 := pn) (n1 := names.length) (c1 := cn) (p2 := ps) (n2 := segs.length) (c2 := cs) (p3 := pp) (n3 := phones.length) (c3 := cp) (p4 := p4) (n4 := n4) (c4 := c4) (p5 := px) (n5 := seats.length) (c5 := cx))
        go_wp2_with (first
          | (refine wpList_load_mid rfl 29 (.tmp 2) rfl w.heap.size 0 rfl _ _ hrr Tryd.underlying29 rfl info_pnr ?_)
          | (refine wpList_store_blk rfl 29 (.tmp 4) (.tmp 48) rfl (w.heap.size + 2) 29 zeroC [.string loc, .string off, .slice pn names.length cn, .slice ps segs.length cs, .slice pp phones.length cp, .int .i64 tk, .int .i64 td, .int .i64 tm, .string recv, .slice p4 n4 c4, .slice px seats.length cx, .bool queued] rfl rfl k2 rfl info_pnr HN1.out ?_; intro w8 hb8 hl8 hg8))
        have hW := kb.trans (below_le hl8 (by omega))
        have k := HPI.out.mono hW
        obtain ⟨q1, q2, q3, q4, q5, q6, q7⟩ := k.fit
        obtain ⟨f1, f2, f3, f4, f5⟩ := k.few
        have kz : ∀ V, Agr lo w.heap.size w8 V → HasL V (.slice p4 n4 c4) _ := fun V hA => ownL_agr (kl.grown hg8 (own_ne kl (by omega))) (by omega) hA
        have kf : (remarks ++ [tx]).length ≤ 1000 := by rw [List.length_append, List.length_singleton]; omega
        have kt : ∀ s ∈ remarks ++ [tx], s.size ≤ maxLen := fun s hs => by
          rcases List.mem_append.1 hs with h1 | h1
          · exact q7 s h1
          · rw [List.mem_singleton.1 h1]; exact HDT.out
        exact chg_back rfl rfl rfl rfl hb8 rfl hW ⟨⟨loc, off, names, segs, phones, tk, td, tm, recv, remarks ++ [tx], seats, queued⟩, _, _, _, _, _, rfl, (fun V hA => have k := (HPL.out.mono hW).agr hA; ⟨k.n, k.s, k.ph, kz V hA, k.x, ⟨q1, q2, q3, q4, q5, q6, kt⟩, k.wf, ⟨f1, f2, f3, kf, f5⟩⟩), rfl, rfl, fun f => ⟨f.nm, f.sg, f.ph, all_snoc f.rm (free_of_ref HFE.out), f.rc, f.tk, f.st⟩⟩
end Go.Proofs.YtjahkaidinahpaaDoor
