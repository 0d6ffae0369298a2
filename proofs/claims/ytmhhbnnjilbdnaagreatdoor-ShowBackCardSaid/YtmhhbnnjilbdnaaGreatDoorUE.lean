/- The PNR while its lines are read: its state, and what a line's reader leaves. -/
import Derived.Test.YtmhhbnnjilbdnaaGreatDoorUD
import Derived.Test.YtmhhbnnjilbdnaaGreatDoorLC
import Derived.Test.YtmhhbnnjilbdnaaGreatDoorLG
import Derived.Test.YtmhhbnnjilbdnaaGreatDoorLB
import Derived.Test.YtmhhbnnjilbdnaaGreatDoorLA
namespace Go.Proofs.YtmhhbnnjilbdnaaGreatDoor.Sh
open Go.RowKit En Go.ChangeMaps
set_option linter.unusedSimpArgs false
set_option linter.unusedVariables false
set_option maxRecDepth 20000

theorem own_neG {W : World} {B B' st st' n n' : Nat} {T T' : TypeId} {v v' : Value} {xs xs' : List Value} (hT : T ≠ T') (h : W.ownsRow B T st v n xs) (h' : W.ownsRow B' T' st' v' n' xs') : v.ownBlock = none ∨ v.ownBlock ≠ v'.ownBlock := by
  rcases h.2 with ⟨e, _⟩ | ⟨g, c, cur, e, _, hg, _⟩
  · exact .inl (by rw [e]; rfl)
  · right
    intro he
    rcases h'.2 with ⟨e', _⟩ | ⟨g', c', cur', e', _, hg', _⟩
    · rw [e, e'] at he; cases he
    · rw [e, e'] at he
      have he : some g = some g' := he
      injection he with he
      subst he
      rw [hg] at hg'
      injection hg' with hg'
      injection hg' with _ ht _
      exact hT ht

/-- A PNR that is made: its lists lie in memory from B on, and no two of texts in one block. -/
structure RdP (W : World) (B : Nat) (p : PnrT) (vn vs vp vr vx : Value) : Prop where
  n : W.ownsRow B 38 2 vn p.names.length (p.names.flatMap nameC)
  s : W.ownsRow B 44 5 vs p.segs.length (p.segs.flatMap segC)
  ph : W.ownsRow B 9 1 vp p.phones.length (strV p.phones)
  rm : W.ownsRow B 9 1 vr p.remarks.length (strV p.remarks)
  x : W.ownsRow B 72 4 vx p.seats.length (p.seats.flatMap placeC)
  d : vp.ownBlock = none ∨ vp.ownBlock ≠ vr.ownBlock
  few : p.names.length ≤ 1000 ∧ p.segs.length ≤ 1000 ∧ p.phones.length ≤ 1000 ∧ p.remarks.length ≤ 1000 ∧ p.seats.length ≤ 1000

theorem dis_symm {a b : Option Nat} (h : a = none ∨ a ≠ b) : b = none ∨ b ≠ a := by
  rcases b with _ | b
  · exact .inl rfl
  · refine .inr fun e => ?_
    rcases h with h | h
    · rw [← e] at h; cases h
    · exact h e.symm

/-- All but one list stay where another block is written. -/
theorem RdP.kept {W W' : World} {B : Nat} {p : PnrT} {vn vs vp vr vx : Value} {row : Option Nat} (h : RdP W B p vn vs vp vr vx) (hg : W.grownBy W' row)
    (hn : vn.ownBlock = none ∨ vn.ownBlock ≠ row) (hs : vs.ownBlock = none ∨ vs.ownBlock ≠ row) (hp : vp.ownBlock = none ∨ vp.ownBlock ≠ row) (hr : vr.ownBlock = none ∨ vr.ownBlock ≠ row) (hx : vx.ownBlock = none ∨ vx.ownBlock ≠ row) : RdP W' B p vn vs vp vr vx :=
  ⟨World.ownsRow.kept h.n hg hn, World.ownsRow.kept h.s hg hs, World.ownsRow.kept h.ph hg hp, World.ownsRow.kept h.rm hg hr, World.ownsRow.kept h.x hg hx, h.d, h.few⟩
theorem RdP.mono {W W' : World} {B : Nat} {p : PnrT} {vn vs vp vr vx : Value} (h : RdP W B p vn vs vp vr vx) (hb : Below W.heap.size W W') : RdP W' B p vn vs vp vr vx :=
  ⟨own_mono h.n hb, own_mono h.s hb, own_mono h.ph hb, own_mono h.rm hb, own_mono h.x hb, h.d, h.few⟩
theorem own_lt {w : World} {B : Nat} {e : TypeId} {st n : Nat} {v : Value} {xs : List Value} (h : w.ownsRow B e st v n xs) {g : Nat} (hg : w.heap.size ≤ g) : v.ownBlock = none ∨ v.ownBlock ≠ some g := .inr fun e => by
  have := (World.ownsRow.lt h _ e).2
  omega
/-- A block that came later is written. -/
theorem RdP.cell {W W1 W' : World} {B g : Nat} {p : PnrT} {vn vs vp vr vx : Value} (h : RdP W B p vn vs vp vr vx) (hb : Below W.heap.size W W1) (hg : W1.grownBy W' (some g)) (hW : W.heap.size ≤ g) : RdP W' B p vn vs vp vr vx :=
  (h.mono hb).kept hg (own_lt h.n hW) (own_lt h.s hW) (own_lt h.ph hW) (own_lt h.rm hW) (own_lt h.x hW)

theorem own_blk {W : World} {B g st n : Nat} {T T' : TypeId} {v : Value} {xs cs : List Value} (hT : T ≠ T') (h : W.ownsRow B T st v n xs) (hg : Blk W g T' cs) : v.ownBlock = none ∨ v.ownBlock ≠ some g := by
  rcases h.2 with ⟨e, _⟩ | ⟨k, c, cur, e, _, hk, _⟩
  · exact .inl (by rw [e]; rfl)
  · right
    intro he
    rw [e] at he
    have he : some k = some g := he
    injection he with he
    subst he
    unfold Blk at hg
    rw [hk] at hg
    injection hg with hg
    injection hg with _ ht _
    exact hT ht
theorem tNm : (38 : TypeId) ≠ 44 ∧ (38 : TypeId) ≠ 9 ∧ (38 : TypeId) ≠ 72 ∧ (38 : TypeId) ≠ 29 := by decide
theorem tSg : (44 : TypeId) ≠ 38 ∧ (44 : TypeId) ≠ 9 ∧ (44 : TypeId) ≠ 72 ∧ (44 : TypeId) ≠ 29 := by decide
theorem tSt : (9 : TypeId) ≠ 38 ∧ (9 : TypeId) ≠ 44 ∧ (9 : TypeId) ≠ 72 ∧ (9 : TypeId) ≠ 29 := by decide
theorem tPl : (72 : TypeId) ≠ 38 ∧ (72 : TypeId) ≠ 44 ∧ (72 : TypeId) ≠ 9 ∧ (72 : TypeId) ≠ 29 := by decide

/-- The PNR's own box is written. -/
theorem RdP.box {W W' : World} {B g : Nat} {p : PnrT} {vn vs vp vr vx : Value} {cs : List Value} (h : RdP W B p vn vs vp vr vx) (hk : Blk W g 29 cs) (hg : W.grownBy W' (some g)) : RdP W' B p vn vs vp vr vx :=
  h.kept hg (own_blk tNm.2.2.2 h.n hk) (own_blk tSg.2.2.2 h.s hk) (own_blk tSt.2.2.2 h.ph hk) (own_blk tSt.2.2.2 h.rm hk) (own_blk tPl.2.2.2 h.x hk)

theorem loc_dis {W : World} {B st n : Nat} {T : TypeId} {vr v v4 : Value} {xs : List Value} (hr : W.ownsRow B T st vr n xs) (hd : v.ownBlock = none ∨ v.ownBlock ≠ vr.ownBlock) (hl : v4.ownBlock = v.ownBlock ∨ ∃ k, v4.ownBlock = some k ∧ W.heap.size < k) : v4.ownBlock = none ∨ v4.ownBlock ≠ vr.ownBlock := by
  rcases hl with hl | ⟨k, hl, hk⟩
  · rw [hl]; exact hd
  · refine .inr fun e => ?_
    rw [hl] at e
    have := (World.ownsRow.lt hr _ e.symm).2
    omega

theorem RdP.phones {W W4 : World} {B : Nat} {p : PnrT} {vn vs vp vr vx v4 : Value} {S : ByteArray} (h : RdP W B p vn vs vp vr vx) (hg : W.grownBy W4 vp.ownBlock) (ho : W4.ownsRow B 9 1 v4 (p.phones.length + 1) (strV p.phones ++ [.string S])) (hl : v4.ownBlock = vp.ownBlock ∨ ∃ k, v4.ownBlock = some k ∧ W.heap.size < k) (hf : p.phones.length + 1 ≤ 1000) :
    RdP W4 B { p with phones := p.phones ++ [S] } vn vs v4 vr vx where
  n := World.ownsRow.kept h.n hg (own_neG tNm.2.1 h.n h.ph)
  s := World.ownsRow.kept h.s hg (own_neG tSg.2.1 h.s h.ph)
  ph := by
    rw [List.length_append, List.length_singleton, strV, List.map_append]
    exact ho
  rm := World.ownsRow.kept h.rm hg (dis_symm h.d)
  x := World.ownsRow.kept h.x hg (own_neG tPl.2.2.1 h.x h.ph)
  d := loc_dis h.rm h.d hl
  few := by
    have := h.few
    rw [List.length_append, List.length_singleton]
    exact ⟨this.1, this.2.1, hf, this.2.2.2⟩

theorem RdP.remarks {W W4 : World} {B : Nat} {p : PnrT} {vn vs vp vr vx v4 : Value} {S : ByteArray} (h : RdP W B p vn vs vp vr vx) (hg : W.grownBy W4 vr.ownBlock) (ho : W4.ownsRow B 9 1 v4 (p.remarks.length + 1) (strV p.remarks ++ [.string S])) (hl : v4.ownBlock = vr.ownBlock ∨ ∃ k, v4.ownBlock = some k ∧ W.heap.size < k) (hf : p.remarks.length + 1 ≤ 1000) :
    RdP W4 B { p with remarks := p.remarks ++ [S] } vn vs vp v4 vx where
  n := World.ownsRow.kept h.n hg (own_neG tNm.2.1 h.n h.rm)
  s := World.ownsRow.kept h.s hg (own_neG tSg.2.1 h.s h.rm)
  ph := World.ownsRow.kept h.ph hg h.d
  rm := by
    rw [List.length_append, List.length_singleton, strV, List.map_append]
    exact ho
  x := World.ownsRow.kept h.x hg (own_neG tPl.2.2.1 h.x h.rm)
  d := dis_symm (loc_dis h.ph (dis_symm h.d) hl)
  few := by
    have := h.few
    rw [List.length_append, List.length_singleton]
    exact ⟨this.1, this.2.1, this.2.2.1, hf, this.2.2.2.2⟩

theorem RdP.segs {W W4 : World} {B : Nat} {p : PnrT} {vn vs vp vr vx v4 : Value} {S : SegT} (h : RdP W B p vn vs vp vr vx) (hg : W.grownBy W4 vs.ownBlock) (ho : W4.ownsRow B 44 5 v4 (p.segs.length + 1) (p.segs.flatMap segC ++ segC S)) (hf : p.segs.length + 1 ≤ 1000) :
    RdP W4 B { p with segs := p.segs ++ [S] } vn v4 vp vr vx where
  n := World.ownsRow.kept h.n hg (own_neG tNm.1 h.n h.s)
  s := by
    rw [List.length_append, List.length_singleton, List.flatMap_append, show [S].flatMap segC = segC S by simp]
    exact ho
  ph := World.ownsRow.kept h.ph hg (own_neG tSt.2.1 h.ph h.s)
  rm := World.ownsRow.kept h.rm hg (own_neG tSt.2.1 h.rm h.s)
  x := World.ownsRow.kept h.x hg (own_neG tPl.2.1 h.x h.s)
  d := h.d
  few := by
    have := h.few
    rw [List.length_append, List.length_singleton]
    exact ⟨this.1, hf, this.2.2⟩

theorem RdP.seats {W W4 : World} {B : Nat} {p : PnrT} {vn vs vp vr vx v4 : Value} {S : PlaceT} (h : RdP W B p vn vs vp vr vx) (hg : W.grownBy W4 vx.ownBlock) (ho : W4.ownsRow B 72 4 v4 (p.seats.length + 1) (p.seats.flatMap placeC ++ placeC S)) (hf : p.seats.length + 1 ≤ 1000) :
    RdP W4 B { p with seats := p.seats ++ [S] } vn vs vp vr v4 where
  n := World.ownsRow.kept h.n hg (own_neG tNm.2.2.1 h.n h.x)
  s := World.ownsRow.kept h.s hg (own_neG tSg.2.2.1 h.s h.x)
  ph := World.ownsRow.kept h.ph hg (own_neG tSt.2.2.1 h.ph h.x)
  rm := World.ownsRow.kept h.rm hg (own_neG tSt.2.2.1 h.rm h.x)
  x := by
    rw [List.length_append, List.length_singleton, List.flatMap_append, show [S].flatMap placeC = placeC S by simp]
    exact ho
  d := h.d
  few := by
    have := h.few
    rw [List.length_append, List.length_singleton]
    exact ⟨this.1, this.2.1, this.2.2.1, this.2.2.2.1, hf⟩

/-- Names lie anew. -/
theorem RdP.names {W W4 : World} {B : Nat} {p : PnrT} {vn vs vp vr vx v4 : Value} {l : List NameT} (h : RdP W B p vn vs vp vr vx) (hg : W.grownBy W4 none) (ho : W4.ownsRow B 38 2 v4 l.length (l.flatMap nameC)) (hf : l.length ≤ 1000) :
    RdP W4 B { p with names := l } v4 vs vp vr vx where
  n := ho
  s := World.ownsRow.kept h.s hg (by cases vs.ownBlock <;> simp)
  ph := World.ownsRow.kept h.ph hg (by cases vp.ownBlock <;> simp)
  rm := World.ownsRow.kept h.rm hg (by cases vr.ownBlock <;> simp)
  x := World.ownsRow.kept h.x hg (by cases vx.ownBlock <;> simp)
  d := h.d
  few := ⟨hf, h.few.2⟩

/-- What a line's reader comes to. -/
def LineE (B : Nat) (p : PnrT) (e : Ending) (w : World) : Prop := ∃ vn vs vp vr vx, e = .returned (.tuple #[.agg (pnrC p vn vs vp vr vx).toArray, .bool true]) ∧ RdP w B p vn vs vp vr vx

theorem line_back {fn : Func} {p q : Tmp} {pp : PnrT} {B : Nat} (hf : fn.results = #[.cell p 29, .tmp q]) {a : Act} {w w0 : World} {g : Nat} {cs : List Value}
    (hp : a.tmps.getD p undef = .pointer (some ⟨g, 0, none⟩)) (hq : a.tmps.getD q undef = .bool true) (hd : a.defers = []) (hg : Blk w g 29 cs) (hl : cs.length = 12) (hw : Below B w0 w)
    (h : ∃ vn vs vp vr vx, cs = pnrC pp vn vs vp vr vx ∧ RdP w B pp vn vs vp vr vx) :
    bodyPost Tryz.prog fn (fun e w' => LineE B pp e w' ∧ Below B w0 w') .ret a w := by
  refine bodyPost_ret (results_row_tmp hf a.tmps w g 29 cs _ hp hg Tryz.underlying29 rfl (by rw [hl]; exact info_pnr)) hd ?_
  rw [hq]
  obtain ⟨vn, vs, vp, vr, vx, rfl, h2⟩ := h
  exact ⟨⟨vn, vs, vp, vr, vx, rfl, h2⟩, hw⟩

theorem rd_fin {w W w8 : World} {B : Nat} {p : PnrT} {vn vs vp vr vx : Value} (h : RdP w B p vn vs vp vr vx) (hW : Below w.heap.size w W) (hg : W.grownBy w8 (some (w.heap.size + 1))) (hB : B ≤ w.heap.size) : RdP w8 B p vn vs vp vr vx ∧ Below B w w8 := by
  refine ⟨h.cell hW hg (Nat.le_succ _), below_le (hW.grown hg hW.size fun k hk => ?_) hB⟩
  injection hk with hk
  omega

/-- The end of a reader that lengthened a list: the box's cell is set, the result is stored. -/
theorem rd_fin2 {w W w8 : World} {B j : Nat} {p : PnrT} {vn vs vp vr vx u : Value} {cs : List Value} (h : RdP W B p vn vs vp vr vx) (hW : Below B w W) (hz : B ≤ w.heap.size) (h0 : Blk W w.heap.size 29 cs) (h1 : Blk W (w.heap.size + 1) 29 zeroC) (hg : (W.setCell ⟨w.heap.size, j, none⟩ u).grownBy w8 (some (w.heap.size + 1))) : RdP w8 B p vn vs vp vr vx ∧ Below B w w8 := by
  have hs : W.grownBy (W.setCell ⟨w.heap.size, j, none⟩ u) (some w.heap.size) := gr_setCell1 (World.grownBy.refl _ _) j u
  have h1' := h1.far hs (fun e => by injection e with e; omega)
  have hb := hW.grown hs (Nat.le_trans hz hW.size) (fun k hk => by injection hk with hk; omega)
  exact ⟨(h.box h0 hs).box h1' hg, hb.grown hg (Nat.le_trans hz hb.size) (fun k hk => by injection hk with hk; omega)⟩

/-- From block B on W reads as w does. -/
def HiAgr (B : Nat) (w W : World) : Prop := ∀ a u, B ≤ a.block → w.cell? a = some u → W.cell? a = some u
theorem HiAgr.bel {B : Nat} {w W : World} (h : Below w.heap.size w W) : HiAgr B w W := fun a u _ k => cell_bel h k
theorem HiAgr.trans {B : Nat} {w W V : World} (h : HiAgr B w W) (k : HiAgr B W V) : HiAgr B w V := fun a u ha hc => k a u ha (h a u ha hc)
theorem HiAgr.gr {B g : Nat} {w W : World} (h : w.grownBy W (some g)) (hg : g < B) : HiAgr B w W := fun a u ha hc => h.cell hc (fun e => by injection e with e; omega)

/-- The words that a line has, in memory. -/
theorem words_cells {W : World} {B : Nat} {v : Value} {l : List (List UInt8)} (h : OwnL W B v (l.map mkB)) (hne : l ≠ []) : ∃ g c, v = .slice (some ⟨g, 0, none⟩) l.length c ∧ ∀ W', HiAgr B W W' → ∀ k a, l[k]? = some a → W'.cell? ⟨g, k, none⟩ = some (.string (mkB a)) := by
  have hn : 0 < (l.map mkB).length := by rw [List.length_map]; exact List.length_pos_iff.2 hne
  obtain ⟨b, c, e, hb, _⟩ := own_pos h hn
  refine ⟨b, c, by rw [e, List.length_map], fun W' hW k a hk => hW _ _ hb ?_⟩
  have hc := World.ownsRow.cells h (g := b) (by rw [e]; rfl) k (.string (mkB a)) (by
    unfold strV
    rw [List.getElem?_map, List.getElem?_map, hk]
    rfl)
  rw [Addr.add_lit, Nat.zero_add] at hc
  exact hc

theorem words_at {s : ByteArray} {ws : List (List UInt8)} {n : Nat} (hne : ws ≠ []) (hn : ws.length = n) (h : wordsL (toL s) = ws) (hs : s.size ≤ 1000) (W : World) : Calls Tryz.prog 33 #[.string s] W fun e w' => (∃ g c, e = .returned (.slice (some ⟨g, 0, none⟩) n c) ∧ ∀ W', HiAgr W.heap.size w' W' → ∀ k a, ws[k]? = some a → W'.cell? ⟨g, k, none⟩ = some (.string (mkB a))) ∧ Below W.heap.size W w' :=
  (words_any s W hs).mono fun e w' k => by
    obtain ⟨⟨v, rfl, ho⟩, hb⟩ := k
    rw [h] at ho
    obtain ⟨g, c, rfl, hc⟩ := words_cells ho hne
    rw [hn]
    exact ⟨⟨g, c, rfl, hc⟩, hb⟩

theorem mkB_toL (t : ByteArray) : mkB (toL t) = t := toL_inj (toL_mkB _)
theorem rest_of (x y : List UInt8) : (mkB (x ++ 32 :: y)).extract ((mkB x).size + 1) (mkB (x ++ 32 :: y)).size = mkB y := by
  apply toL_inj
  rw [toL_mkB]
  have e : toL ((mkB (x ++ 32 :: y)).extract ((mkB x).size + 1) (mkB (x ++ 32 :: y)).size) = (toL (mkB (x ++ 32 :: y))).drop ((mkB x).size + 1) := by
    unfold toL
    simp
    exact List.take_of_length_le (by simp)
  rw [e, toL_mkB, mkB_size]
  simp
theorem mkB_at {l : List UInt8} (h : 0 < (mkB l).size) : (mkB l)[0] = l.getD 0 0 := by
  rw [get_list _ 0 h, mkB_data]

/-- The boxes while a line is read: the PNR's with the cells cs, the result's; words stay from B on. -/
structure St (w w3 W : World) (B : Nat) (cs : List Value) : Prop where
  k : Blk W w.heap.size 29 cs
  t : Blk W (w.heap.size + 1) 29 zeroC
  a : HiAgr B w3 W
  b : Below w.heap.size w W
  lt : w.heap.size < B
theorem St.bel {w w3 W W' : World} {B : Nat} {cs : List Value} (h : St w w3 W B cs) (hb : Below W.heap.size W W') : St w w3 W' B cs := ⟨h.k.mono hb, h.t.mono hb, h.a.trans (.bel hb), bel_trans h.b hb, h.lt⟩
theorem St.set {w w3 W : World} {B : Nat} {cs : List Value} (h : St w w3 W B cs) (j : Nat) (u : Value) : St w w3 (W.setCell ⟨w.heap.size, j, none⟩ u) B (cs.set j u) := by
  have hs : W.grownBy (W.setCell ⟨w.heap.size, j, none⟩ u) (some w.heap.size) := gr_setCell1 (World.grownBy.refl _ _) j u
  exact ⟨h.k.set j u, h.t.far hs (fun e => by injection e with e; omega), h.a.trans (.gr hs h.lt), h.b.setCell (p := ⟨w.heap.size, j, none⟩) (Nat.le_refl _) _, h.lt⟩

theorem tick_head (q : PnrT) : ∃ t, tickLn q = 84 :: 32 :: t := by
  unfold tickLn
  split
  · exact ⟨_, rfl⟩
  · split
    · exact ⟨_, rfl⟩
    · split
      · exact ⟨_, rfl⟩
      · exact ⟨_, rfl⟩
theorem read_day {d : Int} (h : 0 ≤ d ∧ d < 366) {s : ByteArray} (hs : toL s = dTx d) (W : World) : Calls Tryz.prog 58 #[.string s] W fun e w' => e = .returned (.tuple #[.int .i64 d, .bool true]) ∧ Below W.heap.size W w' := by
  have k := Da.rread_any s W
  have e : Da.readS s.data.toList = some d.toNat := by
    show Da.readS (toL s) = _
    rw [hs]
    unfold dTx
    rw [if_pos h]
    exact (Da.day_facts d.toNat (by omega)).2.2.2
  rw [e] at k
  have e2 : Da.optI (some d.toNat) = d := by unfold Da.optI; simp only; omega
  rw [e2] at k
  exact k
theorem read_clk {d : Int} (h : 0 ≤ d ∧ d < 1440) {s : ByteArray} (hs : toL s = cTx d) (W : World) : Calls Tryz.prog 59 #[.string s] W fun e w' => e = .returned (.tuple #[.int .i64 d, .bool true]) ∧ Below W.heap.size W w' := by
  have k := Da.rreadClock_any s W
  have e : Da.readC s.data.toList = some d.toNat := by
    show Da.readC (toL s) = _
    rw [hs]
    unfold cTx
    rw [if_pos h]
    exact Da.clock_facts d.toNat (by omega)
  rw [e] at k
  have e2 : Da.optI (some d.toNat) = d := by unfold Da.optI; simp only; omega
  rw [e2] at k
  exact k
theorem cut_left (x y : List UInt8) {n : Nat} (h : x.length = n) : toL ((mkB (x ++ y)).extract 0 n) = x := by
  have e : toL ((mkB (x ++ y)).extract 0 n) = (toL (mkB (x ++ y))).take n := by
    unfold toL
    simp
  rw [e, toL_mkB, ← h]
  simp
theorem cut_right (x y : List UInt8) {n : Nat} (h : x.length = n) : toL ((mkB (x ++ y)).extract n (mkB (x ++ y)).size) = y := by
  have e : toL ((mkB (x ++ y)).extract n (mkB (x ++ y)).size) = (toL (mkB (x ++ y))).drop n := by
    unfold toL
    simp
    exact List.take_of_length_le (by simp)
  rw [e, toL_mkB, ← h]
  simp

/-- The two boxes of a line's reader. -/
theorem boxes2 (w : World) (pc : List Value) : ∃ w2, (w.alloc (.cells pc.toArray 29)).alloc (.cells zeroC.toArray 29) = w2 ∧ Blk w2 w.heap.size 29 pc ∧ Blk w2 (w.heap.size + 1) 29 zeroC ∧ Below w.heap.size w w2 ∧ w2.heap.size = w.heap.size + 2 := by
  refine ⟨_, rfl, (Blk.new w _ pc).alloc _, ?_, ?_, by simp⟩
  · have := Blk.new (w.alloc (.cells pc.toArray 29)) 29 zeroC
    rwa [show (w.alloc (.cells pc.toArray 29)).heap.size = w.heap.size + 1 by simp] at this
  · exact ((Below.refl _ _).alloc (Nat.le_refl _) _).alloc (by simp) _
end Go.Proofs.YtmhhbnnjilbdnaaGreatDoor.Sh
