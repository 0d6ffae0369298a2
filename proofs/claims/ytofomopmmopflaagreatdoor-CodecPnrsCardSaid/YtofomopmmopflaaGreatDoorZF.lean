/- jetwayref14.ReadPnr. Printed by tools/gen_zf.py. -/
import Derived.Test.YtofomopmmopflaaGreatDoorZE
namespace Go.Proofs.YtofomopmmopflaaGreatDoor
open Go.RowKit Go.ChangeMaps
set_option linter.unusedSimpArgs false
set_option linter.unusedVariables false
set_option maxRecDepth 20000

theorem bel_grZ {B b : Nat} {a w w' : World} (h : Below B a w) (hg : w.grownBy w' (some b)) (hb : B ≤ b) (hs : B ≤ w.heap.size) : Below B a w' := h.grown hg hs fun k hk => by injection hk with hk; omega
theorem stP_formZ {o : Option (List UInt8)} {e : Ending} (h : stP o e) : ∃ (t : ByteArray) (z : Bool), e = .returned (.tuple #[.string t, .bool z]) ∧ ((∃ bs, o = some bs ∧ t = strA bs ∧ z = true) ∨ (o = none ∧ t = ⟨#[]⟩ ∧ z = false)) := by
  rcases h with ⟨bs, h1, h2⟩ | ⟨h1, h2⟩
  · exact ⟨_, _, h2, .inl ⟨bs, h1, rfl, rfl⟩⟩
  · exact ⟨_, _, h2, .inr ⟨h1, rfl, rfl⟩⟩
/-- A PNR and yes, or no. -/
def rpnP (o : Option PnrT) (e : Ending) (w : World) : Prop :=
  (∃ p vn vs vp vr vx, o = some p ∧ e = .returned (.tuple #[.agg (pnrC p vn vs vp vr vx).toArray, .bool true]) ∧ PIn w p vn vs vp vr vx) ∨ (o = none ∧ e = .returned (.tuple #[.agg zeroC.toArray, .bool false]))
theorem rpn_back {fn : Func} {p q : Tmp} (hf : fn.results = #[.cell p 29, .tmp q]) {a : Act} {w w0 : World} {g : Nat} {cs : List Value} {z : Bool} {o : Option PnrT}
    (hp : a.tmps.getD p undef = .pointer (some ⟨g, 0, none⟩)) (hq : a.tmps.getD q undef = .bool z) (hd : a.defers = []) (hg : Blk w g 29 cs) (hl : cs.length = 12) (hw : Below w0.heap.size w0 w)
    (h : (∃ x vn vs vp vr vx, o = some x ∧ cs = pnrC x vn vs vp vr vx ∧ PIn w x vn vs vp vr vx ∧ z = true) ∨ (o = none ∧ cs = zeroC ∧ z = false)) :
    bodyPost Tryz.prog fn (fun e w' => rpnP o e w' ∧ Below w0.heap.size w0 w') .ret a w := by
  refine bodyPost_ret (results_row_tmp hf a.tmps w g 29 cs _ hp hg Tryz.underlying29 rfl (by rw [hl]; exact info_pnr)) hd ?_
  rw [hq]
  rcases h with ⟨x, vn, vs, vp, vr, vx, h1, rfl, h2, rfl⟩ | ⟨h1, rfl, rfl⟩
  · exact ⟨.inl ⟨x, vn, vs, vp, vr, vx, h1, rfl, h2⟩, hw⟩
  · exact ⟨.inr ⟨h1, rfl⟩, hw⟩

set_option maxHeartbeats 16000000 in
theorem rreadPnr_any (s : ByteArray) (w : World) (hl : s.size ≤ 20000) :
    Calls Tryz.prog 13 #[.string s] w fun e w' => rpnP (readPn (toL s)) e w' ∧ Below w.heap.size w w' := by
  have hz1 : (w.alloc (.cells #[.string ⟨#[]⟩, .string ⟨#[]⟩, .slice none 0 0, .slice none 0 0, .slice none 0 0, .int .i64 0, .int .i64 0, .int .i64 0, .string ⟨#[]⟩, .slice none 0 0, .slice none 0 0, .bool false] 29)).heap.size = w.heap.size + 1 := by simp
  have hcs0 : CS ((w.alloc (.cells #[.string ⟨#[]⟩, .string ⟨#[]⟩, .slice none 0 0, .slice none 0 0, .slice none 0 0, .int .i64 0, .int .i64 0, .int .i64 0, .string ⟨#[]⟩, .slice none 0 0, .slice none 0 0, .bool false] 29)).alloc (.cells #[.string s, .int .i64 0, .bool false] 98)) (w.heap.size + 1) s 0 false := ⟨by have h := Blk.new (w.alloc (.cells #[.string ⟨#[]⟩, .string ⟨#[]⟩, .slice none 0 0, .slice none 0 0, .slice none 0 0, .int .i64 0, .int .i64 0, .int .i64 0, .string ⟨#[]⟩, .slice none 0 0, .slice none 0 0, .bool false] 29)) 98 [.string s, .int .i64 0, .bool false]; rw [hz1] at h; exact h, Nat.zero_le _⟩
  have hb0 : Below w.heap.size w ((w.alloc (.cells #[.string ⟨#[]⟩, .string ⟨#[]⟩, .slice none 0 0, .slice none 0 0, .slice none 0 0, .int .i64 0, .int .i64 0, .int .i64 0, .string ⟨#[]⟩, .slice none 0 0, .slice none 0 0, .bool false] 29)).alloc (.cells #[.string s, .int .i64 0, .bool false] 98)) := ((Below.refl _ _).alloc (Nat.le_refl _) _).alloc (by simp) _
  have hres : Blk ((w.alloc (.cells #[.string ⟨#[]⟩, .string ⟨#[]⟩, .slice none 0 0, .slice none 0 0, .slice none 0 0, .int .i64 0, .int .i64 0, .int .i64 0, .string ⟨#[]⟩, .slice none 0 0, .slice none 0 0, .bool false] 29)).alloc (.cells #[.string s, .int .i64 0, .bool false] 98)) w.heap.size 29 zeroC := (Blk.new w 29 zeroC).alloc _
  have hz2 : ((w.alloc (.cells #[.string ⟨#[]⟩, .string ⟨#[]⟩, .slice none 0 0, .slice none 0 0, .slice none 0 0, .int .i64 0, .int .i64 0, .int .i64 0, .string ⟨#[]⟩, .slice none 0 0, .slice none 0 0, .bool false] 29)).alloc (.cells #[.string s, .int .i64 0, .bool false] 98)).heap.size = w.heap.size + 2 := by simp
  have HB0 := Lib.hid hb0
  have HRES := Lib.hid hres
  have HC0 := Lib.hid hcs0
  have HZ0 := Lib.hid hz2
  have HFI := Lib.hid (first_any (w.heap.size + 1) s 80 _ hcs0 (by omega) (by decide))
  have HBO : RowKit.Hid (∀ k bad W, CS W (w.heap.size + 1) s k bad → Stg (pPnr (toL s)) bad (bindP (pText ((toL s).drop k)) fun loc r => bindP (pText r) fun off r => pP3 loc off r) → Calls Tryz.prog 44 #[.pointer (some ⟨w.heap.size + 1, 0, none⟩)] W fun e w' => BodyP (toL s) (w.heap.size + 1) s W e w') := Lib.hid fun k bad W h hst => rbody_any (toL s) (w.heap.size + 1) s k bad W h (by omega) hst
  clear hl hcs0 hb0 hres hz1 hz2
  go_enter Tryz.func13, Tryz.ntmps13
  go_upto_region 2 with fail
  generalize hwq : ((w.alloc (.cells #[.string ⟨#[]⟩, .string ⟨#[]⟩, .slice none 0 0, .slice none 0 0, .slice none 0 0, .int .i64 0, .int .i64 0, .int .i64 0, .string ⟨#[]⟩, .slice none 0 0, .slice none 0 0, .bool false] 29)).alloc (.cells #[.string s, .int .i64 0, .bool false] 98)) = wq at HB0 HRES HC0 HZ0 HFI
  try rw [hwq]
  clear hwq
  go_upto_region 3 with (first
    | (go_at_call 43; (with_reducible refine HFI.out.mono ?_); rintro e w2 ⟨x, k2, b2, rfl, hc2, hx1, hx2, hg2⟩; obtain ⟨d0, d1, d2, e1, e2⟩ := hc2.cells))
  have hz2 : w.heap.size + 2 ≤ w2.heap.size := by have := hg2.size; have := HZ0.out; omega
  have hc3 : CS (w2.setCell ⟨w.heap.size + 1, 2, none⟩ (.bool ((x : Int) != 80))) (w.heap.size + 1) s k2 ((x : Int) != 80) := hc2.goBad _
  have hb3 : Below w.heap.size w (w2.setCell ⟨w.heap.size + 1, 2, none⟩ (.bool ((x : Int) != 80))) := (bel_grZ HB0.out hg2 (Nat.le_succ _) HB0.out.size).setCell (p := ⟨w.heap.size + 1, 2, none⟩) (Nat.le_succ _) _
  have hs3 : (w2.setCell ⟨w.heap.size + 1, 2, none⟩ (.bool ((x : Int) != 80))).heap.size = w2.heap.size := by simp [World.setCell]
  have hr3 : Blk (w2.setCell ⟨w.heap.size + 1, 2, none⟩ (.bool ((x : Int) != 80))) w.heap.size 29 zeroC := (HRES.out.far hg2 (fun e => by injection e with e; omega)).far (gr_setCell1 (World.grownBy.refl _ _) 2 _) (fun e => by injection e with e; omega)
  have hst : Stg (pPnr (toL s)) ((x : Int) != 80) (bindP (pText ((toL s).drop k2)) fun loc r => bindP (pText r) fun off r => pP3 loc off r) := Stg.start (α := Unit) (c := 80) (l := toL s) (K := fun (_ : Unit) r => bindP (pText r) fun loc r => bindP (pText r) fun off r => pP3 loc off r) rfl (fun h => hx1 (by rw [bne_eq_false_iff_eq] at h; show x = 80; omega)) (fun h => hx2 (by rw [bne_iff_ne] at h; show x ≠ 80; omega))
  have HST := Lib.hid hst
  have HC3 := Lib.hid hc3
  have HB3 := Lib.hid hb3
  have HR3 := Lib.hid hr3
  rw [← hs3] at hz2
  have HZ3 := Lib.hid hz2
  generalize w2.setCell ⟨w.heap.size + 1, 2, none⟩ (.bool ((x : Int) != 80)) = w3 at *
  generalize ((x : Int) != 80) = bad1 at *
  clear hc2 hx1 hx2 hg2 d0 d1 d2 e1 e2 HFI HB0 hs3 hc3 hb3 hr3 hst HRES HC0 HZ0 hz2
  have HB4 := Lib.hid (HBO.out k2 bad1 w3 HC3.out HST.out)
  go_upto_region 4 with (first
    | (go_at_call 44; (with_reducible refine HB4.out.mono ?_); rintro e w4 ⟨p, vn, vs, vp, vr, vx, k4, b4, r4, rfl, hpi, hc4, hst4, hg4, hpw⟩; obtain ⟨q1, j1, rfl⟩ := hpi.n.len; obtain ⟨q2, j2, rfl⟩ := hpi.s.len; obtain ⟨q3, j3, rfl⟩ := own_len hpi.ph; obtain ⟨q4, j4, rfl⟩ := own_len hpi.rm; obtain ⟨q5, j5, rfl⟩ := hpi.x.len; unfold pnrC; simp only [List.toArray]; have HPI := Lib.hid hpi; have HST4 := Lib.hid hst4; have HC4 := Lib.hid hc4; have HG4 := Lib.hid hg4; have HPW := Lib.hid (hpw · w.heap.size); clear hpi hst4 hc4 hg4 hpw; generalize hm1 : p.names.length = m1 at *; generalize hm2 : p.segs.length = m2 at *; generalize hm3 : p.phones.length = m3 at *; generalize hm4 : p.remarks.length = m4 at *; generalize hm5 : p.seats.length = m5 at *; clear hm1 hm2 hm3 hm4 hm5)
    | (refine wpList_store_blk rfl 29 (.tmp 5) (.tmp 18) rfl w4.heap.size 29 zeroC [.string p.loc, .string p.off, .slice q1 m1 j1, .slice q2 m2 j2, .slice q3 m3 j3, .int .i64 p.tk, .int .i64 p.td, .int .i64 p.tm, .string p.recv, .slice q4 m4 j4, .slice q5 m5 j5, .bool p.queued] rfl rfl (Blk.new w4 29 zeroC) rfl info_pnr (pnrC_one (x := p)) ?_; intro w5 ha5 hb5 hgr5))
  (try dsimp only [Act.put])
  have h45 : Below w4.heap.size w4 w5 := ((Below.refl _ _).alloc (Nat.le_refl _) _).trans hb5
  have HC5 := Lib.hid (HC4.out.mono h45)
  have HPI5 := Lib.hid (HPI.out.mono h45)
  have HPW5 : RowKit.Hid (∀ W, w5.grownBy W (some w.heap.size) → PIn W p (.slice q1 m1 j1) (.slice q2 m2 j2) (.slice q3 m3 j3) (.slice q4 m4 j4) (.slice q5 m5 j5)) := Lib.hid fun W hW => HPW.out W (by have := HZ3.out; omega) (gby_trans (gr_of_below h45 _) hW)
  have HR5 := Lib.hid ((HR3.out.far HG4.out (fun e => by injection e with e; omega)).mono h45)
  have HB5 : RowKit.Hid (Below w.heap.size w w5) := Lib.hid (below_low (bel_grZ HB3.out HG4.out (Nat.le_succ _) HB3.out.size) (bel_grZ HB3.out HG4.out (Nat.le_succ _) HB3.out.size).size h45)
  have HA5 := Lib.hid ha5
  have HLT : RowKit.Hid (w.heap.size < w4.heap.size) := Lib.hid (by have := HZ3.out; have := HG4.out.size; omega)
  clear h45 ha5 hb5 hgr5 HC4 HPI HPW HR3 HG4 HB3 HC3 HB4 HBO HST HZ3
  generalize w4.heap.size = gp at *
  have HPN : RowKit.Hid (Calls Tryz.prog 9 #[.agg #[.string p.loc, .string p.off, .slice q1 m1 j1, .slice q2 m2 j2, .slice q3 m3 j3, .int .i64 p.tk, .int .i64 p.td, .int .i64 p.tm, .string p.recv, .slice q4 m4 j4, .slice q5 m5 j5, .bool p.queued]] w5 fun e w' => stP (pnrF p) e ∧ Below w5.heap.size w5 w') := Lib.hid (rpnr_any p _ _ _ _ _ w5 HPI5.out)
  have hrg := HA5.out.range
  cases b4 with
  | true =>
    have HNO := Lib.hid (readPn_none (HST4.out.2 rfl))
    go_wp2_with (first
      | (refine wpList_load_mid rfl 29 (.tmp 5) rfl gp 0 rfl _ _ hrg Tryz.underlying29 rfl info_pnr ?_)
      | (go_at_call 9; (with_reducible refine HPN.out.mono ?_); rintro e w7 ⟨hst, hb7⟩; obtain ⟨t7, z7, rfl, h7⟩ := stP_formZ hst; obtain ⟨d0, d1, d2, e1, e2⟩ := (HC5.out.mono hb7).cells)
      | (refine wpList_store_blk rfl 29 (.tmp 2) (.tmp 37) rfl w.heap.size 29 zeroC zeroC rfl rfl (HR5.out.mono hb7) rfl info_pnr zeroC_one ?_; intro w8 hb8 hl8 _))
    exact rpn_back rfl rfl rfl rfl hb8 rfl ((below_low HB5.out HB5.out.size hb7).trans hl8) (.inr ⟨HNO.out, rfl, rfl⟩)
  | false =>
    have HPB := Lib.hid (HST4.out.1 rfl)
    go_upto_region 5 with (first
      | (refine wpList_load_mid rfl 29 (.tmp 5) rfl gp 0 rfl _ _ hrg Tryz.underlying29 rfl info_pnr ?_)
      | (go_at_call 9; (with_reducible refine HPN.out.mono ?_); rintro e w7 ⟨hst, hb7⟩; obtain ⟨t7, z7, rfl, h7⟩ := stP_formZ hst; obtain ⟨d0, d1, d2, e1, e2⟩ := (HC5.out.mono hb7).cells))
    rcases h7 with ⟨bs, h1, rfl, rfl⟩ | ⟨h1, rfl, rfl⟩
    · by_cases hbb : bs = toL s
      · have HY := Lib.hid (readPn_some HPB.out (by rw [h1, hbb]))
        have hss : strA bs = s := by rw [hbb, strA_of]
        have hks : (s.toList == s.toList) = true := by simp
        have hrg := (HA5.out.mono hb7).range
        rw [hss]
        clear h1 hbb hss hst
        go_wp2_with (first
          | (refine wpList_load_mid rfl 29 (.tmp 5) rfl gp 0 rfl _ _ hrg Tryz.underlying29 rfl info_pnr ?_)
          | (refine wpList_store_blk rfl 29 (.tmp 2) (.tmp 38) rfl w.heap.size 29 zeroC [.string p.loc, .string p.off, .slice q1 m1 j1, .slice q2 m2 j2, .slice q3 m3 j3, .int .i64 p.tk, .int .i64 p.td, .int .i64 p.tm, .string p.recv, .slice q4 m4 j4, .slice q5 m5 j5, .bool p.queued] rfl rfl (HR5.out.mono hb7) rfl info_pnr (pnrC_one (x := p)) ?_; intro w8 hb8 hl8 hg8))
        have hpi8 : PIn w8 p (.slice q1 m1 j1) (.slice q2 m2 j2) (.slice q3 m3 j3) (.slice q4 m4 j4) (.slice q5 m5 j5) := by
          exact HPW5.out w8 (gby_trans (gr_of_below hb7 _) hg8)
        exact rpn_back rfl rfl rfl rfl hb8 rfl ((below_low HB5.out HB5.out.size hb7).trans hl8) (.inl ⟨p, _, _, _, _, _, HY.out, rfl, hpi8, rfl⟩)
      · have HY := Lib.hid (readPn_other HPB.out (by rw [h1]; exact fun e => hbb (by injection e with e)))
        have hks : ((strA bs).toList == s.toList) = false := by rw [beq_eq_false_iff_ne]; exact fun h => hbb (by rw [← toList_inj h, strA_toL])
        generalize strA bs = S9 at *
        clear h1 hbb hst
        go_wp2_with (first
          | (refine wpList_store_blk rfl 29 (.tmp 2) (.tmp 37) rfl w.heap.size 29 zeroC zeroC rfl rfl (HR5.out.mono hb7) rfl info_pnr zeroC_one ?_; intro w8 hb8 hl8 _))
        exact rpn_back rfl rfl rfl rfl hb8 rfl ((below_low HB5.out HB5.out.size hb7).trans hl8) (.inr ⟨HY.out, rfl, rfl⟩)
    · have HY := Lib.hid (readPn_other HPB.out (by rw [h1]; exact fun e => by cases e))
      clear h1 hst
      go_wp2_with (first
        | (refine wpList_store_blk rfl 29 (.tmp 2) (.tmp 37) rfl w.heap.size 29 zeroC zeroC rfl rfl (HR5.out.mono hb7) rfl info_pnr zeroC_one ?_; intro w8 hb8 hl8 _))
      exact rpn_back rfl rfl rfl rfl hb8 rfl ((below_low HB5.out HB5.out.size hb7).trans hl8) (.inr ⟨HY.out, rfl, rfl⟩)
end Go.Proofs.YtofomopmmopflaaGreatDoor
