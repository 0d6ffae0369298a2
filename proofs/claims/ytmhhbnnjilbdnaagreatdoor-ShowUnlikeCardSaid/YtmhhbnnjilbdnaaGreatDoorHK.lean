/- Apply (the reference); an edit that came in. -/
import Derived.Test.YtmhhbnnjilbdnaaGreatDoorKA
import Derived.Test.YtmhhbnnjilbdnaaGreatDoorKB
import Derived.Test.YtmhhbnnjilbdnaaGreatDoorKF
import Derived.Test.YtmhhbnnjilbdnaaGreatDoorPlnP
import Derived.Test.YtmhhbnnjilbdnaaGreatDoorKG
import Derived.Test.YtmhhbnnjilbdnaaGreatDoorSA
import Derived.Test.YtmhhbnnjilbdnaaGreatDoorKJ
import Derived.Test.YtmhhbnnjilbdnaaGreatDoorKL
import Derived.Test.YtmhhbnnjilbdnaaGreatDoorKM
import Derived.Test.YtmhhbnnjilbdnaaGreatDoorLA
import Derived.Test.YtmhhbnnjilbdnaaGreatDoorLB
import Derived.Test.YtmhhbnnjilbdnaaGreatDoorLD
import Derived.Test.YtmhhbnnjilbdnaaGreatDoorHJ
import Derived.Test.YtmhhbnnjilbdnaaGreatDoorRows
import Derived.WalkKit
import Derived.WalkSpells
import Derived.WalkLawsBesides
import Derived.Lib.ConvBytes
import Derived.Lib.Hide
import Derived.Lib.SliceRun
import Derived.IntWalk
import Derived.BigQuiet
import Derived.Deep.QuietTactic
import Derived.Deep.RegionWith
import Derived.Deep.RegionHeld3
import Derived.Deep.LoopGhost
import Derived.Deep.CutRange
import Derived.Deep.CutBlock
import Derived.Deep.MidRow
import Derived.Laws.OwnMore
import Derived.OwnWalk
import Derived.Laws.AppendOwnNone
import Derived.Laws.Rows
import Derived.Laws.MakeOwn
import Derived.Laws.CopyOwn
import Derived.Laws.BitsAllLaws
import Derived.DeepKeys5
import Derived.Maps.OwnOps
import Derived.Handy
import Derived.Lib.AppendStr
import Derived.StillTailTactics
import Derived.Deep.AppendLies
import Derived.WideKeyEntry
import Derived.ProofKit
import Derived.OpenShut
import Derived.SliceStrings
import Derived.Lib.SmallJoins
import Derived.Deep.SlicePairs
import Derived.ChangeSlices
namespace Go.Proofs.YtmhhbnnjilbdnaaGreatDoor
open Go.RowKit Go.ChangeShapes Go.WideShapes Go.ChangeAt Go.Joins Go.Deep
set_option linter.unusedSimpArgs false
set_option linter.unusedVariables false
set_option maxRecDepth 100000

/-- What Apply comes to: some PNR in memory; where the edit was taken, one whose parts are formed if they were. -/
def AppP (p : PnrT) (e : Ending) (w : World) : Prop := ∃ x vn vs vp vr vx z, e = .returned (.tuple #[.agg (pnrC x vn vs vp vr vx).toArray, .int .i64 z]) ∧ PIn w x vn vs vp vr vx ∧ (z = 0 → Kept p x)

theorem app_back {fn : Func} {p q : Tmp} {pp : PnrT} (hf : fn.results = #[.cell p 29, .tmp q]) {a : Act} {w w0 : World} {g : Nat} {cs : List Value} {z : Int}
    (hp : a.tmps.getD p undef = .pointer (some ⟨g, 0, none⟩)) (hq : a.tmps.getD q undef = .int .i64 z) (hd : a.defers = []) (hg : Blk w g 29 cs) (hl : cs.length = 12) (hw : Below w0.heap.size w0 w)
    (h : ∃ x vn vs vp vr vx, cs = pnrC x vn vs vp vr vx ∧ PIn w x vn vs vp vr vx ∧ (z = 0 → Kept pp x)) :
    bodyPost Tryz.prog fn (fun e w' => AppP pp e w' ∧ Below w0.heap.size w0 w') .ret a w := by
  refine bodyPost_ret (results_row_tmp hf a.tmps w g 29 cs _ hp hg Tryz.underlying29 rfl (by rw [hl]; exact info_pnr)) hd ?_
  rw [hq]
  obtain ⟨x, vn, vs, vp, vr, vx, rfl, h2, h3⟩ := h
  exact ⟨⟨x, vn, vs, vp, vr, vx, z, rfl, h2, h3⟩, hw⟩

def pnr0 : PnrT := ⟨⟨#[]⟩, ⟨#[]⟩, [], [], [], 0, 0, 0, ⟨#[]⟩, [], [], false⟩
theorem pnr0_in (w : World) : PIn w pnr0 (.slice none 0 0) (.slice none 0 0) (.slice none 0 0) (.slice none 0 0) (.slice none 0 0) :=
  ⟨HasE.nil _, HasE.nil _, HasL.nil _, HasL.nil _, HasE.nil _, ⟨Nat.zero_le _, Nat.zero_le _, (fun _ h => by cases h), (fun _ h => by cases h), (fun _ h => by cases h), Nat.zero_le _, (fun _ h => by cases h)⟩, (fun _ h => by cases h), Nat.zero_le _, Nat.zero_le _, Nat.zero_le _, Nat.zero_le _, Nat.zero_le _⟩

set_option maxHeartbeats 16000000 in
theorem apply_any (p : PnrT) (vn vs vp vr vx : Value) (d : EditT) (w : World) (h : PIn w p vn vs vp vr vx) (hf : Room p) (hd : EditOk d) :
    Calls Tryz.prog 12 #[.agg (pnrC p vn vs vp vr vx).toArray, .agg (editC d).toArray] w fun e w' => AppP p e w' ∧ Below w.heap.size w w' := by
  obtain ⟨w3, e3, b0, b1, b2, hb3, hz3⟩ := boxes3 w (pnrC p vn vs vp vr vx) (editC d)
  have HCH : RowKit.Hid (Calls Tryz.prog 37 #[.agg (pnrC p vn vs vp vr vx).toArray, .agg (editC d).toArray] w3 fun e w' => ChgP w.heap.size w3.heap.size p e w' ∧ Below w3.heap.size w3 w') := Lib.hid (change_any w.heap.size p _ _ _ _ _ d w3 hb3.size (LowP.of h hb3) hf hd)
  have HB := Lib.hid hb3
  have HLT2 : RowKit.Hid (w.heap.size + 2 < w3.heap.size) := Lib.hid (by omega)
  have hr0 := b0.range
  have hr1 := b1.range
  have HB2 := Lib.hid b2
  clear h hd hf hb3 b0 b1 b2
  unfold pnrC at e3 hr0 HCH ⊢
  unfold editC at e3 hr1 HCH ⊢
  unfold zeroC at e3
  go_enter Tryz.func12, Tryz.ntmps12
  go_upto_region 1 with fail
  try rw [e3]
  clear e3
  rw [show w.heap.size + 1 + 1 = w.heap.size + 2 from rfl]
  go_upto_region 2 with (first
    | (refine wpList_load_mid rfl 29 (.tmp 2) rfl w.heap.size 0 rfl _ _ hr0 Tryz.underlying29 rfl info_pnr ?_)
    | (refine wpList_load_mid rfl 48 (.tmp 3) rfl (w.heap.size + 1) 0 rfl _ _ hr1 Tryz.underlying48 rfl info_edit ?_)
    | (go_at_call 37; (with_reducible refine (HCH.out).mono ?_); rintro e w4 ⟨⟨x, xn, xs, xp, xr, xx, z, rfl, hx, hk⟩, hb4⟩; have hone := pin_one (hx w4 (Agr.refl _ _ _)))
    | (refine wpList_store_blk rfl 29 (.tmp 6) (.tmp 12) rfl w4.heap.size 29 zeroC (pnrC x xn xs xp xr xx) rfl rfl (Blk.new w4 29 zeroC) rfl info_pnr hone ?_; intro w5 hb5 hl5 hg5))
  have hb45 : Below w4.heap.size w4 w5 := ((Below.refl _ _).alloc (Nat.le_refl _) (.cells zeroC.toArray 29)).trans hl5
  have hb25 := HB2.out.mono (bel_trans hb4 hb45)
  have hb5w := bel_trans HB.out (bel_trans hb4 hb45)
  by_cases hz : z = 0
  · subst hz
    have hr5 := hb5.range
    go_wp2_with (first
      | (refine wpList_load_mid rfl 29 (.tmp 6) rfl w4.heap.size 0 rfl _ _ hr5 Tryz.underlying29 rfl info_pnr ?_)
      | (refine wpList_store_blk rfl 29 (.tmp 4) (.tmp 18) rfl (w.heap.size + 2) 29 zeroC (pnrC x xn xs xp xr xx) rfl rfl hb25 rfl info_pnr hone ?_; intro w8 hb8 hl8 hg8))
    exact app_back rfl rfl rfl rfl hb8 rfl (hb5w.trans (below_le hl8 (by omega))) ⟨x, xn, xs, xp, xr, xx, rfl, hx w8 (fun a u ha hc => agr_store hg8 (Nat.le_add_right _ 2) HLT2.out (Nat.le_refl _) (Agr.refl w.heap.size w3.heap.size w8) a u ha (cell_bel hb45 hc)), fun _ => hk⟩
  · have hzb : (z != 0) = true := by simp [hz]
    have HZ := Lib.hid hz
    clear hz
    go_wp2_with (first
      | (refine wpList_store_blk rfl 29 (.tmp 4) (.tmp 16) rfl (w.heap.size + 2) 29 zeroC zeroC rfl rfl hb25 rfl info_pnr zeroC_one ?_; intro w8 hb8 hl8 hg8))
    exact app_back rfl rfl rfl rfl hb8 rfl (hb5w.trans (below_le hl8 (by omega))) ⟨pnr0, _, _, _, _, _, rfl, pnr0_in _, fun e => absurd e HZ.out⟩

section
variable {H : Type} {enc : TypeId × Value → H} {W : World}

/-- An edit that came in. -/
def EditIn (w : World) (v : Value) (d : EditT) : Prop := v = .agg (editC d).toArray ∧ EditOk d

theorem open_editV {r : Reach} {b0 : Nat} {v : Value} {d : DataW H} {p : List MemPlace} (hv : Value.okWide Tryz.prog W r b0 48 v) (h : DataW.Trod enc Tryz.prog W 0 (fun _ => true) true 48 v d p) :
    ∃ a, EditIn W v a := by
  have he : ∃ f0 f1 f2 f3 f4 f5 f6 f7 : Field, Tryz.prog.underlying 48 = some (.struct #[f0, f1, f2, f3, f4, f5, f6, f7]) ∧ (f0.offset = 0 ∧ f1.offset = 1 ∧ f2.offset = 3 ∧ f3.offset = 8 ∧ f4.offset = 11 ∧ f5.offset = 12 ∧ f6.offset = 13 ∧ f7.offset = 14) ∧ f0.type = 3 ∧ f1.type = 38 ∧ f2.type = 44 ∧ f3.type = 26 ∧ f4.type = 9 ∧ f5.type = 3 ∧ f6.type = 3 ∧ f7.type = 46 := ⟨_, _, _, _, _, _, _, _, Tryz.underlying48, ⟨rfl, rfl, rfl, rfl, rfl, rfl, rfl, rfl⟩, rfl, rfl, rfl, rfl, rfl, rfl, rfl, rfl⟩
  obtain ⟨f0, f1, f2, f3, f4, f5, f6, f7, he, ⟨o0, o1, o2, o3, o4, o5, o6, o7⟩, t0, t1, t2, t3, t4, t5, t6, t7⟩ := he
  have hC : Tryz.prog.cellsOf 48 = 16 := by kernel_rfl
  obtain ⟨cs, rfl, hsz⟩ := okWide_struct he hv
  obtain ⟨l⟩ := cs
  match l, hsz.trans hC with
  | [c0, c1, c2, c3, c4, c5, c6, c7, c8, c9, c10, c11, c12, c13, c14, c15], _ =>
    obtain ⟨fuel, hf⟩ := h
    obtain ⟨xs, n, _, hx, _, hlen, hg⟩ := DataW.trod_struct he hf
    match xs, hlen with
    | [y0, y1, y2, y3, y4, y5, y6, y7], _ =>
      have g0 := hg 0 f0 rfl
      have g1 := hg 1 f1 rfl
      have g2 := hg 2 f2 rfl
      have g3 := hg 3 f3 rfl
      have g4 := hg 4 f4 rfl
      have g5 := hg 5 f5 rfl
      have g6 := hg 6 f6 rfl
      have g7 := hg 7 f7 rfl
      rw [t0, o0, show Tryz.prog.cellsOf 3 = 1 by kernel_rfl] at g0
      rw [t1, o1, show Tryz.prog.cellsOf 38 = 2 by kernel_rfl] at g1
      rw [t2, o2, show Tryz.prog.cellsOf 44 = 5 by kernel_rfl] at g2
      rw [t3, o3, show Tryz.prog.cellsOf 26 = 3 by kernel_rfl] at g3
      rw [t4, o4, show Tryz.prog.cellsOf 9 = 1 by kernel_rfl] at g4
      rw [t5, o5, show Tryz.prog.cellsOf 3 = 1 by kernel_rfl] at g5
      rw [t6, o6, show Tryz.prog.cellsOf 3 = 1 by kernel_rfl] at g6
      rw [t7, o7, show Tryz.prog.cellsOf 46 = 2 by kernel_rfl] at g7
      obtain ⟨kd, e0, _, _⟩ := DataW.trod_int Tryz.underlying3 (show DataW.trod enc Tryz.prog W 0 (fun _ => true) true n 3 [c0] = some y0 from g0)
      obtain ⟨nl, nf, e1, e2, h1, h2⟩ : ∃ s0 s1 : ByteArray, c1 = .string s0 ∧ c2 = .string s1 ∧ s0.size ≤ maxLen ∧ s1.size ≤ maxLen := by
        have hk : ∃ f0 f1 : Field, Tryz.prog.underlying 38 = some (.struct #[f0, f1]) ∧ f0.offset = 0 ∧ f1.offset = 1 ∧ f0.type = 9 ∧ f1.type = 9 := ⟨_, _, Tryz.underlying38, rfl, rfl, rfl, rfl⟩
        obtain ⟨q0, q1, hk, p0, p1, u0, u1⟩ := hk
        obtain ⟨z0, z1, n2, _, _, k0, k1⟩ := trod_struct2 hk (show DataW.trod enc Tryz.prog W 0 (fun _ => true) true n 38 [c1, c2] = some y1 from g1)
        rw [u0, p0, show Tryz.prog.cellsOf 9 = 1 by kernel_rfl] at k0
        rw [u1, p1, show Tryz.prog.cellsOf 9 = 1 by kernel_rfl] at k1
        obtain ⟨s0, e0, _, h0⟩ := DataW.trod_string Tryz.underlying9 k0
        obtain ⟨s1, e1, _, h1⟩ := DataW.trod_string Tryz.underlying9 k1
        simp at e0 e1
        exact ⟨s0, s1, e0, e1, h0, h1⟩
      obtain ⟨car, num, day, cl, lv, e3, e4, e5, e6, e7, h3⟩ : ∃ (car : ByteArray) (num day : Int) (cl : UInt8) (lv : Bool), c3 = .string car ∧ c4 = .int .i64 num ∧ c5 = .int .i64 day ∧ c6 = .int .u8 cl.toNat ∧ c7 = .bool lv ∧ car.size ≤ maxLen := by
        have hs : ∃ f0 f1 f2 : Field, Tryz.prog.underlying 44 = some (.struct #[f0, f1, f2]) ∧ f0.offset = 0 ∧ f1.offset = 3 ∧ f2.offset = 4 ∧ f0.type = 42 ∧ f1.type = 5 ∧ f2.type = 4 := ⟨_, _, _, Tryz.underlying44, rfl, rfl, rfl, rfl, rfl, rfl⟩
        obtain ⟨f0, f1, f2, hs, o0, o1, o2, t0, t1, t2⟩ := hs
        obtain ⟨y0, y1, y2, n, _, _, g0, g1, g2⟩ := trod_struct3 hs (show DataW.trod enc Tryz.prog W 0 (fun _ => true) true n 44 [c3, c4, c5, c6, c7] = some y2 from g2)
        rw [t0, o0, show Tryz.prog.cellsOf 42 = 3 by kernel_rfl] at g0
        rw [t1, o1, show Tryz.prog.cellsOf 5 = 1 by kernel_rfl] at g1
        rw [t2, o2, show Tryz.prog.cellsOf 4 = 1 by kernel_rfl] at g2
        have hk : ∃ f0 f1 : Field, Tryz.prog.underlying 42 = some (.struct #[f0, f1]) ∧ f0.offset = 0 ∧ f1.offset = 2 ∧ f0.type = 40 ∧ f1.type = 3 := ⟨_, _, Tryz.underlying42, rfl, rfl, rfl, rfl⟩
        obtain ⟨q0, q1, hk, p0, p1, u0, u1⟩ := hk
        obtain ⟨z0, z1, n2, _, _, k0, k1⟩ := trod_struct2 hk g0
        rw [u0, p0, show Tryz.prog.cellsOf 40 = 2 by kernel_rfl] at k0
        rw [u1, p1, show Tryz.prog.cellsOf 3 = 1 by kernel_rfl] at k1
        have hj : ∃ f0 f1 : Field, Tryz.prog.underlying 40 = some (.struct #[f0, f1]) ∧ f0.offset = 0 ∧ f1.offset = 1 ∧ f0.type = 9 ∧ f1.type = 3 := ⟨_, _, Tryz.underlying40, rfl, rfl, rfl, rfl⟩
        obtain ⟨r0, r1, hj, s0, s1, w0, w1⟩ := hj
        obtain ⟨x0, x1, n3, _, _, j0, j1⟩ := trod_struct2 hj k0
        rw [w0, s0, show Tryz.prog.cellsOf 9 = 1 by kernel_rfl] at j0
        rw [w1, s1, show Tryz.prog.cellsOf 3 = 1 by kernel_rfl] at j1
        obtain ⟨car, e0, _, h0⟩ := DataW.trod_string Tryz.underlying9 j0
        obtain ⟨num, e1, _, h1⟩ := DataW.trod_int Tryz.underlying3 j1
        obtain ⟨day, e2, _, h2⟩ := DataW.trod_int Tryz.underlying3 k1
        obtain ⟨cl, e3, _, h3⟩ := DataW.trod_int Tryz.underlying5 g1
        obtain ⟨lv, e4, _⟩ := DataW.trod_bool Tryz.underlying4 g2
        simp at e0 e1 e2 e3 e4
        obtain ⟨c, hc, _⟩ := wf_byte h3
        exact ⟨car, num, day, c, lv, e0, e1, e2, by rw [e3, hc], e4, h0⟩
      obtain ⟨tk, td, tm, e8, e9, e10⟩ : ∃ tk td tm : Int, c8 = .int .i64 tk ∧ c9 = .int .i64 td ∧ c10 = .int .i64 tm := by
        have hk : ∃ f0 f1 f2 : Field, Tryz.prog.underlying 26 = some (.struct #[f0, f1, f2]) ∧ f0.offset = 0 ∧ f1.offset = 1 ∧ f2.offset = 2 ∧ f0.type = 3 ∧ f1.type = 3 ∧ f2.type = 3 := ⟨_, _, _, Tryz.underlying26, rfl, rfl, rfl, rfl, rfl, rfl⟩
        obtain ⟨q0, q1, q2, hk, p0, p1, p2, u0, u1, u2⟩ := hk
        obtain ⟨z0, z1, z2, n2, _, _, k0, k1, k2⟩ := trod_struct3 hk (show DataW.trod enc Tryz.prog W 0 (fun _ => true) true n 26 [c8, c9, c10] = some y3 from g3)
        rw [u0, p0, show Tryz.prog.cellsOf 3 = 1 by kernel_rfl] at k0
        rw [u1, p1, show Tryz.prog.cellsOf 3 = 1 by kernel_rfl] at k1
        rw [u2, p2, show Tryz.prog.cellsOf 3 = 1 by kernel_rfl] at k2
        obtain ⟨tk, e5, _, _⟩ := DataW.trod_int Tryz.underlying3 k0
        obtain ⟨td, e6, _, _⟩ := DataW.trod_int Tryz.underlying3 k1
        obtain ⟨tm, e7, _, _⟩ := DataW.trod_int Tryz.underlying3 k2
        simp at e5 e6 e7
        exact ⟨tk, td, tm, e5, e6, e7⟩
      obtain ⟨tx, e11, _, h11⟩ := DataW.trod_string Tryz.underlying9 (show DataW.trod enc Tryz.prog W 0 (fun _ => true) true n 9 [c11] = some y4 from g4)
      obtain ⟨nn, e12, _, h12⟩ := DataW.trod_int Tryz.underlying3 (show DataW.trod enc Tryz.prog W 0 (fun _ => true) true n 3 [c12] = some y5 from g5)
      obtain ⟨pax, e13, _, h13⟩ := DataW.trod_int Tryz.underlying3 (show DataW.trod enc Tryz.prog W 0 (fun _ => true) true n 3 [c13] = some y6 from g6)
      obtain ⟨row, c, e14, e15, _⟩ := seat_each (show DataW.trod enc Tryz.prog W 0 (fun _ => true) true n 46 [c14, c15] = some y7 from g7)
      simp at e0 e11 e12 e13
      exact ⟨⟨kd, ⟨nl, nf⟩, ⟨car, num, day, cl, lv⟩, tk, td, tm, tx, nn, pax, row, c⟩, by rw [e0, e1, e2, e3, e4, e5, e6, e7, e8, e9, e10, e11, e12, e13, e14, e15]; rfl, h1, h2, h3, h11, h12, h13⟩
end
end Go.Proofs.YtmhhbnnjilbdnaaGreatDoor
