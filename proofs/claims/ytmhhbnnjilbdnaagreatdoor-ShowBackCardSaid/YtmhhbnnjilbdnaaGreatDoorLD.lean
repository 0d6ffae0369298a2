/- Places of a PNR but those of a passenger in a segment (the reference). An edit; whose seat it is about (the reference). An edit that writes a text (the reference). An edit that adds a name or a segment (the reference): the lists. An edit that seats a passenger (the reference): the list of places while it is made. An edit (the reference): small laws for change and Apply. The law CodecUnlike: the walk. -/
import Derived.Test.YtmhhbnnjilbdnaaGreatDoorKA
import Derived.Test.YtmhhbnnjilbdnaaGreatDoorKF
import Derived.Test.YtmhhbnnjilbdnaaGreatDoorPlnP
import Derived.Test.YtmhhbnnjilbdnaaGreatDoorKG
import Derived.Test.YtmhhbnnjilbdnaaGreatDoorKJ
import Derived.Test.YtmhhbnnjilbdnaaGreatDoorKL
import Derived.Test.YtmhhbnnjilbdnaaGreatDoorLA
import Derived.Test.YtmhhbnnjilbdnaaGreatDoorLC
import Derived.Test.YtmhhbnnjilbdnaaGreatDoorLB
import Derived.Test.YtmhhbnnjilbdnaaGreatDoorRows
import Derived.WalkKit
import Derived.WalkSpells
import Derived.WalkLawsBesides
import Derived.Lib.ConvBytes
import Derived.Lib.Hide
import Derived.Lib.SliceRun
import Derived.IntWalk
import Derived.BigQuiet
import Derived.Deep.QuietTactic
import Derived.Deep.RegionWith
import Derived.Deep.RegionHeld3
import Derived.Deep.LoopGhost
import Derived.Deep.CutRange
import Derived.Deep.CutBlock
import Derived.Deep.MidRow
import Derived.Laws.OwnMore
import Derived.OwnWalk
import Derived.Laws.AppendOwnNone
import Derived.Laws.Rows
import Derived.Laws.MakeOwn
import Derived.Laws.CopyOwn
import Derived.Laws.BitsAllLaws
import Derived.DeepKeys5
import Derived.Maps.OwnOps
import Derived.Handy
import Derived.Lib.AppendStr
import Derived.StillTailTactics
import Derived.Deep.AppendLies
import Derived.WideKeyEntry
import Derived.Test.YtmhhbnnjilbdnaaGreatDoorKB
import Derived.Test.YtmhhbnnjilbdnaaGreatDoorSA
import Derived.Test.YtmhhbnnjilbdnaaGreatDoorSD
import Derived.Test.YtmhhbnnjilbdnaaGreatDoorKM
import Derived.Test.YtmhhbnnjilbdnaaGreatDoorKN
import Derived.Test.YtmhhbnnjilbdnaaGreatDoorKH
import Derived.ProofKit
import Derived.OpenShut
import Derived.SliceStrings
import Derived.Lib.SmallJoins
import Derived.Deep.SlicePairs
import Derived.ChangeSlices
namespace Go.Proofs.YtmhhbnnjilbdnaaGreatDoor
open Go.RowKit Go.ChangeMaps
set_option linter.unusedSimpArgs false
set_option linter.unusedVariables false
set_option maxRecDepth 20000

set_option maxHeartbeats 16000000 in
theorem places_any (v : Value) (l : List PlaceT) (seg pax : Int) (w : World) (h : HasE placeC w v l) (hl : l.length ≤ 1000) :
    Calls Tryz.prog 65 #[v, .int .i64 seg, .int .i64 pax] w fun e w' => (∃ (v' : Value) (r : List PlaceT), e = .returned v' ∧ w'.ownsRow w.heap.size 72 4 v' r.length (r.flatMap placeC) ∧ r.length ≤ l.length ∧ ∀ x ∈ r, x ∈ l) ∧ Below w.heap.size w w' := by
  obtain ⟨p, c0, rfl⟩ := h.len
  have HH := Lib.hid h
  generalize hM : l.length = M at *
  have HM := Lib.hid hM
  clear h hM
  go_enter Tryz.func65, Tryz.ntmps65
  go_wp2
  go_loopg [7, 8] M (fun g0 s7 s8 wr => ∃ (i : Nat) (r : List PlaceT) (p3 : Option Addr) (n3 c3 : Nat), i ≤ M ∧ g0 = M - i ∧ s8 = .int .i64 (i : Int) ∧ s7 = .slice p3 n3 c3 ∧ wr.ownsRow w.heap.size 72 4 (.slice p3 n3 c3) r.length (r.flatMap placeC) ∧ r.length ≤ i ∧ (∀ x ∈ r, x ∈ l) ∧ Below w.heap.size w wr)
  case atStart => exact ⟨0, [], none, 0, 0, Nat.zero_le _, rfl, rfl, rfl, World.ownsRow_nil _ _ _ _, Nat.le_refl _, (fun x hx => by cases hx), Below.refl _ _⟩
  case round =>
    obtain ⟨i, r, p3, n3, c3, hiM, rfl, rfl, rfl, hown, hrl, hmem, hbw⟩ := hrel
    have HOWN := Lib.hid hown
    have HMEM := Lib.hid hmem
    clear hown hmem
    by_cases hlt : i < M
    · have hii : (i : Int) < (M : Int) := by omega
      have hi0 : (0 : Int) ≤ (i : Int) := by omega
      have hiM2 : i < l.length := by rw [HM.out]; exact hlt
      obtain ⟨bb, off2, rfl, hr, hc0, hc1, hc2, hc3⟩ := place_at (HH.out.mono hbw) hiM2
      have HXM := Lib.hid (List.mem_of_getElem? (getD_at pl0 hiM2))
      clear hiM2
      generalize l.getD i pl0 = x at *
      obtain ⟨sg, pa, row, c⟩ := x
      simp only at hc0 hc1 hc2 hc3
      by_cases k1 : sg = seg
      rotate_left
      · obtain ⟨i0, hi0, hz0, hsz0, hby0⟩ := place_tinfo
        have hm1 : r.length + 1 ≤ maxLen := by unfold maxLen; omega
        have hm2 : (r.length + 1) * 32 ≤ 140737488355328 := by omega
        have hBs := hbw.size
        go_wp2_with (first
          | (refine wpList_load_mid rfl 72 _ rfl bb (off2 + i * 4) rfl [.int .i64 sg, .int .i64 pa, .int .i64 row, .int .u8 c.toNat] _ hr Tryz.underlying72 rfl info_place ?_)
          | (at_builtin; refine wpList_pushC rfl _ _ 27 rfl w.heap.size 72 i0 _ 4 32 Tryz.underlying27 hi0 hz0 hsz0 hby0 rfl (by decide) _ r.length _ rfl HOWN.out (placeC ⟨sg, pa, row, c⟩) rfl rfl (placeC_one _) hm1 hm2 hBs ?_; intro v4 w4 ho4 hb4 hg4; obtain ⟨p4, n4, c4, rfl⟩ := own_slice ho4))
        go_roundg (M - (i + 1))
        case measure => omega
        case rel => exact ⟨i + 1, r ++ [⟨sg, pa, row, c⟩], _, _, _, by omega, rfl, by go_num, rfl, by rw [List.length_append, List.flatMap_append, show ([⟨sg, pa, row, c⟩] : List PlaceT).flatMap placeC = placeC ⟨sg, pa, row, c⟩ by simp]; exact ho4, by rw [List.length_append, List.length_singleton]; omega, (fun t ht => by
          rcases List.mem_append.1 ht with h1 | h1
          · exact HMEM.out t h1
          · rw [List.mem_singleton.1 h1]; exact HXM.out), hbw.trans hb4⟩
      subst k1
      by_cases k2 : pax = 0
      · go_wp2
        go_roundg (M - (i + 1))
        case measure => omega
        case rel => exact ⟨i + 1, r, _, _, _, by omega, rfl, by go_num, rfl, HOWN.out, by omega, HMEM.out, hbw⟩
      by_cases k3 : pa = pax
      · go_wp2
        go_roundg (M - (i + 1))
        case measure => omega
        case rel => exact ⟨i + 1, r, _, _, _, by omega, rfl, by go_num, rfl, HOWN.out, by omega, HMEM.out, hbw⟩
      have k4 : (pax != 0) = true := by simp [k2]
      have k5 : (pa != pax) = true := by simp [k3]
      obtain ⟨i0, hi0, hz0, hsz0, hby0⟩ := place_tinfo
      have hm1 : r.length + 1 ≤ maxLen := by unfold maxLen; omega
      have hm2 : (r.length + 1) * 32 ≤ 140737488355328 := by omega
      have hBs := hbw.size
      go_wp2_with (first
        | (refine wpList_load_mid rfl 72 _ rfl bb (off2 + i * 4) rfl [.int .i64 sg, .int .i64 pa, .int .i64 row, .int .u8 c.toNat] _ hr Tryz.underlying72 rfl info_place ?_)
        | (at_builtin; refine wpList_pushC rfl _ _ 27 rfl w.heap.size 72 i0 _ 4 32 Tryz.underlying27 hi0 hz0 hsz0 hby0 rfl (by decide) _ r.length _ rfl HOWN.out (placeC ⟨sg, pa, row, c⟩) rfl rfl (placeC_one _) hm1 hm2 hBs ?_; intro v4 w4 ho4 hb4 hg4; obtain ⟨p4, n4, c4, rfl⟩ := own_slice ho4))
      go_roundg (M - (i + 1))
      case measure => omega
      case rel => exact ⟨i + 1, r ++ [⟨sg, pa, row, c⟩], _, _, _, by omega, rfl, by go_num, rfl, by rw [List.length_append, List.flatMap_append, show ([⟨sg, pa, row, c⟩] : List PlaceT).flatMap placeC = placeC ⟨sg, pa, row, c⟩ by simp]; exact ho4, by rw [List.length_append, List.length_singleton]; omega, (fun t ht => by
        rcases List.mem_append.1 ht with h1 | h1
        · exact HMEM.out t h1
        · rw [List.mem_singleton.1 h1]; exact HXM.out), hbw.trans hb4⟩
    · have hie : i = M := by omega
      subst hie
      have hii : ¬ (i : Int) < (i : Int) := by omega
      go_wp2
      go_ret
      exact ⟨⟨_, rfl, r, HOWN.out, hrl, HMEM.out⟩, hbw⟩
end Go.Proofs.YtmhhbnnjilbdnaaGreatDoor
namespace Go.Proofs.YtmhhbnnjilbdnaaGreatDoor
open Go.RowKit Go.ChangeMaps
set_option linter.unusedSimpArgs false
set_option linter.unusedVariables false
set_option maxRecDepth 20000

/-- An edit of a PNR. -/
structure EditT where
  kind : Int
  name : NameT
  seg : SegT
  tk : Int
  td : Int
  tm : Int
  text : ByteArray
  n : Int
  pax : Int
  row : Int
  c : UInt8

def editC (d : EditT) : List Value := [.int .i64 d.kind, .string d.name.last, .string d.name.first, .string d.seg.car, .int .i64 d.seg.num, .int .i64 d.seg.day, .int .u8 d.seg.cls.toNat, .bool d.seg.live, .int .i64 d.tk, .int .i64 d.td, .int .i64 d.tm, .string d.text, .int .i64 d.n, .int .i64 d.pax, .int .i64 d.row, .int .u8 d.c.toNat]

theorem info_edit : (Tryz.prog.info? 48).map (·.size) = some 16 := by kernel_rfl

/-- What is known of an edit that came in. -/
structure EditOk (d : EditT) : Prop where
  last : d.name.last.size ≤ maxLen
  first : d.name.first.size ≤ maxLen
  car : d.seg.car.size ≤ maxLen
  text : d.text.size ≤ maxLen
  n : (Lit.int .i64 d.n).wf = true
  pax : (Lit.int .i64 d.pax).wf = true

set_option maxHeartbeats 16000000 in
theorem whose_any (p : PnrT) (vn vs vp vr vx : Value) (d : EditT) (w : World) (hn : HasE nameC w vn p.names) (hs : HasE segC w vs p.segs) (hl : p.segs.length ≤ 1000) (hd : EditOk d) :
    Calls Tryz.prog 67 #[.agg (pnrC p vn vs vp vr vx).toArray, .agg (editC d).toArray] w fun e w' => (∃ f : Int, e = .returned (.int .i64 f)) ∧ Below w.heap.size w w' := by
  obtain ⟨pn, cn, rfl⟩ := hn.len
  have HIL : RowKit.Hid (∀ W, Below w.heap.size w W → Calls Tryz.prog 53 #[.agg (pnrC p (.slice pn p.names.length cn) vs vp vr vx).toArray, .int .i64 d.n] W fun e w' => e = .returned (.bool (liveS p.segs d.n)) ∧ Below W.heap.size W w') := Lib.hid fun W h => isLive_any p _ vs vp vr vx d.n W hd.n (hs.mono h) hl
  obtain ⟨loc, off, names, segs, phones, tk, td, tm, recv, remarks, seats, queued⟩ := p
  obtain ⟨kd, ⟨nl, nf⟩, ⟨car, num, day, cls, live⟩, ek, ed, em, tx, n, pax, row, c⟩ := d
  have hA1 : Below w.heap.size w (w.alloc (.cells #[.string loc, .string off, .slice pn names.length cn, vs, vp, .int .i64 tk, .int .i64 td, .int .i64 tm, .string recv, vr, vx, .bool queued] 29)) := (Below.refl _ _).alloc (Nat.le_refl _) _
  have hB1 := Blk.new w 29 [.string loc, .string off, .slice pn names.length cn, vs, vp, .int .i64 tk, .int .i64 td, .int .i64 tm, .string recv, vr, vx, .bool queued]
  unfold pnrC at HIL ⊢
  unfold editC
  simp only at HIL ⊢
  generalize liveS segs n = lv at *
  generalize names.length = N at *
  generalize hw1 : w.alloc (.cells #[.string loc, .string off, .slice pn N cn, vs, vp, .int .i64 tk, .int .i64 td, .int .i64 tm, .string recv, vr, vx, .bool queued] 29) = w1 at hA1
  have hA2 : Below w1.heap.size w1 (w1.alloc (.cells #[.int .i64 kd, .string nl, .string nf, .string car, .int .i64 num, .int .i64 day, .int .u8 cls.toNat, .bool live, .int .i64 ek, .int .i64 ed, .int .i64 em, .string tx, .int .i64 n, .int .i64 pax, .int .i64 row, .int .u8 c.toNat] 48)) := (Below.refl _ _).alloc (Nat.le_refl _) _
  have hB2 := Blk.new w1 48 [.int .i64 kd, .string nl, .string nf, .string car, .int .i64 num, .int .i64 day, .int .u8 cls.toNat, .bool live, .int .i64 ek, .int .i64 ed, .int .i64 em, .string tx, .int .i64 n, .int .i64 pax, .int .i64 row, .int .u8 c.toNat]
  generalize hw2 : w1.alloc (.cells #[.int .i64 kd, .string nl, .string nf, .string car, .int .i64 num, .int .i64 day, .int .u8 cls.toNat, .bool live, .int .i64 ek, .int .i64 ed, .int .i64 em, .string tx, .int .i64 n, .int .i64 pax, .int .i64 row, .int .u8 c.toNat] 48) = w2 at hA2
  simp only [List.toArray] at hB1 hB2
  rw [hw1] at hB1
  rw [hw2] at hB2
  have hb02 := bel_trans hA1 hA2
  have HB02 := Lib.hid hb02
  have hr := (hB1.mono hA2).range
  have HP : RowKit.Hid (∀ W, Below w2.heap.size w2 W → W.cell? ⟨w.heap.size, 2, none⟩ = some (.slice pn N cn) ∧ W.cell? ⟨w1.heap.size, 13, none⟩ = some (.int .i64 pax)) := Lib.hid fun W h => ⟨(((hB1.mono hA2).mono h).cell 2).trans rfl, ((hB2.mono h).cell 13).trans rfl⟩
  have d12 : w2.cell? ⟨w1.heap.size, 12, none⟩ = some (.int .i64 n) := (hB2.cell 12).trans rfl
  clear hA1 hA2 hB1 hB2 hb02 hn hs hl hd
  go_enter Tryz.func67, Tryz.ntmps67
  go_upto_region 1 with fail
  try rw [hw1, hw2]
  clear hw1 hw2
  generalize w1.heap.size = g1 at *
  cases lv with
  | false =>
    go_wp2_with (first
      | (refine wpList_load_mid rfl 29 (.tmp 2) rfl w.heap.size 0 rfl _ _ hr Tryz.underlying29 rfl info_pnr ?_)
      | (go_at_call 53; (with_reducible refine (HIL.out _ HB02.out).mono ?_); rintro e w3 ⟨rfl, hb3⟩))
    go_ret
    exact ⟨⟨_, rfl⟩, below_low HB02.out HB02.out.size hb3⟩
  | true =>
    by_cases k1 : pax < 1
    · go_wp2_with (first
        | (refine wpList_load_mid rfl 29 (.tmp 2) rfl w.heap.size 0 rfl _ _ hr Tryz.underlying29 rfl info_pnr ?_)
        | (go_at_call 53; (with_reducible refine (HIL.out _ HB02.out).mono ?_); rintro e w3 ⟨rfl, hb3⟩; obtain ⟨y2, y13⟩ := HP.out _ hb3))
      go_ret
      exact ⟨⟨_, rfl⟩, below_low HB02.out HB02.out.size hb3⟩
    by_cases k2 : pax > (N : Int)
    · go_wp2_with (first
        | (refine wpList_load_mid rfl 29 (.tmp 2) rfl w.heap.size 0 rfl _ _ hr Tryz.underlying29 rfl info_pnr ?_)
        | (go_at_call 53; (with_reducible refine (HIL.out _ HB02.out).mono ?_); rintro e w3 ⟨rfl, hb3⟩; obtain ⟨y2, y13⟩ := HP.out _ hb3))
      go_ret
      exact ⟨⟨_, rfl⟩, below_low HB02.out HB02.out.size hb3⟩
    · go_wp2_with (first
        | (refine wpList_load_mid rfl 29 (.tmp 2) rfl w.heap.size 0 rfl _ _ hr Tryz.underlying29 rfl info_pnr ?_)
        | (go_at_call 53; (with_reducible refine (HIL.out _ HB02.out).mono ?_); rintro e w3 ⟨rfl, hb3⟩; obtain ⟨y2, y13⟩ := HP.out _ hb3))
      go_ret
      exact ⟨⟨_, rfl⟩, below_low HB02.out HB02.out.size hb3⟩
end Go.Proofs.YtmhhbnnjilbdnaaGreatDoor
namespace Go.Proofs.YtmhhbnnjilbdnaaGreatDoor
open Go.RowKit Go.ChangeMaps
set_option linter.unusedSimpArgs false
set_option linter.unusedVariables false
set_option maxRecDepth 20000

/-- Each part of a PNR is formed. -/
structure FmdP (p : PnrT) : Prop where
  nm : ∀ x ∈ p.names, nameOk x
  sg : ∀ x ∈ p.segs, segOk x
  ph : ∀ s ∈ p.phones, freeP s
  rm : ∀ s ∈ p.remarks, freeP s
  rc : toL p.recv = [] ∨ freeP p.recv
  tk : tickOk p.tk p.td p.tm p.queued
  st : ∀ x ∈ p.seats, (1 ≤ x.row ∧ x.row ≤ 99 ∧ bL x.c = true) ∧ (Lit.int .i64 x.pax).wf = true

/-- What an edit leaves as it was. -/
def cntP (p : PnrT) : Nat := p.names.length + p.segs.length + p.phones.length + p.remarks.length + p.seats.length
def Kept (p x : PnrT) : Prop := x.loc = p.loc ∧ x.off = p.off ∧ cntP x ≤ cntP p + 1 ∧ (FmdP p → FmdP x)
theorem Kept.refl (p : PnrT) : Kept p p := ⟨rfl, rfl, Nat.le_succ _, fun h => h⟩
theorem all_snoc {α : Type} {P : α → Prop} {l : List α} {a : α} (h : ∀ x ∈ l, P x) (ha : P a) : ∀ x ∈ l ++ [a], P x := fun x hx => by
  rcases List.mem_append.1 hx with h1 | h1
  · exact h x h1
  · rw [List.mem_singleton.1 h1]; exact ha
theorem free_of_ref {s : ByteArray} (h : refFreeS s.data.toList = true) : freeP s := by
  unfold freeP toL
  rw [free_eq]
  exact h

/-- W reads as w does, below lo and from hi on. -/
def Agr (lo hi : Nat) (w W : World) : Prop := ∀ a u, (a.block < lo ∨ hi ≤ a.block) → w.cell? a = some u → W.cell? a = some u
theorem Agr.refl (lo hi : Nat) (w : World) : Agr lo hi w w := fun _ _ _ h => h

theorem own_agr {α : Type} {enc : α → List Value} {lo hi B st : Nat} {w W : World} {e : TypeId} {v : Value} {l : List α} (h : w.ownsRow B e st v l.length (l.flatMap enc)) (hB : hi ≤ B) (hA : Agr lo hi w W) : HasE enc W v l := by
  rcases h.2 with ⟨e1, e2⟩ | ⟨g, cap, cur, e1, hb, _, h3, h4, _⟩
  · exact .inl ⟨none, 0, e1, List.length_eq_zero_iff.1 e2, fun _ => rfl⟩
  · refine .inr ⟨g, 0, cap, e1, h3, h4, fun j u hj => hA _ _ (.inr (Nat.le_trans hB hb)) ?_⟩
    have := h.cells (g := g) (by rw [e1]; rfl) j _ hj
    rw [Addr.add_lit] at this
    exact this

theorem ownL_agr {lo hi B : Nat} {w W : World} {v : Value} {l : List ByteArray} (h : OwnL w B v l) (hB : hi ≤ B) (hA : Agr lo hi w W) : HasL W v l := by
  rcases h.2 with ⟨e1, e2⟩ | ⟨g, cap, cur, e1, hb, _, h3, h4, _⟩
  · exact .inl ⟨none, 0, e1, List.length_eq_zero_iff.1 e2, fun _ => rfl⟩
  · refine .inr ⟨g, 0, cap, e1, h3, h4, fun j hj => hA _ _ (.inr (Nat.le_trans hB hb)) ?_⟩
    have := World.ownsRow.cells h (g := g) (by rw [e1]; rfl) j _ (strV_get hj)
    rw [Addr.add_lit] at this
    exact this

/-- A PNR that lies in memory below lo. -/
def LowP (lo : Nat) (w : World) (p : PnrT) (vn vs vp vr vx : Value) : Prop := ∀ V, (∀ a u, a.block < lo → w.cell? a = some u → V.cell? a = some u) → PIn V p vn vs vp vr vx
theorem LowP.pin {lo : Nat} {w : World} {p : PnrT} {vn vs vp vr vx : Value} (h : LowP lo w p vn vs vp vr vx) : PIn w p vn vs vp vr vx := h w fun _ _ _ k => k
theorem LowP.mono {lo : Nat} {w W : World} {p : PnrT} {vn vs vp vr vx : Value} (h : LowP lo w p vn vs vp vr vx) (hb : Below w.heap.size w W) : LowP lo W p vn vs vp vr vx := fun V hV => h V fun a u ha hc => hV a u ha (cell_bel hb hc)
theorem LowP.agr {lo hi : Nat} {w W : World} {p : PnrT} {vn vs vp vr vx : Value} (h : LowP lo w p vn vs vp vr vx) (hA : Agr lo hi w W) : PIn W p vn vs vp vr vx := h W fun a u ha hc => hA a u (.inl ha) hc
theorem LowP.of {w W : World} {p : PnrT} {vn vs vp vr vx : Value} (h : PIn w p vn vs vp vr vx) (hb : Below w.heap.size w W) : LowP w.heap.size W p vn vs vp vr vx := fun V hV => h.keep fun a u hc => hV a u (World.block_lt_of_cell? w a hc) (cell_bel hb hc)

/-- What an edit comes to: some PNR in memory, below lo or from hi on, and some number. -/
def ChgP (lo hi : Nat) (p : PnrT) (e : Ending) (w : World) : Prop := ∃ x vn vs vp vr vx z, e = .returned (.tuple #[.agg (pnrC x vn vs vp vr vx).toArray, .int .i64 z]) ∧ (∀ W, Agr lo hi w W → PIn W x vn vs vp vr vx) ∧ Kept p x

theorem chg_back {fn : Func} {p q : Tmp} {pp : PnrT} {lo hi : Nat} (hf : fn.results = #[.cell p 29, .tmp q]) {a : Act} {w w0 : World} {g : Nat} {cs : List Value} {z : Int}
    (hp : a.tmps.getD p undef = .pointer (some ⟨g, 0, none⟩)) (hq : a.tmps.getD q undef = .int .i64 z) (hd : a.defers = []) (hg : Blk w g 29 cs) (hl : cs.length = 12) (hw : Below w0.heap.size w0 w)
    (h : ∃ x vn vs vp vr vx, cs = pnrC x vn vs vp vr vx ∧ (∀ W, Agr lo hi w W → PIn W x vn vs vp vr vx) ∧ Kept pp x) :
    bodyPost Tryz.prog fn (fun e w' => ChgP lo hi pp e w' ∧ Below w0.heap.size w0 w') .ret a w := by
  refine bodyPost_ret (results_row_tmp hf a.tmps w g 29 cs _ hp hg Tryz.underlying29 rfl (by rw [hl]; exact info_pnr)) hd ?_
  rw [hq]
  obtain ⟨x, vn, vs, vp, vr, vx, rfl, h2⟩ := h
  exact ⟨⟨x, vn, vs, vp, vr, vx, z, rfl, h2⟩, hw⟩

/-- Lists that an edit can lengthen. -/
def Room (p : PnrT) : Prop := p.names.length ≤ 900 ∧ p.segs.length ≤ 900 ∧ p.phones.length ≤ 900 ∧ p.remarks.length ≤ 900 ∧ p.seats.length ≤ 900

theorem boxes3 (w : World) (pc dc : List Value) : ∃ w3, ((w.alloc (.cells pc.toArray 29)).alloc (.cells dc.toArray 48)).alloc (.cells zeroC.toArray 29) = w3 ∧ Blk w3 w.heap.size 29 pc ∧ Blk w3 (w.heap.size + 1) 48 dc ∧ Blk w3 (w.heap.size + 2) 29 zeroC ∧ Below w.heap.size w w3 ∧ w3.heap.size = w.heap.size + 3 := by
  refine ⟨_, rfl, ((Blk.new w _ pc).alloc _).alloc _, ?_, ?_, ?_, ?_⟩
  · have := (Blk.new (w.alloc (.cells pc.toArray 29)) 48 dc).alloc (.cells zeroC.toArray 29)
    rwa [show (w.alloc (.cells pc.toArray 29)).heap.size = w.heap.size + 1 by simp] at this
  · have := Blk.new ((w.alloc (.cells pc.toArray 29)).alloc (.cells dc.toArray 48)) 29 zeroC
    rwa [show ((w.alloc (.cells pc.toArray 29)).alloc (.cells dc.toArray 48)).heap.size = w.heap.size + 2 by simp] at this
  · exact bel_trans (bel_trans ((Below.refl _ _).alloc (Nat.le_refl _) _) ((Below.refl _ _).alloc (Nat.le_refl _) _)) ((Below.refl _ _).alloc (Nat.le_refl _) _)
  · simp

/-- A list that was lengthened, laid into a PNR's cell j. -/
def PAdd (w : World) (cs : Value → List Value) (l : List ByteArray) (wx : World) : Prop := ∃ p n c, Blk wx w.heap.size 29 (cs (.slice p n c)) ∧ Blk wx (w.heap.size + 2) 29 zeroC ∧ Below w.heap.size w wx ∧ OwnL wx (w.heap.size + 3) (.slice p n c) l

theorem txt_done {w wA w4 : World} {B n : Nat} {v : Value} {p4 : Option Addr} {n4 c4 : Nat} {cs : List Value} {l : List ByteArray} {xs : List Value} (j : Nat) (h0 : Blk wA w.heap.size 29 cs) (h2 : Blk wA (w.heap.size + 2) 29 zeroC) (hb : Below w.heap.size w wA) (hv : wA.ownsRow B 9 1 v n xs) (hB : w.heap.size + 3 ≤ B) (hg : wA.grownBy w4 v.ownBlock) (ho : w4.ownsRow B 9 1 (.slice p4 n4 c4) l.length (strV l)) :
    PAdd w (fun u => cs.set j u) l (w4.setCell ⟨w.heap.size, j, none⟩ (.slice p4 n4 c4)) := by
  have hne : ∀ k, k < w.heap.size + 3 → some k ≠ v.ownBlock := fun k hk e => by
    have := (World.ownsRow.lt hv k e.symm).1
    omega
  have h04 := h0.far hg (hne _ (by omega))
  have h24 := h2.far hg (hne _ (by omega))
  have hs : w4.grownBy (w4.setCell ⟨w.heap.size, j, none⟩ (.slice p4 n4 c4)) (some w.heap.size) := gr_setCell1 (World.grownBy.refl _ _) j _
  have hb4 : Below w.heap.size w w4 := hb.grown hg hb.size fun k hk => by
    have := (World.ownsRow.lt hv k hk).1
    omega
  refine ⟨p4, n4, c4, h04.set j _, h24.far hs (by intro e; injection e with e; omega), hb4.grown hs hb4.size (fun k hk => by injection hk with hk; omega), ?_⟩
  have ho' : OwnL w4 B (.slice p4 n4 c4) l := ho
  exact (ho'.grown hs (own_ne ho' (by omega))).low hB

set_option maxHeartbeats 16000000 in
theorem write_any (lo : Nat) (p : PnrT) (vn vs vp vr vx : Value) (d : EditT) (w : World) (h : LowP lo w p vn vs vp vr vx) (hf : Room p) (hd : EditOk d) :
    Calls Tryz.prog 63 #[.agg (pnrC p vn vs vp vr vx).toArray, .agg (editC d).toArray] w fun e w' => ChgP lo w.heap.size p e w' ∧ Below w.heap.size w w' := by
  have hlow := h
  replace h := h.pin
  obtain ⟨pn, cn, rfl⟩ := h.n.len
  obtain ⟨ps, cs, rfl⟩ := h.s.len
  obtain ⟨pp, cp, rfl⟩ := own_len h.ph
  obtain ⟨pr, cr, rfl⟩ := own_len h.rm
  obtain ⟨px, cx, rfl⟩ := h.x.len
  have HPL := Lib.hid hlow
  obtain ⟨w3, e3, b0, b1, b2, hb3, hz3⟩ := boxes3 w (pnrC p (.slice pn p.names.length cn) (.slice ps p.segs.length cs) (.slice pp p.phones.length cp) (.slice pr p.remarks.length cr) (.slice px p.seats.length cx)) (editC d)
  have HPI := Lib.hid h
  have HDT := Lib.hid hd.text
  have HFR : RowKit.Hid (∀ W, Calls Tryz.prog 24 #[.string d.text] W fun e w' => e = .returned (.bool (refFreeS d.text.data.toList)) ∧ W = w') := Lib.hid fun W => refFree_any d.text W hd.text
  have HB := Lib.hid hb3
  have HCT : RowKit.Hid (∀ v l W, HasL W v l → l.length ≤ 1000 → Calls Tryz.prog 80 #[v] W fun e w' => (∃ v', e = .returned v' ∧ OwnL w' W.heap.size v' l) ∧ Below W.heap.size W w') := Lib.hid fun v l W h1 h2 => copyTexts_any v l W h1 h2
  have HF := Lib.hid hf
  have HOLD : RowKit.Hid (∀ W, Below w.heap.size w W → ∃ x vn vs vp vr vx, pnrC p (.slice pn p.names.length cn) (.slice ps p.segs.length cs) (.slice pp p.phones.length cp) (.slice pr p.remarks.length cr) (.slice px p.seats.length cx) = pnrC x vn vs vp vr vx ∧ (∀ V, Agr lo w.heap.size W V → PIn V x vn vs vp vr vx) ∧ Kept p x) := Lib.hid fun W hW => ⟨_, _, _, _, _, _, rfl, fun V hA => (hlow.mono hW).agr hA, Kept.refl p⟩
  have HO1 : RowKit.Hid (∀ v ∈ pnrC p (.slice pn p.names.length cn) (.slice ps p.segs.length cs) (.slice pp p.phones.length cp) (.slice pr p.remarks.length cr) (.slice px p.seats.length cx), v.oneCell' = true) := Lib.hid pnrC_one
  clear h hd hf hb3 hlow
  obtain ⟨loc, off, names, segs, phones, tk, td, tm, recv, remarks, seats, queued⟩ := p
  obtain ⟨kd, ⟨nl, nf⟩, ⟨car, num, day, cls, live⟩, ek, ed, em, tx, n, pax, row, c⟩ := d
  generalize hfr : refFreeS tx.data.toList = fr at *
  have HFE := Lib.hid hfr
  clear hfr
  unfold pnrC at b0 e3 HOLD HO1 ⊢
  unfold editC at b1 e3 ⊢
  unfold zeroC at e3
  simp only at b0 b1 e3 HOLD HO1 HFR HDT ⊢
  have hr0 := b0.range
  have HB0 := Lib.hid b0
  have HB2 := Lib.hid b2
  have d0 : w3.cell? ⟨w.heap.size + 1, 0, none⟩ = some (.int .i64 kd) := (b1.cell 0).trans rfl
  have d4 : w3.cell? ⟨w.heap.size + 1, 11, none⟩ = some (.string tx) := (b1.cell 11).trans rfl
  have p4 : w3.cell? ⟨w.heap.size, 4, none⟩ = some (.slice pp phones.length cp) := (b0.cell 4).trans rfl
  have p7 : w3.cell? ⟨w.heap.size, 9, none⟩ = some (.slice pr remarks.length cr) := (b0.cell 9).trans rfl
  have f8 := b0.frozen 8
  have p8 : w3.cell? ⟨w.heap.size, 8, none⟩ = some (.string recv) := (b0.cell 8).trans rfl
  have HB1 := Lib.hid b1
  clear b0 b1 b2
  go_enter Tryz.func63, Tryz.ntmps63
  go_upto_region 1 with fail
  try rw [e3]
  clear e3
  rw [show w.heap.size + 1 + 1 = w.heap.size + 2 from rfl]
  have HBW : RowKit.Hid (∀ W, Below (w.heap.size + 2) w3 W → Below w.heap.size w W) := Lib.hid fun W hW => HB.out.trans (below_le hW (by omega))
  cases fr with
  | false =>
    go_wp2_with (first
      | (go_at_call 24; (with_reducible refine (HFR.out _).mono ?_); rintro e W ⟨rfl, rfl⟩)
      | (refine wpList_load_mid rfl 29 (.tmp 2) rfl w.heap.size 0 rfl _ _ hr0 Tryz.underlying29 rfl info_pnr ?_)
      | (refine wpList_store_blk rfl 29 (.tmp 4) (.tmp 10) rfl (w.heap.size + 2) 29 zeroC [.string loc, .string off, .slice pn names.length cn, .slice ps segs.length cs, .slice pp phones.length cp, .int .i64 tk, .int .i64 td, .int .i64 tm, .string recv, .slice pr remarks.length cr, .slice px seats.length cx, .bool queued] rfl rfl HB2.out rfl info_pnr HO1.out ?_; intro w8 hb8 hl8 hg8))
    exact chg_back rfl rfl rfl rfl hb8 rfl (HBW.out _ hl8) (HOLD.out _ (HBW.out _ hl8))
  | true =>
    by_cases k5 : kd = 5
    · subst k5
      have hb4 := HB0.out.set 8 (.string tx)
      have hrr := hb4.range
      have hb24 : Blk (w3.setCell ⟨w.heap.size, 8, none⟩ (.string tx)) (w.heap.size + 2) 29 zeroC := HB2.out.far (gr_setCell1 (World.grownBy.refl _ _) 8 _) (by intro e; injection e with e; omega)
      have HS1 : RowKit.Hid (Below w.heap.size w (w3.setCell ⟨w.heap.size, 8, none⟩ (.string tx))) := Lib.hid (HB.out.grown (gr_setCell1 (World.grownBy.refl w3 (some w.heap.size)) 8 (.string tx)) HB.out.size (fun k hk => by injection hk with hk; exact Nat.le_of_eq hk))
      have HN1 := Lib.hid (pnrC_one (x := ⟨loc, off, names, segs, phones, tk, td, tm, tx, remarks, seats, queued⟩) (p1 := pn) (n1 := names.length) (c1 := cn) (p2 := ps) (n2 := segs.length) (c2 := cs) (p3 := pp) (n3 := phones.length) (c3 := cp) (p4 := pr) (n4 := remarks.length) (c4 := cr) (p5 := px) (n5 := seats.length) (c5 := cx))
      go_wp2_with (first
        | (go_at_call 24; (with_reducible refine (HFR.out _).mono ?_); rintro e W ⟨rfl, rfl⟩)
        | (refine wpList_load_mid rfl 29 (.tmp 2) rfl w.heap.size 0 rfl _ _ hrr Tryz.underlying29 rfl info_pnr ?_)
        | (refine wpList_store_blk rfl 29 (.tmp 4) (.tmp 17) rfl (w.heap.size + 2) 29 zeroC [.string loc, .string off, .slice pn names.length cn, .slice ps segs.length cs, .slice pp phones.length cp, .int .i64 tk, .int .i64 td, .int .i64 tm, .string tx, .slice pr remarks.length cr, .slice px seats.length cx, .bool queued] rfl rfl hb24 rfl info_pnr HN1.out ?_; intro w8 hb8 hl8 hg8))
      have hW := HS1.out.trans (below_le hl8 (by omega))
      have k := HPI.out.mono hW
      obtain ⟨q1, q2, q3, q4, q5, q6, q7⟩ := k.fit
      exact chg_back rfl rfl rfl rfl hb8 rfl hW ⟨⟨loc, off, names, segs, phones, tk, td, tm, tx, remarks, seats, queued⟩, _, _, _, _, _, rfl, (fun V hA => have k := (HPL.out.mono hW).agr hA; ⟨k.n, k.s, k.ph, k.rm, k.x, ⟨q1, q2, q3, q4, q5, HDT.out, q7⟩, k.wf, k.few⟩), rfl, rfl, Nat.le_succ _, fun f => ⟨f.nm, f.sg, f.ph, f.rm, .inr (free_of_ref HFE.out), f.tk, f.st⟩⟩
    by_cases k3 : kd = 3
    · subst k3
      by_cases k4 : phones.length ≥ 4
      · have i4 : (phones.length : Int) ≥ 4 := by omega
        go_wp2_with (first
          | (go_at_call 24; (with_reducible refine (HFR.out _).mono ?_); rintro e W ⟨rfl, rfl⟩)
          | (refine wpList_load_mid rfl 29 (.tmp 2) rfl w.heap.size 0 rfl _ _ hr0 Tryz.underlying29 rfl info_pnr ?_)
          | (refine wpList_store_blk rfl 29 (.tmp 4) (.tmp 25) rfl (w.heap.size + 2) 29 zeroC [.string loc, .string off, .slice pn names.length cn, .slice ps segs.length cs, .slice pp phones.length cp, .int .i64 tk, .int .i64 td, .int .i64 tm, .string recv, .slice pr remarks.length cr, .slice px seats.length cx, .bool queued] rfl rfl HB2.out rfl info_pnr HO1.out ?_; intro w8 hb8 hl8 hg8))
        exact chg_back rfl rfl rfl rfl hb8 rfl (HBW.out _ hl8) (HOLD.out _ (HBW.out _ hl8))
      · have i4 : ¬ (phones.length : Int) ≥ 4 := by omega
        obtain ⟨i0, hi0, hz0, hsz0, hby0⟩ := str_tinfo
        have hll : phones.length ≤ 900 := by have := HF.out; unfold Room at this; simp only at this; omega
        have hm1 : phones.length + 1 ≤ maxLen := by unfold maxLen; omega
        have hm2 : (phones.length + 1) * 16 ≤ 140737488355328 := by omega
        have hl3 : phones.length ≤ 1000 := by omega
        have HPA : RowKit.Hid (HasL w3.drew (.slice pp phones.length cp) phones) := Lib.hid ((HPI.out.mono HB.out).ph.mono (Below.refl _ _).drew)
        have HPB : RowKit.Hid (HasL (w3.alloc (.cells #[.string tx] 9)).drew (.slice pp phones.length cp) phones) := Lib.hid ((HPI.out.mono HB.out).ph.mono ((Below.refl _ _).alloc (Nat.le_refl _) _).drew)
        have HD1 : RowKit.Hid (Below w3.heap.size w3 w3.drew) := Lib.hid (Below.refl _ _).drew
        have HD2 : RowKit.Hid (Below w3.heap.size w3 (w3.alloc (.cells #[.string tx] 9)).drew) := Lib.hid ((Below.refl _ _).alloc (Nat.le_refl _) _).drew
        have HZ1 : RowKit.Hid (w.heap.size + 3 ≤ w3.drew.heap.size) := Lib.hid (by simp [hz3])
        have HZ2 : RowKit.Hid (w.heap.size + 3 ≤ (w3.alloc (.cells #[.string tx] 9)).drew.heap.size) := Lib.hid (by simp [hz3])
        have HZ3 : RowKit.Hid (w.heap.size + 3 < (w3.alloc (.cells #[.string tx] 9)).drew.heap.size) := Lib.hid (by simp [hz3])
        have HNB : RowKit.Hid ((w3.alloc (.cells #[.string tx] 9)).drew.heap[w.heap.size + 3]? = some (.cells #[.string tx] 9 (0, 0))) := Lib.hid (by rw [← hz3]; exact heap_alloc_new w3 _)
        have HTC : RowKit.Hid (∀ W, Below w3.heap.size w3 W → W.cell? ⟨w.heap.size + 1, 11, none⟩ = some (.string tx) ∧ W.cell? ⟨w.heap.size, 4, none⟩ = some (.slice pp phones.length cp) ∧ W.frozen? ⟨w.heap.size, 4, none⟩ = false) := Lib.hid fun W hW => ⟨((HB1.out.mono hW).cell 11).trans rfl, ((HB0.out.mono hW).cell 4).trans rfl, (HB0.out.mono hW).frozen 4⟩
        go_upto_region 9 with (first
          | (go_at_call 24; (with_reducible refine (HFR.out _).mono ?_); rintro e W ⟨rfl, rfl⟩))
        go_cut [] from 26 to 33 (fun wx => PAdd w (fun u => [.string loc, .string off, .slice pn names.length cn, .slice ps segs.length cs, u, .int .i64 tk, .int .i64 td, .int .i64 tm, .string recv, .slice pr remarks.length cr, .slice px seats.length cx, .bool queued]) (phones ++ [tx]) wx)
        case first =>
          go_region_law (first
            | (go_simp; go_at_call 80; refine (HCT.out _ _ _ (by first | exact HPA.out | exact HPB.out) hl3).mono ?_; rintro e wC ⟨⟨vC, rfl, hoC⟩, hbC⟩; obtain ⟨pC, nC, cC, rfl⟩ := own_slice hoC; (first | (have hb5 := bel_trans HD1.out hbC; have hoL := own_low (base' := w.heap.size + 3) hoC HZ1.out) | (have hb5 := bel_trans HD2.out hbC; have hoL := own_low (base' := w.heap.size + 3) hoC HZ2.out; have hnb := (hbC.block (w.heap.size + 3) HZ3.out).trans HNB.out)); obtain ⟨tcx, tcp, tcf⟩ := HTC.out _ hb5; have hs5 := hb5.size; have hbs1 : w.heap.size + 3 ≤ (wC.alloc (.cells #[.string tx] 9)).heap.size := (by simp; omega); have hbs2 : w.heap.size + 3 ≤ wC.heap.size := (by omega))
            | (refine step_append_lies _ (by rfl) _ _ _ (by rfl) (w.heap.size + 3) 9 i0 _ 1 16 Tryz.underlying24 hi0 hz0 hsz0 hby0 rfl (by decide) _ phones.length (strV phones) (by rfl) (World.ownsRow.alloc hoL _) ⟨wC.heap.size, 0, none⟩ 1 1 [.string tx] (by rfl) (by rfl) (World.news_of_block (cs := #[.string tx]) (t := 9) (fr := (0, 0)) (heap_alloc_new wC _)) (txtC_one tx) (by decide) hm1 hm2 hbs1 (wC.heap.size + 1) (by simp) ?_; intro gq cq w4 ho4 hg4 hr4 hl4; have hA0 := (HB0.out.mono hb5).alloc (.cells #[.string tx] 9); have hA2 := (HB2.out.mono hb5).alloc (.cells #[.string tx] 9); have hbA := bel_trans (bel_trans HB.out hb5) ((Below.refl _ _).alloc (Nat.le_refl _) (.cells #[.string tx] 9)); have hvA := World.ownsRow.alloc hoL (.cells #[.string tx] 9); have hx := hA0.far hg4 (own_row_ne hvA (by omega)).symm; have hxc := (hx.cell 4).trans rfl; have hxf := hx.frozen 4)
            | (refine step_append_lies _ (by rfl) _ _ _ (by rfl) (w.heap.size + 3) 9 i0 _ 1 16 Tryz.underlying24 hi0 hz0 hsz0 hby0 rfl (by decide) _ phones.length (strV phones) (by rfl) hoL ⟨w.heap.size + 3, 0, none⟩ 1 1 [.string tx] (by rfl) (by rfl) (World.news_of_block (cs := #[.string tx]) (t := 9) (fr := (0, 0)) hnb) (txtC_one tx) (by decide) hm1 hm2 hbs2 wC.heap.size rfl ?_; intro gq cq w4 ho4 hg4 hr4 hl4; have hA0 := HB0.out.mono hb5; have hA2 := HB2.out.mono hb5; have hbA := bel_trans HB.out hb5; have hvA := hoL; have hx := hA0.far hg4 (own_row_ne hvA (by omega)).symm; have hxc := (hx.cell 4).trans rfl; have hxf := hx.frozen 4))
          all_goals (
            go_wp2
            go_meet
            exact txt_done 4 hA0 hA2 hbA hvA (Nat.le_refl _) hg4 (by rw [List.length_append, strV, List.map_append]; exact ho4))
        case rest =>
          rename World => wx
          obtain ⟨p4, n4, c4, k0, k2, kb, kl⟩ := hcut
          have hrr := k0.range
          have HN1 := Lib.hid (pnrC_one (x := ⟨loc, off, names, segs, phones, tk, td, tm, recv, remarks, seats, queued⟩) (p1 := pn) (n1 := names.length) (c1 := cn) (p2 := ps) (n2 := segs.length) (c2 := cs) (p3 := p4) (n3 := n4) (c3 := c4) (p4 := pr) (n4 := remarks.length) (c4 := cr) (p5 := px) (n5 := seats.length) (c5 := cx))
          go_wp2_with (first
            | (refine wpList_load_mid rfl 29 (.tmp 2) rfl w.heap.size 0 rfl _ _ hrr Tryz.underlying29 rfl info_pnr ?_)
            | (refine wpList_store_blk rfl 29 (.tmp 4) (.tmp 34) rfl (w.heap.size + 2) 29 zeroC [.string loc, .string off, .slice pn names.length cn, .slice ps segs.length cs, .slice p4 n4 c4, .int .i64 tk, .int .i64 td, .int .i64 tm, .string recv, .slice pr remarks.length cr, .slice px seats.length cx, .bool queued] rfl rfl k2 rfl info_pnr HN1.out ?_; intro w8 hb8 hl8 hg8))
          have hW := kb.trans (below_le hl8 (by omega))
          have k := HPI.out.mono hW
          obtain ⟨q1, q2, q3, q4, q5, q6, q7⟩ := k.fit
          obtain ⟨f1, f2, f3, f4, f5⟩ := k.few
          have kz : ∀ V, Agr lo w.heap.size w8 V → HasL V (.slice p4 n4 c4) _ := fun V hA => ownL_agr (kl.grown hg8 (own_ne kl (by omega))) (by omega) hA
          have kf : (phones ++ [tx]).length ≤ 1000 := by rw [List.length_append, List.length_singleton]; omega
          have kt : ∀ s ∈ phones ++ [tx], s.size ≤ maxLen := fun s hs => by
            rcases List.mem_append.1 hs with h1 | h1
            · exact q5 s h1
            · rw [List.mem_singleton.1 h1]; exact HDT.out
          exact chg_back rfl rfl rfl rfl hb8 rfl hW ⟨⟨loc, off, names, segs, phones ++ [tx], tk, td, tm, recv, remarks, seats, queued⟩, _, _, _, _, _, rfl, (fun V hA => have k := (HPL.out.mono hW).agr hA; ⟨k.n, k.s, kz V hA, k.rm, k.x, ⟨q1, q2, q3, q4, kt, q6, q7⟩, k.wf, ⟨f1, f2, kf, f4, f5⟩⟩), rfl, rfl, (by simp only [cntP, List.length_append, List.length_singleton]; omega), fun f => ⟨f.nm, f.sg, all_snoc f.ph (free_of_ref HFE.out), f.rm, f.rc, f.tk, f.st⟩⟩
    have g5 : (kd == 5) = false := by simp [k5]
    have g3 : (kd == 3) = false := by simp [k3]
    clear k5 k3
    by_cases k4 : remarks.length ≥ 10
    · have i4 : (remarks.length : Int) ≥ 10 := by omega
      go_wp2_with (first
        | (go_at_call 24; (with_reducible refine (HFR.out _).mono ?_); rintro e W ⟨rfl, rfl⟩)
        | (refine wpList_load_mid rfl 29 (.tmp 2) rfl w.heap.size 0 rfl _ _ hr0 Tryz.underlying29 rfl info_pnr ?_)
        | (refine wpList_store_blk rfl 29 (.tmp 4) (.tmp 39) rfl (w.heap.size + 2) 29 zeroC [.string loc, .string off, .slice pn names.length cn, .slice ps segs.length cs, .slice pp phones.length cp, .int .i64 tk, .int .i64 td, .int .i64 tm, .string recv, .slice pr remarks.length cr, .slice px seats.length cx, .bool queued] rfl rfl HB2.out rfl info_pnr HO1.out ?_; intro w8 hb8 hl8 hg8))
      exact chg_back rfl rfl rfl rfl hb8 rfl (HBW.out _ hl8) (HOLD.out _ (HBW.out _ hl8))
    · have i4 : ¬ (remarks.length : Int) ≥ 10 := by omega
      obtain ⟨i0, hi0, hz0, hsz0, hby0⟩ := str_tinfo
      have hll : remarks.length ≤ 900 := by have := HF.out; unfold Room at this; simp only at this; omega
      have hm1 : remarks.length + 1 ≤ maxLen := by unfold maxLen; omega
      have hm2 : (remarks.length + 1) * 16 ≤ 140737488355328 := by omega
      have hl3 : remarks.length ≤ 1000 := by omega
      have HPA : RowKit.Hid (HasL w3.drew (.slice pr remarks.length cr) remarks) := Lib.hid ((HPI.out.mono HB.out).rm.mono (Below.refl _ _).drew)
      have HPB : RowKit.Hid (HasL (w3.alloc (.cells #[.string tx] 9)).drew (.slice pr remarks.length cr) remarks) := Lib.hid ((HPI.out.mono HB.out).rm.mono ((Below.refl _ _).alloc (Nat.le_refl _) _).drew)
      have HD1 : RowKit.Hid (Below w3.heap.size w3 w3.drew) := Lib.hid (Below.refl _ _).drew
      have HD2 : RowKit.Hid (Below w3.heap.size w3 (w3.alloc (.cells #[.string tx] 9)).drew) := Lib.hid ((Below.refl _ _).alloc (Nat.le_refl _) _).drew
      have HZ1 : RowKit.Hid (w.heap.size + 3 ≤ w3.drew.heap.size) := Lib.hid (by simp [hz3])
      have HZ2 : RowKit.Hid (w.heap.size + 3 ≤ (w3.alloc (.cells #[.string tx] 9)).drew.heap.size) := Lib.hid (by simp [hz3])
      have HZ3 : RowKit.Hid (w.heap.size + 3 < (w3.alloc (.cells #[.string tx] 9)).drew.heap.size) := Lib.hid (by simp [hz3])
      have HNB : RowKit.Hid ((w3.alloc (.cells #[.string tx] 9)).drew.heap[w.heap.size + 3]? = some (.cells #[.string tx] 9 (0, 0))) := Lib.hid (by rw [← hz3]; exact heap_alloc_new w3 _)
      have HTC : RowKit.Hid (∀ W, Below w3.heap.size w3 W → W.cell? ⟨w.heap.size + 1, 11, none⟩ = some (.string tx) ∧ W.cell? ⟨w.heap.size, 9, none⟩ = some (.slice pr remarks.length cr) ∧ W.frozen? ⟨w.heap.size, 9, none⟩ = false) := Lib.hid fun W hW => ⟨((HB1.out.mono hW).cell 11).trans rfl, ((HB0.out.mono hW).cell 9).trans rfl, (HB0.out.mono hW).frozen 9⟩
      go_upto_region 13 with (first
        | (go_at_call 24; (with_reducible refine (HFR.out _).mono ?_); rintro e W ⟨rfl, rfl⟩))
      go_cut [] from 40 to 47 (fun wx => PAdd w (fun u => [.string loc, .string off, .slice pn names.length cn, .slice ps segs.length cs, .slice pp phones.length cp, .int .i64 tk, .int .i64 td, .int .i64 tm, .string recv, u, .slice px seats.length cx, .bool queued]) (remarks ++ [tx]) wx)
      case first =>
        go_region_law (first
          | (go_simp; go_at_call 80; refine (HCT.out _ _ _ (by first | exact HPA.out | exact HPB.out) hl3).mono ?_; rintro e wC ⟨⟨vC, rfl, hoC⟩, hbC⟩; obtain ⟨pC, nC, cC, rfl⟩ := own_slice hoC; (first | (have hb5 := bel_trans HD1.out hbC; have hoL := own_low (base' := w.heap.size + 3) hoC HZ1.out) | (have hb5 := bel_trans HD2.out hbC; have hoL := own_low (base' := w.heap.size + 3) hoC HZ2.out; have hnb := (hbC.block (w.heap.size + 3) HZ3.out).trans HNB.out)); obtain ⟨tcx, tcp, tcf⟩ := HTC.out _ hb5; have hs5 := hb5.size; have hbs1 : w.heap.size + 3 ≤ (wC.alloc (.cells #[.string tx] 9)).heap.size := (by simp; omega); have hbs2 : w.heap.size + 3 ≤ wC.heap.size := (by omega))
          | (refine step_append_lies _ (by rfl) _ _ _ (by rfl) (w.heap.size + 3) 9 i0 _ 1 16 Tryz.underlying24 hi0 hz0 hsz0 hby0 rfl (by decide) _ remarks.length (strV remarks) (by rfl) (World.ownsRow.alloc hoL _) ⟨wC.heap.size, 0, none⟩ 1 1 [.string tx] (by rfl) (by rfl) (World.news_of_block (cs := #[.string tx]) (t := 9) (fr := (0, 0)) (heap_alloc_new wC _)) (txtC_one tx) (by decide) hm1 hm2 hbs1 (wC.heap.size + 1) (by simp) ?_; intro gq cq w4 ho4 hg4 hr4 hl4; have hA0 := (HB0.out.mono hb5).alloc (.cells #[.string tx] 9); have hA2 := (HB2.out.mono hb5).alloc (.cells #[.string tx] 9); have hbA := bel_trans (bel_trans HB.out hb5) ((Below.refl _ _).alloc (Nat.le_refl _) (.cells #[.string tx] 9)); have hvA := World.ownsRow.alloc hoL (.cells #[.string tx] 9); have hx := hA0.far hg4 (own_row_ne hvA (by omega)).symm; have hxc := (hx.cell 9).trans rfl; have hxf := hx.frozen 9)
          | (refine step_append_lies _ (by rfl) _ _ _ (by rfl) (w.heap.size + 3) 9 i0 _ 1 16 Tryz.underlying24 hi0 hz0 hsz0 hby0 rfl (by decide) _ remarks.length (strV remarks) (by rfl) hoL ⟨w.heap.size + 3, 0, none⟩ 1 1 [.string tx] (by rfl) (by rfl) (World.news_of_block (cs := #[.string tx]) (t := 9) (fr := (0, 0)) hnb) (txtC_one tx) (by decide) hm1 hm2 hbs2 wC.heap.size rfl ?_; intro gq cq w4 ho4 hg4 hr4 hl4; have hA0 := HB0.out.mono hb5; have hA2 := HB2.out.mono hb5; have hbA := bel_trans HB.out hb5; have hvA := hoL; have hx := hA0.far hg4 (own_row_ne hvA (by omega)).symm; have hxc := (hx.cell 9).trans rfl; have hxf := hx.frozen 9))
        all_goals (
          go_wp2
          go_meet
          exact txt_done 9 hA0 hA2 hbA hvA (Nat.le_refl _) hg4 (by rw [List.length_append, strV, List.map_append]; exact ho4))
      case rest =>
        rename World => wx
        obtain ⟨p4, n4, c4, k0, k2, kb, kl⟩ := hcut
        have hrr := k0.range
        have HN1 := Lib.hid (pnrC_one (x := ⟨loc, off, names, segs, phones, tk, td, tm, recv, remarks, seats, queued⟩) (p1 := pn) (n1 := names.length) (c1 := cn) (p2 := ps) (n2 := segs.length) (c2 := cs) (p3 := pp) (n3 := phones.length) (c3 := cp) (p4 := p4) (n4 := n4) (c4 := c4) (p5 := px) (n5 := seats.length) (c5 := cx))
        go_wp2_with (first
          | (refine wpList_load_mid rfl 29 (.tmp 2) rfl w.heap.size 0 rfl _ _ hrr Tryz.underlying29 rfl info_pnr ?_)
          | (refine wpList_store_blk rfl 29 (.tmp 4) (.tmp 48) rfl (w.heap.size + 2) 29 zeroC [.string loc, .string off, .slice pn names.length cn, .slice ps segs.length cs, .slice pp phones.length cp, .int .i64 tk, .int .i64 td, .int .i64 tm, .string recv, .slice p4 n4 c4, .slice px seats.length cx, .bool queued] rfl rfl k2 rfl info_pnr HN1.out ?_; intro w8 hb8 hl8 hg8))
        have hW := kb.trans (below_le hl8 (by omega))
        have k := HPI.out.mono hW
        obtain ⟨q1, q2, q3, q4, q5, q6, q7⟩ := k.fit
        obtain ⟨f1, f2, f3, f4, f5⟩ := k.few
        have kz : ∀ V, Agr lo w.heap.size w8 V → HasL V (.slice p4 n4 c4) _ := fun V hA => ownL_agr (kl.grown hg8 (own_ne kl (by omega))) (by omega) hA
        have kf : (remarks ++ [tx]).length ≤ 1000 := by rw [List.length_append, List.length_singleton]; omega
        have kt : ∀ s ∈ remarks ++ [tx], s.size ≤ maxLen := fun s hs => by
          rcases List.mem_append.1 hs with h1 | h1
          · exact q7 s h1
          · rw [List.mem_singleton.1 h1]; exact HDT.out
        exact chg_back rfl rfl rfl rfl hb8 rfl hW ⟨⟨loc, off, names, segs, phones, tk, td, tm, recv, remarks ++ [tx], seats, queued⟩, _, _, _, _, _, rfl, (fun V hA => have k := (HPL.out.mono hW).agr hA; ⟨k.n, k.s, k.ph, kz V hA, k.x, ⟨q1, q2, q3, q4, q5, q6, kt⟩, k.wf, ⟨f1, f2, f3, kf, f5⟩⟩), rfl, rfl, (by simp only [cntP, List.length_append, List.length_singleton]; omega), fun f => ⟨f.nm, f.sg, f.ph, all_snoc f.rm (free_of_ref HFE.out), f.rc, f.tk, f.st⟩⟩
end Go.Proofs.YtmhhbnnjilbdnaaGreatDoor
namespace Go.Proofs.YtmhhbnnjilbdnaaGreatDoor
open Go.RowKit Go.ChangeMaps
set_option linter.unusedSimpArgs false
set_option linter.unusedVariables false
set_option maxRecDepth 20000

/-- A list that was lengthened or made anew, laid into a PNR's cell. -/
def RAdd {α : Type} (enc : α → List Value) (E : TypeId) (st : Nat) (w : World) (cs : Value → List Value) (l : List α) (wx : World) : Prop := ∃ p n c, Blk wx w.heap.size 29 (cs (.slice p n c)) ∧ Blk wx (w.heap.size + 2) 29 zeroC ∧ Below w.heap.size w wx ∧ wx.ownsRow (w.heap.size + 3) E st (.slice p n c) l.length (l.flatMap enc)

theorem row_done {α : Type} {enc : α → List Value} {E : TypeId} {st : Nat} {w wA w4 : World} {B n : Nat} {v : Value} {p4 : Option Addr} {n4 c4 : Nat} {cs : List Value} {l : List α} {xs : List Value} (j : Nat) (h0 : Blk wA w.heap.size 29 cs) (h2 : Blk wA (w.heap.size + 2) 29 zeroC) (hb : Below w.heap.size w wA) (hv : wA.ownsRow B E st v n xs) (hB : w.heap.size + 3 ≤ B) (hg : wA.grownBy w4 v.ownBlock) (ho : w4.ownsRow B E st (.slice p4 n4 c4) l.length (l.flatMap enc)) :
    RAdd enc E st w (fun u => cs.set j u) l (w4.setCell ⟨w.heap.size, j, none⟩ (.slice p4 n4 c4)) := by
  have hne : ∀ k, k < w.heap.size + 3 → some k ≠ v.ownBlock := fun k hk e => by
    have := (World.ownsRow.lt hv k e.symm).1
    omega
  have h04 := h0.far hg (hne _ (by omega))
  have h24 := h2.far hg (hne _ (by omega))
  have hs : w4.grownBy (w4.setCell ⟨w.heap.size, j, none⟩ (.slice p4 n4 c4)) (some w.heap.size) := gr_setCell1 (World.grownBy.refl _ _) j _
  have hb4 : Below w.heap.size w w4 := hb.grown hg hb.size fun k hk => by
    have := (World.ownsRow.lt hv k hk).1
    omega
  refine ⟨p4, n4, c4, h04.set j _, h24.far hs (by intro e; injection e with e; omega), hb4.grown hs hb4.size (fun k hk => by injection hk with hk; omega), ?_⟩
  exact own_low (World.ownsRow.kept ho hs (own_ne ho (by omega))) hB
end Go.Proofs.YtmhhbnnjilbdnaaGreatDoor
namespace Go.Proofs.YtmhhbnnjilbdnaaGreatDoor
open Go.RowKit Go.ChangeMaps
set_option linter.unusedSimpArgs false
set_option linter.unusedVariables false
set_option maxRecDepth 20000

/-- The list of places while it is made: the PNR's cells with the list so far ('csf v'), the edit, the result, the place to be added, the places that stay, the list so far. -/
structure SL (w wr : World) (gm : Nat) (csf : Value → List Value) (dc : List Value) (mine : PlaceT) (vq : Value) (rest r : List PlaceT) (v : Value) : Prop where
  b0 : Blk wr w.heap.size 29 (csf v)
  b1 : Blk wr (w.heap.size + 1) 48 dc
  b2 : Blk wr (w.heap.size + 2) 29 zeroC
  bm : Blk wr gm 72 (placeC mine)
  hm : w.heap.size + 3 ≤ gm
  q : wr.ownsRow (w.heap.size + 3) 72 4 vq rest.length (rest.flatMap placeC)
  ql : ∀ k, vq.ownBlock = some k → k < gm
  own : wr.ownsRow (gm + 1) 72 4 v r.length (r.flatMap placeC)
  bel : Below w.heap.size w wr

theorem SL.mono {w wr W : World} {gm : Nat} {csf : Value → List Value} {dc : List Value} {mine : PlaceT} {vq : Value} {rest r : List PlaceT} {v : Value} (h : SL w wr gm csf dc mine vq rest r v) (hb : Below wr.heap.size wr W) : SL w W gm csf dc mine vq rest r v :=
  ⟨h.b0.mono hb, h.b1.mono hb, h.b2.mono hb, h.bm.mono hb, h.hm, own_mono h.q hb, h.ql, own_mono h.own hb, bel_trans h.bel hb⟩

theorem SL.push {w W w4 : World} {gm : Nat} {csf : Value → List Value} {dc : List Value} {mine : PlaceT} {vq : Value} {rest r : List PlaceT} {v v4 : Value} {x : PlaceT} (h : SL w W gm csf dc mine vq rest r v) (hcs : (csf v).set 10 v4 = csf v4) (hg : W.grownBy w4 v.ownBlock) (ho : w4.ownsRow (gm + 1) 72 4 v4 (r.length + 1) (r.flatMap placeC ++ placeC x)) :
    SL w (w4.setCell ⟨w.heap.size, 10, none⟩ v4) gm csf dc mine vq rest (r ++ [x]) v4 := by
  have hm := h.hm
  have hlt : ∀ k, v.ownBlock = some k → gm + 1 ≤ k := fun k hk => (World.ownsRow.lt h.own k hk).1
  have hne : ∀ k, k < gm + 1 → some k ≠ v.ownBlock := fun k hk e => by
    have := hlt k e.symm
    omega
  have hs : w4.grownBy (w4.setCell ⟨w.heap.size, 10, none⟩ v4) (some w.heap.size) := gr_setCell1 (World.grownBy.refl _ _) 10 _
  have hb4 : Below w.heap.size w w4 := h.bel.grown hg h.bel.size fun k hk => by
    have := hlt k hk
    omega
  have h0 := (h.b0.far hg (hne _ (by omega))).set 10 v4
  rw [hcs] at h0
  have hq4 : w4.ownsRow (w.heap.size + 3) 72 4 vq rest.length (rest.flatMap placeC) := World.ownsRow.kept h.q hg (by
    rcases hk : vq.ownBlock with _ | k
    · exact .inl rfl
    · refine .inr fun e => ?_
      have h1 := h.ql k hk
      have h2 := hlt k e.symm
      omega)
  refine ⟨h0, (h.b1.far hg (hne _ (by omega))).far hs (by intro e; injection e with e; omega), (h.b2.far hg (hne _ (by omega))).far hs (by intro e; injection e with e; omega), (h.bm.far hg (hne _ (by omega))).far hs (by intro e; injection e with e; omega), hm, World.ownsRow.kept hq4 hs (own_ne hq4 (by omega)), h.ql, ?_, hb4.grown hs hb4.size (fun k hk => by injection hk with hk; omega)⟩
  have e1 : (r ++ [x]).flatMap placeC = r.flatMap placeC ++ placeC x := by rw [List.flatMap_append]; simp
  rw [List.length_append, List.length_singleton, e1]
  exact World.ownsRow.kept ho hs (own_ne ho (by omega))

theorem SL.start {w w7 : World} {gm : Nat} {csf : Value → List Value} {cs0 dc : List Value} {mine : PlaceT} {vq : Value} {rest : List PlaceT} (h0 : Blk w7 w.heap.size 29 cs0) (hcs : cs0.set 10 (.slice none 0 0) = csf (.slice none 0 0)) (h1 : Blk w7 (w.heap.size + 1) 48 dc) (h2 : Blk w7 (w.heap.size + 2) 29 zeroC)
    (hbm : Blk w7 gm 72 (placeC mine)) (hm : w.heap.size + 3 ≤ gm) (hq : w7.ownsRow (w.heap.size + 3) 72 4 vq rest.length (rest.flatMap placeC)) (ql : ∀ k, vq.ownBlock = some k → k < gm) (hb : Below w.heap.size w w7) :
    SL w (w7.setCell ⟨w.heap.size, 10, none⟩ (.slice none 0 0)) gm csf dc mine vq rest [] (.slice none 0 0) := by
  have hs : w7.grownBy (w7.setCell ⟨w.heap.size, 10, none⟩ (.slice none 0 0)) (some w.heap.size) := gr_setCell1 (World.grownBy.refl _ _) 10 _
  have h00 := h0.set 10 (.slice none 0 0)
  rw [hcs] at h00
  exact ⟨h00, h1.far hs (by intro e; injection e with e; omega), h2.far hs (by intro e; injection e with e; omega), hbm.far hs (by intro e; injection e with e; omega), hm, World.ownsRow.kept hq hs (own_ne hq (by omega)), ql, World.ownsRow_nil _ _ _ _, hb.grown hs hb.size (fun k hk => by injection hk with hk; omega)⟩

/-- The PNR with the new list. -/
theorem seats_pin {w : World} {p : PnrT} {vn vs vp vr vx v : Value} {r : List PlaceT} {mine : PlaceT} (k : PIn w p vn vs vp vr vx) (hx : HasE placeC w v r) (hl : r.length ≤ 1000) (hm : ∀ x ∈ r, x ∈ p.seats ∨ x = mine) (hw : (Lit.int .i64 mine.seg).wf = true) :
    PIn w { p with seats := r } vn vs vp vr v := by
  obtain ⟨q1, q2, q3, q4, q5, q6, q7⟩ := k.fit
  obtain ⟨f1, f2, f3, f4, f5⟩ := k.few
  refine ⟨k.n, k.s, k.ph, k.rm, hx, ⟨q1, q2, q3, q4, q5, q6, q7⟩, fun x h => ?_, ⟨f1, f2, f3, f4, hl⟩⟩
  rcases hm x h with h1 | rfl
  · exact k.wf x h1
  · exact hw

theorem seats_kept {p : PnrT} {r : List PlaceT} {mine : PlaceT} (hln : r.length ≤ p.seats.length + 1) (hm : ∀ x ∈ r, x ∈ p.seats ∨ x = mine) (hs : (1 ≤ mine.row ∧ mine.row ≤ 99 ∧ bL mine.c = true) ∧ (Lit.int .i64 mine.pax).wf = true) : Kept p { p with seats := r } := by
  refine ⟨rfl, rfl, (by simp only [cntP]; omega), fun f => ⟨f.nm, f.sg, f.ph, f.rm, f.rc, f.tk, fun x h => ?_⟩⟩
  rcases hm x h with h1 | rfl
  · exact f.st x h1
  · exact hs

theorem seatT_some {r : Int} {c : UInt8} (h : ((seatT r c).toList == []) = false) : 1 ≤ r ∧ r ≤ 99 ∧ bL c = true := by
  have e : ((seatT r c).toList == []) = !decide (1 ≤ r ∧ r ≤ 99 ∧ bL c = true) := seatT_empty
  rw [e] at h
  by_cases k : 1 ≤ r ∧ r ≤ 99 ∧ bL c = true
  · exact k
  · rw [decide_eq_false k] at h; cases h
end Go.Proofs.YtmhhbnnjilbdnaaGreatDoor
namespace Go.Proofs.YtmhhbnnjilbdnaaGreatDoor
open Go.RowKit Go.ChangeMaps
set_option linter.unusedSimpArgs false
set_option linter.unusedVariables false
set_option maxRecDepth 20000

/-- What reads the same when one block between lo and hi was written. -/
theorem agr_store {lo hi hi2 g : Nat} {w4 w8 V : World} (hg : w4.grownBy w8 (some g)) (h1 : lo ≤ g) (h2 : g < hi) (h3 : hi2 ≤ hi) (hA : Agr lo hi2 w8 V) : Agr lo hi w4 V := fun a u ha hc => by
  refine hA a u (ha.imp id fun k => Nat.le_trans h3 k) ?_
  rw [hg.cell_far a (World.block_lt_of_cell? w4 a hc) (by intro e; injection e with e; omega)]
  exact hc

theorem pin_one {w : World} {x : PnrT} {vn vs vp vr vx : Value} (h : PIn w x vn vs vp vr vx) : ∀ v ∈ pnrC x vn vs vp vr vx, v.oneCell' = true := by
  obtain ⟨_, _, rfl⟩ := h.n.len
  obtain ⟨_, _, rfl⟩ := h.s.len
  obtain ⟨_, _, rfl⟩ := own_len h.ph
  obtain ⟨_, _, rfl⟩ := own_len h.rm
  obtain ⟨_, _, rfl⟩ := h.x.len
  exact pnrC_one

theorem own_pos {w : World} {B : Nat} {e : TypeId} {st n : Nat} {v : Value} {xs : List Value} (h : w.ownsRow B e st v n xs) (hn : 0 < n) : ∃ b c, v = .slice (some ⟨b, 0, none⟩) n c ∧ B ≤ b ∧ b < w.heap.size := by
  rcases h.2 with ⟨_, e2⟩ | ⟨g, cap, cur, e1, hb, hg, _⟩
  · omega
  · exact ⟨g, cap, e1, hb, (Array.getElem?_eq_some_iff.1 hg).1⟩

/-- A segment that is cancelled. -/
def offS (s : SegT) : SegT := { s with live := false }
theorem segs_set : ∀ (l : List SegT) (k : Nat), k < l.length → (l.flatMap segC).set (k * 5 + 4) (.bool false) = (l.set k (offS (l.getD k sg0))).flatMap segC
  | [], _, h => by simp at h
  | s :: l, 0, _ => by
    obtain ⟨a, b, c, d, e⟩ := s
    simp [segC, offS]
  | s :: l, k + 1, h => by
    have ih := segs_set l k (by simpa using h)
    rw [List.flatMap_cons, List.set_append_right _ _ (by simp [segC]; omega), List.set_cons_succ, List.flatMap_cons, show (k + 1) * 5 + 4 - (segC s).length = k * 5 + 4 by simp [segC]; omega, ih]
    rfl

theorem segs_at : ∀ (l : List SegT) (k : Nat), k < l.length → (l.flatMap segC)[k * 5 + 4]? = some (.bool (l.getD k sg0).live)
  | [], _, h => by simp at h
  | s :: l, 0, _ => by simp [segC]
  | s :: l, k + 1, h => by
    have ih := segs_at l k (by simpa using h)
    rw [List.flatMap_cons, List.getElem?_append_right (by simp [segC]; omega), show (k + 1) * 5 + 4 - (segC s).length = k * 5 + 4 by simp [segC]; omega, ih]
    rfl

theorem mem_off {l : List SegT} {k : Nat} (hk : k < l.length) {x : SegT} (h : x ∈ l.set k (offS (l.getD k sg0))) : ∃ y ∈ l, x = y ∨ x = offS y := by
  rcases List.mem_or_eq_of_mem_set h with h1 | h1
  · exact ⟨x, h1, .inl rfl⟩
  · exact ⟨_, List.mem_of_getElem? (getD_at sg0 hk), .inr h1⟩

theorem tf_ok {tk td tm : Int} (h : tfS tk td tm = true) : tickOk tk td tm false := tick_tf.2 ⟨.inr h, fun h => by cases h⟩

theorem tick3' {a b c : Int} : ∀ v ∈ [Value.int .i64 a, .int .i64 b, .int .i64 c], v.oneCell' = true := by
  intro v hv
  simp at hv
  rcases hv with rfl | rfl | rfl <;> rfl
end Go.Proofs.YtmhhbnnjilbdnaaGreatDoor
namespace Go.Proofs.YtmhhbnnjilbdnaaGreatDoor
open Go.RowKit Go.ChangeMaps
set_option linter.unusedSimpArgs false
set_option linter.unusedVariables false
set_option maxRecDepth 20000

def smlB (p : PnrT) : Bool := decide (p.names.length ≤ 60 ∧ p.segs.length ≤ 60 ∧ p.phones.length ≤ 60 ∧ p.remarks.length ≤ 60 ∧ p.seats.length ≤ 200)

theorem room_of {p : PnrT} (h : smlB p = true) : Room p ∧ (p.names.length ≤ 1000 ∧ p.segs.length ≤ 1000 ∧ p.phones.length ≤ 1000 ∧ p.remarks.length ≤ 1000 ∧ p.seats.length ≤ 1000) := by
  have h := of_decide_eq_true h
  unfold Room
  omega

end Go.Proofs.YtmhhbnnjilbdnaaGreatDoor
