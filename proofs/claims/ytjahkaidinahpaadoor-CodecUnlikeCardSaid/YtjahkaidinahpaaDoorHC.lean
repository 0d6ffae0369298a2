/- An edit; whose seat it is about (the reference). -/
import Derived.Test.YtjahkaidinahpaaDoorHB
namespace Go.Proofs.YtjahkaidinahpaaDoor
open Go.RowKit Go.ChangeMaps
set_option linter.unusedSimpArgs false
set_option linter.unusedVariables false
set_option maxRecDepth 20000

/-- An edit of a PNR. -/
structure EditT where
  kind : Int
  name : NameT
  seg : SegT
  tk : Int
  td : Int
  tm : Int
  text : ByteArray
  n : Int
  pax : Int
  row : Int
  c : UInt8

def editC (d : EditT) : List Value := [.int .i64 d.kind, .string d.name.last, .string d.name.first, .string d.seg.car, .int .i64 d.seg.num, .int .i64 d.seg.day, .int .u8 d.seg.cls.toNat, .bool d.seg.live, .int .i64 d.tk, .int .i64 d.td, .int .i64 d.tm, .string d.text, .int .i64 d.n, .int .i64 d.pax, .int .i64 d.row, .int .u8 d.c.toNat]

theorem info_edit : (Tryd.prog.info? 41).map (·.size) = some 16 := by kernel_rfl

/-- What is known of an edit that came in. -/
structure EditOk (d : EditT) : Prop where
  last : d.name.last.size ≤ maxLen
  first : d.name.first.size ≤ maxLen
  car : d.seg.car.size ≤ maxLen
  text : d.text.size ≤ maxLen
  n : (Lit.int .i64 d.n).wf = true

set_option maxHeartbeats 16000000 in
theorem whose_any (p : PnrT) (vn vs vp vr vx : Value) (d : EditT) (w : World) (hn : HasE nameC w vn p.names) (hs : HasE segC w vs p.segs) (hl : p.segs.length ≤ 1000) (hd : EditOk d) :
    Calls Tryd.prog 108 #[.agg (pnrC p vn vs vp vr vx).toArray, .agg (editC d).toArray] w fun e w' => (∃ f : Int, e = .returned (.int .i64 f)) ∧ Below w.heap.size w w' := by
  obtain ⟨pn, cn, rfl⟩ := hn.len
  have HIL : RowKit.Hid (∀ W, Below w.heap.size w W → Calls Tryd.prog 104 #[.agg (pnrC p (.slice pn p.names.length cn) vs vp vr vx).toArray, .int .i64 d.n] W fun e w' => e = .returned (.bool (liveS p.segs d.n)) ∧ Below W.heap.size W w') := Lib.hid fun W h => isLive_any p _ vs vp vr vx d.n W hd.n (hs.mono h) hl
  obtain ⟨loc, off, names, segs, phones, tk, td, tm, recv, remarks, seats, queued⟩ := p
  obtain ⟨kd, ⟨nl, nf⟩, ⟨car, num, day, cls, live⟩, ek, ed, em, tx, n, pax, row, c⟩ := d
  have hA1 : Below w.heap.size w (w.alloc (.cells #[.string loc, .string off, .slice pn names.length cn, vs, vp, .int .i64 tk, .int .i64 td, .int .i64 tm, .string recv, vr, vx, .bool queued] 29)) := (Below.refl _ _).alloc (Nat.le_refl _) _
  have hB1 := Blk.new w 29 [.string loc, .string off, .slice pn names.length cn, vs, vp, .int .i64 tk, .int .i64 td, .int .i64 tm, .string recv, vr, vx, .bool queued]
  unfold pnrC at HIL ⊢
  unfold editC
  simp only at HIL ⊢
  generalize liveS segs n = lv at *
  generalize names.length = N at *
  generalize hw1 : w.alloc (.cells #[.string loc, .string off, .slice pn N cn, vs, vp, .int .i64 tk, .int .i64 td, .int .i64 tm, .string recv, vr, vx, .bool queued] 29) = w1 at hA1
  have hA2 : Below w1.heap.size w1 (w1.alloc (.cells #[.int .i64 kd, .string nl, .string nf, .string car, .int .i64 num, .int .i64 day, .int .u8 cls.toNat, .bool live, .int .i64 ek, .int .i64 ed, .int .i64 em, .string tx, .int .i64 n, .int .i64 pax, .int .i64 row, .int .u8 c.toNat] 41)) := (Below.refl _ _).alloc (Nat.le_refl _) _
  have hB2 := Blk.new w1 41 [.int .i64 kd, .string nl, .string nf, .string car, .int .i64 num, .int .i64 day, .int .u8 cls.toNat, .bool live, .int .i64 ek, .int .i64 ed, .int .i64 em, .string tx, .int .i64 n, .int .i64 pax, .int .i64 row, .int .u8 c.toNat]
  generalize hw2 : w1.alloc (.cells #[.int .i64 kd, .string nl, .string nf, .string car, .int .i64 num, .int .i64 day, .int .u8 cls.toNat, .bool live, .int .i64 ek, .int .i64 ed, .int .i64 em, .string tx, .int .i64 n, .int .i64 pax, .int .i64 row, .int .u8 c.toNat] 41) = w2 at hA2
  simp only [List.toArray] at hB1 hB2
  rw [hw1] at hB1
  rw [hw2] at hB2
  have hb02 := bel_trans hA1 hA2
  have HB02 := Lib.hid hb02
  have hr := (hB1.mono hA2).range
  have HP : RowKit.Hid (∀ W, Below w2.heap.size w2 W → W.cell? ⟨w.heap.size, 2, none⟩ = some (.slice pn N cn) ∧ W.cell? ⟨w1.heap.size, 13, none⟩ = some (.int .i64 pax)) := Lib.hid fun W h => ⟨(((hB1.mono hA2).mono h).cell 2).trans rfl, ((hB2.mono h).cell 13).trans rfl⟩
  have d12 : w2.cell? ⟨w1.heap.size, 12, none⟩ = some (.int .i64 n) := (hB2.cell 12).trans rfl
  clear hA1 hA2 hB1 hB2 hb02 hn hs hl hd
  go_enter Tryd.func108, Tryd.ntmps108
  go_upto_region 1 with fail
  try rw [hw1, hw2]
  clear hw1 hw2
  generalize w1.heap.size = g1 at *
  cases lv with
  | false =>
    go_wp2_with (first
      | (refine wpList_load_mid rfl 29 (.tmp 2) rfl w.heap.size 0 rfl _ _ hr Tryd.underlying29 rfl info_pnr ?_)
      | (go_at_call 104; (with_reducible refine (HIL.out _ HB02.out).mono ?_); rintro e w3 ⟨rfl, hb3⟩))
    go_ret
    exact ⟨⟨_, rfl⟩, below_low HB02.out HB02.out.size hb3⟩
  | true =>
    by_cases k1 : pax < 1
    · go_wp2_with (first
        | (refine wpList_load_mid rfl 29 (.tmp 2) rfl w.heap.size 0 rfl _ _ hr Tryd.underlying29 rfl info_pnr ?_)
        | (go_at_call 104; (with_reducible refine (HIL.out _ HB02.out).mono ?_); rintro e w3 ⟨rfl, hb3⟩; obtain ⟨y2, y13⟩ := HP.out _ hb3))
      go_ret
      exact ⟨⟨_, rfl⟩, below_low HB02.out HB02.out.size hb3⟩
    by_cases k2 : pax > (N : Int)
    · go_wp2_with (first
        | (refine wpList_load_mid rfl 29 (.tmp 2) rfl w.heap.size 0 rfl _ _ hr Tryd.underlying29 rfl info_pnr ?_)
        | (go_at_call 104; (with_reducible refine (HIL.out _ HB02.out).mono ?_); rintro e w3 ⟨rfl, hb3⟩; obtain ⟨y2, y13⟩ := HP.out _ hb3))
      go_ret
      exact ⟨⟨_, rfl⟩, below_low HB02.out HB02.out.size hb3⟩
    · go_wp2_with (first
        | (refine wpList_load_mid rfl 29 (.tmp 2) rfl w.heap.size 0 rfl _ _ hr Tryd.underlying29 rfl info_pnr ?_)
        | (go_at_call 104; (with_reducible refine (HIL.out _ HB02.out).mono ?_); rintro e w3 ⟨rfl, hb3⟩; obtain ⟨y2, y13⟩ := HP.out _ hb3))
      go_ret
      exact ⟨⟨_, rfl⟩, below_low HB02.out HB02.out.size hb3⟩
end Go.Proofs.YtjahkaidinahpaaDoor
