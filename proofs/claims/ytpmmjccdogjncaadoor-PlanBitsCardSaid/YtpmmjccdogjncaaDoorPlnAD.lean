/- The law's awake. -/
import Derived.Test.YtpmmjccdogjncaaDoorPlnAC
namespace Go.Proofs.YtpmmjccdogjncaaDoor
open Go.RowKit Go.ChangeMaps
set_option linter.unusedSimpArgs false

def p0 : Pl := ⟨1, 3, ⟨#[65, 66, 46, 67]⟩, [2], [(1, 66)]⟩
def l0 : List UInt8 := [65, 66, 67]

theorem p0_let : letF p0.lets.data.toList = some l0 := by decide
theorem p0_right : rightB p0 = true := by decide

theorem obQ_has (p : Pl) (l : List UInt8) : obQ (placesL p.first p.last l) (markF p l) = hasB p l := funext fun s => lk_has p l s

theorem markF_num (p : Pl) (l : List UInt8) (s : St) : (markF p l s).num = atL (placesL p.first p.last l) s := by
  unfold markF; split <;> rfl

theorem markF_blk (p : Pl) (l : List UInt8) (s : St) : (markF p l s).blk = decide (s ∈ p.bks) := by
  unfold markF
  split
  · rename_i h; rw [decide_eq_true h]
  · rename_i h; rw [decide_eq_false h]

/-- What is known of a map that was made. -/
structure MapK (w : World) (g b : Nat) (vl : Value) (p : Pl) (l : List UInt8) : Prop where
  ob : Ob w g b (placesL p.first p.last l) (markF p l)
  cell : w.cell? ⟨g, 1, none⟩ = some vl
  has : HasE stC w vl (placesL p.first p.last l)

theorem MapObj.known {w : World} {B : Nat} {v : Value} {p : Pl} {l : List UInt8} (h : MapObj w B v p l) : ∃ g b vl, v = .pointer (some ⟨g, 0, none⟩) ∧ MapK w g b vl p l := by
  obtain ⟨g, b, vl, e, h⟩ := h
  exact ⟨g, b, vl, e, h.ob, (h.blk.cell 1).trans rfl, h.own.has⟩

theorem MapK.mono {w w' : World} {g b : Nat} {vl : Value} {p : Pl} {l : List UInt8} (h : MapK w g b vl p l) (hb : Below w.heap.size w w') : MapK w' g b vl p l :=
  ⟨h.ob.mono hb, cell_bel hb h.cell, h.has.mono hb⟩

section
variable {w : World} {g b : Nat} {vl : Value} {p : Pl} {l : List UInt8}

theorem MapK.callHas (h : MapK w g b vl p l) (s : St) (hs : okRow s.1) : Calls Tryd.prog 28 #[.pointer (some ⟨g, 0, none⟩), .agg #[.int .i64 s.1, .int .u8 s.2.toNat]] w fun e w' => e = .returned (.bool (hasB p l s)) ∧ Below w.heap.size w w' := by
  have := has_ob g b _ _ s w h.ob hs
  rw [lk_has] at this
  exact this

theorem MapK.callNumber (h : MapK w g b vl p l) (s : St) (hs : okRow s.1) : Calls Tryd.prog 30 #[.pointer (some ⟨g, 0, none⟩), .agg #[.int .i64 s.1, .int .u8 s.2.toNat]] w fun e w' => e = .returned (.int .i64 (atL (placesL p.first p.last l) s)) ∧ Below w.heap.size w w' := by
  have := number_ob g b _ _ s w h.ob hs
  rw [lk_num] at this
  exact this

theorem MapK.callMarks (h : MapK w g b vl p l) (s : St) (hs : okRow s.1) : Calls Tryd.prog 32 #[.pointer (some ⟨g, 0, none⟩), .agg #[.int .i64 s.1, .int .u8 s.2.toNat]] w fun e w' => e = .returned (.string (mksT p l s)) ∧ Below w.heap.size w w' := by
  have := marks_ob g b _ _ s w h.ob hs
  rw [lk_txt] at this
  exact this

theorem MapK.callSeats (h : MapK w g b vl p l) (hP : (placesL p.first p.last l).length ≤ 1000) : Calls Tryd.prog 25 #[.pointer (some ⟨g, 0, none⟩)] w fun e w' => ∃ v, e = .returned v ∧ OwnS w' w.heap.size v ((placesL p.first p.last l).filter fun s => !decide (s ∈ p.bks)) ∧ Below w.heap.size w w' := by
  have := seats_ob g b vl _ _ w h.ob h.cell h.has hP
  have e : (fun s => !(markF p l s).blk) = fun s => !decide (s ∈ p.bks) := funext fun s => by rw [markF_blk]
  rw [e] at this
  exact this

theorem MapK.callBits (h : MapK w g b vl p l) (vs : Value) (L : List St) (hvs : HasE stC w vs L) (hP : (placesL p.first p.last l).length ≤ 1000) (hL : L.length ≤ 100000) (hok : ∀ s, s ∈ L → okRow s.1) (hnd : (placesL p.first p.last l).Nodup) :
    Calls Tryd.prog 35 #[.pointer (some ⟨g, 0, none⟩), vs] w fun e w' => ∃ v, e = .returned (.tuple #[v, .int .i64 (bitsE (hasB p l) L)]) ∧ OwnW w' w.heap.size v (bitsR (placesL p.first p.last l) (hasB p l) L) ∧ Below w.heap.size w w' := by
  have := bits_ob g b vl vs _ _ L w h.ob h.cell h.has hvs hP hL (fun s _ => markF_num p l s) hok hnd
  rw [obQ_has] at this
  exact this

theorem MapK.callOf (h : MapK w g b vl p l) (vw : Value) (W : List Nat) (hvw : HasE wordC w vw W) (hP : (placesL p.first p.last l).length ≤ 1000) (hW : W.length ≤ 1000000) (hwf : ∀ x, x ∈ W → x < 18446744073709551616) :
    Calls Tryd.prog 38 #[.pointer (some ⟨g, 0, none⟩), vw] w fun e w' => ∃ v, e = .returned (.tuple #[v, .int .i64 (ofE (placesL p.first p.last l) (hasB p l) W)]) ∧ OwnS w' w.heap.size v (ofR (placesL p.first p.last l) (hasB p l) W) ∧ Below w.heap.size w w' := by
  have := of_ob g b vl vw _ _ W w h.ob h.cell h.has hvw hP hW hwf
  rw [obQ_has] at this
  exact this
end

theorem awake_bits : bitsE (hasB p0 l0) [(1, 65), (2, 66)] = 0 ∧ bitsR (placesL p0.first p0.last l0) (hasB p0 l0) [(1, 65), (2, 66)] = [17] := by decide
theorem awake_marks : mksT p0 l0 (2, 67) = ⟨#[87, 65, 69]⟩ := by decide
theorem awake_seats : ((placesL p0.first p0.last l0).filter fun s => !decide (s ∈ p0.bks)).length = 8 := by decide
theorem awake_read : readL [49, 50, 70] = some (12, 70) := by decide
theorem awake_text : seatT 12 70 = ⟨#[49, 50, 70]⟩ := by
  unfold seatT
  rw [if_pos (by decide)]
  have h : digL 12 = [49, 50] := by rw [digL_two (by omega)]; decide
  show digA 12 ++ _ = _
  unfold digA
  rw [h]
  decide
theorem p0_len : (placesL p0.first p0.last l0).length ≤ 1000 := by decide
theorem p0_nodup : (placesL p0.first p0.last l0).Nodup := by decide

theorem int_lit (w : World) (x : Int) : HasE intC (w.alloc (.cells #[.int .i64 x] 3)) (.slice (some ⟨w.heap.size, 0, none⟩) 1 1) [x] :=
  HasE.own (World.ownsRow_lit (size := 1) w #[.int .i64 x] 1 (Nat.zero_le _) (by decide) rfl)

theorem st_lit (w : World) (s : St) : HasE stC (w.alloc (.cells #[.int .i64 s.1, .int .u8 s.2.toNat] 23)) (.slice (some ⟨w.heap.size, 0, none⟩) 1 1) [s] :=
  HasE.own (World.ownsRow_lit (size := 2) w #[.int .i64 s.1, .int .u8 s.2.toNat] 1 (Nat.zero_le _) (by decide) rfl)

theorem st_lit2 (w : World) (s t : St) : HasE stC (w.alloc (.cells #[.int .i64 s.1, .int .u8 s.2.toNat, .int .i64 t.1, .int .u8 t.2.toNat] 23)) (.slice (some ⟨w.heap.size, 0, none⟩) 2 2) [s, t] :=
  HasE.own (World.ownsRow_lit (size := 2) w #[.int .i64 s.1, .int .u8 s.2.toNat, .int .i64 t.1, .int .u8 t.2.toNat] 2 (Nat.zero_le _) (by decide) rfl)

set_option maxRecDepth 20000 in
set_option maxHeartbeats 16000000 in
theorem awakeP_any (w : World) : Calls Tryd.prog 14 #[] w fun e w' => e = .returned (.bool true) ∧ Below w.heap.size w w' := by
  have hbw : Below w.heap.size w ((w.alloc (.cells #[.int .i64 2] 3)).alloc (.cells #[.int .i64 1, .int .u8 66] 23)) := ((Below.refl _ _).alloc (Nat.le_refl _) _).alloc (by simp) _
  have hs1 : (w.alloc (.cells #[.int .i64 2] 3)).heap.size = w.heap.size + 1 := by simp
  have h2 := st_lit (w.alloc (.cells #[.int .i64 2] 3)) (1, 66)
  rw [hs1] at h2
  have HNEW : RowKit.Hid (Calls Tryd.prog 21 #[.agg #[.int .i64 1, .int .i64 3, .string ⟨#[65, 66, 46, 67]⟩, .slice (some ⟨w.heap.size, 0, none⟩) 1 1, .slice (some ⟨w.heap.size + 1, 0, none⟩) 1 1]] ((w.alloc (.cells #[.int .i64 2] 3)).alloc (.cells #[.int .i64 1, .int .u8 66] 23)) fun e w' => newE p0 ((w.alloc (.cells #[.int .i64 2] 3)).alloc (.cells #[.int .i64 1, .int .u8 66] 23)).heap.size e w' ∧ Below ((w.alloc (.cells #[.int .i64 2] 3)).alloc (.cells #[.int .i64 1, .int .u8 66] 23)).heap.size ((w.alloc (.cells #[.int .i64 2] 3)).alloc (.cells #[.int .i64 1, .int .u8 66] 23)) w') := Lib.hid (new_any p0 (.slice (some ⟨w.heap.size, 0, none⟩) 1 1) (.slice (some ⟨w.heap.size + 1, 0, none⟩) 1 1) ((w.alloc (.cells #[.int .i64 2] 3)).alloc (.cells #[.int .i64 1, .int .u8 66] 23))
    ((int_lit w 2).mono ((Below.refl _ _).alloc (Nat.le_refl _) _)) h2 (by decide) (by decide) (by decide))
  have HBW := Lib.hid hbw
  have HRD : RowKit.Hid (∀ W, Calls Tryd.prog 16 #[.string ⟨#[49, 50, 70]⟩] W fun e w' => e = .returned (.tuple #[.agg #[.int .i64 12, .int .u8 70], .bool true]) ∧ Below W.heap.size W w') := Lib.hid fun W => by
    have := read_any ⟨#[49, 50, 70]⟩ W (by decide)
    have h := awake_read
    rw [show (⟨#[49, 50, 70]⟩ : ByteArray).data.toList = [49, 50, 70] from rfl, h] at this
    exact this
  clear hbw h2 hs1
  go_enter Tryd.func14, Tryd.ntmps14
  go_upto_region 2 with (first
    | (go_at_call 21; (with_reducible refine HNEW.out.mono ?_); rintro e w1 ⟨hne, hb1⟩; obtain ⟨v5, z5, rfl, hres⟩ := newE_form hne))
  have hb01 := bel_trans HBW.out hb1
  rcases hres with ⟨hr, _⟩ | ⟨hr, rfl, _, l, hl, hmo⟩
  · rw [p0_right] at hr; cases hr
  have hll : l = l0 := by
    rw [p0_let] at hl
    injection hl with hl
    exact hl.symm
  subst hll
  obtain ⟨g, b, vl, rfl, hmk⟩ := hmo.known
  have HK := Lib.hid hmk
  clear hmk hmo hl hr hb1
  have h2 := Lib.hid (st_lit2 w1 (1, 65) (2, 66))
  have HB1 := Lib.hid hb01
  have HBT : RowKit.Hid (Calls Tryd.prog 35 #[.pointer (some ⟨g, 0, none⟩), .slice (some ⟨w1.heap.size, 0, none⟩) 2 2] (w1.alloc (.cells #[.int .i64 1, .int .u8 65, .int .i64 2, .int .u8 66] 23)) fun e w' => ∃ v, e = .returned (.tuple #[v, .int .i64 0]) ∧ OwnW w' (w1.alloc (.cells #[.int .i64 1, .int .u8 65, .int .i64 2, .int .u8 66] 23)).heap.size v [17] ∧ Below (w1.alloc (.cells #[.int .i64 1, .int .u8 65, .int .i64 2, .int .u8 66] 23)).heap.size (w1.alloc (.cells #[.int .i64 1, .int .u8 65, .int .i64 2, .int .u8 66] 23)) w') := Lib.hid (by
    have h3 := (HK.out.mono ((Below.refl _ _).alloc (Nat.le_refl _) (.cells #[.int .i64 1, .int .u8 65, .int .i64 2, .int .u8 66] 23))).callBits _ [(1, 65), (2, 66)] h2.out p0_len (by decide) (by
      intro s hs
      simp at hs
      rcases hs with rfl | rfl <;> rfl) p0_nodup
    rw [awake_bits.1, awake_bits.2] at h3
    exact h3)
  go_upto_region 6 with (first
    | (go_at_call 35; (with_reducible refine HBT.out.mono ?_); rintro e w2 ⟨v2, rfl, ho2, hb2⟩; obtain ⟨p2, c2, rfl⟩ := ho2.has.len)
    | (go_at_call 16; (with_reducible refine (HRD.out _).mono ?_); rintro e w3 ⟨rfl, hb3⟩)
    | (refine wpList_store_blk rfl 23 (.tmp 5) (.tmp 31) rfl w3.heap.size 23 (seatC 0 0) [.int .i64 12, .int .u8 70] rfl rfl (Blk.new w3 23 (seatC 0 0)) rfl info_seat (seatC_one (r := 12) (c := 70)) ?_; intro w8 ha8 hb8 _))
  have hb12 : Below w1.heap.size w1 w2 := bel_trans ((Below.refl _ _).alloc (Nat.le_refl _) _) hb2
  have hb38 : Below w3.heap.size w3 w8 := ((Below.refl _ _).alloc (Nat.le_refl _) _).trans hb8
  have hb28 := bel_trans hb3 hb38
  have hb18 := bel_trans hb12 hb28
  obtain ⟨gw, ow, rfl, hw0⟩ := word_at (ho2.has.mono hb28) (i := 0) (by decide)
  have HK8 := Lib.hid (HK.out.mono hb18)
  have HBZ := Lib.hid (bel_trans HB1.out hb18)
  have s0 : w8.cell? ⟨w3.heap.size, 0, none⟩ = some (.int .i64 12) := (ha8.cell 0).trans rfl
  have s1 : w8.cell? ⟨w3.heap.size, 1, none⟩ = some (.int .u8 70) := (ha8.cell 1).trans rfl
  have HMK : RowKit.Hid (∀ W, Below w8.heap.size w8 W → Calls Tryd.prog 32 #[.pointer (some ⟨g, 0, none⟩), .agg #[.int .i64 2, .int .u8 67]] W fun e w' => e = .returned (.string ⟨#[87, 65, 69]⟩) ∧ Below W.heap.size W w') := Lib.hid fun W h => by
    have h3 := (HK8.out.mono h).callMarks (2, 67) rfl
    rw [awake_marks] at h3
    exact h3
  have HST : RowKit.Hid (∀ W, Below w8.heap.size w8 W → Calls Tryd.prog 25 #[.pointer (some ⟨g, 0, none⟩)] W fun e w' => (∃ p c, e = .returned (.slice p 8 c)) ∧ Below W.heap.size W w') := Lib.hid fun W h => by
    refine ((HK8.out.mono h).callSeats p0_len).mono ?_
    rintro e w' ⟨v, rfl, ho, hb⟩
    obtain ⟨p, c, rfl⟩ := ho.has.len
    rw [awake_seats]
    exact ⟨⟨p, c, rfl⟩, hb⟩
  have HTX : RowKit.Hid (∀ W, Calls Tryd.prog 15 #[.agg #[.int .i64 12, .int .u8 70]] W fun e w' => e = .returned (.string ⟨#[49, 50, 70]⟩) ∧ Below W.heap.size W w') := Lib.hid fun W => by
    have h3 := text_any 12 70 W
    rw [awake_text] at h3
    exact h3
  have hw0' : w8.cell? ⟨gw, ow, none⟩ = some (.int .u64 17) := hw0
  clear hw0 ha8 hb8 hb2 hb3 hb12 hb38 hb28 hb18 ho2 hb01
  go_wp2_with (first
    | (go_at_call 32; (with_reducible refine (HMK.out _ (Below.refl _ _)).mono ?_); rintro e w9 ⟨rfl, hb9⟩)
    | (go_at_call 25; (with_reducible refine (HST.out _ hb9).mono ?_); rintro e wA ⟨⟨pA, cA, rfl⟩, hbA⟩; have r0 := cell_bel (bel_trans hb9 hbA) s0; have r1 := cell_bel (bel_trans hb9 hbA) s1)
    | (go_at_call 15; (with_reducible refine (HTX.out _).mono ?_); rintro e wB ⟨rfl, hbB⟩))
  go_ret
  exact ⟨rfl, bel_trans HBZ.out (bel_trans (bel_trans hb9 hbA) hbB)⟩
end Go.Proofs.YtpmmjccdogjncaaDoor
