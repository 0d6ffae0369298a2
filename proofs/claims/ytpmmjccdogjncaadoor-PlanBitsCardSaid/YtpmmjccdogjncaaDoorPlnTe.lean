/- The law PlanTexts: the walk. -/
import Derived.Test.YtpmmjccdogjncaaDoorPlnAD
namespace Go.Proofs.YtpmmjccdogjncaaDoor
open Go.RowKit Go.ChangeMaps
set_option linter.unusedSimpArgs false

/-- A seat's text is read back. -/
theorem back_yes {r : Int} {c : UInt8} (h : 1 ≤ r ∧ r ≤ 99 ∧ isL c.toNat = true) : readL (seatT r c).data.toList = some (r, c) ∧ (seatT r c).size ≠ 0 := by
  obtain ⟨h1, h2, h3⟩ := h
  obtain ⟨n, rfl⟩ := Int.eq_ofNat_of_zero_le (show (0 : Int) ≤ r by omega)
  have e := seatT_eq (r := (n : Int)) (c := c) rfl (by omega) (by omega) h3
  have hne : (seatT (n : Int) c).data.toList ≠ [] := by rw [e]; simp
  refine ⟨read_seatT (by omega) (by omega) hne rfl, fun h0 => hne ?_⟩
  have : (seatT (n : Int) c).data.toList.length = 0 := by simpa using h0
  exact List.length_eq_zero_iff.1 this

theorem seatT_size (r : Int) (c : UInt8) : (seatT r c).size ≤ 3 := by
  unfold seatT
  split
  · rename_i h
    rw [ByteArray.size_append]
    have := digA_small (n := r.toNat) (by omega)
    show _ + 1 ≤ 3
    omega
  · decide

theorem read_text {t : ByteArray} {r : Int} {c : UInt8} (h : readL t.data.toList = some (r, c)) : seatT r c = t := by
  obtain ⟨n, rfl, _, _, _, _, h6, _⟩ := seatT_read h
  exact str_eq_list h6

set_option maxRecDepth 20000 in
set_option maxHeartbeats 16000000 in
theorem planTexts_walk (s : St) (_ : okRow s.1) (t : ByteArray) (ht : t.size ≤ maxLen) (w : World) :
    Calls Tryd.prog 3 #[.agg #[.int .i64 s.1, .int .u8 s.2.toNat], .string t] w fun e w' => e = .returned (.bool true) ∧ Below w.heap.size w w' := by
  obtain ⟨r, c⟩ := s
  have HA : RowKit.Hid (∀ W, Calls Tryd.prog 14 #[] W fun e w' => e = .returned (.bool true) ∧ Below W.heap.size W w') := Lib.hid fun W => awakeP_any W
  have HT : RowKit.Hid (∀ W, Calls Tryd.prog 15 #[.agg #[.int .i64 r, .int .u8 c.toNat]] W fun e w' => e = .returned (.string (seatT r c)) ∧ Below W.heap.size W w') := Lib.hid fun W => text_any r c W
  have HRT : RowKit.Hid (∀ W, Calls Tryd.prog 18 #[.agg #[.int .i64 r, .int .u8 c.toNat]] W fun e w' => e = .returned (.string (seatT r c)) ∧ Below W.heap.size W w') := Lib.hid fun W => refText_any r c W
  have HSZ := seatT_size r c
  obtain ⟨w1, e1, k1, k2, kb, ks⟩ := seat_boxed w r c
  have HW := Lib.hid kb
  have HBW : RowKit.Hid (Blk w1 w.heap.size 23 (seatC r c)) := Lib.hid (by
    rw [← e1]
    exact Blk.new w 23 (seatC r c))
  -- what is read of t: (a, d), xo
  obtain ⟨a, d, xo, hxo⟩ : ∃ (a : Int) (d : UInt8) (xo : Bool), seatO (readL t.data.toList) = seatC a d ∧ (readL t.data.toList).isSome = xo ∧ (xo = true → seatT a d = t) := by
    cases h : readL t.data.toList with
    | none => exact ⟨0, 0, false, rfl, rfl, fun h => by cases h⟩
    | some q =>
      obtain ⟨a, d⟩ := q
      exact ⟨a, d, true, rfl, rfl, fun _ => read_text h⟩
  obtain ⟨hx1, hx2, hx3⟩ := hxo
  have HX3 := Lib.hid hx3
  have HR : RowKit.Hid (∀ W, Calls Tryd.prog 16 #[.string t] W fun e w' => e = .returned (.tuple #[.agg (seatC a d).toArray, .bool xo]) ∧ Below W.heap.size W w') := Lib.hid fun W => by
    have := read_any t W ht
    rw [hx1, hx2] at this
    exact this
  have HRR : RowKit.Hid (∀ W, Calls Tryd.prog 17 #[.string t] W fun e w' => e = .returned (.tuple #[.agg (seatC a d).toArray, .bool xo]) ∧ Below W.heap.size W w') := Lib.hid fun W => by
    have := refRead_any t W ht
    rw [hx1, hx2] at this
    exact this
  have HTX : RowKit.Hid (∀ W, Calls Tryd.prog 15 #[.agg #[.int .i64 a, .int .u8 d.toNat]] W fun e w' => e = .returned (.string (seatT a d)) ∧ Below W.heap.size W w') := Lib.hid fun W => text_any a d W
  -- what is read of the text: (a2, d2), bo
  obtain ⟨bo, a2, d2, hbo⟩ : ∃ (bo : Bool) (a2 : Int) (d2 : UInt8), seatO (readL (seatT r c).data.toList) = seatC a2 d2 ∧ (readL (seatT r c).data.toList).isSome = bo ∧ (bo = true → a2 = r ∧ d2 = c ∧ (seatT r c).size ≠ 0) ∧ (bo = false → (seatT r c).size = 0) := by
    by_cases h : 1 ≤ r ∧ r ≤ 99 ∧ isL c.toNat = true
    · obtain ⟨h1, h2⟩ := back_yes h
      exact ⟨true, r, c, by rw [h1]; rfl, by rw [h1]; rfl, (fun _ => ⟨rfl, rfl, h2⟩), (fun h => by cases h)⟩
    · rw [seatT_no h]
      exact ⟨false, 0, 0, rfl, rfl, (fun h => by cases h), (fun _ => rfl)⟩
  obtain ⟨hb1, hb2, hb3, hb4⟩ := hbo
  have HRB : RowKit.Hid (∀ W, Calls Tryd.prog 16 #[.string (seatT r c)] W fun e w' => e = .returned (.tuple #[.agg (seatC a2 d2).toArray, .bool bo]) ∧ Below W.heap.size W w') := Lib.hid fun W => by
    have := read_any (seatT r c) W (by unfold maxLen; omega)
    rw [hb1, hb2] at this
    exact this
  clear kb ks hx1 hx2 hx3 hb1 hb2
  generalize seatT r c = T at *
  generalize seatT a d = X at *
  go_enter Tryd.func3, Tryd.ntmps3
  go_upto_region 6 with (first
    | (go_at_call 14; (with_reducible refine (HA.out _).mono ?_); rintro e w2 ⟨rfl, hb2⟩; have HB2 := HBW.out.mono hb2)
    | (refine wpList_load_mid rfl 23 (.tmp 2) rfl w.heap.size 0 rfl [.int .i64 r, .int .u8 c.toNat] _ HB2.range Tryd.underlying23 rfl info_seat ?_)
    | (go_at_call 15; (with_reducible refine (HT.out _).mono ?_); rintro e w3 ⟨rfl, hb3⟩)
    | (go_at_call 16; (with_reducible refine (HR.out _).mono ?_); rintro e w4 ⟨rfl, hb4⟩)
    | (refine wpList_store_blk rfl 23 (.tmp 6) (.tmp 19) rfl w4.heap.size 23 (seatC 0 0) (seatC a d) rfl rfl (Blk.new w4 23 (seatC 0 0)) rfl info_seat seatC_one ?_; intro w5 hb5 hl5 _)
    | (go_at_call 17; (with_reducible refine (HRR.out _).mono ?_); rintro e w6 ⟨rfl, hb6⟩)
    | (refine wpList_store_blk rfl 23 (.tmp 8) (.tmp 24) rfl w6.heap.size 23 (seatC 0 0) (seatC a d) rfl rfl (Blk.new w6 23 (seatC 0 0)) rfl info_seat seatC_one ?_; intro w7 hb7 hl7 _))
  have hb27 : Below w2.heap.size w2 w7 := by
    have h1 : Below w4.heap.size w4 w5 := ((Below.refl _ _).alloc (Nat.le_refl _) _).trans hl5
    have h2 : Below w6.heap.size w6 w7 := ((Below.refl _ _).alloc (Nat.le_refl _) _).trans hl7
    exact bel_trans (bel_trans (bel_trans (bel_trans hb3 hb4) h1) hb6) h2
  have h47 : Below w5.heap.size w5 w7 := bel_trans hb6 (((Below.refl _ _).alloc (Nat.le_refl _) _).trans hl7)
  have HB7 := HB2.mono hb27
  have HX7 := hb5.mono h47
  have HY7 := hb7
  have HZ := Lib.hid (bel_trans (bel_trans HW.out hb2) hb27)
  clear hb2 hb3 hb4 hl5 hb6 hl7 hb27 h47 HB2 hb5 hb7
  go_upto_region 8 with (first
    | (refine wpList_load_mid rfl 23 (.tmp 2) rfl w.heap.size 0 rfl [.int .i64 r, .int .u8 c.toNat] _ HB7.range Tryd.underlying23 rfl info_seat ?_)
    | (go_at_call 18; (with_reducible refine (HRT.out _).mono ?_); rintro e w8 ⟨rfl, hb8⟩; have HX8 := HX7.mono hb8; have HY8 := HY7.mono hb8; have HB8 := HB7.mono hb8; have cx0 : w8.cell? ⟨w4.heap.size, 0, none⟩ = some (.int .i64 a) := (HX8.cell 0).trans rfl; have cx1 : w8.cell? ⟨w4.heap.size, 1, none⟩ = some (.int .u8 d.toNat) := (HX8.cell 1).trans rfl; have cy0 : w8.cell? ⟨w6.heap.size, 0, none⟩ = some (.int .i64 a) := (HY8.cell 0).trans rfl; have cy1 : w8.cell? ⟨w6.heap.size, 1, none⟩ = some (.int .u8 d.toNat) := (HY8.cell 1).trans rfl))
  clear cx0 cx1 cy0 cy1
  go_upto_region 9 with (first
    | (go_at_call 16; (with_reducible refine (HRB.out _).mono ?_); rintro e w9 ⟨rfl, hb9⟩)
    | (refine wpList_store_blk rfl 23 (.tmp 10) (.tmp 43) rfl w9.heap.size 23 (seatC 0 0) (seatC a2 d2) rfl rfl (Blk.new w9 23 (seatC 0 0)) rfl info_seat seatC_one ?_; intro w10 hb10 hl10 _))
  have h910 : Below w8.heap.size w8 w10 := bel_trans hb9 (((Below.refl _ _).alloc (Nat.le_refl _) _).trans hl10)
  have HB10 := HB8.mono h910
  have HX10 := HX8.mono h910
  have HZ10 := Lib.hid (bel_trans (bel_trans HZ.out hb8) h910)
  have HQ10 := hb10
  have cx0 : w10.cell? ⟨w4.heap.size, 0, none⟩ = some (.int .i64 a) := (HX10.cell 0).trans rfl
  have cx1 : w10.cell? ⟨w4.heap.size, 1, none⟩ = some (.int .u8 d.toNat) := (HX10.cell 1).trans rfl
  have cq0 : w10.cell? ⟨w9.heap.size, 0, none⟩ = some (.int .i64 a2) := (HQ10.cell 0).trans rfl
  have cq1 : w10.cell? ⟨w9.heap.size, 1, none⟩ = some (.int .u8 d2.toNat) := (HQ10.cell 1).trans rfl
  have cb0 : w10.cell? ⟨w.heap.size, 0, none⟩ = some (.int .i64 r) := (HB10.cell 0).trans rfl
  have cb1 : w10.cell? ⟨w.heap.size, 1, none⟩ = some (.int .u8 c.toNat) := (HB10.cell 1).trans rfl
  clear hb8 hb9 hl10 h910 hb10 HB7 HX7 HY7 HX8 HY8 HB8
  have HTX2 : RowKit.Hid (xo = true → X = t) := Lib.hid HX3.out
  cases bo
  · have hT0 := hb4 rfl
    have hTe : T = ⟨#[]⟩ := by
      apply str_eq_list
      have : T.data.toList.length = 0 := by simpa using hT0
      exact List.length_eq_zero_iff.1 this
    subst hTe
    clear hT0 hb3 hb4
    cases xo
    · go_wp2
      go_ret
      exact ⟨rfl, HZ10.out⟩
    · have hXt := HTX2.out rfl
      subst hXt
      go_wp2_with (first
        | (go_at_call 15; (with_reducible refine (HTX.out _).mono ?_); rintro e wA ⟨rfl, hbA⟩))
      go_ret
      exact ⟨rfl, bel_trans HZ10.out hbA⟩
  · obtain ⟨rfl, rfl, hTn⟩ := hb3 rfl
    have hTl := toList_ne hTn
    have hTe : T.toList.isEmpty = false := by simpa using hTl
    clear hb4 hTn hb3
    cases xo
    · go_wp2
      go_ret
      exact ⟨rfl, HZ10.out⟩
    · have hXt := HTX2.out rfl
      subst hXt
      go_wp2_with (first
        | (go_at_call 15; (with_reducible refine (HTX.out _).mono ?_); rintro e wA ⟨rfl, hbA⟩))
      go_ret
      exact ⟨rfl, bel_trans HZ10.out hbA⟩
end Go.Proofs.YtpmmjccdogjncaaDoor
