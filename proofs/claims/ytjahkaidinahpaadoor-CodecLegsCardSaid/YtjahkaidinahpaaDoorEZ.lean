/- codec.Pnr of the empty PNR. -/
import Derived.Test.YtjahkaidinahpaaDoorEY
import Derived.Deep.AppendLies
namespace Go.Proofs.YtjahkaidinahpaaDoor
open Go.RowKit Go.ChangeMaps
set_option linter.unusedSimpArgs false
set_option linter.unusedVariables false
set_option maxRecDepth 20000

def zB (k : Nat) : List UInt8 := 80 :: List.replicate k 0
theorem zB_len (k : Nat) : (zB k).length = k + 1 := by simp [zB]
theorem zB_one (k : Nat) : zB k ++ [0] = zB (k + 1) := by
  unfold zB; rw [List.cons_append, ← List.replicate_succ']

/-- While the empty PNR is written: the writer at g, k zeros behind the first byte. -/
def ZW (w : World) (g k : Nat) (W : World) : Prop :=
  (∃ v, Blk W g 105 [v] ∧ OwnB W (w.heap.size + 1) v (zB k) ∧ v.ownBlock ≠ some g) ∧ Blk W w.heap.size 29 zeroC ∧ Below w.heap.size w W ∧ w.heap.size < g ∧ g < W.heap.size

theorem ZW.next {w W w' : World} {g k : Nat} {v' : Value} (h : ZW w g k W) (hg : Blk w' g 105 [v']) (ho : OwnB w' W.heap.size v' (zB (k + 1))) (hr : W.grownBy w' (some g)) : ZW w g (k + 1) w' := by
  obtain ⟨_, h2, h3, h4, h5⟩ := h
  have hne : v'.ownBlock ≠ some g := by
    rcases own_ne ho h5 with h | h
    · rw [h]; exact fun e => (by cases e)
    · exact h
  exact ⟨⟨v', hg, ho.low (by omega), hne⟩, h2.far hr (fun e => by injection e with e; omega), h3.grown hr h3.size (fun j hj => by injection hj with hj; omega), h4, Nat.lt_of_lt_of_le h5 hr.size⟩

theorem zw_num {w W : World} {g k : Nat} (h : ZW w g k W) (hk : k ≤ 20) : Calls Tryd.prog 44 #[.pointer (some ⟨g, 0, none⟩), .int .i64 0] W fun e w' => e = .returned (.tuple #[]) ∧ ZW w g (k + 1) w' := by
  obtain ⟨v, h1, h2, _⟩ := h.1
  refine (wnum_any g v (zB k) 0 W h1 h2.has (by rw [zB_len]; omega) (by omega) (by omega)).mono ?_
  rintro e w' ⟨rfl, ⟨v', h3, h4⟩, h5⟩
  refine ⟨rfl, h.next h3 ?_ h5⟩
  rw [← zB_one]
  rw [show Int.toNat 0 = 0 from rfl, varL_small (by decide : 0 < 128)] at h4
  exact h4

theorem zw_txt {w W : World} {g k : Nat} (h : ZW w g k W) (hk : k ≤ 20) : Calls Tryd.prog 87 #[.pointer (some ⟨g, 0, none⟩), .string ⟨#[]⟩] W fun e w' => e = .returned (.tuple #[]) ∧ ZW w g (k + 1) w' := by
  obtain ⟨v, h1, h2, _⟩ := h.1
  refine (wtext_any g v (zB k) ⟨#[]⟩ W h1 h2.has (by rw [zB_len]; show k + 1 + 0 ≤ _; omega)).mono ?_
  rintro e w' ⟨rfl, ⟨v', h3, h4⟩, h5⟩
  refine ⟨rfl, h.next h3 ?_ h5⟩
  rw [← zB_one]
  have e1 : zB k ++ varL (ByteArray.size ⟨#[]⟩) ++ toL ⟨#[]⟩ = zB k ++ [0] := by
    rw [show toL ⟨#[]⟩ = [] from rfl, List.append_nil, show ByteArray.size ⟨#[]⟩ = 0 from rfl, varL_small (by decide : 0 < 128)]
    rfl
  rw [e1] at h4
  exact h4

theorem ZW.cells {w W : World} {g k : Nat} (h : ZW w g k W) : W.cell? ⟨w.heap.size, 0, none⟩ = some (.string ⟨#[]⟩) ∧ W.cell? ⟨w.heap.size, 1, none⟩ = some (.string ⟨#[]⟩) ∧ W.cell? ⟨w.heap.size, 2, none⟩ = some (.slice none 0 0) ∧ W.cell? ⟨w.heap.size, 3, none⟩ = some (.slice none 0 0) ∧ W.cell? ⟨w.heap.size, 4, none⟩ = some (.slice none 0 0)
    ∧ W.cell? ⟨w.heap.size, 5, none⟩ = some (.int .i64 0) ∧ W.cell? ⟨w.heap.size, 8, none⟩ = some (.string ⟨#[]⟩) ∧ W.cell? ⟨w.heap.size, 9, none⟩ = some (.slice none 0 0) ∧ W.cell? ⟨w.heap.size, 10, none⟩ = some (.slice none 0 0) ∧ W.cell? ⟨w.heap.size, 11, none⟩ = some (.bool false) :=
  ⟨(h.2.1.cell 0).trans rfl, (h.2.1.cell 1).trans rfl, (h.2.1.cell 2).trans rfl, (h.2.1.cell 3).trans rfl, (h.2.1.cell 4).trans rfl, (h.2.1.cell 5).trans rfl, (h.2.1.cell 8).trans rfl, (h.2.1.cell 9).trans rfl, (h.2.1.cell 10).trans rfl, (h.2.1.cell 11).trans rfl⟩

theorem bit_any (b : Bool) (w : World) : Calls Tryd.prog 88 #[.bool b] w fun e w' => e = .returned (.int .i64 (if b then 1 else 0)) ∧ w = w' := by
  cases b <;> (
    go_enter Tryd.func88, Tryd.ntmps88
    go_wp2
    go_ret
    exact ⟨rfl, rfl⟩)

theorem zw_start (w w2 : World) (hb : Below w.heap.size w w2) (hp : Blk w2 w.heap.size 29 zeroC) :
    ZW w (w2.heap.size + 1) 0 ((w2.alloc (.cells #[.int .u8 80] 5)).alloc (.cells #[.slice (some ⟨w2.heap.size, 0, none⟩) 1 1] 105)) := by
  have hz : (w2.alloc (.cells #[.int .u8 80] 5)).heap.size = w2.heap.size + 1 := by simp
  have hlt := hp.lt
  have h1 : OwnB (w2.alloc (.cells #[.int .u8 80] 5)) w2.heap.size (.slice (some ⟨w2.heap.size, 0, none⟩) 1 1) [80] := World.ownsRow_lit (size := 1) w2 #[.int .u8 80] 1 (Nat.le_refl _) (by decide) rfl
  have h2 := Blk.new (w2.alloc (.cells #[.int .u8 80] 5)) 105 [.slice (some ⟨w2.heap.size, 0, none⟩) 1 1]
  rw [hz] at h2
  refine ⟨⟨_, h2, (OwnB.mono h1 ((Below.refl _ _).alloc (Nat.le_refl _) _)).low (by omega), ?_⟩, (hp.alloc _).alloc _, (hb.alloc hb.size _).alloc (by rw [hz]; have := hb.size; omega) _, by omega, by simp⟩
  intro e
  have e2 : some w2.heap.size = some (w2.heap.size + 1) := e
  injection e2 with e2
  omega

set_option maxHeartbeats 16000000 in
theorem pnr_zero (w : World) : Calls Tryd.prog 39 #[.agg zeroC.toArray] w fun e w' => byP w.heap.size (some (zB 9)) e w' ∧ Below w.heap.size w w' := by
  have HSO := Lib.hid sound_zero
  have HB := Lib.hid (Blk.new w 29 zeroC)
  have HB0 : RowKit.Hid (Below w.heap.size w (w.alloc (.cells zeroC.toArray 29))) := Lib.hid ((Below.refl _ _).alloc (Nat.le_refl _) _)
  have HL := Lib.hid (pnr_load HB.out rfl)
  have HNUM : RowKit.Hid (∀ g W k, ZW w g k W → k ≤ 20 → Calls Tryd.prog 44 #[.pointer (some ⟨g, 0, none⟩), .int .i64 0] W fun e w' => e = .returned (.tuple #[]) ∧ ZW w g (k + 1) w') := Lib.hid fun g W k h hk => zw_num h hk
  have HTXT : RowKit.Hid (∀ g W k, ZW w g k W → k ≤ 20 → Calls Tryd.prog 87 #[.pointer (some ⟨g, 0, none⟩), .string ⟨#[]⟩] W fun e w' => e = .returned (.tuple #[]) ∧ ZW w g (k + 1) w') := Lib.hid fun g W k h hk => zw_txt h hk
  unfold zeroC at HSO HB HB0 HL ⊢
  go_enter Tryd.func39, Tryd.ntmps39
  go_upto_region 4 with (first
    | (refine wpList_load_yes 29 (.tmp 1) rfl (by rfl) ⟨w.heap.size, 0, none⟩ rfl _ HL.out ?_)
    | (go_at_call 86; (with_reducible refine (HSO.out _).mono ?_); rintro e w2 ⟨rfl, hb2⟩))
  have hz0 := zw_start w w2 (bel_trans HB0.out hb2) (HB.out.mono hb2)
  obtain ⟨c0, c1, c2, c3, c4, c5, c8, c9, c10, c11⟩ := hz0.cells
  have HZ0 := Lib.hid hz0
  clear HB HB0 HL hb2 hz0
  generalize hg : w2.heap.size + 1 = g at *
  generalize (w2.alloc (.cells #[.int .u8 80] 5)).alloc (.cells #[.slice (some ⟨w2.heap.size, 0, none⟩) 1 1] 105) = W0 at *
  clear hg
  go_wp2_with (first
    | (go_at_call 87; (with_reducible refine (HTXT.out g W0 0 HZ0.out (by decide)).mono ?_); rintro e W1 ⟨rfl, hz1⟩; clear c0 c1 c2 c3 c4 c5 c8 c9 c10 c11; obtain ⟨c0, c1, c2, c3, c4, c5, c8, c9, c10, c11⟩ := hz1.cells; have HZ1 := Lib.hid hz1; clear hz1)
    | (go_at_call 87; (with_reducible refine (HTXT.out g W1 1 HZ1.out (by decide)).mono ?_); rintro e W2 ⟨rfl, hz2⟩; clear c0 c1 c2 c3 c4 c5 c8 c9 c10 c11; obtain ⟨c0, c1, c2, c3, c4, c5, c8, c9, c10, c11⟩ := hz2.cells; have HZ2 := Lib.hid hz2; clear hz2)
    | (go_at_call 44; (with_reducible refine (HNUM.out g W2 2 HZ2.out (by decide)).mono ?_); rintro e W3 ⟨rfl, hz3⟩; clear c0 c1 c2 c3 c4 c5 c8 c9 c10 c11; obtain ⟨c0, c1, c2, c3, c4, c5, c8, c9, c10, c11⟩ := hz3.cells; have HZ3 := Lib.hid hz3; clear hz3))
  refine wp_loop_rounds 1 ?_
  rw [rounds_succ]
  go_wp2_with (first
    | (go_at_call 44; (with_reducible refine (HNUM.out g W3 3 HZ3.out (by decide)).mono ?_); rintro e W4 ⟨rfl, hz4⟩; clear c0 c1 c2 c3 c4 c5 c8 c9 c10 c11; obtain ⟨c0, c1, c2, c3, c4, c5, c8, c9, c10, c11⟩ := hz4.cells; have HZ4 := Lib.hid hz4; clear hz4))
  refine wp_loop_rounds 1 ?_
  rw [rounds_succ]
  go_wp2_with (first
    | (go_at_call 44; (with_reducible refine (HNUM.out g W4 4 HZ4.out (by decide)).mono ?_); rintro e W5 ⟨rfl, hz5⟩; clear c0 c1 c2 c3 c4 c5 c8 c9 c10 c11; obtain ⟨c0, c1, c2, c3, c4, c5, c8, c9, c10, c11⟩ := hz5.cells; have HZ5 := Lib.hid hz5; clear hz5))
  refine wp_loop_rounds 1 ?_
  rw [rounds_succ]
  go_wp2
  obtain ⟨⟨v5, hw5, ho5, hne5⟩, hp5, hb5, hgl5, hlt5⟩ := HZ5.out
  have d0 := (hw5.cell 0).trans rfl
  have HBIT := Lib.hid (bit_any false)
  obtain ⟨i0, hi0, hz0, hsz0, hby0⟩ := byte_info
  have HW5 := Lib.hid hw5
  have HO5 := Lib.hid ho5
  have hz5l : (zB 5).length = 6 := rfl
  have HST : RowKit.Hid (∀ w4 v4, OwnB w4 (w.heap.size + 1) v4 (zB 5 ++ [0]) → v4.ownBlock ≠ some g → (W5.alloc (.cells #[.int .u8 0] 5)).drew.grownBy w4 v5.ownBlock → ZW w g 6 (w4.setCell ⟨g, 0, none⟩ v4)) := Lib.hid fun w4 v4 h1 h2 h3 => by
    have e1 : (W5.alloc (.cells #[.int .u8 0] 5)).drew.heap.size = W5.heap.size + 1 := by simp
    have hpp : Blk w4 w.heap.size 29 zeroC := Blk.far (w := (W5.alloc (.cells #[.int .u8 0] 5)).drew) (hp5.alloc _) h3 fun e => by have := (World.ownsRow.lt ho5 _ e.symm).1; omega
    have hgg : Blk w4 g 105 [v5] := Blk.far (w := (W5.alloc (.cells #[.int .u8 0] 5)).drew) (hw5.alloc _) h3 fun e => hne5 e.symm
    have hbb : Below w.heap.size w w4 := (Below.drew (hb5.alloc hb5.size _)).grown h3 (by rw [e1]; have := hb5.size; omega) fun k hk => by have := (World.ownsRow.lt ho5 k hk).1; omega
    have hsz := h3.size
    refine ⟨⟨v4, hgg.set 0 v4, World.ownsRow.kept h1 (gr_setCell1 (World.grownBy.refl _ _) 0 v4) (.inr h2), h2⟩, hpp.far (gr_setCell1 (World.grownBy.refl _ _) 0 v4) (fun e => by injection e with e; omega), hbb.setCell (p := ⟨g, 0, none⟩) (by show w.heap.size ≤ g; omega) v4, hgl5, ?_⟩
    have e2 : (w4.setCell ⟨g, 0, none⟩ v4).heap.size = w4.heap.size := by simp [World.setCell]
    omega
  have HAP : RowKit.Hid (∀ w4, (W5.alloc (.cells #[.int .u8 0] 5)).drew.grownBy w4 v5.ownBlock → w4.frozen? ⟨g, 0, none⟩ = false ∧ w4.cell? ⟨g, 0, none⟩ = some v5) := Lib.hid fun w4 h3 => by
    have hgg : Blk w4 g 105 [v5] := Blk.far (w := (W5.alloc (.cells #[.int .u8 0] 5)).drew) (hw5.alloc _) h3 fun e => hne5 e.symm
    exact ⟨hgg.frozen 0, (hgg.cell 0).trans rfl⟩
  have HNE : RowKit.Hid (∀ gg n c, v5.ownBlock = some gg ∨ gg = W5.heap.size + 1 → (Value.slice (some ⟨gg, 0, none⟩) n c).ownBlock ≠ some g) := Lib.hid fun gg n c h e => by
    have e2 : some gg = some g := e
    injection e2 with e2
    subst e2
    rcases h with h | h
    · exact hne5 h
    · omega
  clear ho5 hw5 hne5 hp5 hb5 hgl5
  have hbsz : (W5.alloc (.cells #[.int .u8 0] 5)).heap.size = W5.heap.size + 1 := by simp
  have hbase : w.heap.size + 1 ≤ (W5.alloc (.cells #[.int .u8 0] 5)).heap.size := by rw [hbsz]; have := HZ5.out.2.2.2.1; omega
  have hw64 : IntKind.i64.wrap 0 = 0 := by decide
  have hbo : bits .or .i64 0 0 = 0 := by decide
  have hw8 : IntKind.u8.wrap 0 = 0 := by decide
  go_cut [] from 120 to 137 (fun wx => ZW w g 6 wx)
  case first =>
    go_region_law (first
      | (go_simp; go_at_call 88; refine (HBIT.out _).mono ?_; rintro e w9 ⟨rfl, rfl⟩)
      | (refine step_append_lies _ (by rfl) _ _ _ (by rfl) (w.heap.size + 1) 5 i0 _ 1 1 Tryd.underlying48 hi0 hz0 hsz0 hby0 rfl (by decide) v5 6 ((zB 5).flatMap byteC) (by rfl) (World.ownsRow.alloc HO5.out _) ⟨W5.heap.size, 0, none⟩ 1 1 [.int .u8 0] (by rfl) (by rfl) (World.news_of_block (cs := #[.int .u8 0]) (t := 5) (fr := (0, 0)) (heap_alloc_new W5 _)) (byteC_one 0) (by decide) (by decide) (by decide) hbase (W5.heap.size + 1) hbsz ?_
         intro gg cap w4 hown1 hgrow hat hlt
         obtain ⟨hf, hk⟩ := HAP.out w4 hgrow))
    all_goals (
      go_wp2
      go_meet
      exact HST.out w4 _ hown1 (HNE.out _ _ _ hat) hgrow)
  case rest =>
    clear HST HAP HNE hbsz hbase hw64 hbo hw8 d0 hz5l HBIT hlt5 HW5 HO5 c0 c1 c2 c3 c4 c5 c8 c9 c10 c11
    obtain ⟨c0, c1, c2, c3, c4, c5, c8, c9, c10, c11⟩ := hcut.cells
    have HZ6 := Lib.hid hcut
    clear hcut
    rename World => W6
    go_wp2_with (first
      | (go_at_call 87; (with_reducible refine (HTXT.out g W6 6 HZ6.out (by decide)).mono ?_); rintro e W7 ⟨rfl, hz7⟩; clear c0 c1 c2 c3 c4 c5 c8 c9 c10 c11; obtain ⟨c0, c1, c2, c3, c4, c5, c8, c9, c10, c11⟩ := hz7.cells; have HZ7 := Lib.hid hz7; clear hz7)
      | (go_at_call 44; (with_reducible refine (HNUM.out g W7 7 HZ7.out (by decide)).mono ?_); rintro e W8 ⟨rfl, hz8⟩; clear c0 c1 c2 c3 c4 c5 c8 c9 c10 c11; obtain ⟨c0, c1, c2, c3, c4, c5, c8, c9, c10, c11⟩ := hz8.cells; have HZ8 := Lib.hid hz8; clear hz8))
    refine wp_loop_rounds 1 ?_
    rw [rounds_succ]
    go_wp2_with (first
      | (go_at_call 44; (with_reducible refine (HNUM.out g W8 8 HZ8.out (by decide)).mono ?_); rintro e W9 ⟨rfl, hz9⟩; clear c0 c1 c2 c3 c4 c5 c8 c9 c10 c11; obtain ⟨c0, c1, c2, c3, c4, c5, c8, c9, c10, c11⟩ := hz9.cells; have HZ9 := Lib.hid hz9; clear hz9))
    obtain ⟨⟨v9, hw9, ho9, _⟩, _, hb9, hlt9, _⟩ := HZ9.out
    have d9 := (hw9.cell 0).trans rfl
    obtain ⟨p9, q9, rfl⟩ := ho9.has.len
    refine wp_loop_rounds 1 ?_
    rw [rounds_succ]
    go_wp2
    go_ret2
    exact ⟨.inl ⟨_, _, rfl, rfl, ho9.low (by omega)⟩, hb9⟩
end Go.Proofs.YtjahkaidinahpaaDoor
