/- The statement about queues' sizes: its walk. -/
import Derived.Test.YtahghakpmjfefaaDoorSZ
import Derived.Test.YtahghakpmjfefaaDoorSH
namespace Go.Proofs.YtahghakpmjfefaaDoor.Sh
open Go.RowKit Go.ChangeMaps En
set_option linter.unusedSimpArgs false
set_option linter.unusedVariables false
set_option maxRecDepth 20000

theorem size_info : ∃ i0 z, Tryd.prog.info? 61 = some i0 ∧ i0.zero = some z ∧ i0.size = 2 ∧ i0.bytes = 16 ∧ z.cells.size = 2 := by
  have hbyte : (Tryd.prog.info? 61).map (fun i => (i.zero, i.size, i.bytes)) = some (some (.agg #[.int .i64 0, .int .i64 0]), 2, 16) := by kernel_rfl
  rw [Option.map_eq_some_iff] at hbyte
  obtain ⟨i0, h1, h2⟩ := hbyte
  simp only [Prod.mk.injEq] at h2
  exact ⟨i0, _, h1, h2.1, h2.2.1, h2.2.2, rfl⟩
def OwnZ (w : World) (B : Nat) (v : Value) (l : List (Int × Int)) : Prop := w.ownsRow B 61 2 v l.length (l.flatMap szC)
theorem OwnZ.mono {w w' : World} {B : Nat} {v : Value} {l : List (Int × Int)} (h : OwnZ w B v l) (hb : Below w.heap.size w w') : OwnZ w' B v l := World.ownsRow.kept h (gr_of_below hb none) (by cases hv : v.ownBlock <;> simp)
theorem OwnZ.has {w : World} {B : Nat} {v : Value} {l : List (Int × Int)} (h : OwnZ w B v l) : HasE szC w v l := HasE.own h
theorem take_snoc {α : Type} (d : α) {l : List α} {i : Nat} (h : i < l.length) : l.take (i + 1) = l.take i ++ [l.getD i d] := by
  rw [List.take_succ_eq_append_getElem h]
  simp [List.getD, h]

set_option maxHeartbeats 8000000 in
theorem showSizes_walk (office : ByteArray) (hof : office.size ≤ maxLen) (v : Value) (l : List (Int × Int)) (w : World) (hl : SizesIn w v l) (ht : Da.LenTab w) (hp : PowTab w) (hm : MaxCell w) :
    Calls Tryd.prog 6 #[.string office, v] w fun e w' => e = .returned (.bool true) ∧ Below w.heap.size w w' := by
  have HAW := Lib.hid (awake_any w hm ht hp)
  obtain ⟨hv, hw⟩ := hl
  obtain ⟨pv, cv, rfl⟩ := hv.len
  have HV := Lib.hid hv
  have HLL : RowKit.Hid (∃ NL, NL = l.length) := Lib.hid ⟨_, rfl⟩
  by_cases g1 : 200 < l.length
  · have g1i : (200 : Int) < (l.length : Int) := by omega
    clear HV hv hw ht hp hm
    generalize l.length = NL at *
    go_enter Tryd.func6, Tryd.ntmps6
    go_wp2_with (first
      | (go_at_call 9; (with_reducible refine HAW.out.mono ?_); rintro e w1 ⟨rfl, hb1⟩))
    go_ret
    exact ⟨rfl, hb1⟩
  have g1i : ¬ (200 : Int) < (l.length : Int) := by omega
  by_cases g2 : 1000 < office.size
  · have g2i : (1000 : Int) < (office.size : Int) := by omega
    clear HV hv hw ht hp hm
    generalize l.length = NL at *
    go_enter Tryd.func6, Tryd.ntmps6
    go_wp2_with (first
      | (go_at_call 9; (with_reducible refine HAW.out.mono ?_); rintro e w1 ⟨rfl, hb1⟩))
    go_ret
    exact ⟨rfl, hb1⟩
  have g2i : ¬ (1000 : Int) < (office.size : Int) := by omega
  have HSZ : RowKit.Hid (∀ W v, Below w.heap.size w W → HasE szC W v l → Calls Tryd.prog 18 #[.string office, v] W fun e w' => (∃ v, e = .returned v ∧ OwnL w' W.heap.size v ((sizesL (toL office) l).map mkB)) ∧ Below W.heap.size W w') := Lib.hid fun W v hW hv => (sizes_any office v l W (by omega) hv (by omega) hw (powTab_keep hp hW)).mono fun e w' ⟨h1, h2⟩ => ⟨lines_own h1, h2⟩
  have HRZ : RowKit.Hid (∀ W, Below w.heap.size w W → Calls Tryd.prog 19 #[.string office, .slice pv l.length cv] W fun e w' => (∃ v, e = .returned v ∧ OwnL w' W.heap.size v ((sizesL (toL office) l).map mkB)) ∧ Below W.heap.size W w') := Lib.hid fun W hW => (rsizes_any office _ l W (by omega) (hv.mono hW) (by omega) hw).mono fun e w' ⟨h1, h2⟩ => ⟨lines_own h1, h2⟩
  have HLN : RowKit.Hid (((sizesL (toL office) l).map mkB).length ≤ 1000000) := Lib.hid (by
    unfold sizesL
    rw [List.length_map, List.length_cons]
    split
    · simp
    · rw [List.length_map]; omega)
  generalize (sizesL (toL office) l).map mkB = LL at *
  have HSA : RowKit.Hid (∀ va vb W, HasL W va LL → HasL W vb LL → Calls Tryd.prog 11 #[va, vb] W fun e w' => e = .returned (.bool true) ∧ Below W.heap.size W w') := Lib.hid fun va vb W h1 h2 => same_true LL va vb W h1 h2 HLN.out
  generalize hM : l.length = M at *
  have HM := Lib.hid hM
  clear hv hw ht hp hm hM g1 g2
  go_enter Tryd.func6, Tryd.ntmps6
  go_upto_region 6 with (first
    | (go_at_call 9; (with_reducible refine HAW.out.mono ?_); rintro e w1 ⟨rfl, hb1⟩))
  have HB1 := Lib.hid hb1
  clear hb1 HAW g2i
  go_wp2
  go_loopg [5, 6] M (fun g0 s5 s6 wr => ∃ i : Nat, i ≤ M ∧ g0 = M - i ∧ s6 = .int .i64 (i : Int) ∧ OwnZ wr w.heap.size s5 (l.take i) ∧ Below w.heap.size w wr)
  case atStart => exact ⟨0, Nat.zero_le _, rfl, rfl, World.ownsRow_nil _ _ _ _, HB1.out⟩
  case round =>
    obtain ⟨i, hiM, rfl, rfl, hown, hbw⟩ := hrel
    rename World => wr
    have HOW := Lib.hid hown
    have HBW := Lib.hid hbw
    clear hown hbw HB1
    by_cases hlt : i < M
    · have hii : (i : Int) < (M : Int) := by omega
      have hi0 : (0 : Int) ≤ (i : Int) := by omega
      have hiM2 : i < l.length := by rw [HM.out]; exact hlt
      obtain ⟨bb, off, rfl, _, r0, r1⟩ := sz_at (HV.out.mono HBW.out) hiM2
      have HTK := Lib.hid (take_snoc (0, 0) hiM2)
      generalize l.getD i (0, 0) = x at *
      obtain ⟨qu, nn⟩ := x
      simp only at r0 r1
      have k0 := cell_regrown r0
      have k1 := cell_regrown r1
      clear r0 r1
      go_upto_region 9 with fail
      refine wp_region_cone 13 [(0, false), (1, false), (2, false), (3, false), (4, false), (5, false), (6, false), (7, false), (8, false), (9, false), (10, false), (11, false), (12, true)] (by kernel_rfl) (by kernel_rfl) ?_
      simp only [ordO, List.map_cons, List.map_nil, List.getD_cons_zero, List.getD_cons_succ, List.drop_succ_cons, List.drop_zero]
      repeat (
        refine ord_quiet (fun K hK => ?_)
        go_simp
        first
          | (refine hK _ ?_; clear hK K)
          | (refine ⟨_, fun _ => up_val, hK _ ?_⟩; clear hK K))
      refine ord_slice2 (by rfl) (.cells #[.int .i64 qu, .int .i64 nn] 61) ?_ ?_
      · intro w
        go_simp
      intro wb hwb
      unfold wpOrd
      intro wq hwq
      have hbb : Below wr.heap.size wr wb := hwb.bel
      have hblk := (Blk.new wb 61 [.int .i64 qu, .int .i64 nn]).mono hwq.bel
      have hbq : Below wr.heap.size wr wq := bel_trans (hbb.alloc hbb.size _) hwq.bel
      have hoq := HOW.out.mono hbq
      have hbwq := bel_trans HBW.out hbq
      have HBQ := Lib.hid hbwq
      have hsz := hbwq.size
      have hcell : ∀ j, j < 2 → wq.cell? ⟨wb.heap.size, j, none⟩ = ([.int .i64 qu, .int .i64 nn] : List Value)[j]? := fun j _ => hblk.cell j
      clear hwb hwq hbb hblk hbq k0 k1 hbwq
      generalize wb.heap.size = gb at *
      have hone : ∀ u ∈ ([.int .i64 qu, .int .i64 nn] : List Value), u.oneCell' = true := by
        intro u hu
        simp at hu
        rcases hu with rfl | rfl <;> rfl
      go_wp2_with (at_builtin; refine push_E Tryd.underlying58 2 16 size_info (by decide) rfl _ _ rfl w.heap.size _ (l.take i).length ((l.take i).flatMap szC) rfl hoq gb [.int .i64 qu, .int .i64 nn] rfl rfl hcell hone (by rw [List.length_take]; omega) (by decide) hsz ?_; intro v4 w4 ho4 hg4)
      have HO4 : RowKit.Hid (OwnZ w4 w.heap.size v4 (l.take (i + 1))) := Lib.hid (by
        unfold OwnZ
        rw [HTK.out, List.length_append, List.flatMap_append]
        exact ho4)
      have HB4 : RowKit.Hid (Below w.heap.size w w4) := Lib.hid (HBQ.out.grown hg4 hsz (fun k hk => (World.ownsRow.lt hoq k hk).1))
      clear ho4 hg4 hoq
      go_roundg (M - (i + 1))
      case measure => omega
      case rel => exact ⟨i + 1, by omega, rfl, by go_num, HO4.out, HB4.out⟩
    · have hie : i = M := by omega
      subst hie
      have hii : ¬ (i : Int) < (i : Int) := by omega
      have htk : l.take i = l := List.take_of_length_le (by rw [HM.out]; exact Nat.le_refl _)
      rw [htk] at HOW
      clear htk
      have HC1 := Lib.hid (HSZ.out wr _ HBW.out HOW.out.has)
      go_wp2_with (first
        | (go_at_call 18; (with_reducible refine HC1.out.mono ?_); rintro e w2 ⟨⟨v2, rfl, ho2⟩, hb2⟩; have hB2 := bel_trans HBW.out hb2)
        | (go_at_call 19; (with_reducible refine (HRZ.out _ hB2).mono ?_); rintro e w3 ⟨⟨v3, rfl, ho3⟩, hb3⟩; have hB3 := bel_trans hB2 hb3; have hc1 := OwnL.has (OwnL.mono ho2 hb3); have hc2 := OwnL.has ho3)
        | (go_at_call 11; (with_reducible refine (HSA.out _ _ _ hc1 hc2).mono ?_); rintro e w4 ⟨rfl, hb4⟩; have hB4 := bel_trans hB3 hb4))
      go_ret
      exact ⟨rfl, hB4⟩
end Go.Proofs.YtahghakpmjfefaaDoor.Sh
