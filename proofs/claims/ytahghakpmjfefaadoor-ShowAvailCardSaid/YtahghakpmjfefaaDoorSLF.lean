/- The statement about what is left on flights: its walk. Printed by tools/gen_sle.py. -/
import Derived.Test.YtahghakpmjfefaaDoorSLE
namespace Go.Proofs.YtahghakpmjfefaaDoor.Sh
open Go.RowKit Go.ChangeMaps En
set_option linter.unusedSimpArgs false
set_option linter.unusedVariables false
set_option maxRecDepth 20000

/-- A slice of no elements is laid. -/
theorem ord_slice0 {P : Program} {ops : Array Oper} {Q : Act → World → Prop} {o : Oper} {rest : List (Oper × Bool)} {a : Act} {w0 : World} (hgd : o.guard = none) (ob : Obj)
    (hr : ∀ w, (execOp a.eval o).run P w = .ok (.value (.slice (some ⟨w.heap.size, 0, none⟩) 0 0)) (w.alloc ob))
    (h : ∀ w, Cone w0 w → wpOrd P ops Q rest (a.put o.dst (.slice (some ⟨w.heap.size, 0, none⟩) 0 0)) (w.alloc ob)) : wpOrd P ops Q ((o, true) :: rest) a w0 := by
  unfold wpOrd
  exact ⟨by simp [Region.wanted, hgd], fun w hw => ⟨_, _, hr w, .of ((Below.refl _ _).alloc (Nat.le_refl _) _), h w hw⟩⟩
theorem OwnA.new {w w' w'' : World} {B gb : Nat} {v : Value} {l : List (LineT × Value)} (h : OwnA w B v l) (hb : Below w.heap.size w w') (hg : w'.grownBy w'' (some gb)) (hgb : w.heap.size ≤ gb) : OwnA w'' B v l :=
  World.ownsRow.kept (OwnA.mono h hb) hg (by
    cases hv : v.ownBlock with
    | none => exact .inl rfl
    | some k =>
      right
      intro e
      injection e with e
      have := (World.ownsRow.lt h k hv).2
      omega)
theorem LeftOk.new {w w' w'' : World} {B gb : Nat} {l : List (LineT × Value)} (h : LeftOk w B l) (hb : Below w.heap.size w w') (hg : w'.grownBy w'' (some gb)) (hgb : w.heap.size ≤ gb) : LeftOk w'' B l := fun x hx =>
  ⟨(h x hx).1, World.ownsRow.kept (LeftOk.mono h hb x hx).2 hg (by
    cases hv : x.2.ownBlock with
    | none => exact .inl rfl
    | some k =>
      right
      intro e
      injection e with e
      have := (World.ownsRow.lt (h x hx).2 k hv).2
      omega)⟩
theorem owns_low {w : World} {B B' st n : Nat} {T : TypeId} {v : Value} {xs : List Value} (h : w.ownsRow B T st v n xs) (hB : B' ≤ B) : w.ownsRow B' T st v n xs := by
  refine ⟨h.1, ?_⟩
  rcases h.2 with h | ⟨g, c, cur, e, h1, h2⟩
  · exact .inl h
  · exact .inr ⟨g, c, cur, e, Nat.le_trans hB h1, h2⟩
theorem owns_slice {w : World} {B st n : Nat} {T : TypeId} {v : Value} {xs : List Value} (h : w.ownsRow B T st v n xs) : ∃ p m c, v = .slice p m c := by
  rcases h.2 with ⟨e, _⟩ | ⟨g, c, cur, e, _⟩
  · exact ⟨_, _, _, e⟩
  · exact ⟨_, _, _, e⟩

set_option maxHeartbeats 16000000 in
theorem showAvail_walk (d : Int) (hd : (Lit.int .i64 d).wf = true) (v : Value) (en : ByteArray × ByteArray) (vl : Value) (l : List (LineT × RxT)) (w : World) (h1 : EndsIn v en) (h2 : LinesIn w vl l) (ht : Da.LenTab w) (hp : PowTab w) (hm : MaxCell w) :
    Calls Tryd.prog 4 #[.int .i64 d, v, vl] w fun e w' => e = .returned (.bool true) ∧ Below w.heap.size w w' := by
  obtain ⟨s1, s2⟩ := en
  have h1 : v = .agg #[.string s1, .string s2] := h1
  subst h1
  obtain ⟨hv, hw⟩ := h2
  obtain ⟨pv, cv, rfl⟩ := hv.len
  have HAW : RowKit.Hid (∀ W, Below w.heap.size w W → Calls Tryd.prog 9 #[] W fun e w' => e = .returned (.bool true) ∧ Below W.heap.size W w') := Lib.hid fun W h => awake_any W (hm.keep h) (ht.keep h) (powTab_keep hp h)
  have HSH : RowKit.Hid (s1.size ≤ 1000 → s2.size ≤ 1000 → l.length ≤ 100 → ∀ W B v' (lm : List (LineT × Value)), Below w.heap.size w W → OwnA W B v' lm → LeftOk W B lm → lm.map (·.1) = l.map (·.1) → Calls Tryd.prog 14 #[.int .i64 d, .string s1, .string s2, v'] W fun e w' => (∃ v, e = .returned v ∧ OwnL w' W.heap.size v ((availL d (toL s1) (toL s2) (l.map (·.1))).map mkB)) ∧ Below W.heap.size W w') := Lib.hid fun g1 g2 g3 W B v' lm hW ho hl hm => by
    have hll : lm.length = l.length := by have := congrArg List.length hm; simpa using this
    have := avail_any d s1 s2 v' lm W g1 g2 (HasE.own ho) (by omega) (fun x hx => ⟨(hl x hx).1, HasE.own (hl x hx).2⟩) (ht.keep hW) (powTab_keep hp hW)
    rw [hm] at this
    exact this.mono fun e w' ⟨h1, h2⟩ => ⟨lines_own h1, h2⟩
  have HRF : RowKit.Hid (s1.size ≤ 1000 → s2.size ≤ 1000 → l.length ≤ 100 → (∀ x ∈ l.map (·.1), LineOk x) → ∀ W, Below w.heap.size w W → Calls Tryd.prog 15 #[.int .i64 d, .string s1, .string s2, .slice pv l.length cv] W fun e w' => (∃ v, e = .returned v ∧ OwnL w' W.heap.size v ((availL d (toL s1) (toL s2) (l.map (·.1))).map mkB)) ∧ Below W.heap.size W w') := Lib.hid fun g1 g2 g3 hok W hW => (ravail_any d s1 s2 _ l W g1 g2 (hv.mono hW) (by omega) (fun x hx => ⟨hok _ (List.mem_map.2 ⟨x, hx, rfl⟩), (hw x hx).2.1.1.mono hW, (hw x hx).2.2⟩)).mono fun e w' ⟨h1, h2⟩ => ⟨lines_own h1, h2⟩
  have HLN : RowKit.Hid (l.length ≤ 100 → ((availL d (toL s1) (toL s2) (l.map (·.1))).map mkB).length ≤ 1000000) := Lib.hid fun g => by
    unfold availL
    rw [List.length_map, List.length_cons]
    split
    · simp
    · rw [List.length_mapIdx, List.length_map]; omega
  generalize (availL d (toL s1) (toL s2) (l.map (·.1))).map mkB = LL at *
  have HV := Lib.hid hv
  have HW := Lib.hid hw
  have hbk := Blk.new w 34 [.string s1, .string s2]
  have hb1 : Below w.heap.size w (w.alloc (.cells #[.string s1, .string s2] 34)) := (Below.refl _ _).alloc (Nat.le_refl _) _
  have hsz1 : (w.alloc (.cells #[.string s1, .string s2] 34)).heap.size = w.heap.size + 1 := by simp
  simp only [List.toArray] at hbk
  generalize hw1 : w.alloc (.cells #[.string s1, .string s2] 34) = w1 at hbk hb1 hsz1
  have HB := Lib.hid hb1
  have HCX : RowKit.Hid (∀ W, Below w1.heap.size w1 W → W.cell? ⟨w.heap.size, 0, none⟩ = some (.string s1) ∧ W.cell? ⟨w.heap.size, 1, none⟩ = some (.string s2)) := Lib.hid fun W h => ⟨((hbk.mono h).cell 0).trans rfl, ((hbk.mono h).cell 1).trans rfl⟩
  clear hbk hb1 hv hw hsz1
  generalize hM : l.length = M at *
  have HM := Lib.hid hM
  clear hM
  by_cases hi1 : M ≤ 100
  rotate_left
  · have hg1 : (100 : Int) < (M : Int) := by omega
    clear HSH HRF HV HW ht hp hm
    go_enter Tryd.func4, Tryd.ntmps4
    go_upto_region 1 with fail
    try rw [hw1]
    clear hw1
    go_wp2_with (first
      | (go_at_call 9; (with_reducible refine (HAW.out _ HB.out).mono ?_); rintro e w2 ⟨rfl, hb2⟩; have c0 := (HCX.out _ hb2).1; have c1 := (HCX.out _ hb2).2))
    go_ret
    exact ⟨rfl, bel_trans HB.out hb2⟩
  have hg1 : ¬ (100 : Int) < (M : Int) := by omega
  by_cases hi2 : s1.size ≤ 1000
  rotate_left
  · have hg2 : (1000 : Int) < (s1.size : Int) := by omega
    clear HSH HRF HV HW ht hp hm
    go_enter Tryd.func4, Tryd.ntmps4
    go_upto_region 1 with fail
    try rw [hw1]
    clear hw1
    go_wp2_with (first
      | (go_at_call 9; (with_reducible refine (HAW.out _ HB.out).mono ?_); rintro e w2 ⟨rfl, hb2⟩; have c0 := (HCX.out _ hb2).1; have c1 := (HCX.out _ hb2).2))
    go_ret
    exact ⟨rfl, bel_trans HB.out hb2⟩
  have hg2 : ¬ (1000 : Int) < (s1.size : Int) := by omega
  by_cases hi3 : s2.size ≤ 1000
  rotate_left
  · have hg3 : (1000 : Int) < (s2.size : Int) := by omega
    clear HSH HRF HV HW ht hp hm
    go_enter Tryd.func4, Tryd.ntmps4
    go_upto_region 1 with fail
    try rw [hw1]
    clear hw1
    go_wp2_with (first
      | (go_at_call 9; (with_reducible refine (HAW.out _ HB.out).mono ?_); rintro e w2 ⟨rfl, hb2⟩; have c0 := (HCX.out _ hb2).1; have c1 := (HCX.out _ hb2).2))
    go_ret
    exact ⟨rfl, bel_trans HB.out hb2⟩
  have hg3 : ¬ (1000 : Int) < (s2.size : Int) := by omega
  have HSH2 := Lib.hid (HSH.out hi2 hi3 hi1)
  have HRF2 := Lib.hid (HRF.out hi2 hi3 hi1)
  have HLN2 := Lib.hid (HLN.out hi1)
  have HSA : RowKit.Hid (∀ va vb W, HasL W va LL → HasL W vb LL → Calls Tryd.prog 11 #[va, vb] W fun e w' => e = .returned (.bool true) ∧ Below W.heap.size W w') := Lib.hid fun va vb W h1 h2 => same_true LL va vb W h1 h2 HLN2.out
  clear HSH HRF HLN ht hp hm hd
  go_enter Tryd.func4, Tryd.ntmps4
  go_upto_region 1 with fail
  try rw [hw1]
  clear hw1
  go_upto_region 6 with (first
    | (go_at_call 9; (with_reducible refine (HAW.out _ HB.out).mono ?_); rintro e w2 ⟨rfl, hb2⟩; have c0 := (HCX.out _ hb2).1; have c1 := (HCX.out _ hb2).2))
  have HB2 := Lib.hid hb2
  clear hb2 c0 c1 hg1 hg2 hg3 HAW
  go_wp2
  go_loopg [7, 8] M (fun g0 s7 s8 wr => ∃ (i : Nat) (lm : List (LineT × Value)), i ≤ M ∧ g0 = M - i ∧ s8 = .int .i64 (i : Int) ∧ OwnA wr w1.heap.size s7 lm ∧ LeftOk wr w1.heap.size lm ∧ lm.map (·.1) = (l.map (·.1)).take i ∧ Below w1.heap.size w1 wr)
  case atStart => exact ⟨0, [], Nat.zero_le _, rfl, rfl, World.ownsRow_nil _ _ _ _, (by intro x hx; cases hx), rfl, HB2.out⟩
  case round =>
  obtain ⟨i, lm, hiM, rfl, rfl, hown, hlok, hlm, hbw⟩ := hrel
  rename World => wr
  have HOW := Lib.hid hown
  have HLO := Lib.hid hlok
  have HLM := Lib.hid hlm
  have HBW := Lib.hid hbw
  clear hown hlok hlm hbw
  by_cases hlt : i < M
  · have hii : (i : Int) < (M : Int) := by omega
    have hi0 : (0 : Int) ≤ (i : Int) := by omega
    have hiM2 : i < l.length := by rw [HM.out]; exact hlt
    have HWR : RowKit.Hid (Below w.heap.size w wr) := Lib.hid (bel_trans HB.out HBW.out)
    obtain ⟨bb, off, rfl, hr⟩ := row_at rlineC_len (ln0, rx0) (HV.out.mono HWR.out) hiM2
    have HOX := Lib.hid (HW.out _ (List.mem_of_getElem? (getD_at (ln0, rx0) hiM2)))
    have HTK : RowKit.Hid ((l.map (·.1)).take (i + 1) = (l.map (·.1)).take i ++ [(l.getD i (ln0, rx0)).1]) := Lib.hid (by
      have hlm : i < (l.map (·.1)).length := by rw [List.length_map]; exact hiM2
      rw [take_snocE ln0 hlm]
      congr 2
      simp [List.getD, hiM2])
    generalize l.getD i (ln0, rx0) = x at *
    obtain ⟨⟨car, num, src, dst, dep, arr, linked, left⟩, days, cls, plan, vl⟩ := x
    unfold rlineC flC at hr
    simp only [List.cons_append, List.nil_append] at hr HOX HTK
    have hrl : wr.cell? ⟨bb, off + i * 11 + 9, none⟩ = some (.bool linked) := hr 9 _ rfl
    have hrv : wr.cell? ⟨bb, off + i * 11 + 10, none⟩ = some vl := hr 10 _ rfl
    have hfl : wr.rangeAt bb (off + i * 11) [.string car, .int .i64 num, .string src, .string dst, .int .u8 days, .int .i64 dep, .int .i64 arr, cls, .int .i64 plan] := fun j u hj => hr j u (by
      have hj9 : j < 9 := (List.getElem?_eq_some_iff.1 hj).1
      match j, hj9 with
      | 0, _ => exact hj
      | 1, _ => exact hj
      | 2, _ => exact hj
      | 3, _ => exact hj
      | 4, _ => exact hj
      | 5, _ => exact hj
      | 6, _ => exact hj
      | 7, _ => exact hj
      | 8, _ => exact hj)
    obtain ⟨vp, vc, rfl⟩ := HOX.out.2.1.1.len
    have hone : ∀ u ∈ ([.string car, .int .i64 num, .string src, .string dst, .int .u8 days, .int .i64 dep, .int .i64 arr, cls, .int .i64 plan] : List Value), u.oneCell' = true := by
      intro u hu
      have hc := HOX.out.2.2
      simp at hu
      rcases hu with rfl | rfl | rfl | rfl | rfl | rfl | rfl | rfl | rfl <;> first | rfl | exact hc
    have hwi : IntKind.i64.wrap ((i : Int) + 1) = (i : Int) + 1 := IntWalk.i64_in _ (by omega)
    go_upto_region 10 with (first
      | (refine wpList_load_mid rfl 41 _ rfl bb (off + i * 11) rfl [.string car, .int .i64 num, .string src, .string dst, .int .u8 days, .int .i64 dep, .int .i64 arr, cls, .int .i64 plan] _ hfl Tryd.underlying41 rfl info_flight ?_)
      | (refine wpList_store_blk rfl 41 (.tmp 9) (.tmp 37) rfl wr.heap.size 41 [.string ⟨#[]⟩, .int .i64 0, .string ⟨#[]⟩, .string ⟨#[]⟩, .int .u8 0, .int .i64 0, .int .i64 0, .slice none 0 0, .int .i64 0] [.string car, .int .i64 num, .string src, .string dst, .int .u8 days, .int .i64 dep, .int .i64 arr, cls, .int .i64 plan] rfl rfl (Blk.new wr 41 [.string ⟨#[]⟩, .int .i64 0, .string ⟨#[]⟩, .string ⟨#[]⟩, .int .u8 0, .int .i64 0, .int .i64 0, .slice none 0 0, .int .i64 0]) rfl info_flight hone ?_; intro w8 ha8 hb8 hgr8))
    (try dsimp only [Act.put])
    have h18 : Below wr.heap.size wr w8 := ((Below.refl _ _).alloc (Nat.le_refl _) _).trans hb8
    have HW8 := Lib.hid h18
    have HBW8 : RowKit.Hid (Below w1.heap.size w1 w8) := Lib.hid (bel_trans HBW.out h18)
    have HRL := Lib.hid (cell_bel h18 hrl)
    have hrv8 := cell_bel h18 hrv
    generalize hgw : wr.heap.size = g8 at ha8 ⊢
    have z0 : w8.cell? ⟨g8, 0, none⟩ = some (.string car) := (ha8.cell 0).trans rfl
    have z1 : w8.cell? ⟨g8, 1, none⟩ = some (.int .i64 num) := (ha8.cell 1).trans rfl
    have z2 : w8.cell? ⟨g8, 2, none⟩ = some (.string src) := (ha8.cell 2).trans rfl
    have z3 : w8.cell? ⟨g8, 3, none⟩ = some (.string dst) := (ha8.cell 3).trans rfl
    have z5 : w8.cell? ⟨g8, 5, none⟩ = some (.int .i64 dep) := (ha8.cell 5).trans rfl
    have z6 : w8.cell? ⟨g8, 6, none⟩ = some (.int .i64 arr) := (ha8.cell 6).trans rfl
    clear hrl hrv hfl hr hone ha8 hb8 hgr8 h18 hgw
    obtain ⟨K, hK⟩ : ∃ K, left.length = K := ⟨_, rfl⟩
    rw [hK] at hrv8
    have HK := Lib.hid hK
    clear hK
    by_cases hk1 : K ≤ 50
    rotate_left
    · have hx1 : (50 : Int) < (K : Int) := by omega
      go_wp2
      go_ret
      exact ⟨rfl, bel_trans HB.out HBW8.out⟩
    have hx1 : ¬ (50 : Int) < (K : Int) := by omega
    by_cases hk2 : src.size ≤ 1000
    rotate_left
    · have hx2 : (1000 : Int) < (src.size : Int) := by omega
      go_wp2
      go_ret
      exact ⟨rfl, bel_trans HB.out HBW8.out⟩
    have hx2 : ¬ (1000 : Int) < (src.size : Int) := by omega
    by_cases hk3 : dst.size ≤ 1000
    rotate_left
    · have hx3 : (1000 : Int) < (dst.size : Int) := by omega
      go_wp2
      go_ret
      exact ⟨rfl, bel_trans HB.out HBW8.out⟩
    have hx3 : ¬ (1000 : Int) < (dst.size : Int) := by omega
    by_cases hk4 : car.size ≤ 1000
    rotate_left
    · have hx4 : (1000 : Int) < (car.size : Int) := by omega
      go_wp2
      go_ret
      exact ⟨rfl, bel_trans HB.out HBW8.out⟩
    have hx4 : ¬ (1000 : Int) < (car.size : Int) := by omega
    have HLK : RowKit.Hid (LineOk ⟨car, num, src, dst, dep, arr, linked, left⟩) := Lib.hid ⟨hk4, hk2, hk3, HOX.out.1, by show left.length ≤ 50; rw [HK.out]; exact hk1, HOX.out.2.1.2⟩
    have HLF := Lib.hid (HOX.out.2.1.1.mono (bel_trans HWR.out HW8.out))
    go_upto_region 12 with fail
    have k0 := cell_regrown z0
    have k1 := cell_regrown z1
    have k2 := cell_regrown z2
    have k3 := cell_regrown z3
    have k5 := cell_regrown z5
    have k6 := cell_regrown z6
    have kl := cell_regrown HRL.out
    have kv := cell_regrown hrv8
    clear z0 z1 z2 z3 z5 z6 hrv8 hx1 hx2 hx3 hx4 HRL HOX
    have HLK2 := Lib.hid HLK.out
    refine wp_region_cone 25 [(0, false), (1, false), (2, false), (3, false), (4, false), (5, false), (6, false), (7, false), (8, false), (9, false), (10, false), (11, false), (12, false), (13, false), (14, false), (15, false), (17, false), (18, false), (19, false), (20, false), (21, false), (16, true), (22, true), (23, false), (24, true)] (by kernel_rfl) (by kernel_rfl) ?_
    simp only [ordO, List.map_cons, List.map_nil, List.getD_cons_zero, List.getD_cons_succ, List.drop_succ_cons, List.drop_zero]
    repeat (
      refine ord_quiet (fun K hK => ?_)
      go_simp
      first
        | (refine hK _ ?_; clear hK K)
        | (refine ⟨_, fun _ => up_val, hK _ ?_⟩; clear hK K))
    refine ord_slice0 (by rfl) (.cells #[] 100) ?_ ?_
    · intro w
      go_simp
    intro wb hwb
    have hgb : w8.heap.size ≤ wb.heap.size := hwb.bel.size
    have hblk := Blk.new wb 100 []
    have hbb : Below w8.heap.size w8 (wb.alloc (.cells #[] 100)) := hwb.bel.alloc hwb.bel.size _
    simp only [List.toArray] at hblk
    generalize hwn : wb.alloc (.cells #[] 100) = wn at *
    have HLQ := Lib.hid (HLF.out.mono hbb)
    clear hwn hwb k0 k1 k2 k3 k5 k6 kl kv HLF
    generalize wb.heap.size = gb at *
    obtain ⟨i2, hi22, hz2, hsz2, hby2⟩ := sold_info
    have hl1 : left.length ≤ maxLen := by have := HK.out; unfold maxLen; omega
    have hl2 : left.length * 16 ≤ 140737488355328 := by have := HK.out; omega
    have hlml : lm.length ≤ 1000 := by
      have := congrArg List.length HLM.out
      rw [List.length_map, List.length_take, List.length_map] at this
      omega
    have hx5 : .slice vp left.length vc = (.slice vp K vc : Value) := by rw [HK.out]
    have hgb2 : w1.heap.size ≤ gb := Nat.le_trans HBW8.out.size hgb
    rw [hx5] at HLQ
    refine ord_copy (enc := leftC) (st := 2) (fun _ => rfl) (by rfl) _ _ 42 (by rfl) gb 100 i2 _ 16 Tryd.underlying42 hi22 hz2 hsz2 hby2 (by rfl) (by rfl) hblk _ left (by rfl) HLQ.out hl1 hl2 ?_
    intro wc v6 w6 hwc ho6 hb6
    obtain ⟨p6, n6, c6, rfl⟩ := owns_slice ho6
    have HO6 := Lib.hid ho6
    have HB6 := Lib.hid (bel_trans hbb (bel_trans hwc.bel hb6))
    clear ho6 hb6 hwc hbb hblk HLQ hx5 hi22 hz2 hsz2 hby2 hl1 hl2 i2
    repeat (
      refine ord_quiet (fun K hK => ?_)
      go_simp
      first
        | (refine hK _ ?_; clear hK K)
        | (refine ⟨_, fun _ => up_val, hK _ ?_⟩; clear hK K))
    refine ord_slice2 (by rfl) (.cells #[.string car, .int .i64 num, .string src, .string dst, .int .i64 dep, .int .i64 arr, .bool linked, .slice p6 n6 c6] 46) ?_ ?_
    · intro w
      go_simp
    intro wd hwd
    unfold wpOrd
    intro wq hwq
    have hbk6 := (Blk.new wd 46 [.string car, .int .i64 num, .string src, .string dst, .int .i64 dep, .int .i64 arr, .bool linked, .slice p6 n6 c6]).mono hwq.bel
    have hb6q : Below w6.heap.size w6 wq := bel_trans (hwd.bel.alloc hwd.bel.size _) hwq.bel
    have hb8q := bel_trans HB6.out hb6q
    have HOQ := Lib.hid (World.ownsRow.kept HO6.out (gr_of_below hb6q none) (by cases hv : (Value.slice p6 n6 c6).ownBlock <;> simp))
    have HBQ := Lib.hid (bel_trans HBW8.out hb8q)
    have hA7 := HOW.out.mono (bel_trans HW8.out hb8q)
    have HL7 := Lib.hid (HLO.out.mono (bel_trans HW8.out hb8q))
    have hs7 := HBQ.out.size
    clear hwd hwq hb6q hb8q HB6 HO6
    generalize wd.heap.size = gd at *
    go_wp2_with (first
      | (at_builtin; refine push_E Tryd.underlying36 8 104 line_info (by decide) rfl _ _ rfl w1.heap.size _ lm.length (lm.flatMap lineC) rfl hA7 gd [.string car, .int .i64 num, .string src, .string dst, .int .i64 dep, .int .i64 arr, .bool linked, .slice p6 n6 c6] rfl rfl (fun j _ => hbk6.cell j) (lineC_one (x := ⟨car, num, src, dst, dep, arr, linked, left⟩)) (by omega) (by decide) hs7 ?_; intro v4 w4 ho4 hg4))
    have HFI : RowKit.Hid (∃ lm' : List (LineT × Value), OwnA w4 w1.heap.size v4 lm' ∧ LeftOk w4 w1.heap.size lm' ∧ lm'.map (·.1) = (l.map (·.1)).take (i + 1)) := Lib.hid (by
      refine ⟨lm ++ [(⟨car, num, src, dst, dep, arr, linked, left⟩, .slice p6 n6 c6)], ?_, ?_, ?_⟩
      · unfold OwnA
        rw [List.length_append, List.length_singleton, List.flatMap_append]
        exact ho4
      · have hold := HL7.out.grown hA7 hg4
        intro y hy
        rcases List.mem_append.1 hy with hy | hy
        · exact hold y hy
        · rw [List.mem_singleton] at hy
          subst hy
          refine ⟨HLK.out, ?_⟩
          exact owns_low (World.ownsRow.kept HOQ.out hg4 (own_ne (by decide) HOQ.out hA7)) hgb2
      · rw [List.map_append, HLM.out, HTK.out]; rfl)
    have HB4 : RowKit.Hid (Below w1.heap.size w1 w4) := Lib.hid (HBQ.out.grown hg4 hs7 (fun k hk => (World.ownsRow.lt hA7 k hk).1))
    clear ho4 hg4 hA7 hbk6
    go_roundg (M - (i + 1))
    case measure => omega
    case rel =>
      obtain ⟨lm', j1, j2, j3⟩ := HFI.out
      exact ⟨i + 1, lm', by omega, rfl, by go_num, j1, j2, j3, HB4.out⟩
  · have hie : i = M := by omega
    have hii : ¬ (i : Int) < (M : Int) := by omega
    have htk : (l.map (·.1)).take i = l.map (·.1) := List.take_of_length_le (by rw [List.length_map, HM.out, hie]; exact Nat.le_refl _)
    rw [htk] at HLM
    have HOKL : RowKit.Hid (∀ x ∈ l.map (·.1), LineOk x) := Lib.hid fun x hx => by
      rw [← HLM.out] at hx
      obtain ⟨y, hy, rfl⟩ := List.mem_map.1 hx
      exact (HLO.out y hy).1
    clear htk
    have HC1 : RowKit.Hid (∀ W, Below wr.heap.size wr W → Calls Tryd.prog 14 #[.int .i64 d, .string s1, .string s2, u7] W fun e w' => (∃ v, e = .returned v ∧ OwnL w' W.heap.size v LL) ∧ Below W.heap.size W w') := Lib.hid fun W h => HSH2.out W w1.heap.size u7 lm (bel_trans HB.out (bel_trans HBW.out h)) (HOW.out.mono h) (HLO.out.mono h) HLM.out
    have HC2 : RowKit.Hid (∀ W, Below wr.heap.size wr W → Calls Tryd.prog 15 #[.int .i64 d, .string s1, .string s2, .slice pv M cv] W fun e w' => (∃ v, e = .returned v ∧ OwnL w' W.heap.size v LL) ∧ Below W.heap.size W w') := Lib.hid fun W h => HRF2.out HOKL.out W (bel_trans HB.out (bel_trans HBW.out h))
    have HCY : RowKit.Hid (∀ W, Below wr.heap.size wr W → W.cell? ⟨w.heap.size, 0, none⟩ = some (.string s1) ∧ W.cell? ⟨w.heap.size, 1, none⟩ = some (.string s2) ∧ Below wr.heap.size wr W) := Lib.hid fun W h => ⟨(HCX.out _ (bel_trans HBW.out h)).1, (HCX.out _ (bel_trans HBW.out h)).2, h⟩
    clear HSH2 HRF2 HOKL HLM HOW HLO
    go_upto_region 13 with fail
    have hS0 := HCY.out wr.drew (Below.refl _ _).drew
    go_region_held3 (fun W => W.cell? ⟨w.heap.size, 0, none⟩ = some (.string s1) ∧ W.cell? ⟨w.heap.size, 1, none⟩ = some (.string s2) ∧ Below wr.heap.size wr W)
      (first
        | (with_reducible exact hS0)
        | (with_reducible assumption)
        | (with_reducible exact HCY.out _ (bel_trans (show _ ∧ _ ∧ Below wr.heap.size wr _ by assumption).2.2 hb4))
        | (with_reducible exact HCY.out _ (bel_trans (show _ ∧ _ ∧ Below wr.heap.size wr _ by assumption).2.2 hb5))
        | (with_reducible exact HCY.out _ (bel_trans (show _ ∧ _ ∧ Below wr.heap.size wr _ by assumption).2.2 hb6)))
      (first
        | (go_at_call 14; (with_reducible refine (HC1.out _ (show _ ∧ _ ∧ Below wr.heap.size wr _ by assumption).2.2).mono ?_); rintro e w4 ⟨⟨v4, rfl, ho4⟩, hb4⟩)
        | (go_at_call 15; (with_reducible refine (HC2.out _ (show _ ∧ _ ∧ Below wr.heap.size wr _ by assumption).2.2).mono ?_); rintro e w5 ⟨⟨v5, rfl, ho5⟩, hb5⟩; have hc1 := OwnL.has (OwnL.mono ho4 hb5); have hc2 := OwnL.has ho5)
        | (go_at_call 11; (with_reducible refine (HSA.out _ _ _ hc1 hc2).mono ?_); rintro e w6 ⟨rfl, hb6⟩))
    all_goals (
      have hy : Below wr.heap.size wr w6 := (show _ ∧ _ ∧ Below wr.heap.size wr w6 by assumption).2.2
      go_wp2
      go_ret
      exact ⟨rfl, bel_trans HB.out (bel_trans HBW.out hy)⟩)
end Go.Proofs.YtahghakpmjfefaaDoor.Sh
