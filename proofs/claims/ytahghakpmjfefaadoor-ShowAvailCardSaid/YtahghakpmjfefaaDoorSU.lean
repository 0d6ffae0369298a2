/- What is left on flights: the reference's lines. Printed by tools/gen_ra.py. -/
import Derived.Test.YtahghakpmjfefaaDoorSRA
import Derived.Test.YtahghakpmjfefaaDoorSJ
namespace Go.Proofs.YtahghakpmjfefaaDoor.Sh
open Go.RowKit En Go.ChangeMaps
set_option linter.unusedSimpArgs false
set_option linter.unusedVariables false
set_option maxRecDepth 20000

/-- What a line of the reference has besides. -/
structure RxT where
  days : Int
  classes : Value
  plan : Int
  left : Value
def flC (x : LineT × RxT) : List Value := [.string x.1.car, .int .i64 x.1.num, .string x.1.src, .string x.1.dst, .int .u8 x.2.days, .int .i64 x.1.dep, .int .i64 x.1.arr, x.2.classes, .int .i64 x.2.plan]
def rlineC (x : LineT × RxT) : List Value := flC x ++ [.bool x.1.linked, x.2.left]
def rx0 : RxT := ⟨0, .slice none 0 0, 0, .slice none 0 0⟩
theorem rlineC_len (x : LineT × RxT) : (rlineC x).length = 11 := rfl
theorem info_flight : (Tryd.prog.info? 41).map (·.size) = some 9 := by kernel_rfl
theorem dig_one (n : Nat) (hn : n ≤ 100000) : ∃ t : ByteArray, toL t = itoaL ((n : Int) + 1) ∧ t.size ≤ 20 ∧ RowKit.Hid (∀ W, Calls Tryd.prog 41 #[.int .i64 ((n : Int) + 1)] W fun e w' => e = .returned (.string t) ∧ Below W.heap.size W w') :=
  ⟨⟨(itoaL ((n : Int) + 1)).toArray⟩, toL_mk _, txt_le (toL_mk _) (itoaL_len _ (WalkArith.wf_i64 (by omega))), Lib.hid fun W => ((digitsH (w := W) ((n : Int) + 1) (by omega) (WalkArith.wf_i64 (by omega))).out W).mono fun e w' ⟨⟨s, h1, h2, _⟩, hb⟩ => ⟨by rw [h1, show s = ⟨(itoaL ((n : Int) + 1)).toArray⟩ from toL_inj (h2.trans (toL_mk _).symm)], hb⟩⟩

set_option maxHeartbeats 16000000 in
theorem ravail_any (d : Int) (src0 dst0 : ByteArray) (v : Value) (l : List (LineT × RxT)) (w : World) (h1 : src0.size ≤ 1000) (h2 : dst0.size ≤ 1000) (hv : HasE rlineC w v l) (hl : l.length ≤ 200) (hok : ∀ x ∈ l, LineOk x.1 ∧ HasE leftC w x.2.left x.1.left ∧ x.2.classes.oneCell' = true) :
    Calls Tryd.prog 15 #[.int .i64 d, .string src0, .string dst0, v] w fun e w' => LinesE w.heap.size (availL d (toL src0) (toL dst0) (l.map (·.1))) e w' ∧ Below w.heap.size w w' := by
  obtain ⟨p, c, rfl⟩ := hv.len
  have HV := Lib.hid hv
  have HOK := Lib.hid hok
  have HDY : RowKit.Hid (∀ W, Calls Tryd.prog 37 #[.int .i64 d] W fun e w' => (∃ s : ByteArray, e = .returned (.string s) ∧ toL s = dTx d ∧ s.size ≤ 5) ∧ Below W.heap.size W w') := Lib.hid fun W => (rday_any d W).mono fun e w' ⟨⟨s, a, b⟩, hb⟩ => ⟨⟨s, a, b, txt_le b (dTx_len d)⟩, hb⟩
  have HD1 := Lib.hid (HDY.out w)
  clear hv hok HDY
  generalize hM : l.length = M at *
  have HM := Lib.hid hM
  clear hM
  go_enter Tryd.func15, Tryd.ntmps15
  go_upto_region 2 with (first
    | (go_at_call 37; (with_reducible refine HD1.out.mono ?_); rintro e w1 ⟨⟨sd, rfl, hsd, hzd⟩, hb1⟩; have q1 := sum_ok (a := sd.size) (b := 1) (by omega); have q2 := sum_ok (a := sd.size + 1) (b := src0.size) (by omega); have q3 := sum_ok (a := sd.size + 1 + src0.size) (b := 1) (by omega); have q4 := sum_ok (a := sd.size + 1 + src0.size + 1) (b := dst0.size) (by omega)))
  have HHD : RowKit.Hid (toL (sd ++ (⟨#[32]⟩ : ByteArray) ++ src0 ++ ⟨#[45]⟩ ++ dst0) = dTx d ++ (32 :: (toL src0 ++ (45 :: toL dst0)))) := Lib.hid (by simp [toL_app, toL_lit, hsd])
  have hown0 : OwnL (w1.alloc (.cells #[.string (sd ++ (⟨#[32]⟩ : ByteArray) ++ src0 ++ ⟨#[45]⟩ ++ dst0)] 9)) w1.heap.size (.slice (some ⟨w1.heap.size, 0, none⟩) 1 1) [sd ++ (⟨#[32]⟩ : ByteArray) ++ src0 ++ ⟨#[45]⟩ ++ dst0] := World.ownsRow_lit (size := 1) w1 #[.string _] 1 (Nat.le_refl _) (by decide) rfl
  have hb0 : Below w1.heap.size w1 (w1.alloc (.cells #[.string (sd ++ (⟨#[32]⟩ : ByteArray) ++ src0 ++ ⟨#[45]⟩ ++ dst0)] 9)) := (Below.refl _ _).alloc (Nat.le_refl _) _
  generalize sd ++ (⟨#[32]⟩ : ByteArray) ++ src0 ++ ⟨#[45]⟩ ++ dst0 = S0 at HHD hown0 hb0 ⊢
  have HO := Lib.hid hown0
  have HB0 := Lib.hid hb0
  have HB1 := Lib.hid hb1
  generalize hwb : w1.alloc (.cells #[.string S0] 9) = wb at HO HB0
  try rw [hwb]
  clear hwb hown0 hb0 hb1 q1 q2 q3 q4 hsd hzd HD1 h1 h2
  go_wp2
  go_loopg [9, 10] M (fun g0 s9 s10 wr => ∃ i : Nat, i ≤ M ∧ g0 = M - i ∧ s10 = .int .i64 (i : Int) ∧ StgR w1 s9 wr ((dTx d ++ (32 :: (toL src0 ++ (45 :: toL dst0)))) :: ((l.map (·.1)).take i).mapIdx avLn))
  case atStart => exact ⟨0, Nat.zero_le _, rfl, rfl, ⟨_, _, _, [S0], rfl, HO.out, by rw [List.map_singleton, HHD.out]; rfl, HB0.out⟩⟩
  case round =>
    obtain ⟨i, hiM, rfl, rfl, hst⟩ := hrel
    obtain ⟨q, nq, cq, L, rfl, hown, hLm, hbw⟩ := hst
    have HOW := Lib.hid hown
    have HLM := Lib.hid hLm
    have HBW := Lib.hid hbw
    have hL9 : L.length ≤ 90000 := by
      have := congrArg List.length hLm
      rw [List.length_map] at this
      rw [this]
      simp only [List.length_cons, List.length_mapIdx, List.length_map, List.length_take]
      omega
    clear hown hLm hbw HO HB0
    by_cases hlt : i < M
    · have hii : (i : Int) < (M : Int) := by omega
      have hi0 : (0 : Int) ≤ (i : Int) := by omega
      have hi3 : i ≤ 100000 := by omega
      have hiM2 : i < l.length := by rw [HM.out]; exact hlt
      have HWR : RowKit.Hid (Below w.heap.size w wr) := Lib.hid (bel_trans HB1.out HBW.out)
      obtain ⟨bb, off, rfl, hr⟩ := row_at rlineC_len (ln0, rx0) (HV.out.mono HWR.out) hiM2
      have HOX := Lib.hid (HOK.out _ (List.mem_of_getElem? (getD_at (ln0, rx0) hiM2)))
      have HTK : RowKit.Hid (((l.map (·.1)).take (i + 1)).mapIdx avLn = ((l.map (·.1)).take i).mapIdx avLn ++ [avLn i (l.getD i (ln0, rx0)).1]) := Lib.hid (by
        have hlm : i < (l.map (·.1)).length := by rw [List.length_map]; exact hiM2
        rw [take_mapIdx_snoc avLn ln0 hlm]
        congr 3
        simp [List.getD, hiM2])
      generalize l.getD i (ln0, rx0) = x at *
      obtain ⟨⟨car, num, src, dst, dep, arr, linked, left⟩, days, cls, plan, vl⟩ := x
      unfold rlineC flC at hr
      simp only [List.cons_append, List.nil_append] at hr HOX HTK
      have hrl : wr.cell? ⟨bb, off + i * 11 + 9, none⟩ = some (.bool linked) := hr 9 _ rfl
      have hrv : wr.cell? ⟨bb, off + i * 11 + 10, none⟩ = some vl := hr 10 _ rfl
      have hfl : wr.rangeAt bb (off + i * 11) [.string car, .int .i64 num, .string src, .string dst, .int .u8 days, .int .i64 dep, .int .i64 arr, cls, .int .i64 plan] := fun j u hj => hr j u (by
        have hj9 : j < 9 := (List.getElem?_eq_some_iff.1 hj).1
        match j, hj9 with
        | 0, _ => exact hj
        | 1, _ => exact hj
        | 2, _ => exact hj
        | 3, _ => exact hj
        | 4, _ => exact hj
        | 5, _ => exact hj
        | 6, _ => exact hj
        | 7, _ => exact hj
        | 8, _ => exact hj)
      obtain ⟨vp, vc, rfl⟩ := HOX.out.2.1.len
      have hone : ∀ u ∈ ([.string car, .int .i64 num, .string src, .string dst, .int .u8 days, .int .i64 dep, .int .i64 arr, cls, .int .i64 plan] : List Value), u.oneCell' = true := by
        intro u hu
        have hc := HOX.out.2.2
        simp at hu
        rcases hu with rfl | rfl | rfl | rfl | rfl | rfl | rfl | rfl | rfl <;> first | rfl | exact hc
      obtain ⟨tg, htg, hzg, HDG⟩ := dig_one i (by omega)
      have hwi : IntKind.i64.wrap ((i : Int) + 1) = (i : Int) + 1 := IntWalk.i64_in _ (by omega)
      go_upto_region 6 with (first
        | (refine wpList_load_mid rfl 41 _ rfl bb (off + i * 11) rfl [.string car, .int .i64 num, .string src, .string dst, .int .u8 days, .int .i64 dep, .int .i64 arr, cls, .int .i64 plan] _ hfl Tryd.underlying41 rfl info_flight ?_)
        | (refine wpList_store_blk rfl 41 (.tmp 11) (.tmp 33) rfl wr.heap.size 41 [.string ⟨#[]⟩, .int .i64 0, .string ⟨#[]⟩, .string ⟨#[]⟩, .int .u8 0, .int .i64 0, .int .i64 0, .slice none 0 0, .int .i64 0] [.string car, .int .i64 num, .string src, .string dst, .int .u8 days, .int .i64 dep, .int .i64 arr, cls, .int .i64 plan] rfl rfl (Blk.new wr 41 [.string ⟨#[]⟩, .int .i64 0, .string ⟨#[]⟩, .string ⟨#[]⟩, .int .u8 0, .int .i64 0, .int .i64 0, .slice none 0 0, .int .i64 0]) rfl info_flight hone ?_; intro w8 ha8 hb8 hgr8))
      (try dsimp only [Act.put])
      have h18 : Below wr.heap.size wr w8 := ((Below.refl _ _).alloc (Nat.le_refl _) _).trans hb8
      have HW8 := Lib.hid h18
      have HA8 := Lib.hid ha8
      have HRL := Lib.hid hrl
      have HRV := Lib.hid hrv
      clear hrl hrv hfl hr hone ha8 hb8 hgr8 h18
      generalize hgw : wr.heap.size = g8 at HA8 ⊢
      go_upto_region 7 with (first
        | (go_at_call 41; (with_reducible refine (HDG.out _).mono ?_); rintro e w9 ⟨rfl, hb9⟩))
      have HW9 : RowKit.Hid (Below wr.heap.size wr w9) := Lib.hid (bel_trans HW8.out hb9)
      have HA9 := Lib.hid (HA8.out.mono hb9)
      have cl9 : w9.cell? ⟨bb, off + i * 11 + 9, none⟩ = some (.bool linked) := cell_bel HW9.out HRL.out
      clear hb9 hgw
      go_upto_if 41 with fail
      go_cut [12] from 37 to 44 (fun s12 wx => ∃ S : ByteArray, s12 = .string S ∧ toL S = headAv i ⟨car, num, src, dst, dep, arr, linked, left⟩ ∧ S.size ≤ 21 ∧ w9 = wx)
      case first =>
        have q1 := sum_ok (a := tg.size) (b := 1) (by omega)
        cases linked with
        | true =>
          have HX : RowKit.Hid (toL (tg ++ (⟨#[43]⟩ : ByteArray)) = headAv i ⟨car, num, src, dst, dep, arr, true, left⟩) := Lib.hid (by unfold headAv; rw [toL_app, htg]; rfl)
          clear htg
          go_wp2
          go_meet
          exact ⟨_, rfl, HX.out, by rw [ByteArray.size_append]; show tg.size + 1 ≤ 21; omega, rfl⟩
        | false =>
          have HX : RowKit.Hid (toL tg = headAv i ⟨car, num, src, dst, dep, arr, false, left⟩) := Lib.hid (by unfold headAv; rw [htg]; simp)
          clear htg
          go_wp2
          go_meet
          exact ⟨_, rfl, HX.out, by omega, rfl⟩
      case rest =>
        obtain ⟨S, hs12, hSL, hzs, hww⟩ := hcut
        subst hs12
        subst hww
        have HSL := Lib.hid hSL
        have hok1 := HOX.out.1
        obtain ⟨ok1, ok2, ok3, ok4, ok5, ok6⟩ := hok1
        simp only at ok1 ok2 ok3 ok4 ok5 ok6
        have HOK6 := Lib.hid ok6
        obtain ⟨tf, htf⟩ : ∃ s : ByteArray, toL s = flTx car num := ⟨⟨(flTx car num).toArray⟩, toL_mk _⟩
        obtain ⟨td, htd⟩ : ∃ s : ByteArray, toL s = cTx dep := ⟨⟨(cTx dep).toArray⟩, toL_mk _⟩
        obtain ⟨ta, hta⟩ : ∃ s : ByteArray, toL s = cTx arr := ⟨⟨(cTx arr).toArray⟩, toL_mk _⟩
        have hzf : tf.size ≤ 1020 := by
          refine txt_le htf ?_
          have hil := itoaL_len num ok4
          have hcl : (toL car).length = car.size := rfl
          unfold flTx
          split
          · omega
          · rw [List.length_append]; omega
        have hzd : td.size ≤ 4 := txt_le htd (cTx_len dep)
        have hza : ta.size ≤ 4 := txt_le hta (cTx_len arr)
        have z0 : w9.cell? ⟨g8, 0, none⟩ = some (.string car) := (HA9.out.cell 0).trans rfl
        have z1 : w9.cell? ⟨g8, 1, none⟩ = some (.int .i64 num) := (HA9.out.cell 1).trans rfl
        have z2 : w9.cell? ⟨g8, 2, none⟩ = some (.string src) := (HA9.out.cell 2).trans rfl
        have z3 : w9.cell? ⟨g8, 3, none⟩ = some (.string dst) := (HA9.out.cell 3).trans rfl
        have z5 : w9.cell? ⟨g8, 5, none⟩ = some (.int .i64 dep) := (HA9.out.cell 5).trans rfl
        have z6 : w9.cell? ⟨g8, 6, none⟩ = some (.int .i64 arr) := (HA9.out.cell 6).trans rfl
        have k0 := cell_regrown z0
        have k1 := cell_regrown z1
        have k2 := cell_regrown z2
        have k3 := cell_regrown z3
        have k5 := cell_regrown z5
        have k6 := cell_regrown z6
        have cF : ∀ d os, Calls Tryd.prog 36 #[.agg #[.string car, .int .i64 num]] (Go.Sort.grow (redrawn w9 d) os) fun e w'' => e = .returned (.string tf) ∧ Below (Go.Sort.grow (redrawn w9 d) os).heap.size (Go.Sort.grow (redrawn w9 d) os) w'' := fun d os => ((rflText_any car num _ (by omega) ok4).mono fun e w' ⟨⟨s, h1, h2⟩, h3⟩ => ⟨by rw [h1, show s = tf from toL_inj (h2.trans htf.symm)], h3⟩)
        have cD : ∀ d os, Calls Tryd.prog 42 #[.int .i64 dep] (Go.Sort.grow (redrawn w9 d) os) fun e w'' => e = .returned (.string td) ∧ Below (Go.Sort.grow (redrawn w9 d) os).heap.size (Go.Sort.grow (redrawn w9 d) os) w'' := fun d os => ((rclock_anyS dep _).mono fun e w' ⟨⟨s, h1, h2⟩, h3⟩ => ⟨by rw [h1, show s = td from toL_inj (h2.trans htd.symm)], h3⟩)
        have cA : ∀ d os, Calls Tryd.prog 42 #[.int .i64 arr] (Go.Sort.grow (redrawn w9 d) os) fun e w'' => e = .returned (.string ta) ∧ Below (Go.Sort.grow (redrawn w9 d) os).heap.size (Go.Sort.grow (redrawn w9 d) os) w'' := fun d os => ((rclock_anyS arr _).mono fun e w' ⟨⟨s, h1, h2⟩, h3⟩ => ⟨by rw [h1, show s = ta from toL_inj (h2.trans hta.symm)], h3⟩)
        have q1 := sum_ok (a := S.size) (b := 1) (by omega)
        have q2 := sum_ok (a := S.size + 1) (b := tf.size) (by omega)
        have q3 := sum_ok (a := S.size + 1 + tf.size) (b := 1) (by omega)
        have q4 := sum_ok (a := S.size + 1 + tf.size + 1) (b := src.size) (by omega)
        have q5 := sum_ok (a := S.size + 1 + tf.size + 1 + src.size) (b := 1) (by omega)
        have q6 := sum_ok (a := S.size + 1 + tf.size + 1 + src.size + 1) (b := td.size) (by omega)
        have q7 := sum_ok (a := S.size + 1 + tf.size + 1 + src.size + 1 + td.size) (b := 1) (by omega)
        have q8 := sum_ok (a := S.size + 1 + tf.size + 1 + src.size + 1 + td.size + 1) (b := dst.size) (by omega)
        have q9 := sum_ok (a := S.size + 1 + tf.size + 1 + src.size + 1 + td.size + 1 + dst.size) (b := 1) (by omega)
        have q10 := sum_ok (a := S.size + 1 + tf.size + 1 + src.size + 1 + td.size + 1 + dst.size + 1) (b := ta.size) (by omega)
        have HBD : RowKit.Hid (toL (S ++ (⟨#[32]⟩ : ByteArray) ++ tf ++ ⟨#[32]⟩ ++ src ++ ⟨#[32]⟩ ++ td ++ ⟨#[32]⟩ ++ dst ++ ⟨#[32]⟩ ++ ta) = headAv i ⟨car, num, src, dst, dep, arr, linked, left⟩ ++ bodyAv ⟨car, num, src, dst, dep, arr, linked, left⟩) := Lib.hid (by
          unfold bodyAv
          simp [toL_app, toL_lit, HSL.out, htf, htd, hta])
        have hzb : (S ++ (⟨#[32]⟩ : ByteArray) ++ tf ++ ⟨#[32]⟩ ++ src ++ ⟨#[32]⟩ ++ td ++ ⟨#[32]⟩ ++ dst ++ ⟨#[32]⟩ ++ ta).size ≤ 3100 := by
          simp only [ByteArray.size_append]
          show S.size + 1 + tf.size + 1 + src.size + 1 + td.size + 1 + dst.size + 1 + ta.size ≤ 3100
          omega
        clear hSL htf htd hta z0 z1 z2 z3 z5 z6 cl9 ok1 ok2 ok3 ok4 ok6 htg
        go_upto_region 9 with fail
        refine wp_region_cone 24 [(0, false), (1, false), (2, false), (3, false), (4, false), (5, false), (6, false), (7, false), (8, false), (9, false), (10, false), (11, false), (12, false), (13, false), (14, false), (15, false), (16, false), (17, false), (18, false), (19, false), (20, false), (21, false), (22, false), (23, false)] (by kernel_rfl) (by kernel_rfl) ?_
        simp only [ordO, List.map_cons, List.map_nil, List.getD_cons_zero, List.getD_cons_succ, List.drop_succ_cons, List.drop_zero]
        repeat (
          refine ord_quiet (fun K hK => ?_)
          go_simp
          first
            | (refine hK _ ?_; clear hK K)
            | (refine ⟨_, fun _ => up_val, hK _ ?_⟩; clear hK K)
            | (apply Exists.intro; refine ⟨fun _ => ?_, hK _ ?_⟩; (first | (with_reducible exact up_call (cF _ _)) | (with_reducible exact up_call (cD _ _)) | (with_reducible exact up_call (cA _ _))); clear hK K))
        unfold wpOrd
        intro wq hwq
        have HWQ : RowKit.Hid (Below wr.heap.size wr wq) := Lib.hid (bel_trans HW9.out hwq.bel)
        clear hwq k0 k1 k2 k3 k5 k6 cF cD cA q1 q2 q3 q4 q5 q6 q7 q8 q9 q10 hzs hzf hzd hza
        obtain ⟨SX, hSX⟩ : ∃ SX : ByteArray, (S ++ (⟨#[32]⟩ : ByteArray) ++ tf ++ ⟨#[32]⟩ ++ src ++ ⟨#[32]⟩ ++ td ++ ⟨#[32]⟩ ++ dst ++ ⟨#[32]⟩ ++ ta) = SX := ⟨_, rfl⟩
        rw [hSX] at HBD hzb
        try rw [hSX]
        clear hSX
        have HLF := Lib.hid (HOX.out.2.1.mono (bel_trans HWR.out HWQ.out))
        have HRV2 : RowKit.Hid (∀ W, Below wq.heap.size wq W → W.cell? ⟨bb, off + i * 11 + 10, none⟩ = some (.slice vp left.length vc)) := Lib.hid fun W h => cell_bel (bel_trans HWQ.out h) HRV.out
        clear HOX
        generalize hK : left.length = K at *
        have HK := Lib.hid hK
        clear hK
        go_upto_block 2 with fail
        go_cut [12] from 68 to 103 (fun s12 wx => ∃ S : ByteArray, s12 = .string S ∧ toL S = avLn i ⟨car, num, src, dst, dep, arr, linked, left⟩ ∧ Below wq.heap.size wq wx)
        case first =>
          go_wp2
          go_loopg [12, 13] K (fun g1 s12 s13 wv => ∃ (k : Nat) (S : ByteArray), k ≤ K ∧ g1 = K - k ∧ s13 = .int .i64 (k : Int) ∧ s12 = .string S ∧ RowKit.Hid (toL S = toL SX ++ (left.take k).flatMap leftLn) ∧ S.size ≤ 3100 + 30 * k ∧ Below wq.heap.size wq wv)
          case atStart => exact ⟨0, SX, Nat.zero_le _, rfl, rfl, rfl, Lib.hid (by simp), by omega, Below.refl _ _⟩
          case round =>
            obtain ⟨k, S, hkK, rfl, rfl, rfl, HS, hSz, hbv⟩ := hrel
            rename World => wv
            have HBV := Lib.hid hbv
            have cv := HRV2.out wv hbv
            have ok5 : K ≤ 50 := by assumption
            by_cases hk : k < K
            · have hkk : (k : Int) < (K : Int) := by omega
              have hk0 : (0 : Int) ≤ (k : Int) := by omega
              have hkl : k < left.length := by rw [HK.out]; exact hk
              have hwk : IntKind.i64.wrap ((k : Int) + 1) = (k : Int) + 1 := IntWalk.i64_in _ (by omega)
              obtain ⟨b2, o2, rfl, _, z0, z1⟩ := left_at (HLF.out.mono hbv) hkl
              have hwf := HOK6.out _ (List.mem_of_getElem? (getD_at lv0 hkl))
              have HTK2 := Lib.hid (take_flat_snoc leftLn lv0 hkl)
              generalize left.getD k lv0 = y at *
              obtain ⟨yc, yn⟩ := y
              simp only at z0 z1 hwf
              obtain ⟨sl, hsl, hz1, hl1⟩ : ∃ sl : ByteArray, sl = ⟨#[yc]⟩ ∧ sl.size = 1 ∧ toL sl = [yc] := ⟨_, rfl, rfl, rfl⟩
              have HSL2 := Lib.hid hsl
              have HLC : RowKit.Hid (∀ (W : World) (gg : Nat), W.cell? ⟨gg, 0, none⟩ = some (.int .u8 yc.toNat) → (convert 94 9 (.slice (some ⟨gg, 0, none⟩) 1 1)).run Tryd.prog W = .ok (.string sl) W) := Lib.hid fun W gg h0 => by rw [HSL2.out]; exact one_at2 W gg yc h0
              obtain ⟨tn, htn, hzn, HNC⟩ := num_one yn hwf
              have q1 := sum_ok (a := S.size) (b := 1) (by omega)
              have q2 := sum_ok (a := S.size + 1) (b := sl.size) (by omega)
              have q3 := sum_ok (a := S.size + 1 + sl.size) (b := tn.size) (by omega)
              have HX : RowKit.Hid (toL (S ++ (⟨#[32]⟩ : ByteArray) ++ sl ++ tn) = toL SX ++ (left.take (k + 1)).flatMap leftLn) := Lib.hid (by
                rw [HTK2.out]
                have e1 : leftLn ⟨yc, yn⟩ = 32 :: yc :: itoaL yn := rfl
                rw [e1]
                simp [toL_app, toL_lit, HS.out, hl1, htn])
              have hXz : (S ++ (⟨#[32]⟩ : ByteArray) ++ sl ++ tn).size ≤ 3100 + 30 * (k + 1) := by
                simp only [ByteArray.size_append]
                show S.size + 1 + sl.size + tn.size ≤ _
                omega
              have cN : ∀ d os, Calls Tryd.prog 35 #[.int .i64 yn] (Go.Sort.grow (redrawn wv d) os) fun e w'' => e = .returned (.string tn) ∧ Below (Go.Sort.grow (redrawn wv d) os).heap.size (Go.Sort.grow (redrawn wv d) os) w'' := fun d os => HNC.out _
              have kv := cell_regrown cv
              have kc := cell_regrown z0
              have kn := cell_regrown z1
              clear z0 z1 htn hl1 hsl hbv HTK2 hz1
              go_upto_region 13 with fail
              clear cv
              refine wp_region_cone 25 [(0, false), (1, false), (2, false), (3, false), (4, false), (5, false), (6, false), (7, false), (8, false), (9, false), (10, false), (14, false), (15, false), (16, false), (17, false), (18, false), (19, false), (20, false), (21, false), (22, false), (23, false), (11, true), (12, false), (13, false), (24, false)] (by kernel_rfl) (by kernel_rfl) ?_
              simp only [ordO, List.map_cons, List.map_nil, List.getD_cons_zero, List.getD_cons_succ, List.drop_succ_cons, List.drop_zero]
              repeat (
                refine ord_quiet (fun K hK => ?_)
                go_simp
                first
                  | (refine hK _ ?_; clear hK K)
                  | (refine ⟨_, fun _ => up_val, hK _ ?_⟩; clear hK K)
                  | (apply Exists.intro; refine ⟨fun _ => ?_, hK _ ?_⟩; (first | (with_reducible exact up_call (cN _ _))); clear hK K))
              refine ord_slice (e := 5) (u := .int .u8 yc.toNat) (by rfl) (by rfl) (by rfl) ?_ ?_
              · intro w
                go_simp
              intro wb' hwb
              have hcv : ∀ d os, (convert 94 9 (.slice (some ⟨wb'.heap.size, 0, none⟩) 1 1)).run Tryd.prog (Go.Sort.grow (redrawn (wb'.alloc (.cells #[.int .u8 yc.toNat] 5)) d) os) = .ok (.string sl) (Go.Sort.grow (redrawn (wb'.alloc (.cells #[.int .u8 yc.toNat] 5)) d) os) := fun d os => HLC.out _ _ (cell_regrown (new1 wb' _ _) d os)
              have hbb : Below wv.heap.size wv (wb'.alloc (.cells #[.int .u8 yc.toNat] 5)) := hwb.bel.alloc hwb.bel.size _
              generalize hwn : wb'.alloc (.cells #[.int .u8 yc.toNat] 5) = wn at *
              clear hwn hwb kv kc kn
              generalize wb'.heap.size = gb at *
              repeat (
                refine ord_quiet (fun K hK => ?_)
                go_simp
                first
                  | (refine hK _ ?_; clear hK K)
                  | (refine ⟨_, fun _ => up_val, hK _ ?_⟩; clear hK K))
              unfold wpOrd
              intro wq2 hwq2
              have HBQ := Lib.hid (bel_trans HBV.out (bel_trans hbb hwq2.bel))
              clear hcv hwq2 hbb cN q1 q2 q3
              go_wp2
              go_roundg (K - (k + 1))
              case measure => omega
              case rel => exact ⟨k + 1, _, by omega, rfl, by go_num, rfl, HX, hXz, HBQ.out⟩
            · have hke : k = K := by omega
              have hkk : ¬ (k : Int) < (K : Int) := by omega
              have htk : left.take k = left := List.take_of_length_le (by rw [HK.out, hke]; exact Nat.le_refl _)
              rw [htk] at HS
              clear htk
              go_wp2
              go_meet
              exact ⟨S, rfl, by rw [HS.out, HBD.out]; unfold avLn; rw [List.append_assoc], HBV.out⟩
        case rest =>
          obtain ⟨S3, hs12, hS3, hb3⟩ := hcut
          rename World => w3
          subst hs12
          have HS3 := Lib.hid hS3
          have HW3 : RowKit.Hid (Below wr.heap.size wr w3) := Lib.hid (bel_trans HWQ.out hb3)
          have hOx := HOW.out.mono HW3.out
          have HB3 : RowKit.Hid (Below w1.heap.size w1 w3) := Lib.hid (bel_trans HBW.out HW3.out)
          have hsz := HB3.out.size
          clear hS3 hb3
          go_wp2_with (at_builtin; refine push_at3 rfl _ _ rfl w1.heap.size _ L rfl (OwnL.mono hOx ((Below.refl _ _).alloc (Nat.le_refl _) _)) _ S3 rfl (new1 _ _ _) (by omega) (by simp; omega) ?_; intro q4 n4 c4 w4 ho4 hg4)
          have HSG := Lib.hid (StgR.push (OwnL.mono hOx ((Below.refl _ _).alloc (Nat.le_refl _) _)) HLM.out (HB3.out.alloc hsz _) ho4 hg4 HS3.out)
          clear ho4 hg4
          go_roundg (M - (i + 1))
          case measure => omega
          case rel => exact ⟨i + 1, by omega, rfl, by go_num, by rw [HTK.out, ← List.cons_append]; exact HSG.out⟩
    · have hie : i = M := by omega
      have hii : ¬ (i : Int) < (M : Int) := by omega
      have htk : (l.map (·.1)).take i = l.map (·.1) := List.take_of_length_le (by rw [List.length_map, HM.out, hie]; exact Nat.le_refl _)
      rw [htk] at HLM
      clear htk
      rcases Nat.eq_zero_or_pos M with hM0 | hM0
      focus (
        have hl0 : l = [] := by
          have := HM.out
          rw [hM0] at this
          exact List.eq_nil_of_length_eq_zero this
        have HL0 : RowKit.Hid (availL d (toL src0) (toL dst0) (l.map (·.1)) = [dTx d ++ (32 :: (toL src0 ++ (45 :: toL dst0)))] ++ [[78, 79, 32, 70, 76, 73, 71, 72, 84, 83]]) := Lib.hid (by rw [hl0]; rfl)
        have HLM0 : RowKit.Hid (L.map toL = [dTx d ++ (32 :: (toL src0 ++ (45 :: toL dst0)))]) := Lib.hid (by rw [HLM.out, hl0]; rfl)
        obtain ⟨SN, hSN⟩ : ∃ SN : ByteArray, (⟨#[78, 79, 32, 70, 76, 73, 71, 72, 84, 83]⟩ : ByteArray) = SN := ⟨_, rfl⟩
        have HSN : RowKit.Hid (toL SN = [78, 79, 32, 70, 76, 73, 71, 72, 84, 83]) := Lib.hid (by rw [← hSN]; rfl)
        have hmi : ((M : Int) == 0) = true := by rw [hM0]; rfl
        have hsz := HBW.out.size
        clear hl0
        rw [hM0] at hii hie hmi
        subst hM0
        go_wp2_with (at_builtin; (try rw [hSN]); refine push_at3 rfl _ _ rfl w1.heap.size _ L rfl (OwnL.mono HOW.out ((Below.refl _ _).alloc (Nat.le_refl _) _)) _ SN rfl (new1 _ _ _) (by omega) (by simp; omega) ?_; intro q4 n4 c4 w4 ho4 hg4)
        have HSG := Lib.hid (StgR.push (OwnL.mono HOW.out ((Below.refl _ _).alloc (Nat.le_refl _) _)) HLM0.out (HBW.out.alloc hsz _) ho4 hg4 HSN.out)
        clear ho4 hg4
        go_ret
        obtain ⟨q5, n5, c5, L5, e5, ho5, hm5, hb5⟩ := HSG.out
        injection e5 with e1 e2 e3
        subst e1
        subst e2
        subst e3
        exact ⟨⟨_, L5, rfl, own_low ho5 HB1.out.size, by rw [hm5, HL0.out]⟩, bel_trans HB1.out hb5⟩)
      focus (
        have HL1 : RowKit.Hid (availL d (toL src0) (toL dst0) (l.map (·.1)) = (dTx d ++ (32 :: (toL src0 ++ (45 :: toL dst0)))) :: (l.map (·.1)).mapIdx avLn) := Lib.hid (by
          unfold availL
          rw [if_neg (fun h => by
            have h1 := congrArg List.length h
            have h2 := HM.out
            rw [List.length_map, List.length_nil] at h1
            omega)])
        have hmi : ((M : Int) == 0) = false := by rw [beq_eq_false_iff_ne]; omega
        clear hM0
        go_wp2
        go_ret
        exact ⟨⟨_, L, rfl, own_low HOW.out HB1.out.size, by rw [HLM.out, HL1.out]⟩, bel_trans HB1.out HBW.out⟩)
end Go.Proofs.YtahghakpmjfefaaDoor.Sh
