/- What is left on flights: show.Avail. Printed by gen_av.py. -/
import Derived.Test.YtmhhbnnjilbdnaaGreatDoorKA
import Derived.Test.YtmhhbnnjilbdnaaGreatDoorKB
import Derived.Test.YtmhhbnnjilbdnaaGreatDoorKF
import Derived.Test.YtmhhbnnjilbdnaaGreatDoorPlnP
import Derived.Test.YtmhhbnnjilbdnaaGreatDoorKG
import Derived.Test.YtmhhbnnjilbdnaaGreatDoorSA
import Derived.Test.YtmhhbnnjilbdnaaGreatDoorSB
import Derived.Test.YtmhhbnnjilbdnaaGreatDoorSC
import Derived.Test.YtmhhbnnjilbdnaaGreatDoorKH
import Derived.Test.YtmhhbnnjilbdnaaGreatDoorKI
import Derived.Test.YtmhhbnnjilbdnaaGreatDoorKJ
import Derived.Test.YtmhhbnnjilbdnaaGreatDoorKL
import Derived.Test.YtmhhbnnjilbdnaaGreatDoorRows
import Derived.WalkKit
import Derived.WalkSpells
import Derived.WalkLawsBesides
import Derived.Lib.ConvBytes
import Derived.Lib.Hide
import Derived.Lib.SliceRun
import Derived.IntWalk
import Derived.BigQuiet
import Derived.Deep.QuietTactic
import Derived.Deep.RegionWith
import Derived.Deep.RegionHeld3
import Derived.Deep.LoopGhost
import Derived.Deep.CutRange
import Derived.Deep.CutBlock
import Derived.Deep.MidRow
import Derived.Laws.OwnMore
import Derived.OwnWalk
import Derived.Laws.AppendOwnNone
import Derived.Laws.Rows
import Derived.Laws.MakeOwn
import Derived.Laws.CopyOwn
import Derived.Laws.BitsAllLaws
import Derived.DeepKeys5
import Derived.Maps.OwnOps
import Derived.Handy
import Derived.Lib.AppendStr
import Derived.StillTailTactics
import Derived.Deep.AppendLies
import Derived.ProofKit
import Derived.OpenShut
import Derived.SliceStrings
import Derived.Lib.SmallJoins
import Derived.Deep.SlicePairs
import Derived.ChangeSlices
import Derived.WideKeyEntry
import Derived.Tactics2
import Derived.Defers
import Derived.Recover
import Derived.Shelf.Strconv.Itoa0
import Derived.Shelf.Strconv.Itoa1
import Derived.Shelf.LaysM
import Derived.Shelf.Strconv.Itoa2
import Derived.Shelf.Strconv.Itoa3
import Derived.Maps.AppendAt
import Derived.Lib.Bytealg
import Derived.Deep.RegionLaw
import Derived.Shelf.Strings.Builder1
import Derived.Shelf.Strings.Builder2
import Derived.Shelf.Strings.Count
import Derived.Shelf.Strings.Split
import Derived.Shelf.Strings.Replace
namespace Go.Proofs.YtmhhbnnjilbdnaaGreatDoor.Sh
open Go.RowKit En Go.ChangeMaps
set_option linter.unusedSimpArgs false
set_option linter.unusedVariables false
set_option maxRecDepth 20000

theorem lineC_one {x : LineT} {p : Option Addr} {n c : Nat} : ∀ v ∈ lineC (x, .slice p n c), v.oneCell' = true := by
  intro v hv
  simp [lineC] at hv
  rcases hv with rfl | rfl | rfl | rfl | rfl | rfl | rfl | rfl <;> rfl
/-- 'string([]byte{c})', the block wherever it lies. -/
theorem one_at (W : World) (g : Nat) (cl : UInt8) (h0 : W.cell? ⟨g, 0, none⟩ = some (.int .u8 cl.toNat)) : (convert 69 9 (.slice (some ⟨g, 0, none⟩) 1 1)).run Tryz.prog W = .ok (.string ⟨#[cl]⟩) W := by
  refine string_conv [cl] _ g 1 1 rfl fun j hj => ?_
  match j, hj with
  | 0, _ => rw [h0]; rfl

set_option maxHeartbeats 16000000 in
theorem avail_any (d : Int) (src0 dst0 : ByteArray) (v : Value) (l : List (LineT × Value)) (w : World) (h1 : src0.size ≤ 1000) (h2 : dst0.size ≤ 1000) (hv : HasE lineC w v l) (hl : l.length ≤ 200) (hok : ∀ x ∈ l, LineOk x.1 ∧ HasE leftC w x.2 x.1.left) (ht : Da.LenTab w) (hp : PowTab w) :
    Calls Tryz.prog 16 #[.int .i64 d, .string src0, .string dst0, v] w fun e w' => LinesE w.heap.size (availL d (toL src0) (toL dst0) (l.map (·.1))) e w' ∧ Below w.heap.size w w' := by
  obtain ⟨p, c, rfl⟩ := hv.len
  have HV : RowKit.Hid (∀ W, Below w.heap.size w W → HasE lineC W (.slice p l.length c) l) := Lib.hid fun W h => hv.mono h
  have HI : RowKit.Hid (∀ n, (Lit.int .i64 n).wf = true → ∀ W, Below w.heap.size w W → Calls Tryz.prog 28 #[.int .i64 n] W fun e w' => (∃ s : ByteArray, e = .returned (.string s) ∧ toL s = itoaL n ∧ s.size ≤ 20) ∧ Below W.heap.size W w') := Lib.hid fun n hn => (itoaH hp n hn).out
  have HDY : RowKit.Hid (Calls Tryz.prog 30 #[.int .i64 d] w fun e w' => (∃ s : ByteArray, e = .returned (.string s) ∧ toL s = dTx d ∧ s.size ≤ 5) ∧ Below w.heap.size w w') := Lib.hid ((day_any d w ht).mono fun e w' ⟨⟨s, a, b⟩, hb⟩ => ⟨⟨s, a, b, txt_le b (dTx_len d)⟩, hb⟩)
  have HCL : RowKit.Hid (∀ n W, Calls Tryz.prog 45 #[.int .i64 n] W fun e w' => (∃ s : ByteArray, e = .returned (.string s) ∧ toL s = cTx n ∧ s.size ≤ 4) ∧ Below W.heap.size W w') := Lib.hid fun n W => (clock_anyS n W).mono fun e w' ⟨⟨s, a, b⟩, hb⟩ => ⟨⟨s, a, b, txt_le b (cTx_len n)⟩, hb⟩
  have HFL : RowKit.Hid (∀ (car : ByteArray) num, car.size ≤ 1000 → (Lit.int .i64 num).wf = true → ∀ W, Below w.heap.size w W → Calls Tryz.prog 29 #[.agg #[.string car, .int .i64 num]] W fun e w' => (∃ s : ByteArray, e = .returned (.string s) ∧ toL s = flTx car num ∧ s.size ≤ 1020) ∧ Below W.heap.size W w') := Lib.hid fun car num hc hn W hW => (flText_any car num W (by omega) hn (powTab_keep hp hW)).mono fun e w' ⟨⟨s, a, b⟩, hb⟩ => ⟨⟨s, a, b, txt_le b (by
    have := itoaL_len num hn
    have : (toL car).length = car.size := rfl
    unfold flTx
    split
    · omega
    · rw [List.length_append]; omega)⟩, hb⟩
  have HOK : RowKit.Hid (∀ x ∈ l, LineOk x.1 ∧ ∀ W, Below w.heap.size w W → HasE leftC W x.2 x.1.left) := Lib.hid fun x hx => ⟨(hok x hx).1, fun W hW => (hok x hx).2.mono hW⟩
  clear hv hp ht hok
  generalize hM : l.length = M at *
  have HM := Lib.hid hM
  clear hM
  go_enter Tryz.func16, Tryz.ntmps16
  go_upto_region 2 with (go_at_call 30; (with_reducible refine HDY.out.mono ?_); rintro e w1 ⟨⟨sd, rfl, hsd, hzd⟩, hb1⟩)
  have hb0 : Below w.heap.size w (w1.alloc (.cells #[.string (sd ++ ⟨#[32]⟩ ++ src0 ++ ⟨#[45]⟩ ++ dst0)] 9)) := hb1.alloc hb1.size _
  have hown0 : OwnL (w1.alloc (.cells #[.string (sd ++ ⟨#[32]⟩ ++ src0 ++ ⟨#[45]⟩ ++ dst0)] 9)) w.heap.size (.slice (some ⟨w1.heap.size, 0, none⟩) 1 1) [sd ++ ⟨#[32]⟩ ++ src0 ++ ⟨#[45]⟩ ++ dst0] := World.ownsRow_lit (size := 1) w1 #[.string _] 1 hb1.size (by decide) rfl
  have hhd : [sd ++ ⟨#[32]⟩ ++ src0 ++ ⟨#[45]⟩ ++ dst0].map toL = [dTx d ++ (32 :: (toL src0 ++ (45 :: toL dst0)))] := by simp [toL_app, toL_lit, hsd]
  generalize [sd ++ ⟨#[32]⟩ ++ src0 ++ ⟨#[45]⟩ ++ dst0] = L0 at hown0 hhd
  have hL0 : L0.length = 1 := by have := congrArg List.length hhd; simpa using this
  have HO := Lib.hid hown0
  have HB := Lib.hid hb0
  have HHD := Lib.hid hhd
  have HL0 := Lib.hid hL0
  clear hown0 hb0 hhd hL0 hsd hzd h1 h2
  generalize w1.alloc (.cells #[.string (sd ++ ⟨#[32]⟩ ++ src0 ++ ⟨#[45]⟩ ++ dst0)] 9) = w2 at *
  clear hb1
  go_wp2
  go_loopg [9, 26] M (fun g0 s9 s26 wr => ∃ (i : Nat) (q : Option Addr) (nq cq : Nat) (L : List ByteArray), i ≤ M ∧ g0 = M - i ∧ s9 = .slice q nq cq ∧ s26 = .int .i64 (i : Int) ∧ OwnL wr w.heap.size (.slice q nq cq) L ∧ L.length ≤ i + 1 ∧ L.map toL = (dTx d ++ (32 :: (toL src0 ++ (45 :: toL dst0)))) :: ((l.map (·.1)).take i).mapIdx avLn ∧ Below w.heap.size w wr)
  case atStart => exact ⟨0, _, _, _, L0, Nat.zero_le _, rfl, rfl, rfl, HO.out, by rw [HL0.out]; exact Nat.le_refl _, by rw [HHD.out]; rfl, HB.out⟩
  case round =>
    obtain ⟨i, q, nq, cq, L, hiM, rfl, rfl, rfl, hown, hLl, hLm, hbw⟩ := hrel
    have HOWN := Lib.hid hown
    have HLM := Lib.hid hLm
    have HBW := Lib.hid hbw
    have hBs := hbw.size
    clear hown hLm hbw HO HB HHD HL0
    by_cases hlt : i < M
    · have hii : (i : Int) < (M : Int) := by omega
      have hi0 : (0 : Int) ≤ (i : Int) := by omega
      have hiM2 : i < l.length := by rw [HM.out]; exact hlt
      obtain ⟨bb, off, rfl, hr⟩ := line_at (HV.out wr HBW.out) hiM2
      obtain ⟨hok1, hok2⟩ := HOK.out _ (List.mem_of_getElem? (getD_at (ln0, .slice none 0 0) hiM2))
      have htk := take_mapIdx_snoc avLn ln0 (l := l.map (·.1)) (i := i) (by rw [List.length_map]; exact hiM2)
      rw [show (l.map (·.1)).getD i ln0 = (l.getD i (ln0, .slice none 0 0)).1 by simp [List.getD, hiM2]] at htk
      have HTK := Lib.hid htk
      clear htk
      generalize l.getD i (ln0, .slice none 0 0) = x at *
      obtain ⟨⟨car, num, src, dst, dep, arr, linked, left⟩, vl⟩ := x
      simp only at hok1 hok2
      obtain ⟨pl, cL, rfl⟩ := (hok2 w (Below.refl _ _)).len
      have HLF := Lib.hid hok2
      obtain ⟨ok1, ok2, ok3, ok4, ok5, ok6⟩ := hok1
      simp only at ok1 ok2 ok3 ok4 ok5 ok6
      have HFX := Lib.hid (HFL.out car num ok1 ok4)
      have HWF := Lib.hid ok6
      have HS1 := Lib.hid ok2
      have HS2 := Lib.hid ok3
      clear hok2 ok1 ok4 ok6 ok2 ok3
      have HIX := Lib.hid (HI.out ((i : Int) + 1) (WalkArith.wf_i64 (by omega)))
      go_upto_region 5 with (first
        | (refine wpList_load_mid rfl 100 _ rfl bb (off + i * 8) rfl [.string car, .int .i64 num, .string src, .string dst, .int .i64 dep, .int .i64 arr, .bool linked, .slice pl left.length cL] _ hr Tryz.underlying100 rfl info_line ?_)
        | (refine wpList_store_blk rfl 100 (.tmp 11) (.tmp 30) rfl wr.heap.size 100 [.string ⟨#[]⟩, .int .i64 0, .string ⟨#[]⟩, .string ⟨#[]⟩, .int .i64 0, .int .i64 0, .bool false, .slice none 0 0] [.string car, .int .i64 num, .string src, .string dst, .int .i64 dep, .int .i64 arr, .bool linked, .slice pl left.length cL] rfl rfl (Blk.new wr 100 [.string ⟨#[]⟩, .int .i64 0, .string ⟨#[]⟩, .string ⟨#[]⟩, .int .i64 0, .int .i64 0, .bool false, .slice none 0 0]) rfl info_line (lineC_one (x := ⟨car, num, src, dst, dep, arr, linked, left⟩)) ?_; intro w8 ha8 hb8 hg8))
      dsimp only [Act.put]
      have hal : Below wr.heap.size wr (wr.alloc (.cells #[.string ⟨#[]⟩, .int .i64 0, .string ⟨#[]⟩, .string ⟨#[]⟩, .int .i64 0, .int .i64 0, .bool false, .slice none 0 0] 100)) := (Below.refl _ _).alloc (Nat.le_refl _) _
      have hr8 := hal.trans hb8
      have HO8 := Lib.hid (HOWN.out.mono hr8)
      have HB8 := Lib.hid (bel_trans HBW.out hr8)
      have HA8 := Lib.hid ha8
      have hl8 := ha8.lt
      clear hr ha8 hb8 hg8 hal hr8 HOWN HBW hBs
      generalize wr.heap.size = g at *
      go_upto_region 6 with (go_at_call 28; (with_reducible refine (HIX.out _ HB8.out).mono ?_); rintro e w9 ⟨⟨s1, rfl, hs1, hz1⟩, hb9⟩)
      have HSX : RowKit.Hid (∀ W, Below w9.heap.size w9 W → W.cell? ⟨g, 0, none⟩ = some (.string car) ∧ W.cell? ⟨g, 1, none⟩ = some (.int .i64 num) ∧ W.cell? ⟨g, 2, none⟩ = some (.string src) ∧ W.cell? ⟨g, 3, none⟩ = some (.string dst) ∧ W.cell? ⟨g, 4, none⟩ = some (.int .i64 dep) ∧ W.cell? ⟨g, 5, none⟩ = some (.int .i64 arr) ∧ Below w9.heap.size w9 W) := Lib.hid fun W h => ⟨((HA8.out.mono (bel_trans hb9 h)).cell 0).trans rfl, ((HA8.out.mono (bel_trans hb9 h)).cell 1).trans rfl, ((HA8.out.mono (bel_trans hb9 h)).cell 2).trans rfl, ((HA8.out.mono (bel_trans hb9 h)).cell 3).trans rfl, ((HA8.out.mono (bel_trans hb9 h)).cell 4).trans rfl, ((HA8.out.mono (bel_trans hb9 h)).cell 5).trans rfl, h⟩
      have HC7 : RowKit.Hid (∀ W, Below w9.heap.size w9 W → W.cell? ⟨g, 7, none⟩ = some (.slice pl left.length cL)) := Lib.hid fun W h => ((HA8.out.mono (bel_trans hb9 h)).cell 7).trans rfl
      have c6 : w9.cell? ⟨g, 6, none⟩ = some (.bool linked) := ((HA8.out.mono hb9).cell 6).trans rfl
      have HB9 := Lib.hid (bel_trans HB8.out hb9)
      have HO9 := Lib.hid (HO8.out.mono hb9)
      clear hb9 HB8 HO8 HA8
      have HCD : RowKit.Hid (∀ W, Calls Tryz.prog 45 #[.int .i64 dep] W fun e w' => (∃ s : ByteArray, e = .returned (.string s) ∧ toL s = cTx dep ∧ s.size ≤ 4) ∧ Below W.heap.size W w') := Lib.hid (HCL.out dep)
      have HCA : RowKit.Hid (∀ W, Calls Tryz.prog 45 #[.int .i64 arr] W fun e w' => (∃ s : ByteArray, e = .returned (.string s) ∧ toL s = cTx arr ∧ s.size ≤ 4) ∧ Below W.heap.size W w') := Lib.hid (HCL.out arr)
      obtain ⟨HA, BA, hHA, hBA, hAV⟩ : ∃ HA BA, HA = headAv i ⟨car, num, src, dst, dep, arr, linked, left⟩ ∧ BA = 32 :: (flTx car num ++ (32 :: (toL src ++ (32 :: (cTx dep ++ (32 :: (toL dst ++ (32 :: cTx arr)))))))) ∧ avLn i ⟨car, num, src, dst, dep, arr, linked, left⟩ = HA ++ (BA ++ left.flatMap leftLn) := ⟨_, _, rfl, rfl, rfl⟩
      have HTK2 : RowKit.Hid (((l.map (·.1)).take (i + 1)).mapIdx avLn = ((l.map (·.1)).take i).mapIdx avLn ++ [HA ++ (BA ++ left.flatMap leftLn)]) := Lib.hid (by rw [← hAV]; exact HTK.out)
      have HBA := Lib.hid hBA
      clear hBA hAV HTK
      have hsum : ∃ sS : ByteArray, toL sS = HA ∧ sS.size ≤ 21 ∧ sS = (if linked = true then s1 ++ ⟨#[43]⟩ else s1) := ⟨_, by
        rw [hHA]
        unfold headAv
        cases linked
        · simp [hs1]
        · simp [toL_app, hs1, toL_lit], by
        cases linked
        · simp; omega
        · show (s1 ++ (⟨#[43]⟩ : ByteArray)).size ≤ 21
          rw [ByteArray.size_append]
          show s1.size + 1 ≤ 21
          omega, rfl⟩
      obtain ⟨sS, hS1, hS2, hS3⟩ := hsum
      have HHS := Lib.hid hS1
      clear hS1 hs1 hHA
      cases linked
      focus (
        have e : sS = s1 := by rw [hS3]; rfl
        subst e
        clear hS3 hz1
        go_upto_region 8 with fail
        clear c6)
      rotate_left
      focus (
        have e : s1 ++ ⟨#[43]⟩ = sS := by rw [hS3]; rfl
        have HE := Lib.hid e
        clear hS3 e
        go_upto_region 8 with fail
        rw [HE.out]
        clear c6 hz1 HE)
      all_goals (
        have hS0 := HSX.out w9.drew (Below.refl _ _).drew
        have hd2 : src.size ≤ 1000 := HS1.out
        have hd3 : dst.size ≤ 1000 := HS2.out
        go_region_held3 (fun W => W.cell? ⟨g, 0, none⟩ = some (.string car) ∧ W.cell? ⟨g, 1, none⟩ = some (.int .i64 num) ∧ W.cell? ⟨g, 2, none⟩ = some (.string src) ∧ W.cell? ⟨g, 3, none⟩ = some (.string dst) ∧ W.cell? ⟨g, 4, none⟩ = some (.int .i64 dep) ∧ W.cell? ⟨g, 5, none⟩ = some (.int .i64 arr) ∧ Below w9.heap.size w9 W)
          (first
            | exact hS0
            | assumption
            | exact HSX.out _ (bel_trans (show _ ∧ _ ∧ _ ∧ _ ∧ _ ∧ _ ∧ Below w9.heap.size w9 _ by assumption).2.2.2.2.2.2 hbf)
            | exact HSX.out _ (bel_trans (show _ ∧ _ ∧ _ ∧ _ ∧ _ ∧ _ ∧ Below w9.heap.size w9 _ by assumption).2.2.2.2.2.2 hbd)
            | exact HSX.out _ (bel_trans (show _ ∧ _ ∧ _ ∧ _ ∧ _ ∧ _ ∧ Below w9.heap.size w9 _ by assumption).2.2.2.2.2.2 hba))
          (first
            | (go_at_call 29; (with_reducible refine (HFX.out _ (below_w HB9.out (show _ ∧ _ ∧ _ ∧ _ ∧ _ ∧ _ ∧ Below w9.heap.size w9 _ by assumption).2.2.2.2.2.2)).mono ?_); rintro e wf ⟨⟨tf, rfl, htf, hzf⟩, hbf⟩; have q1 := sum_ok (a := 1) (b := tf.size) (by omega); have q2 := sum_ok (a := 1 + tf.size) (b := 1) (by omega); have q3 := sum_ok (a := 1 + tf.size + 1) (b := src.size) (by omega); have q4 := sum_ok (a := 1 + tf.size + 1 + src.size) (b := 1) (by omega))
            | (go_at_call 45; (with_reducible refine (HCD.out _).mono ?_); rintro e wd ⟨⟨td, rfl, htd, hzd⟩, hbd⟩; have q5 := sum_ok (a := 1 + tf.size + 1 + src.size + 1) (b := td.size) (by omega); have q6 := sum_ok (a := 1 + tf.size + 1 + src.size + 1 + td.size) (b := 1) (by omega); have q7 := sum_ok (a := 1 + tf.size + 1 + src.size + 1 + td.size + 1) (b := dst.size) (by omega); have q8 := sum_ok (a := 1 + tf.size + 1 + src.size + 1 + td.size + 1 + dst.size) (b := 1) (by omega))
            | (go_at_call 45; (with_reducible refine (HCA.out _).mono ?_); rintro e wa ⟨⟨ta, rfl, hta, hza⟩, hba⟩; have q9 := sum_ok (a := 1 + tf.size + 1 + src.size + 1 + td.size + 1 + dst.size + 1) (b := ta.size) (by omega); have q10 := sum_ok (a := sS.size) (b := 1 + tf.size + 1 + src.size + 1 + td.size + 1 + dst.size + 1 + ta.size) (by omega)))
        have hy : Below w9.heap.size w9 wa := (show _ ∧ _ ∧ _ ∧ _ ∧ _ ∧ _ ∧ Below w9.heap.size w9 wa by assumption).2.2.2.2.2.2
        have hX : toL (sS ++ ((⟨#[32]⟩ : ByteArray) ++ tf ++ ⟨#[32]⟩ ++ src ++ ⟨#[32]⟩ ++ td ++ ⟨#[32]⟩ ++ dst ++ ⟨#[32]⟩ ++ ta)) = HA ++ BA := by
          rw [toL_app, HHS.out, HBA.out]
          simp [toL_app, toL_lit, htf, htd, hta]
        have hXz : (sS ++ ((⟨#[32]⟩ : ByteArray) ++ tf ++ ⟨#[32]⟩ ++ src ++ ⟨#[32]⟩ ++ td ++ ⟨#[32]⟩ ++ dst ++ ⟨#[32]⟩ ++ ta)).size ≤ 4000 := by
          simp only [ByteArray.size_append]
          show sS.size + (1 + tf.size + 1 + src.size + 1 + td.size + 1 + dst.size + 1 + ta.size) ≤ 4000
          omega
        generalize sS ++ ((⟨#[32]⟩ : ByteArray) ++ tf ++ ⟨#[32]⟩ ++ src ++ ⟨#[32]⟩ ++ td ++ ⟨#[32]⟩ ++ dst ++ ⟨#[32]⟩ ++ ta) = SX at hX hXz ⊢
        have HX := Lib.hid hX
        have HBa := Lib.hid (below_w HB9.out hy)
        have HOa := Lib.hid (HO9.out.mono hy)
        have c7 := HC7.out wa hy
        clear hX hS0 q1 q2 q3 q4 q5 q6 q7 q8 q9 q10 htf htd hta hzf hzd hza hbf hbd hba hd2 hd3 HHS HFX HCD HCA
        go_upto_region 10 with fail
        clear c7
        generalize hNL : left.length = NL at *
        have HNL := Lib.hid hNL
        clear hNL
        go_wp2
        go_loopg [12, 65] NL (fun g1 s12 s65 wx => ∃ (k : Nat) (S : ByteArray), k ≤ NL ∧ g1 = NL - k ∧ s12 = .string S ∧ s65 = .int .i64 (k : Int) ∧ RowKit.Hid (toL S = toL SX ++ (left.take k).flatMap leftLn) ∧ S.size ≤ 4000 + 30 * k ∧ Below wa.heap.size wa wx)
        case atStart => exact ⟨0, SX, Nat.zero_le _, rfl, rfl, rfl, Lib.hid (by simp), hXz, Below.refl _ _⟩
        case round =>
          rename World => wx
          obtain ⟨k, S, hkN, rfl, rfl, rfl, HS, hSz, hbx⟩ := hrel
          have HBX := Lib.hid hbx
          have HLX := HLF.out wx (bel_trans HBa.out hbx)
          have hBx := hbx.size
          clear hbx
          by_cases hlt2 : k < NL
          · have hkk : (k : Int) < (NL : Int) := by omega
            have hk0 : (0 : Int) ≤ (k : Int) := by omega
            have hkN2 : k < left.length := by rw [HNL.out]; exact hlt2
            obtain ⟨b2, o2, e2, hr2, _, _⟩ := left_at HLX hkN2
            subst e2
            have HFK := Lib.hid (take_flat_snoc leftLn lv0 hkN2)
            have HWK := Lib.hid (HWF.out _ (List.mem_of_getElem? (getD_at lv0 hkN2)))
            clear HLX
            generalize left.getD k lv0 = y at *
            obtain ⟨cl, nl⟩ := y
            go_upto_region 12 with (first
              | (refine wpList_load_mid rfl 102 _ rfl b2 (o2 + k * 2) rfl [.int .u8 cl.toNat, .int .i64 nl] _ hr2 Tryz.underlying102 rfl info_sold' ?_)
              | (refine wpList_store_blk rfl 102 (.tmp 14) (.tmp 68) rfl wx.heap.size 102 [.int .u8 0, .int .i64 0] [.int .u8 cl.toNat, .int .i64 nl] rfl rfl (Blk.new wx 102 [.int .u8 0, .int .i64 0]) rfl info_sold' (leftC_one ⟨cl, nl⟩) ?_; intro wy hay hby hgy))
            dsimp only [Act.put]
            have hal2 : Below wx.heap.size wx (wx.alloc (.cells #[.int .u8 0, .int .i64 0] 102)) := (Below.refl _ _).alloc (Nat.le_refl _) _
            have hxy := hal2.trans hby
            have HXY := Lib.hid hxy
            have y0 : wy.cell? ⟨wx.heap.size, 0, none⟩ = some (.int .u8 cl.toNat) := (hay.cell 0).trans rfl
            have y1 : wy.cell? ⟨wx.heap.size, 1, none⟩ = some (.int .i64 nl) := (hay.cell 1).trans rfl
            have HBY := Lib.hid (bel_trans HBX.out hxy)
            have HIY := Lib.hid (HI.out nl HWK.out)
            clear hr2 hal2 hxy hay hby hgy
            obtain ⟨sl, hls, hll, hlc⟩ : ∃ sl : ByteArray, sl.size = 1 ∧ toL sl = [cl] ∧ RowKit.Hid (∀ (W : World) (gg : Nat), W.cell? ⟨gg, 0, none⟩ = some (.int .u8 cl.toNat) → (convert 69 9 (.slice (some ⟨gg, 0, none⟩) 1 1)).run Tryz.prog W = .ok (.string sl) W) := ⟨⟨#[cl]⟩, rfl, rfl, Lib.hid fun W gg h0 => one_at W gg cl h0⟩
            have HLL := Lib.hid hll
            have HLS := Lib.hid hls
            have p0 := sum_ok (a := 1) (b := sl.size) (by omega)
            have HNC : RowKit.Hid (∀ W : World, (W.alloc (.cells #[.int .u8 cl.toNat] 5)).cell? ⟨W.heap.size, 0, none⟩ = some (.int .u8 cl.toNat)) := Lib.hid fun W => ((Blk.new W 5 [.int .u8 cl.toNat]).cell 0).trans rfl
            have cva : (convert 69 9 (.slice (some ⟨wy.heap.size, 0, none⟩) 1 1)).run Tryz.prog (wy.alloc (.cells #[.int .u8 cl.toNat] 5)).drew = .ok (.string sl) (wy.alloc (.cells #[.int .u8 cl.toNat] 5)).drew := hlc.out _ _ (HNC.out wy)
            have y1a : (wy.alloc (.cells #[.int .u8 cl.toNat] 5)).cell? ⟨wx.heap.size, 1, none⟩ = some (.int .i64 nl) := cell_bel ((Below.refl _ _).alloc (Nat.le_refl _) _) y1
            have e1 : Below wy.heap.size wy wy.drew := (Below.refl _ _).drew
            have e2 : Below wy.heap.size wy (wy.alloc (.cells #[.int .u8 cl.toNat] 5)).drew := ((Below.refl _ _).alloc (Nat.le_refl _) _).drew
            clear hll hls
            go_region_law (first
              | (go_simp; go_at_call 28; refine (HIY.out _ (below_w HBa.out (bel_trans HBY.out (by first | exact e1 | exact e2)))).mono ?_; rintro e wz ⟨⟨tn, rfl, htn, hzn⟩, hbz⟩; have hyz := bel_trans (show Below wy.heap.size wy _ by first | exact e1 | exact e2) hbz; have p1 := sum_ok (a := 1 + sl.size) (b := tn.size) (by have := HLS.out; omega); have p2 := sum_ok (a := S.size) (b := 1 + sl.size + tn.size) (by have := HLS.out; omega); have cvb : (convert 69 9 (.slice (some ⟨wz.heap.size, 0, none⟩) 1 1)).run Tryz.prog (wz.alloc (.cells #[.int .u8 cl.toNat] 5)) = .ok (.string sl) (wz.alloc (.cells #[.int .u8 cl.toNat] 5)) := hlc.out _ _ (HNC.out wz); (have z0 := cell_bel hyz y0); (try have cvc : (convert 69 9 (.slice (some ⟨wy.heap.size, 0, none⟩) 1 1)).run Tryz.prog wz = .ok (.string sl) wz := hlc.out _ _ (cell_bel hbz (HNC.out wy)))))
            all_goals (
              have hS4 : toL (S ++ ((⟨#[32]⟩ : ByteArray) ++ sl ++ tn)) = toL SX ++ (left.take (k + 1)).flatMap leftLn := by
                rw [HFK.out, ← List.append_assoc, ← HS.out, toL_app, toL_app, toL_app, HLL.out, htn]
                rfl
              have hz4 : (S ++ ((⟨#[32]⟩ : ByteArray) ++ sl ++ tn)).size ≤ 4000 + 30 * (k + 1) := by
                rw [ByteArray.size_append, ByteArray.size_append, ByteArray.size_append, HLS.out]
                show S.size + (1 + 1 + tn.size) ≤ _
                omega
              have HS4 := Lib.hid hS4
              have hbz4 := bel_trans HBX.out (bel_trans HXY.out hyz)
              have HBZ := Lib.hid hbz4
              have HBZ2 := Lib.hid (bel_trans hbz4 ((Below.refl _ _).alloc (Nat.le_refl _) (.cells #[.int .u8 cl.toNat] 5)))
              clear hS4 hbz4
              go_wp2
              go_roundg (NL - (k + 1))
              case measure => omega
              case rel => exact ⟨k + 1, _, by omega, rfl, rfl, by go_num, HS4, hz4, by first | exact HBZ.out | exact HBZ2.out⟩)
          · have hke : k = NL := by omega
            subst hke
            have hkk : ¬ (k : Int) < (k : Int) := by omega
            have hOx := HOa.out.mono HBX.out
            have HBW2 := Lib.hid (bel_trans HBa.out HBX.out)
            have hBs2 := HBW2.out.size
            have HSF : RowKit.Hid (toL S = HA ++ (BA ++ left.flatMap leftLn)) := Lib.hid (by rw [HS.out, HX.out, ← HNL.out, List.take_length, List.append_assoc])
            clear HS HX HLX
            go_wp2_with (at_builtin; refine push_txt rfl _ _ rfl w.heap.size _ L rfl hOx _ rfl (by omega) hBs2 ?_; intro q4 n4 c4 w4 ho4 hb4)
            go_roundg (M - (i + 1))
            case measure => omega
            case rel => exact ⟨i + 1, q4, n4, c4, _, by omega, rfl, rfl, by go_num, ho4, by rw [List.length_append, List.length_singleton]; omega, by rw [List.map_append, HLM.out, HTK2.out, List.map_singleton, HSF.out]; rfl, HBW2.out.trans hb4⟩)
    · have hie : i = M := by omega
      subst hie
      have hii : ¬ (i : Int) < (i : Int) := by omega
      by_cases h0 : i = 0
      · subst h0
        have hl0 : l = [] := List.length_eq_zero_iff.1 HM.out
        have HL0 := Lib.hid hl0
        clear hl0
        go_wp2_with (at_builtin; refine push_txt rfl _ _ rfl w.heap.size _ L rfl HOWN.out _ rfl (by omega) hBs ?_; intro q4 n4 c4 w4 ho4 hb4)
        go_ret
        exact ⟨⟨_, _, rfl, ho4, by rw [List.map_append, HLM.out, HL0.out]; rfl⟩, HBW.out.trans hb4⟩
      · have hnn : (i == 0) = false := by rw [beq_eq_false_iff_ne]; exact h0
        have hne : ((i : Int) == 0) = false := by rw [beq_eq_false_iff_ne]; omega
        have HL0 : RowKit.Hid (l.map (·.1) ≠ []) := Lib.hid fun e => h0 (by rw [← HM.out]; simpa using e)
        clear h0
        go_wp2
        go_ret
        exact ⟨⟨_, _, rfl, HOWN.out, by rw [HLM.out, ← HM.out, show l.length = (l.map (·.1)).length by simp, List.take_length]; unfold availL; rw [if_neg HL0.out]⟩, HBW.out⟩
end Go.Proofs.YtmhhbnnjilbdnaaGreatDoor.Sh
