/- check.segments. -/
import Derived.Test.YtofomopmmopflaaGreatDoorMA
import Derived.Test.YtofomopmmopflaaGreatDoorMB
import Derived.Test.YtofomopmmopflaaGreatDoorMC
import Derived.Test.YtofomopmmopflaaGreatDoorME
import Derived.Test.YtofomopmmopflaaGreatDoorFI
import Derived.Test.YtofomopmmopflaaGreatDoorFN
import Derived.Test.YtofomopmmopflaaGreatDoorFQ
import Derived.Test.YtofomopmmopflaaGreatDoorGA
import Derived.Test.YtofomopmmopflaaGreatDoorGB
import Derived.Test.YtofomopmmopflaaGreatDoorGE
import Derived.Test.YtofomopmmopflaaGreatDoorGF
import Derived.Test.YtofomopmmopflaaGreatDoorGG
import Derived.Test.YtofomopmmopflaaGreatDoorGH
import Derived.Test.YtofomopmmopflaaGreatDoorGK
import Derived.Test.YtofomopmmopflaaGreatDoorRows
import Derived.WalkKit
import Derived.WalkSpells
import Derived.WalkLawsBesides
import Derived.Lib.ConvBytes
import Derived.Lib.Hide
import Derived.Lib.SliceRun
import Derived.IntWalk
import Derived.BigQuiet
import Derived.Deep.QuietTactic
import Derived.Deep.RegionWith
import Derived.Deep.RegionHeld3
import Derived.Deep.LoopGhost
import Derived.Deep.CutRange
import Derived.Deep.CutBlock
import Derived.Deep.MidRow
import Derived.Laws.OwnMore
import Derived.OwnWalk
import Derived.Laws.AppendOwnNone
import Derived.Laws.Rows
import Derived.Laws.MakeOwn
import Derived.Laws.CopyOwn
import Derived.Laws.BitsAllLaws
import Derived.DeepKeys5
import Derived.Maps.OwnOps
import Derived.Handy
import Derived.Lib.AppendStr
import Derived.StillTailTactics
import Derived.Deep.AppendLies
import Derived.WideKeyEntry
namespace Go.Proofs.YtofomopmmopflaaGreatDoor
open Go.RowKit Go.ChangeMaps
set_option linter.unusedSimpArgs false
set_option linter.unusedVariables false
set_option maxRecDepth 20000

/-- Segments that are sound. -/
def segsOk (l : List SegT) : Prop := l.length ≤ 8 ∧ (∀ x ∈ l, segOk x) ∧ ((l.filter (·.live)).map legK).Nodup
open Classical in
noncomputable def segsS (l : List SegT) : Bool := decide (segsOk l)
theorem segsS_yes {l : List SegT} (h : segsOk l) : segsS l = true := by unfold segsS; simp [h]
theorem segsS_no {l : List SegT} (h : ¬ segsOk l) : segsS l = false := by unfold segsS; simp [h]

/-- The legs of the live ones. -/
def liveK (l : List SegT) : List (ByteArray × Int × Int) := (l.filter (·.live)).map legK

theorem liveK_snoc {l : List SegT} {i : Nat} {x : SegT} (h : l[i]? = some x) : liveK (l.take (i + 1)) = if x.live then liveK (l.take i) ++ [legK x] else liveK (l.take i) := by
  unfold liveK
  rw [List.take_add_one, h]
  cases hx : x.live <;> simp [hx]

theorem leg_range {w : World} {b : Nat} {T : TypeId} {cs : List Value} (h : Blk w b T cs) (a c d : Value) (h0 : cs[0]? = some a) (h1 : cs[1]? = some c) (h2 : cs[2]? = some d) : w.rangeAt b 0 [a, c, d] := rangeAt_part h 0 _ fun j u hj => by
  match j, hj with
  | 0, hj => rw [show (0 : Nat) + 0 = 0 from rfl, h0]; exact hj
  | 1, hj => rw [show (0 : Nat) + 1 = 1 from rfl, h1]; exact hj
  | 2, hj => rw [show (0 : Nat) + 2 = 2 from rfl, h2]; exact hj

theorem leg_ok {x : SegT} (h : segOk x) (hs : x.car.size ≤ maxLen) : legOkK (legK x) := ⟨hs, wfI_of (by have := h.2.1; simp only [legK]; omega) (by have := h.2.1; simp only [legK]; omega), wfI_of (by have := h.2.2.1; simp only [legK]; omega) (by have := h.2.2.1; simp only [legK]; omega)⟩

theorem liveK_sub {l : List SegT} {i : Nat} (h : ((l.filter (·.live)).map legK).Nodup) : (liveK (l.take i)).Nodup := by
  unfold liveK
  refine List.Sublist.nodup ?_ h
  exact (List.Sublist.filter _ (List.take_sublist _ _)).map _

set_option maxHeartbeats 16000000 in
theorem segments_any (l : List SegT) (v : Value) (w : World) (hv : HasE segC w v l) (hs : ∀ x ∈ l, x.car.size ≤ maxLen) :
    Calls Tryz.prog 50 #[v] w fun e w' => e = .returned (.bool (segsS l)) ∧ Below w.heap.size w w' := by
  obtain ⟨p, c, rfl⟩ := hv.len
  by_cases hlong : 8 < l.length
  · have hi : (8 : Int) < (l.length : Int) := by omega
    have HF := Lib.hid (segsS_no (l := l) fun h => by have := h.1; omega)
    clear hv hlong hs
    go_enter Tryz.func50, Tryz.ntmps50
    go_wp2
    go_ret
    exact ⟨ret_bool HF.out.symm, Below.refl _ _⟩
  have hi : ¬ (8 : Int) < (l.length : Int) := by omega
  have HV := Lib.hid hv
  have HS := Lib.hid hs
  have HYES : RowKit.Hid ((∀ x ∈ l, segOk x) → (liveK l).Nodup → segsS l = true) := Lib.hid fun h1 h2 => segsS_yes ⟨by omega, h1, h2⟩
  have HNO : RowKit.Hid (¬ segsOk l → segsS l = false) := Lib.hid segsS_no
  generalize segsS l = sb at *
  have hn8 : l.length ≤ 8 := by omega
  generalize hN : l.length = N at *
  have HN := Lib.hid hN
  have hmk : ∀ W, (Instr.makeMap 124 none).run Tryz.prog W = .ok (.map (some W.heap.size)) (W.alloc (.map #[] 0)) := fun W => run_makeMap _ W
  clear hv hs hlong hN
  go_enter Tryz.func50, Tryz.ntmps50
  go_wp2
  have hm0 : MapS legV legOkK (w.alloc (.map #[] 0)) w.heap.size [] := MapS.made w
  have hb0 : Below w.heap.size w (w.alloc (.map #[] 0)) := (Below.refl _ _).alloc (Nat.le_refl _) _
  go_loopg [13] N (fun g0 s13 wr => ∃ i : Nat, i ≤ N ∧ g0 = N - i ∧ s13 = .int .i64 (i : Int) ∧ (∀ x ∈ l.take i, segOk x) ∧ MapS legV legOkK wr w.heap.size (liveK (l.take i)) ∧ Below w.heap.size w wr)
  case atStart => exact ⟨0, Nat.zero_le _, rfl, rfl, (fun x h => by cases h), hm0, hb0⟩
  case round =>
    obtain ⟨i, hiN, rfl, rfl, hall, hmap, hbw⟩ := hrel
    clear hm0 hb0 hmk
    have HALL := Lib.hid hall
    have HMAP := Lib.hid hmap
    have HBW := Lib.hid hbw
    clear hall hmap hbw
    by_cases hlt : i < N
    · have hii : (i : Int) < (N : Int) := by omega
      have hi0 : (0 : Int) ≤ (i : Int) := by omega
      have hiN2 : i < l.length := by rw [HN.out]; exact hlt
      obtain ⟨bb, of2, rfl, hr, _, _, _, _, _⟩ := seg_at (HV.out.mono HBW.out) hiN2
      have HXI := Lib.hid (getD_at sg0 hiN2)
      have hmem := List.mem_of_getElem? HXI.out
      have z1 := HS.out _ hmem
      have HTK : RowKit.Hid (l.take (i + 1) = l.take i ++ [l.getD i sg0]) := Lib.hid (by rw [List.take_add_one, HXI.out]; rfl)
      have HNB : RowKit.Hid (¬ segOk (l.getD i sg0) → sb = false) := Lib.hid fun h => HNO.out fun k => h (k.2.1 _ hmem)
      have HLK := Lib.hid (liveK_snoc HXI.out)
      have HND : RowKit.Hid ((l.getD i sg0).live = true → legK (l.getD i sg0) ∈ liveK (l.take i) → sb = false) := Lib.hid fun h1 h2 => HNO.out fun k => by
        have h3 := liveK_sub (i := i + 1) k.2.2
        rw [HLK.out, if_pos h1] at h3
        exact (List.nodup_append.1 h3).2.2 _ h2 _ (List.mem_singleton.2 rfl) rfl
      have HOK : RowKit.Hid (segOk (l.getD i sg0) → legOkK (legK (l.getD i sg0))) := Lib.hid fun h => leg_ok h z1
      have HAN : RowKit.Hid (segOk (l.getD i sg0) → ∀ x ∈ l.take (i + 1), segOk x) := Lib.hid fun h t ht => by
        rw [HTK.out] at ht
        rcases List.mem_append.1 ht with h1 | h1
        · exact HALL.out t h1
        · rw [List.mem_singleton.1 h1]; exact h
      clear hmem HTK HNO HALL
      generalize l.getD i sg0 = x at *
      obtain ⟨car, num, day, cls, live⟩ := x
      simp only at z1 HND HLK
      have HYS : RowKit.Hid (segOk ⟨car, num, day, cls, live⟩ → segS ⟨car, num, day, cls, live⟩ = true) := Lib.hid segS_yes
      have HNS : RowKit.Hid (¬ segOk ⟨car, num, day, cls, live⟩ → segS ⟨car, num, day, cls, live⟩ = false) := Lib.hid segS_no
      have HSY : RowKit.Hid (segS ⟨car, num, day, cls, live⟩ = true → segOk ⟨car, num, day, cls, live⟩) := Lib.hid fun h => by
        by_cases k : segOk ⟨car, num, day, cls, live⟩
        · exact k
        · rw [segS_no k] at h; cases h
      have HSN : RowKit.Hid (segS ⟨car, num, day, cls, live⟩ = false → ¬ segOk ⟨car, num, day, cls, live⟩) := Lib.hid fun h k => by rw [segS_yes k] at h; cases h
      generalize segS ⟨car, num, day, cls, live⟩ = sx at *
      unfold segOk at HYS HNS
      simp only at HYS HNS
      unfold segC at hr
      go_upto_region 7 with (first
        | (refine wpList_load_mid rfl 65 _ rfl bb (of2 + i * 5) rfl [.string car, .int .i64 num, .int .i64 day, .int .u8 cls.toNat, .bool live] _ hr Tryz.underlying65 rfl info_seg ?_)
        | (refine wpList_store_blk rfl 65 (.tmp 5) (.tmp 16) rfl wr.heap.size 65 (segC sg0) [.string car, .int .i64 num, .int .i64 day, .int .u8 cls.toNat, .bool live] rfl rfl (Blk.new wr 65 (segC sg0)) rfl info_seg (segC_one ⟨car, num, day, cls, live⟩) ?_; intro w8 ha8 hb8 hgr8))
      dsimp only [Act.put]
      have h18 : Below wr.heap.size wr w8 := ((Below.refl _ _).alloc (Nat.le_refl _) _).trans hb8
      have hkr := leg_range ha8 (.string car) (.int .i64 num) (.int .i64 day) rfl rfl rfl
      have hk2 : w8.rangeAt wr.heap.size 0 [.string car, .int .i64 num] := rangeAt_part ha8 0 _ fun j u hj => by
        match j, hj with
        | 0, hj => exact hj
        | 1, hj => exact hj
      go_upto_region 8 with (first
        | (refine wpList_load_mid rfl 61 _ rfl wr.heap.size 0 rfl [.string car, .int .i64 num] _ hk2 Tryz.underlying61 rfl info_key ?_)
        | (refine wpList_store_blk rfl 61 (.tmp 6) (.tmp 19) rfl w8.heap.size 61 [.string ⟨#[]⟩, .int .i64 0] [.string car, .int .i64 num] rfl rfl (Blk.new w8 61 [.string ⟨#[]⟩, .int .i64 0]) rfl info_key (by intro v hv; simp at hv; rcases hv with rfl | rfl <;> rfl) ?_; intro w9 ha9 hb9 hgr9))
      dsimp only [Act.put]
      have h19 : Below w8.heap.size w8 w9 := ((Below.refl _ _).alloc (Nat.le_refl _) _).trans hb9
      have hx8 := Lib.hid (ha8.mono h19)
      have HX9 : RowKit.Hid (Below wr.heap.size wr w9) := Lib.hid (h18.trans (h19.mono h18.size))
      have HMP9 : RowKit.Hid (MapS legV legOkK w9 w.heap.size (liveK (l.take i))) := Lib.hid (HMAP.out.mono HX9.out)
      have HLTm : RowKit.Hid (w.heap.size ≠ wr.heap.size) := Lib.hid (by have := HMAP.out.lt; omega)
      have HA9 := Lib.hid ha9
      have H89 : RowKit.Hid (wr.heap.size < w9.heap.size) := Lib.hid (by have := h19.size; have := ha8.lt; omega)
      clear hr ha8 hb8 hgr8 h18 hkr hk2 ha9 hb9 hgr9 h19
      have k0 : w9.cell? ⟨w8.heap.size, 0, none⟩ = some (.string car) := (HA9.out.cell 0).trans rfl
      have HCA : RowKit.Hid (∀ W, Calls Tryz.prog 79 #[.string car] W fun e w' => e = .returned (.bool (carrierS (toL car))) ∧ Below W.heap.size W w') := Lib.hid fun W => carrier_any car W z1
      have HWD : RowKit.Hid (∀ W, Calls Tryz.prog 80 #[.int .i64 day] W fun e w' => (∃ z : Int, e = .returned (.int .i64 z) ∧ (z == 0) = !decide (0 ≤ day ∧ day < 366)) ∧ W = w') := Lib.hid fun W => weekday_any day W
      have HCL : RowKit.Hid (∀ W, Calls Tryz.prog 81 #[.int .u8 cls.toNat] W fun e w' => e = .returned (.bool (bL cls)) ∧ W = w') := Lib.hid fun W => class_any _ W (by omega) (byte_hi cls)
      have HCELL : RowKit.Hid (∀ W, Below w9.heap.size w9 W → W.cell? ⟨w8.heap.size, 1, none⟩ = some (.int .i64 num) ∧ W.cell? ⟨wr.heap.size, 0, none⟩ = some (.string car) ∧ W.cell? ⟨wr.heap.size, 1, none⟩ = some (.int .i64 num) ∧ W.cell? ⟨wr.heap.size, 2, none⟩ = some (.int .i64 day) ∧ W.cell? ⟨wr.heap.size, 3, none⟩ = some (.int .u8 cls.toNat) ∧ W.cell? ⟨wr.heap.size, 4, none⟩ = some (.bool live)) := Lib.hid fun W hb => ⟨((HA9.out.mono hb).cell 1).trans rfl, ((hx8.out.mono hb).cell 0).trans rfl, ((hx8.out.mono hb).cell 1).trans rfl, ((hx8.out.mono hb).cell 2).trans rfl, ((hx8.out.mono hb).cell 3).trans rfl, ((hx8.out.mono hb).cell 4).trans rfl⟩
      go_cut [46] from 20 to 46 (fun s46 wx => s46 = .bool (!sx) ∧ Below w9.heap.size w9 wx)
      case first =>
        clear HLK HND HOK HAN HNB HMP9 HMAP
        cases hc : carrierS (toL car) with
        | false =>
          have HF := Lib.hid (HNS.out fun h => by rw [h.1] at hc; cases hc)
          rw [hc] at HCA
          clear hc
          have hsx := HF.out
          subst hsx
          go_wp2_with (first
            | (go_at_call 79; (with_reducible refine (HCA.out _).mono ?_); rintro e w10 ⟨rfl, hb10⟩; obtain ⟨c1, d0, d1, d2, d3, d4⟩ := HCELL.out w10 hb10))
          go_meet
          exact ⟨rfl, hb10⟩
        | true =>
          rw [hc] at HCA
          have HC := Lib.hid hc
          clear hc
          by_cases h1 : num < 1
          · have HF := Lib.hid (HNS.out fun h => by have := h.2.1.1; omega)
            have hsx := HF.out
            subst hsx
            go_wp2_with (first
              | (go_at_call 79; (with_reducible refine (HCA.out _).mono ?_); rintro e w10 ⟨rfl, hb10⟩; obtain ⟨c1, d0, d1, d2, d3, d4⟩ := HCELL.out w10 hb10))
            go_meet
            exact ⟨rfl, hb10⟩
          by_cases h2 : 9999 < num
          · have HF := Lib.hid (HNS.out fun h => by have := h.2.1.2; omega)
            have hsx := HF.out
            subst hsx
            go_wp2_with (first
              | (go_at_call 79; (with_reducible refine (HCA.out _).mono ?_); rintro e w10 ⟨rfl, hb10⟩; obtain ⟨c1, d0, d1, d2, d3, d4⟩ := HCELL.out w10 hb10))
            go_meet
            exact ⟨rfl, hb10⟩
          by_cases h3 : 0 ≤ day ∧ day < 366
          rotate_left
          · have HF := Lib.hid (HNS.out fun h => h3 h.2.2.1)
            have hd : decide (0 ≤ day ∧ day < 366) = false := decide_eq_false h3
            rw [hd] at HWD
            have hsx := HF.out
            subst hsx
            clear hd h3
            go_wp2_with (first
              | (go_at_call 79; (with_reducible refine (HCA.out _).mono ?_); rintro e w10 ⟨rfl, hb10⟩; obtain ⟨c1, d0, d1, d2, d3, d4⟩ := HCELL.out w10 hb10)
              | (go_at_call 80; (with_reducible refine (HWD.out _).mono ?_); rintro e w11 ⟨⟨z, rfl, hz⟩, rfl⟩; replace hz : (z == 0) = true := hz))
            go_meet
            exact ⟨rfl, hb10⟩
          have hd : decide (0 ≤ day ∧ day < 366) = true := decide_eq_true h3
          rw [hd] at HWD
          have H3 := Lib.hid h3
          clear hd h3
          cases hl : bL cls with
          | false =>
            have HF := Lib.hid (HNS.out fun h => by rw [h.2.2.2] at hl; cases hl)
            rw [hl] at HCL
            clear hl
            have hsx := HF.out
            subst hsx
            go_wp2_with (first
              | (go_at_call 79; (with_reducible refine (HCA.out _).mono ?_); rintro e w10 ⟨rfl, hb10⟩; obtain ⟨c1, d0, d1, d2, d3, d4⟩ := HCELL.out w10 hb10)
              | (go_at_call 80; (with_reducible refine (HWD.out _).mono ?_); rintro e w11 ⟨⟨z, rfl, hz⟩, rfl⟩; replace hz : (z == 0) = false := hz)
              | (go_at_call 81; (with_reducible refine (HCL.out _).mono ?_); rintro e w12 ⟨rfl, rfl⟩))
            go_meet
            exact ⟨rfl, hb10⟩
          | true =>
            have HT := Lib.hid (HYS.out ⟨HC.out, ⟨by omega, by omega⟩, H3.out, hl⟩)
            rw [hl] at HCL
            clear hl
            have hsx := HT.out
            subst hsx
            go_wp2_with (first
              | (go_at_call 79; (with_reducible refine (HCA.out _).mono ?_); rintro e w10 ⟨rfl, hb10⟩; obtain ⟨c1, d0, d1, d2, d3, d4⟩ := HCELL.out w10 hb10)
              | (go_at_call 80; (with_reducible refine (HWD.out _).mono ?_); rintro e w11 ⟨⟨z, rfl, hz⟩, rfl⟩; replace hz : (z == 0) = false := hz)
              | (go_at_call 81; (with_reducible refine (HCL.out _).mono ?_); rintro e w12 ⟨rfl, rfl⟩))
            go_meet
            exact ⟨by simp [h1, h2], hb10⟩
      case rest =>
        obtain ⟨rfl, hbx⟩ := hcut
        rename World => wx
        have HBX := Lib.hid (HX9.out.trans (hbx.mono HX9.out.size))
        obtain ⟨_, d0, d1, d2, d3, d4⟩ := HCELL.out wx hbx
        have HMX := Lib.hid (HMP9.out.mono hbx)
        have HXX := Lib.hid (hx8.out.mono hbx)
        clear k0 HCA HWD HCL HCELL HA9 hbx HYS HNS d3
        cases sx with
        | false =>
          have HF := Lib.hid (HNB.out (HSN.out rfl))
          go_wp2
          go_ret
          exact ⟨ret_bool HF.out.symm, below_w HBW.out HBX.out⟩
        | true =>
          have HSO := Lib.hid (HSY.out rfl)
          have HKO : RowKit.Hid (legOkK (car, num, day)) := Lib.hid (HOK.out HSO.out)
          have HAL := Lib.hid (HAN.out HSO.out)
          have HLE : RowKit.Hid (legV (car, num, day) = .agg #[.string car, .int .i64 num, .int .i64 day]) := Lib.hid rfl
          have HBWW := Lib.hid (below_w HBW.out HBX.out)
          clear HNB HSN HSY HOK HAN HMAP HMP9 H89 hx8
          have HMT : Tryz.prog.underlying 124 = some (.map 63 3) := Tryz.underlying124
          cases live with
          | false =>
            have HLK2 := Lib.hid (HLK.out.trans (if_neg (by decide)))
            have hL : ∃ n : Int, n ≤ 1 ∧ (Instr.lookup 124 (.map (some w.heap.size)) (.agg #[.string car, .int .i64 num, .int .i64 day]) false).run Tryz.prog wx = .ok (.int .i64 n) wx := by
              have h := HMX.out.look leg_keyK HMT _ HKO.out
              refine ⟨_, ?_, h⟩
              split <;> decide
            obtain ⟨n, hn1, hL⟩ := hL
            clear HLK HND HKO HMT HLE
            go_wp2
            go_roundg (N - (i + 1))
            case measure => omega
            case rel => exact ⟨i + 1, by omega, rfl, by go_num, HAL.out, by rw [HLK2.out]; exact HMX.out, HBWW.out⟩
          | true =>
            have HLK2 := Lib.hid (HLK.out.trans (if_pos (by first | rfl | trivial)))
            have HKR : RowKit.Hid (wx.drew.rangeAt wr.heap.size 0 [.string car, .int .i64 num, .int .i64 day]) := Lib.hid (leg_range (Blk.mono HXX.out (Below.refl _ _).drew) _ _ _ rfl rfl rfl)
            have HMD : RowKit.Hid (MapS legV legOkK wx.drew w.heap.size (liveK (l.take i))) := Lib.hid (HMX.out.mono (Below.refl _ _).drew)
            have hwr1 : IntKind.i64.wrap 1 = 1 := by decide
            have hwr2 : IntKind.i64.wrap 2 = 2 := by decide
            by_cases hin : (car, num, day) ∈ liveK (l.take i)
            · have HF := Lib.hid (HND.out (by first | rfl | trivial) hin)
              obtain ⟨v0, st, w2, w3, e1, e2, e3, e4, g2, g3, z3⟩ := HMD.out.bump_old leg_keyK HMT _ hin
              have q1 : (Instr.mapEntry 124 (.map (some w.heap.size)) (.agg #[.string car, .int .i64 num, .int .i64 day])).run Tryz.prog wx.drew = .ok (.tuple #[v0, goInt st]) w2 := e1
              have q2 : (Instr.lookup 124 (.map (some w.heap.size)) (.agg #[.string car, .int .i64 num, .int .i64 day]) false).run Tryz.prog w2 = .ok (.int .i64 1) w2 := e2
              have q3 : (Instr.entryStore 124 (.map (some w.heap.size)) (goInt st) (.int .i64 2)).run Tryz.prog w2 = .ok () w3 := e3
              have q4 : (Instr.lookup 124 (.map (some w.heap.size)) (.agg #[.string car, .int .i64 num, .int .i64 day]) false).run Tryz.prog w3 = .ok (.int .i64 2) w3 := e4 w3 rfl
              have q0 : (Instr.lookup 124 (.map (some w.heap.size)) (.agg #[.string car, .int .i64 num, .int .i64 day]) false).run Tryz.prog wx.drew = .ok (.int .i64 1) wx.drew := by
                have h := HMD.out.look leg_keyK HMT _ HKO.out
                rw [if_pos hin] at h
                exact h
              have HX3 := Lib.hid (HXX.out.mono (Below.refl _ _).drew |>.far g3 (fun e => HLTm.out (by injection e with e; exact e.symm)))
              have x0 : w3.cell? ⟨wr.heap.size, 0, none⟩ = some (.string car) := (HX3.out.cell 0).trans rfl
              have x1 : w3.cell? ⟨wr.heap.size, 1, none⟩ = some (.int .i64 num) := (HX3.out.cell 1).trans rfl
              have x2 : w3.cell? ⟨wr.heap.size, 2, none⟩ = some (.int .i64 day) := (HX3.out.cell 2).trans rfl
              have HB3 : RowKit.Hid (Below w.heap.size w w3) := Lib.hid (Below.grown (HBWW.out.drew) g3 (HBWW.out.drew).size fun k hk => by injection hk with hk; omega)
              generalize goInt st = gs at *
              clear e1 e2 e3 e4 g2 g3 z3 hin HLK HND HKO HMT HLE HXX HMX
              go_upto_region 11 with fail
              go_region
              all_goals
                go_wp2
                go_ret
                exact ⟨ret_bool HF.out.symm, HB3.out⟩
            · obtain ⟨v0, st, w2, w3, e1, e2, e3, e4, g2, g3, z3⟩ := HMD.out.bump_new leg_keyK HMT _ HKO.out hin
              have q1 : (Instr.mapEntry 124 (.map (some w.heap.size)) (.agg #[.string car, .int .i64 num, .int .i64 day])).run Tryz.prog wx.drew = .ok (.tuple #[v0, goInt st]) w2 := e1
              have q2 : (Instr.lookup 124 (.map (some w.heap.size)) (.agg #[.string car, .int .i64 num, .int .i64 day]) false).run Tryz.prog w2 = .ok (.int .i64 0) w2 := e2
              have q3 : (Instr.entryStore 124 (.map (some w.heap.size)) (goInt st) (.int .i64 1)).run Tryz.prog w2 = .ok () w3 := e3
              have q4 : (Instr.lookup 124 (.map (some w.heap.size)) (.agg #[.string car, .int .i64 num, .int .i64 day]) false).run Tryz.prog w3 = .ok (.int .i64 1) w3 := by
                have h := e4.look leg_keyK HMT _ HKO.out
                rw [if_pos (List.mem_append_right _ (List.mem_singleton.2 rfl))] at h
                exact h
              have q0 : (Instr.lookup 124 (.map (some w.heap.size)) (.agg #[.string car, .int .i64 num, .int .i64 day]) false).run Tryz.prog wx.drew = .ok (.int .i64 0) wx.drew := by
                have h := HMD.out.look leg_keyK HMT _ HKO.out
                rw [if_neg hin] at h
                exact h
              have HX3 := Lib.hid (HXX.out.mono (Below.refl _ _).drew |>.far g3 (fun e => HLTm.out (by injection e with e; exact e.symm)))
              have x0 : w3.cell? ⟨wr.heap.size, 0, none⟩ = some (.string car) := (HX3.out.cell 0).trans rfl
              have x1 : w3.cell? ⟨wr.heap.size, 1, none⟩ = some (.int .i64 num) := (HX3.out.cell 1).trans rfl
              have x2 : w3.cell? ⟨wr.heap.size, 2, none⟩ = some (.int .i64 day) := (HX3.out.cell 2).trans rfl
              have HB3 : RowKit.Hid (Below w.heap.size w w3) := Lib.hid (Below.grown (HBWW.out.drew) g3 (HBWW.out.drew).size fun k hk => by injection hk with hk; omega)
              have HM3 := Lib.hid e4
              generalize goInt st = gs at *
              clear e1 e2 e3 e4 g2 g3 z3 hin HLK HND HKO HMT HLE HXX HMX
              go_upto_region 11 with fail
              go_region
              all_goals
                go_wp2
                go_roundg (N - (i + 1))
                case measure => omega
                case rel => exact ⟨i + 1, by omega, rfl, by go_num, HAL.out, by rw [HLK2.out]; exact HM3.out, HB3.out⟩
    · have hie : i = N := by omega
      subst hie
      have hii : ¬ (i : Int) < (i : Int) := by omega
      have htk : l.take i = l := List.take_of_length_le (by rw [HN.out]; exact Nat.le_refl _)
      have HT := Lib.hid (HYES.out (by have := HALL.out; rwa [htk] at this) (by have := HMAP.out.2.1; rwa [htk] at this))
      clear htk
      go_wp2
      go_ret
      exact ⟨ret_bool HT.out.symm, HBW.out⟩
end Go.Proofs.YtofomopmmopflaaGreatDoor
