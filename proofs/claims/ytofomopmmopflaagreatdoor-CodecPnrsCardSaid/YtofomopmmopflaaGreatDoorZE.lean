/- The reference's body of a PNR. Printed by tools/gen_zd.py. -/
import Derived.Test.YtofomopmmopflaaGreatDoorZD
namespace Go.Proofs.YtofomopmmopflaaGreatDoor
open Go.RowKit Go.ChangeMaps
set_option linter.unusedSimpArgs false
set_option linter.unusedVariables false
set_option maxRecDepth 20000

def NmIn (b : List UInt8) (w : World) (g gp : Nat) (s loc off : ByteArray) (wx : World) : Prop :=
  ∃ (nm : List NameT) (kk : Nat) (bad : Bool) (p3 : Option Addr) (n3 c3 : Nat), BD w wx g gp s kk bad [.string loc, .string off, .slice p3 n3 c3, .slice none 0 0, .slice none 0 0, .int .i64 0, .int .i64 0, .int .i64 0, .string ⟨#[]⟩, .slice none 0 0, .slice none 0 0, .bool false] ∧ wx.ownsRow (gp + 1) 59 2 (.slice p3 n3 c3) nm.length (nm.flatMap nameC) ∧ nm.length ≤ 9 ∧ (∀ x ∈ nm, x.last.size ≤ 40 ∧ x.first.size ≤ 40) ∧ Stg (pPnr b) bad (pP4 loc off nm ((toL s).drop kk))
def SgIn (b : List UInt8) (w : World) (g gp : Nat) (s loc off : ByteArray) (nm : List NameT) (vn : Value) (wx : World) : Prop :=
  ∃ (sg : List SegT) (kk : Nat) (bad : Bool) (p3 : Option Addr) (n3 c3 : Nat), BD w wx g gp s kk bad [.string loc, .string off, vn, .slice p3 n3 c3, .slice none 0 0, .int .i64 0, .int .i64 0, .int .i64 0, .string ⟨#[]⟩, .slice none 0 0, .slice none 0 0, .bool false] ∧ wx.ownsRow (gp + 1) 59 2 vn nm.length (nm.flatMap nameC) ∧ wx.ownsRow (gp + 1) 65 5 (.slice p3 n3 c3) sg.length (sg.flatMap segC) ∧ sg.length ≤ 8 ∧ (∀ x ∈ sg, x.car.size ≤ 2) ∧ Stg (pPnr b) bad (pP5 loc off nm sg ((toL s).drop kk))
def TkZ (b : List UInt8) (w : World) (g gp : Nat) (s loc off : ByteArray) (nm : List NameT) (sg : List SegT) (ph : List ByteArray) (kk kq : Nat) (qb : Bool) (vn vs vp : Value) (wx : World) : Prop :=
  ∃ (td tm : Nat) (k2 : Nat) (bad : Bool), BD w wx g gp s k2 bad [.string loc, .string off, vn, vs, vp, .int .i64 (kq : Int), .int .i64 (td : Int), .int .i64 (tm : Int), .string ⟨#[]⟩, .slice none 0 0, .slice none 0 0, .bool qb] ∧ Stg (pPnr b) bad (pP7 loc off nm sg ph kk td tm ((toL s).drop k2)) ∧ wx.ownsRow (gp + 1) 59 2 vn nm.length (nm.flatMap nameC) ∧ wx.ownsRow (gp + 1) 65 5 vs sg.length (sg.flatMap segC) ∧ wx.ownsRow (gp + 1) 9 1 vp ph.length (ph.flatMap strE)

set_option maxHeartbeats 64000000 in
theorem rbody_any (b : List UInt8) (g : Nat) (s : ByteArray) (k : Nat) (bad : Bool) (w : World) (h : CS w g s k bad) (hl : s.size ≤ 1000000) (hst : Stg (pPnr b) bad (bindP (pText ((toL s).drop k)) fun loc r => bindP (pText r) fun off r => pP3 loc off r)) :
    Calls Tryz.prog 44 #[.pointer (some ⟨g, 0, none⟩)] w fun e w' => BodyP b g s w e w' := by
  have HTX : RowKit.Hid (∀ W k b, CS W g s k b → Calls Tryz.prog 72 #[.pointer (some ⟨g, 0, none⟩)] W fun e w' => TakeP g s k b 40 pText W e w') := Lib.hid fun W k b h => rstr_any g s k b W h hl
  have HN9 : RowKit.Hid (∀ W k b, CS W g s k b → Calls Tryz.prog 73 #[.pointer (some ⟨g, 0, none⟩), .int .i64 9] W fun e w' => NumP g s k 9 b W e w') := Lib.hid fun W k b h => num_any g s k 9 b W h hl (by omega)
  have HN8 : RowKit.Hid (∀ W k b, CS W g s k b → Calls Tryz.prog 73 #[.pointer (some ⟨g, 0, none⟩), .int .i64 8] W fun e w' => NumP g s k 8 b W e w') := Lib.hid fun W k b h => num_any g s k 8 b W h hl (by omega)
  have HN9999 : RowKit.Hid (∀ W k b, CS W g s k b → Calls Tryz.prog 73 #[.pointer (some ⟨g, 0, none⟩), .int .i64 9999] W fun e w' => NumP g s k 9999 b W e w') := Lib.hid fun W k b h => num_any g s k 9999 b W h hl (by omega)
  have HN731 : RowKit.Hid (∀ W k b, CS W g s k b → Calls Tryz.prog 73 #[.pointer (some ⟨g, 0, none⟩), .int .i64 731] W fun e w' => NumP g s k 731 b W e w') := Lib.hid fun W k b h => num_any g s k 731 b W h hl (by omega)
  have HN527039 : RowKit.Hid (∀ W k b, CS W g s k b → Calls Tryz.prog 73 #[.pointer (some ⟨g, 0, none⟩), .int .i64 527039] W fun e w' => NumP g s k 527039 b W e w') := Lib.hid fun W k b h => num_any g s k 527039 b W h hl (by omega)
  have HN72 : RowKit.Hid (∀ W k b, CS W g s k b → Calls Tryz.prog 73 #[.pointer (some ⟨g, 0, none⟩), .int .i64 72] W fun e w' => NumP g s k 72 b W e w') := Lib.hid fun W k b h => num_any g s k 72 b W h hl (by omega)
  have HTK : RowKit.Hid (∀ W k b, CS W g s k b → Calls Tryz.prog 71 #[.pointer (some ⟨g, 0, none⟩), .int .i64 2] W fun e w' => TakeP g s k b 2 (pTakeT 2) W e w') := Lib.hid fun W k b h => takeN_any g s k 2 b W h hl
  have HBY : RowKit.Hid (∀ W k b, CS W g s k b → Calls Tryz.prog 43 #[.pointer (some ⟨g, 0, none⟩)] W fun e w' => ByteP g s k b W e w') := Lib.hid fun W k b h => byte_any g s k b W h (by omega)
  have HWI : RowKit.Hid (∀ W k b, CS W g s k b → Calls Tryz.prog 75 #[.pointer (some ⟨g, 0, none⟩), .int .i64 3] W fun e w' => WideP g s k 3 b W e w') := Lib.hid fun W k b h => wide_any g s k 3 b W h hl (by omega)
  have HSZ : RowKit.Hid (s.size ≤ 1000000) := Lib.hid hl
  have HST := Lib.hid hst
  have hgw : g < w.heap.size := h.1.lt
  have hb1 : Below w.heap.size w (w.alloc (.cells zeroC.toArray 29)) := (Below.refl _ _).alloc (Nat.le_refl _) _
  have HC1 := Lib.hid (h.mono hb1)
  have HR1 := Lib.hid (Blk.new w 29 zeroC)
  have hz1 : (w.alloc (.cells zeroC.toArray 29)).heap.size = w.heap.size + 1 := by simp
  have HZ1 := Lib.hid hz1
  have HG1 : RowKit.Hid (w.grownBy (w.alloc (.cells zeroC.toArray 29)) (some g)) := Lib.hid (gr_of_below hb1 _)
  clear h hl hst hb1 hz1
  unfold zeroC at HC1 HR1 HZ1 HG1
  simp only [List.toArray] at HC1 HR1 HZ1 HG1
  go_enter Tryz.func44, Tryz.ntmps44
  go_upto_region 1 with fail
  generalize hw1 : w.alloc (.cells #[.string ⟨#[]⟩, .string ⟨#[]⟩, .slice none 0 0, .slice none 0 0, .slice none 0 0, .int .i64 0, .int .i64 0, .int .i64 0, .string ⟨#[]⟩, .slice none 0 0, .slice none 0 0, .bool false] 29) = w1 at HC1 HR1 HZ1 HG1
  try rw [hw1]
  clear hw1
  go_upto_region 2 with (first
    | (go_at_call 72; (with_reducible refine (HTX.out _ _ _ HC1.out).mono ?_); rintro e w2 ⟨loc, k2, b2, rfl, hs2, hc2, hf2, ht2, hg2⟩)
    | (refine wpList_store_blk rfl 29 (.tmp 3) (.tmp 16) rfl w2.heap.size 29 zeroC [.string loc, .string ⟨#[]⟩, .slice none 0 0, .slice none 0 0, .slice none 0 0, .int .i64 0, .int .i64 0, .int .i64 0, .string ⟨#[]⟩, .slice none 0 0, .slice none 0 0, .bool false] rfl rfl (Blk.new w2 29 zeroC) rfl info_pnr (by intro v hv; simp only [List.mem_cons, List.not_mem_nil, or_false] at hv; rcases hv with rfl | rfl | rfl | rfl | rfl | rfl | rfl | rfl | rfl | rfl | rfl | rfl <;> rfl) ?_; intro w5 ha5 hb5 hgr5))
  (try dsimp only [Act.put])
  have h25 : Below w2.heap.size w2 w5 := ((Below.refl _ _).alloc (Nat.le_refl _) _).trans hb5
  have hk5 : BD w w5 g w2.heap.size s k2 b2 [.string loc, .string ⟨#[]⟩, .slice none 0 0, .slice none 0 0, .slice none 0 0, .int .i64 0, .int .i64 0, .int .i64 0, .string ⟨#[]⟩, .slice none 0 0, .slice none 0 0, .bool false] :=
    ⟨hc2.mono h25, gby_trans (gby_trans HG1.out hg2) (gr_of_below h25 _), ha5, (HR1.out.far hg2 (fun e => by injection e with e; omega)).mono h25, hgw, by have := hg2.size; have := HZ1.out; omega, ha5.lt⟩
  have HST2 := Lib.hid (HST.out.step (K := fun loc r => bindP (pText r) fun off r => pP3 loc off r) hf2 ht2)
  have HK5 := Lib.hid hk5
  clear hc2 hf2 ht2 hg2 h25 ha5 hb5 hgr5 hk5 HST HC1 HR1 HZ1 HG1
  generalize hgp : w2.heap.size = gp at *
  clear hgp
  go_upto_region 3 with (first
    | (go_at_call 72; (with_reducible refine (HTX.out _ _ _ HK5.out.c).mono ?_); rintro e w6 ⟨off, k6, b6, rfl, hs6, hc6, hf6, ht6, hg6⟩; have hk6 := HK5.out.reader hc6 hg6; have x1 : w6.cell? ⟨gp, 1, none⟩ = some (.string ⟨#[]⟩) := (hk6.blk.cell 1).trans rfl; have f1 := hk6.blk.frozen 1))
  have hk7 : BD w (w6.setCell ⟨gp, 1, none⟩ (.string off)) g gp s k6 b6 [.string loc, .string off, .slice none 0 0, .slice none 0 0, .slice none 0 0, .int .i64 0, .int .i64 0, .int .i64 0, .string ⟨#[]⟩, .slice none 0 0, .slice none 0 0, .bool false] := hk6.set 1 _
  have HK7 := Lib.hid hk7
  have HST6 := Lib.hid (HST2.out.step (K := fun off r => pP3 loc off r) hf6 ht6)
  clear hk6 hc6 hf6 ht6 hg6 x1 f1 hk7 HK5 HST2
  generalize w6.setCell ⟨gp, 1, none⟩ (.string off) = w7 at *
  go_upto_block 0 with (first
    | (go_at_call 73; (with_reducible refine (HN9.out _ _ _ HK7.out.c).mono ?_); rintro e w8 ⟨n8, k8, b8, rfl, hn8, hc8, hf8, ht8, hg8⟩))
  have HK8 := Lib.hid (HK7.out.reader hc8 hg8)
  have HS8 : RowKit.Hid (Stg (pPnr b) b8 (pRun pName (fun nm r => pP4 loc off nm r) n8 [] ((toL s).drop k8))) := Lib.hid (HST6.out.step (K := fun n r => pRun pName (fun nm r => pP4 loc off nm r) n [] r) hf8 ht8)
  clear hc8 hf8 ht8 hg8 HK7 HST6
  go_cut [] from 22 to 44 (fun wx => NmIn b w g gp s loc off wx)
  case first =>
    go_wp2
    go_loopg [5] n8 (fun g0 s5 wr => ∃ (i : Nat) (lst : List NameT) (kk : Nat) (bad : Bool) (p3 : Option Addr) (n3 c3 : Nat), i ≤ n8 ∧ g0 = n8 - i ∧ s5 = .int .i64 (i : Int) ∧ BD w wr g gp s kk bad [.string loc, .string off, .slice p3 n3 c3, .slice none 0 0, .slice none 0 0, .int .i64 0, .int .i64 0, .int .i64 0, .string ⟨#[]⟩, .slice none 0 0, .slice none 0 0, .bool false] ∧ wr.ownsRow (gp + 1) 59 2 (.slice p3 n3 c3) lst.length (lst.flatMap nameC) ∧ lst.length = i ∧ (∀ x ∈ lst, x.last.size ≤ 40 ∧ x.first.size ≤ 40) ∧ Stg (pPnr b) bad (pRun pName (fun nm r => pP4 loc off nm r) (n8 - i) lst ((toL s).drop kk)))
    case atStart => exact ⟨0, [], k8, b8, none, 0, 0, Nat.zero_le _, rfl, rfl, HK8.out, World.ownsRow_nil _ _ _ _, rfl, (fun x hx => by cases hx), HS8.out⟩
    case round =>
    obtain ⟨i, lst, kk, bad, p3, n3, c3, hin, rfl, rfl, hbd, hown, hll, hsz, hst⟩ := hrel
    rename World => wr
    have HBD := Lib.hid hbd
    have HOWN := Lib.hid hown
    have HLL := Lib.hid hll
    have HSZL := Lib.hid hsz
    have HST := Lib.hid hst
    obtain ⟨d0, d1, d2, e1, e2⟩ := hbd.c.cells
    clear hbd hown hll hsz hst HK8 HS8
    go_upto_region 5 with fail
    go_cut [31] from 22 to 31 (fun s31 wx => s31 = .bool (decide (i < n8) && !bad) ∧ wr = wx)
    case first =>
      by_cases h1 : i < n8
      · have h1i : (i : Int) < (n8 : Int) := by omega
        have HD := Lib.hid (decide_eq_true h1)
        clear h1
        cases bad
        · go_wp2
          go_meet
          exact ⟨by rw [HD.out]; rfl, rfl⟩
        · go_wp2
          go_meet
          exact ⟨by rw [HD.out]; rfl, rfl⟩
      · have h1i : ¬ (i : Int) < (n8 : Int) := by omega
        have HD := Lib.hid (decide_eq_false h1)
        clear h1
        go_wp2
        go_meet
        exact ⟨by rw [HD.out]; rfl, rfl⟩
    case rest =>
    obtain ⟨rfl, rfl⟩ := hcut
    cases hd : (decide (i < n8) && !bad) with
    | true =>
      rw [Bool.and_eq_true] at hd
      have hlt : i < n8 := of_decide_eq_true hd.1
      have hb2 : bad = false := by simpa using hd.2
      subst hb2
      clear hd d0 d1 d2 e1 e2
      have hwi : IntKind.i64.wrap ((i : Int) + 1) = (i : Int) + 1 := IntWalk.i64_in _ (by omega)
      obtain ⟨i0, hi0, hz0, hsz0, hby0⟩ := name_tinfo
      have hm1 : lst.length + 1 ≤ maxLen := by rw [HLL.out]; unfold maxLen; omega
      have hm2 : (lst.length + 1) * 32 ≤ 140737488355328 := by rw [HLL.out]; omega
      go_upto_region 8 with (first
        | (go_at_call 72; (with_reducible refine (HTX.out _ _ _ HBD.out.c).mono ?_); rintro e w10 ⟨s10, k10, b10, rfl, hs10, hc10, hf10, ht10, hg10⟩; have HF10 := Lib.hid hf10; have HT10 := Lib.hid ht10; clear hf10 ht10))
      have hk10 := HBD.out.reader hc10 hg10
      have ho10 := own_far HOWN.out hg10 (by have := HBD.out.gg; omega)
      have HK10 := Lib.hid (hk10.mono (Below.refl _ _).drew)
      have HO10 := Lib.hid (own_mono ho10 (Below.refl _ _).drew)
      have d5 : w10.drew.cell? ⟨gp, 2, none⟩ = some (.slice p3 n3 c3) := (HK10.out.blk.cell 2).trans rfl
      have hglt : gp < w10.heap.size := hk10.gg.2.2
      have hggp : gp ≠ g := by have := hk10.gg; omega
      have HGW : RowKit.Hid (g < gp + 1) := Lib.hid (by have := hk10.gg; omega)
      clear hk10 ho10 hc10 hg10
      go_region_law (first
        | (go_simp; go_at_call 72; refine (HTX.out _ _ _ HK10.out.c).mono ?_; rintro e w11 ⟨s11, k11, b11, rfl, hs11, hc11, hf11, ht11, hg11⟩; have hk11 := HK10.out.reader hc11 hg11; have d11 := gr_cell hg11 d5 hggp; have hown11 := own_far HO10.out hg11 HGW.out; obtain ⟨hAP, hNX⟩ := hk11.push (j := 2) (v := .slice p3 n3 c3) rfl hown11 (.cells (nameC ⟨s10, s11⟩).toArray 59); have HAP := Lib.hid hAP; have HNX := Lib.hid hNX; have hbsz : (w11.alloc (.cells (nameC ⟨s10, s11⟩).toArray 59)).heap.size = w11.heap.size + 1 := (by simp); have hbase : gp + 1 ≤ (w11.alloc (.cells (nameC ⟨s10, s11⟩).toArray 59)).heap.size := (by rw [hbsz]; have := hk11.gg; omega); have hgl11 : gp < w11.heap.size := (by have := hk11.gg; omega); have HF11 := Lib.hid hf11; have HT11 := Lib.hid ht11; have HS11 := Lib.hid hs11; clear hf11 ht11 hs11)
        | (refine step_append_lies _ (by rfl) _ _ _ (by rfl) (gp + 1) 59 i0 _ 2 32 Tryz.underlying22 hi0 hz0 hsz0 hby0 rfl (by decide) _ lst.length (lst.flatMap nameC) (by rfl) (World.ownsRow.alloc hown11 _) ⟨w11.heap.size, 0, none⟩ 1 1 (nameC ⟨s10, s11⟩) (by rfl) (by rfl) (World.news_of_block (cs := (nameC ⟨s10, s11⟩).toArray) (t := 59) (fr := (0, 0)) (heap_alloc_new w11 _)) (nameC_one _) (by decide) hm1 hm2 hbase (w11.heap.size + 1) hbsz ?_
           intro gg cap w4 hown1 hgrow hat hlt4
           obtain ⟨hf, hk⟩ := HAP.out w4 hgrow))
      all_goals (
        obtain ⟨hk12, ho12, _⟩ := HNX.out w4 _ _ _ hown1 hgrow
        have HSTk := HST.out
        have HK12 := Lib.hid hk12
        have HO12 := Lib.hid ho12
        clear hk12 ho12
        go_wp2
        go_roundg (n8 - (i + 1))
        case measure => omega
        case rel => exact ⟨i + 1, lst ++ [⟨s10, s11⟩], k11, b11, _, _, _, by omega, rfl, by go_num, HK12.out, by rw [List.length_append, List.flatMap_append, List.length_singleton, show ([⟨s10, s11⟩] : List NameT).flatMap nameC = nameC ⟨s10, s11⟩ by simp]; exact HO12.out, by rw [List.length_append, HLL.out]; rfl, (fun t ht => by
            rcases List.mem_append.1 ht with h1 | h1
            · exact HSZL.out t h1
            · rw [List.mem_singleton.1 h1]; exact ⟨hs10, HS11.out⟩), name_step (by rw [show n8 - i = (n8 - (i + 1)) + 1 by omega] at HSTk; exact HSTk) (fun h => ⟨rfl, (HF10.out h).2⟩) (fun h => by rcases HT10.out h with h1 | h1; cases h1; exact .inr h1) HF11.out HT11.out⟩)
    | false =>
      have hs0 : Stg (pPnr b) bad (pP4 loc off lst ((toL s).drop kk)) := by
        refine ⟨fun hb => ?_, HST.out.2⟩
        have h1 := HST.out.1 hb
        rw [hb] at hd
        have hie : i = n8 := by simp at hd; omega
        rw [hie, Nat.sub_self] at h1
        exact h1
      have HS0 := Lib.hid hs0
      clear hd hs0
      go_wp2
      go_meet
      exact ⟨lst, kk, bad, p3, n3, c3, HBD.out, HOWN.out, by rw [HLL.out]; omega, HSZL.out, HS0.out⟩
  case rest =>
  rename World => wn
  obtain ⟨nm, k9, b9, p9, n9, c9, hbd, hown, hnl, hnz, hst⟩ := hcut
  have HBD := Lib.hid hbd
  have HON := Lib.hid hown
  have HNZ := Lib.hid (And.intro hnl hnz)
  have HST := Lib.hid hst
  clear hbd hown hnl hnz hst HK8 HS8
  go_upto_block 2 with (first
    | (go_at_call 73; (with_reducible refine (HN8.out _ _ _ HBD.out.c).mono ?_); rintro e w8 ⟨n8, k8, b8, rfl, hn8, hc8, hf8, ht8, hg8⟩))
  have HK8 := Lib.hid (HBD.out.reader hc8 hg8)
  have HO8 := Lib.hid (own_far HON.out hg8 (by have := HBD.out.gg; omega))
  have HS8 : RowKit.Hid (Stg (pPnr b) b8 (pRun pSeg (fun sg r => pP5 loc off nm sg r) n8 [] ((toL s).drop k8))) := Lib.hid (HST.out.step (K := fun n r => pRun pSeg (fun sg r => pP5 loc off nm sg r) n [] r) hf8 ht8)
  clear hc8 hf8 ht8 hg8 HST HON HBD
  go_cut [] from 47 to 89 (fun wx => SgIn b w g gp s loc off nm (.slice p9 n9 c9) wx)
  case first =>
    go_wp2
    go_loopg [7] n8 (fun g0 s7 wr => ∃ (i : Nat) (lst : List SegT) (kk : Nat) (bad : Bool) (p3 : Option Addr) (n3 c3 : Nat), i ≤ n8 ∧ g0 = n8 - i ∧ s7 = .int .i64 (i : Int) ∧ BD w wr g gp s kk bad [.string loc, .string off, .slice p9 n9 c9, .slice p3 n3 c3, .slice none 0 0, .int .i64 0, .int .i64 0, .int .i64 0, .string ⟨#[]⟩, .slice none 0 0, .slice none 0 0, .bool false] ∧ wr.ownsRow (gp + 1) 59 2 (.slice p9 n9 c9) nm.length (nm.flatMap nameC) ∧ wr.ownsRow (gp + 1) 65 5 (.slice p3 n3 c3) lst.length (lst.flatMap segC) ∧ lst.length = i ∧ (∀ x ∈ lst, x.car.size ≤ 2) ∧ Stg (pPnr b) bad (pRun pSeg (fun sg r => pP5 loc off nm sg r) (n8 - i) lst ((toL s).drop kk)))
    case atStart => exact ⟨0, [], k8, b8, none, 0, 0, Nat.zero_le _, rfl, rfl, HK8.out, HO8.out, World.ownsRow_nil _ _ _ _, rfl, (fun x hx => by cases hx), HS8.out⟩
    case round =>
    obtain ⟨i, lst, kk, bad, p3, n3, c3, hin, rfl, rfl, hbd, hon, hown, hll, hsz, hst⟩ := hrel
    rename World => wr
    have HBD := Lib.hid hbd
    have HON := Lib.hid hon
    have HOWN := Lib.hid hown
    have HLL := Lib.hid hll
    have HSZL := Lib.hid hsz
    have HST := Lib.hid hst
    obtain ⟨d0, d1, d2, e1, e2⟩ := hbd.c.cells
    clear hbd hon hown hll hsz hst HK8 HS8 HO8
    go_upto_region 11 with fail
    go_cut [56] from 47 to 56 (fun s56 wx => s56 = .bool (decide (i < n8) && !bad) ∧ wr = wx)
    case first =>
      by_cases h1 : i < n8
      · have h1i : (i : Int) < (n8 : Int) := by omega
        have HD := Lib.hid (decide_eq_true h1)
        clear h1
        cases bad
        · go_wp2
          go_meet
          exact ⟨by rw [HD.out]; rfl, rfl⟩
        · go_wp2
          go_meet
          exact ⟨by rw [HD.out]; rfl, rfl⟩
      · have h1i : ¬ (i : Int) < (n8 : Int) := by omega
        have HD := Lib.hid (decide_eq_false h1)
        clear h1
        go_wp2
        go_meet
        exact ⟨by rw [HD.out]; rfl, rfl⟩
    case rest =>
    obtain ⟨rfl, rfl⟩ := hcut
    cases hd : (decide (i < n8) && !bad) with
    | true =>
      rw [Bool.and_eq_true] at hd
      have hlt : i < n8 := of_decide_eq_true hd.1
      have hb2 : bad = false := by simpa using hd.2
      subst hb2
      clear hd d0 d1 d2 e1 e2
      have hwi : IntKind.i64.wrap ((i : Int) + 1) = (i : Int) + 1 := IntWalk.i64_in _ (by omega)
      obtain ⟨i0, hi0, hz0, hsz0, hby0⟩ := seg_tinfo
      have hm1 : lst.length + 1 ≤ maxLen := by rw [HLL.out]; unfold maxLen; omega
      have hm2 : (lst.length + 1) * 40 ≤ 140737488355328 := by rw [HLL.out]; omega
      go_upto_region 14 with (first
        | (refine wpList_store_blk rfl 65 (.tmp 8) (.tmp 59) rfl wr.heap.size 65 [.string ⟨#[]⟩, .int .i64 0, .int .i64 0, .int .u8 0, .bool false] [.string ⟨#[]⟩, .int .i64 0, .int .i64 0, .int .u8 0, .bool false] rfl rfl (Blk.new wr 65 [.string ⟨#[]⟩, .int .i64 0, .int .i64 0, .int .u8 0, .bool false]) rfl info_segZ (by intro v hv; simp at hv; rcases hv with rfl | rfl | rfl | rfl | rfl <;> rfl) ?_; intro wb hab hbb hgrb))
      (try dsimp only [Act.put])
      have hwb : Below wr.heap.size wr wb := ((Below.refl _ _).alloc (Nat.le_refl _) _).trans hbb
      have hss : SS w wb g gp wr.heap.size s kk false [.string loc, .string off, .slice p9 n9 c9, .slice p3 n3 c3, .slice none 0 0, .int .i64 0, .int .i64 0, .int .i64 0, .string ⟨#[]⟩, .slice none 0 0, .slice none 0 0, .bool false] [.string ⟨#[]⟩, .int .i64 0, .int .i64 0, .int .u8 0, .bool false] (.slice p9 n9 c9) nm.length (nm.flatMap nameC) (.slice p3 n3 c3) lst.length (lst.flatMap segC) :=
        ⟨HBD.out.mono hwb, hab, own_mono HON.out hwb, own_mono HOWN.out hwb, HBD.out.gg.2.2, fun e => by have := (World.ownsRow.lt HON.out _ e).2; omega, fun e => by have := (World.ownsRow.lt HOWN.out _ e).2; omega⟩
      have HSS := Lib.hid hss
      clear hab hbb hgrb hwb hss HBD HON HOWN
      generalize wr.heap.size = gs at *
      go_upto_region 15 with (first
        | (go_at_call 71; (with_reducible refine (HTK.out _ _ _ HSS.out.bd.c).mono ?_); rintro e w10 ⟨car, k10, b10, rfl, hs10, hc10, hf10, ht10, hg10⟩; have HF10 := Lib.hid hf10; have HT10 := Lib.hid ht10; clear hf10 ht10; have hk10 := HSS.out.reader hc10 hg10; have x0 : w10.cell? ⟨gs, 0, none⟩ = some (.string ⟨#[]⟩) := (hk10.sb.cell 0).trans rfl; have f0 := hk10.sb.frozen 0))
      have hk11 := hk10.set 0 (.string car)
      have HK11 := Lib.hid hk11
      clear hk10 hk11 hc10 hg10 x0 f0 HSS
      generalize w10.setCell ⟨gs, 0, none⟩ (.string car) = w11 at *
      go_upto_region 16 with (first
        | (go_at_call 73; (with_reducible refine (HN9999.out _ _ _ HK11.out.bd.c).mono ?_); rintro e w12 ⟨n12, k12, b12, rfl, hn12, hc12, hf12, ht12, hg12⟩; have HF12 := Lib.hid hf12; have HT12 := Lib.hid ht12; clear hf12 ht12; have hk12 := HK11.out.reader hc12 hg12; have x1 : w12.cell? ⟨gs, 1, none⟩ = some (.int .i64 0) := (hk12.sb.cell 1).trans rfl; have f1 := hk12.sb.frozen 1))
      have hk13 := hk12.set 1 (.int .i64 (n12 : Int))
      have HK13 := Lib.hid hk13
      clear hk12 hk13 hc12 hg12 x1 f1 HK11
      generalize w12.setCell ⟨gs, 1, none⟩ (.int .i64 (n12 : Int)) = w13 at *
      go_upto_region 17 with (first
        | (go_at_call 73; (with_reducible refine (HN731.out _ _ _ HK13.out.bd.c).mono ?_); rintro e w14 ⟨n14, k14, b14, rfl, hn14, hc14, hf14, ht14, hg14⟩; have HF14 := Lib.hid hf14; have HT14 := Lib.hid ht14; clear hf14 ht14))
      have hk14 := HK13.out.reader hc14 hg14
      have x2 : w14.cell? ⟨gs, 2, none⟩ = some (.int .i64 0) := (hk14.sb.cell 2).trans rfl
      have x4 : w14.cell? ⟨gs, 4, none⟩ = some (.bool false) := (hk14.sb.cell 4).trans rfl
      have f2 := hk14.sb.frozen 2
      have f4 := hk14.sb.frozen 4
      obtain ⟨d2, hd2⟩ : ∃ d : Nat, d = n14 / 2 := ⟨_, rfl⟩
      obtain ⟨qb, hqb⟩ : ∃ q : Bool, q = (n14 % 2 == 1) := ⟨_, rfl⟩
      have hq0 : (0 : Int) ≤ (n14 : Int) := by omega
      have hq1 : (n14 : Int) / 2 = (d2 : Int) := by omega
      have hq2 : ((n14 : Int) % 2 == 1) = qb := by
        rw [hqb, Bool.eq_iff_iff, beq_iff_eq, beq_iff_eq]
        omega
      have hk15 := (hk14.set 2 (.int .i64 (d2 : Int))).set 4 (.bool qb)
      have HK15 := Lib.hid hk15
      have HD2 := Lib.hid (And.intro hd2 hqb)
      clear hk14 hk15 hc14 hg14 HK13 hd2 hqb
      go_upto_region 18 with fail
      clear x2 x4 f2 f4 hq0 hq1 hq2
      generalize (w14.setCell ⟨gs, 2, none⟩ (.int .i64 (d2 : Int))).setCell ⟨gs, 4, none⟩ (.bool qb) = w15 at *
      go_upto_region 19 with (first
        | (go_at_call 43; (with_reducible refine (HBY.out _ _ _ HK15.out.bd.c).mono ?_); rintro e w16 ⟨x, k16, b16, rfl, hc16, hf16, ht16, hg16⟩; have HF16 := Lib.hid hf16; have HT16 := Lib.hid ht16; clear hf16 ht16; have hxm : ((x.toNat : Nat) : Int) % 256 = ((x.toNat : Nat) : Int) := (by have := x.toNat_lt; omega); have hxw : IntKind.u8.wrap ((x.toNat : Nat) : Int) = ((x.toNat : Nat) : Int) := (by rw [IntKind.wrap_u8]; exact hxm); have hk16 := HK15.out.reader hc16 hg16; have x3 : w16.cell? ⟨gs, 3, none⟩ = some (.int .u8 0) := (hk16.sb.cell 3).trans rfl; have f3 := hk16.sb.frozen 3))
      have hk17 := hk16.set 3 (.int .u8 (x.toNat : Int))
      have HK17 := Lib.hid hk17
      clear hk16 hk17 hc16 hg16 x3 f3 HK15 hxm hxw
      generalize w16.setCell ⟨gs, 3, none⟩ (.int .u8 (x.toNat : Int)) = w17 at *
      have hsr : w17.rangeAt gs 0 [.string car, .int .i64 (n12 : Int), .int .i64 (d2 : Int), .int .u8 (x.toNat : Int), .bool qb] := HK17.out.sb.range
      have y3 : w17.cell? ⟨gp, 3, none⟩ = some (.slice p3 n3 c3) := (HK17.out.bd.blk.cell 3).trans rfl
      have hown := HK17.out.os
      obtain ⟨hAP, hNX⟩ := HK17.out.bd.push (j := 3) (v := .slice p3 n3 c3) rfl hown (.cells (segC ⟨car, (n12 : Int), (d2 : Int), x, qb⟩).toArray 65)
      have HAP := Lib.hid hAP
      have HNX := Lib.hid hNX
      have hB9 : gp + 1 ≤ w17.heap.size := HK17.out.bd.gg.2.2
      clear hAP hNX
      go_wp2_with (first
        | (refine wpList_load_mid rfl 65 (.tmp 8) rfl gs 0 rfl _ _ hsr Tryz.underlying65 rfl info_segZ ?_)
        | (at_builtin; refine wpList_pushC rfl _ _ 23 rfl (gp + 1) 65 i0 _ 5 40 Tryz.underlying23 hi0 hz0 hsz0 hby0 rfl (by decide) _ lst.length _ rfl hown (segC ⟨car, (n12 : Int), (d2 : Int), x, qb⟩) rfl rfl (segC_oneZ _) hm1 hm2 hB9 ?_; intro v4 w4 ho4 hb4 hg4; obtain ⟨hf, hkc⟩ := HAP.out w4 hg4; obtain ⟨g4, cp4, e4, _, _⟩ := World.ownsRow.form ho4 (Nat.succ_pos _); subst e4))
      obtain ⟨hk18, ho18, hoth⟩ := HNX.out w4 _ _ _ ho4 hg4
      have hon18 := hoth 59 2 (.slice p9 n9 c9) nm.length (nm.flatMap nameC) (by decide) HK17.out.on
      have HSTk := HST.out
      have hsf := seg_first (fun h => ⟨rfl, (HF10.out h).2⟩) (fun h => by rcases HT10.out h with h1 | h1; cases h1; exact .inr h1) HF12.out HT12.out
      have hstn := seg_step (by rw [show n8 - i = (n8 - (i + 1)) + 1 by omega] at HSTk; exact HSTk) hsf.1 hsf.2 HF14.out HT14.out HF16.out HT16.out
      rw [← HD2.out.1, ← HD2.out.2] at hstn
      go_roundg (n8 - (i + 1))
      case measure => omega
      case rel => exact ⟨i + 1, lst ++ [⟨car, (n12 : Int), (d2 : Int), x, qb⟩], k16, b16, _, _, _, by omega, rfl, by go_num, hk18, hon18, by rw [List.length_append, List.flatMap_append, List.length_singleton, show ([⟨car, (n12 : Int), (d2 : Int), x, qb⟩] : List SegT).flatMap segC = segC ⟨car, (n12 : Int), (d2 : Int), x, qb⟩ by simp]; exact ho18, by rw [List.length_append, HLL.out]; rfl, (fun t ht => by
            rcases List.mem_append.1 ht with h1 | h1
            · exact HSZL.out t h1
            · rw [List.mem_singleton.1 h1]; exact hs10), hstn⟩
    | false =>
      have hs0 : Stg (pPnr b) bad (pP5 loc off nm lst ((toL s).drop kk)) := by
        refine ⟨fun hb => ?_, HST.out.2⟩
        have h1 := HST.out.1 hb
        rw [hb] at hd
        have hie : i = n8 := by simp at hd; omega
        rw [hie, Nat.sub_self] at h1
        exact h1
      have HS0 := Lib.hid hs0
      clear hd hs0
      go_wp2
      go_meet
      exact ⟨lst, kk, bad, p3, n3, c3, HBD.out, HON.out, HOWN.out, by rw [HLL.out]; omega, HSZL.out, HS0.out⟩
  case rest =>
  rename World => ws
  obtain ⟨sg, k10, b10, p10, n10, c10, hbd, hon, hown, hsl, hsz, hst⟩ := hcut
  have HBD := Lib.hid hbd
  have HON := Lib.hid hon
  have HOS := Lib.hid hown
  have HSZ2 := Lib.hid (And.intro hsl hsz)
  have HST := Lib.hid hst
  clear hbd hon hown hsl hsz hst HK8 HS8 HO8
  have HP4 : RowKit.Hid (Calls Tryz.prog 74 #[.pointer (some ⟨g, 0, none⟩), .int .i64 4] ws fun e w' => ListC strE 9 1 4 (fun x => x.size ≤ 40) (pPnr b) (fun ph r => pP6 loc off nm sg ph r) g s ws e w') := Lib.hid (rstrs_any g s k10 b10 4 ws HBD.out.c HSZ.out (by omega) HST.out)
  go_upto_region 21 with (first
    | (go_at_call 74; (with_reducible refine HP4.out.mono ?_); rintro e w11 ⟨v11, ph, k11, b11, rfl, ho11, hn11, hz11, hc11, hst11, hg11⟩; obtain ⟨p11, n11, c11, rfl⟩ := own_slice ho11; have hk11 := HBD.out.reader hc11 hg11; have x4 : w11.cell? ⟨gp, 4, none⟩ = some (.slice none 0 0) := (hk11.blk.cell 4).trans rfl; have f4 := hk11.blk.frozen 4))
  have hggp : g < gp + 1 := by have := HBD.out.gg; omega
  have HGGP := Lib.hid hggp
  have HK12 := Lib.hid (hk11.set 4 (.slice p11 n11 c11))
  have HON := Lib.hid (own_setp (own_far HON.out hg11 hggp) (Nat.lt_succ_self _) 4 (.slice p11 n11 c11))
  have HOS := Lib.hid (own_setp (own_far HOS.out hg11 hggp) (Nat.lt_succ_self _) 4 (.slice p11 n11 c11))
  have HOP := Lib.hid (own_setp (own_lowR ho11 HBD.out.gg.2.2) (Nat.lt_succ_self _) 4 (.slice p11 n11 c11))
  have HZ11 := Lib.hid (And.intro hn11 hz11)
  have HST11 : RowKit.Hid (Stg (pPnr b) b11 (bindP (pFix 1 ((toL s).drop k11)) fun k r => bindP (pTick k r) fun t r => pP7 loc off nm sg ph k t.1 t.2 r)) := Lib.hid hst11
  clear hk11 hc11 hg11 ho11 hn11 hz11 hst11 x4 f4 HBD HST HP4
  generalize w11.setCell ⟨gp, 4, none⟩ (.slice p11 n11 c11) = w12 at *
  go_upto_region 22 with (first
    | (go_at_call 43; (with_reducible refine (HBY.out _ _ _ HK12.out.c).mono ?_); rintro e w13 ⟨x, k13, b13, rfl, hc13, hf13, ht13, hg13⟩))
  have hk13 := HK12.out.reader hc13 hg13
  have HON := Lib.hid (own_far HON.out hg13 hggp)
  have HOS := Lib.hid (own_far HOS.out hg13 hggp)
  have HOP := Lib.hid (own_far HOP.out hg13 hggp)
  have HST13 := Lib.hid (HST11.out.step (K := fun k r => bindP (pTick k r) fun t r => pP7 loc off nm sg ph k t.1 t.2 r) hf13 ht13)
  have x5 : w13.cell? ⟨gp, 5, none⟩ = some (.int .i64 0) := (hk13.blk.cell 5).trans rfl
  have x11 : w13.cell? ⟨gp, 11, none⟩ = some (.bool false) := (hk13.blk.cell 11).trans rfl
  have f5 := hk13.blk.frozen 5
  have f11 := hk13.blk.frozen 11
  have hkk : x.toNat < 256 := UInt8.toNat_lt x
  generalize x.toNat = kk at *
  obtain ⟨kq, hkq⟩ : ∃ kq : Nat, kq = kk / 2 := ⟨_, rfl⟩
  obtain ⟨qb, hqb⟩ : ∃ q : Bool, q = (kk % 2 == 1) := ⟨_, rfl⟩
  have hq0 : (0 : Int) ≤ (kk : Int) := by omega
  have hq1 : (kk : Int) / 2 = (kq : Int) := by omega
  have hq2 : ((kk : Int) % 2 == 1) = qb := by
    rw [hqb, Bool.eq_iff_iff, beq_iff_eq, beq_iff_eq]
    omega
  have HKQ := Lib.hid hkq
  have HQB := Lib.hid hqb
  have HK14 := Lib.hid ((hk13.set 5 (.int .i64 (kq : Int))).set 11 (.bool qb))
  have HON := Lib.hid (own_setp (own_setp HON.out (Nat.lt_succ_self _) 5 (.int .i64 (kq : Int))) (Nat.lt_succ_self _) 11 (.bool qb))
  have HOS := Lib.hid (own_setp (own_setp HOS.out (Nat.lt_succ_self _) 5 (.int .i64 (kq : Int))) (Nat.lt_succ_self _) 11 (.bool qb))
  have HOP := Lib.hid (own_setp (own_setp HOP.out (Nat.lt_succ_self _) 5 (.int .i64 (kq : Int))) (Nat.lt_succ_self _) 11 (.bool qb))
  have hkq2 : kq < 128 := by omega
  clear hk13 hc13 hf13 ht13 hg13 HK12 HST11 hkq hqb
  go_upto_region 23 with fail
  clear x5 x11 f5 f11 hq0 hq1 hq2 hkk hkq2
  generalize (w13.setCell ⟨gp, 5, none⟩ (.int .i64 (kq : Int))).setCell ⟨gp, 11, none⟩ (.bool qb) = w14 at *
  have x5 : w14.cell? ⟨gp, 5, none⟩ = some (.int .i64 (kq : Int)) := (HK14.out.blk.cell 5).trans rfl
  go_upto_if 106 with fail
  go_cut [] from 103 to 116 (fun wx => TkZ b w g gp s loc off nm sg ph kk kq qb (.slice p9 n9 c9) (.slice p10 n10 c10) (.slice p11 n11 c11) wx)
  case first =>
    by_cases h1 : kq = 1
    · have hb1 : (((kq : Nat) : Int) == 1) = true := by rw [beq_iff_eq]; omega
      have HTI : RowKit.Hid (pTick kk ((toL s).drop k13) = bindP (pNum 527039 ((toL s).drop k13)) fun m r => some ((m / 1440, m % 1440), r)) := Lib.hid (if_pos (by rw [← HKQ.out]; exact h1))
      clear h1
      go_upto_region 25 with (first
        | (go_at_call 73; (with_reducible refine (HN527039.out _ _ _ HK14.out.c).mono ?_); rintro e w15 ⟨m, k15, b15, rfl, hm15, hc15, hf15, ht15, hg15⟩))
      have hk15 := HK14.out.reader hc15 hg15
      have x6 : w15.cell? ⟨gp, 6, none⟩ = some (.int .i64 0) := (hk15.blk.cell 6).trans rfl
      have x7 : w15.cell? ⟨gp, 7, none⟩ = some (.int .i64 0) := (hk15.blk.cell 7).trans rfl
      have f6 := hk15.blk.frozen 6
      have f7 := hk15.blk.frozen 7
      obtain ⟨td, htd⟩ : ∃ t : Nat, t = m / 1440 := ⟨_, rfl⟩
      obtain ⟨tm, htm⟩ : ∃ t : Nat, t = m % 1440 := ⟨_, rfl⟩
      have hq0 : (0 : Int) ≤ (m : Int) := by omega
      have hq1 : (m : Int) / 1440 = (td : Int) := by omega
      have hq2 : (m : Int) % 1440 = (tm : Int) := by omega
      have HTT := Lib.hid (And.intro htd htm)
      have HF15 := Lib.hid hf15
      have HT15 := Lib.hid ht15
      have HG15 := Lib.hid hg15
      have HK15 := Lib.hid hk15
      clear htd htm hf15 ht15 hg15 hc15 hk15
      go_wp2
      go_meet
      refine ⟨td, tm, k15, b15, (HK15.out.set 6 _).set 7 _, ?_, own_setp (own_setp (own_far HON.out HG15.out HGGP.out) (Nat.lt_succ_self _) 6 _) (Nat.lt_succ_self _) 7 _, own_setp (own_setp (own_far HOS.out HG15.out HGGP.out) (Nat.lt_succ_self _) 6 _) (Nat.lt_succ_self _) 7 _, own_setp (own_setp (own_far HOP.out HG15.out HGGP.out) (Nat.lt_succ_self _) 6 _) (Nat.lt_succ_self _) 7 _⟩
      have := Stg.step (p := pTick kk ((toL s).drop k13)) (K := fun t r => pP7 loc off nm sg ph kk t.1 t.2 r) (a := (td, tm)) (r := (toL s).drop k15) (b2 := b15) HST13.out (fun e => by
        obtain ⟨q1, q2⟩ := HF15.out e
        exact ⟨q1, by rw [HTI.out, bindP_some q2, HTT.out.1, HTT.out.2]⟩) (fun e => by
        rcases HT15.out e with q1 | q1
        · exact .inl q1
        · exact .inr (by rw [HTI.out]; exact bindP_none q1))
      exact this
    · have hb1 : (((kq : Nat) : Int) == 1) = false := by rw [beq_eq_false_iff_ne]; omega
      have HTI : RowKit.Hid (pTick kk ((toL s).drop k13) = some ((0, 0), (toL s).drop k13)) := Lib.hid (if_neg (by rw [← HKQ.out]; exact h1))
      clear h1
      go_wp2
      go_meet
      refine ⟨0, 0, k13, b13, HK14.out, ?_, HON.out, HOS.out, HOP.out⟩
      have := HST13.out
      rw [HTI.out] at this
      exact this
  case rest =>
  rename World => w16
  obtain ⟨td, tm, k16, b16, hk16, hst16, hon, hos, hop⟩ := hcut
  have HK16 := Lib.hid hk16
  have HON := Lib.hid hon
  have HOS := Lib.hid hos
  have HOP := Lib.hid hop
  have HST16 : RowKit.Hid (Stg (pPnr b) b16 (bindP (pText ((toL s).drop k16)) fun rc r => pP8 loc off nm sg ph kk td tm rc r)) := Lib.hid hst16
  clear hk16 hst16 hon hos hop HK14 HST13 x5
  go_upto_region 27 with (first
    | (go_at_call 72; (with_reducible refine (HTX.out _ _ _ HK16.out.c).mono ?_); rintro e w17 ⟨rc, k17, b17, rfl, hs17, hc17, hf17, ht17, hg17⟩; have hk17 := HK16.out.reader hc17 hg17; have x8 : w17.cell? ⟨gp, 8, none⟩ = some (.string ⟨#[]⟩) := (hk17.blk.cell 8).trans rfl; have f8 := hk17.blk.frozen 8))
  have HK18 := Lib.hid (hk17.set 8 (.string rc))
  have HON := Lib.hid (own_setp (own_far HON.out hg17 HGGP.out) (Nat.lt_succ_self _) 8 (.string rc))
  have HOS := Lib.hid (own_setp (own_far HOS.out hg17 HGGP.out) (Nat.lt_succ_self _) 8 (.string rc))
  have HOP := Lib.hid (own_setp (own_far HOP.out hg17 HGGP.out) (Nat.lt_succ_self _) 8 (.string rc))
  have HST17 : RowKit.Hid (Stg (pPnr b) b17 (bindP (pNum 10 ((toL s).drop k17)) fun n r => pRun pText (fun rm r => pP9 loc off nm sg ph kk td tm rc rm r) n [] r)) := Lib.hid (HST16.out.step (K := fun rc r => pP8 loc off nm sg ph kk td tm rc r) hf17 ht17)
  have HS17 := Lib.hid hs17
  clear hk17 hc17 hf17 ht17 hg17 x8 f8 hs17 HK16 HST16
  generalize w17.setCell ⟨gp, 8, none⟩ (.string rc) = w18 at *
  have HP10 : RowKit.Hid (Calls Tryz.prog 74 #[.pointer (some ⟨g, 0, none⟩), .int .i64 10] w18 fun e w' => ListC strE 9 1 10 (fun x => x.size ≤ 40) (pPnr b) (fun rm r => pP9 loc off nm sg ph kk td tm rc rm r) g s w18 e w') := Lib.hid (rstrs_any g s k17 b17 10 w18 HK18.out.c HSZ.out (by omega) HST17.out)
  go_upto_region 28 with (first
    | (go_at_call 74; (with_reducible refine HP10.out.mono ?_); rintro e w19 ⟨v19, rm, k19, b19, rfl, ho19, hn19, hz19, hc19, hst19, hg19⟩; obtain ⟨p19, n19, c19, rfl⟩ := own_slice ho19; have hk19 := HK18.out.reader hc19 hg19; have x9 : w19.cell? ⟨gp, 9, none⟩ = some (.slice none 0 0) := (hk19.blk.cell 9).trans rfl; have f9 := hk19.blk.frozen 9))
  have HK20 := Lib.hid (hk19.set 9 (.slice p19 n19 c19))
  have HON := Lib.hid (own_setp (own_far HON.out hg19 HGGP.out) (Nat.lt_succ_self _) 9 (.slice p19 n19 c19))
  have HOS := Lib.hid (own_setp (own_far HOS.out hg19 HGGP.out) (Nat.lt_succ_self _) 9 (.slice p19 n19 c19))
  have HOP := Lib.hid (own_setp (own_far HOP.out hg19 HGGP.out) (Nat.lt_succ_self _) 9 (.slice p19 n19 c19))
  have HOR := Lib.hid (own_setp (own_lowR ho19 HK18.out.gg.2.2) (Nat.lt_succ_self _) 9 (.slice p19 n19 c19))
  have HZ19 := Lib.hid (And.intro hn19 hz19)
  have HST19 : RowKit.Hid (Stg (pPnr b) b19 (bindP (pNum 72 ((toL s).drop k19)) fun n r => pRun pPlace (fun st r => some ((⟨loc, off, nm, sg, ph, ((kk / 2 : Nat) : Int), (td : Int), (tm : Int), rc, rm, st, kk % 2 == 1⟩ : PnrT), r)) n [] r)) := Lib.hid hst19
  clear hk19 hc19 hg19 ho19 hn19 hz19 hst19 x9 f9 HK18 HST17 HP10
  generalize w19.setCell ⟨gp, 9, none⟩ (.slice p19 n19 c19) = w20 at *
  go_upto_block 4 with (first
    | (go_at_call 73; (with_reducible refine (HN72.out _ _ _ HK20.out.c).mono ?_); rintro e w21 ⟨n8, k21, b21, rfl, hn8, hc21, hf21, ht21, hg21⟩))
  have HK21 := Lib.hid (HK20.out.reader hc21 hg21)
  have HON := Lib.hid (own_far HON.out hg21 HGGP.out)
  have HOS := Lib.hid (own_far HOS.out hg21 HGGP.out)
  have HOP := Lib.hid (own_far HOP.out hg21 HGGP.out)
  have HOR := Lib.hid (own_far HOR.out hg21 HGGP.out)
  have HS21 : RowKit.Hid (Stg (pPnr b) b21 (pRun pPlace (fun st r => some ((⟨loc, off, nm, sg, ph, (kq : Int), (td : Int), (tm : Int), rc, rm, st, qb⟩ : PnrT), r)) n8 [] ((toL s).drop k21))) := Lib.hid (by
    rw [HKQ.out, HQB.out]
    exact HST19.out.step (K := fun n r => pRun pPlace (fun st r => some ((⟨loc, off, nm, sg, ph, ((kk / 2 : Nat) : Int), (td : Int), (tm : Int), rc, rm, st, kk % 2 == 1⟩ : PnrT), r)) n [] r) hf21 ht21)
  clear hc21 hf21 ht21 hg21 HK20 HST19 HKQ HQB
  go_wp2
  go_loopg [12] n8 (fun g0 s12 wr => ∃ (i : Nat) (lst : List PlaceT) (kk : Nat) (bad : Bool) (p3 : Option Addr) (n3 c3 : Nat), i ≤ n8 ∧ g0 = n8 - i ∧ s12 = .int .i64 (i : Int) ∧ BD w wr g gp s kk bad [.string loc, .string off, .slice p9 n9 c9, .slice p10 n10 c10, .slice p11 n11 c11, .int .i64 (kq : Int), .int .i64 (td : Int), .int .i64 (tm : Int), .string rc, .slice p19 n19 c19, .slice p3 n3 c3, .bool qb] ∧ (wr.ownsRow (gp + 1) 59 2 (.slice p9 n9 c9) nm.length (nm.flatMap nameC) ∧ wr.ownsRow (gp + 1) 65 5 (.slice p10 n10 c10) sg.length (sg.flatMap segC) ∧ wr.ownsRow (gp + 1) 9 1 (.slice p11 n11 c11) ph.length (ph.flatMap strE) ∧ wr.ownsRow (gp + 1) 9 1 (.slice p19 n19 c19) rm.length (rm.flatMap strE)) ∧ wr.ownsRow (gp + 1) 73 4 (.slice p3 n3 c3) lst.length (lst.flatMap placeC) ∧ lst.length = i ∧ (∀ x ∈ lst, (Lit.int .i64 x.seg).wf = true) ∧ Stg (pPnr b) bad (pRun pPlace (fun st r => some ((⟨loc, off, nm, sg, ph, (kq : Int), (td : Int), (tm : Int), rc, rm, st, qb⟩ : PnrT), r)) (n8 - i) lst ((toL s).drop kk)))
  case atStart => exact ⟨0, [], k21, b21, none, 0, 0, Nat.zero_le _, rfl, rfl, HK21.out, ⟨HON.out, HOS.out, HOP.out, HOR.out⟩, World.ownsRow_nil _ _ _ _, rfl, (fun x hx => by cases hx), HS21.out⟩
  case round =>
  obtain ⟨i, lst, kx, bad, p3, n3, c3, hin, rfl, rfl, hbd, hrows, hown, hll, hsz, hst⟩ := hrel
  rename World => wr
  have HBD := Lib.hid hbd
  have HRO := Lib.hid hrows
  have HOWN := Lib.hid hown
  have HLL := Lib.hid hll
  have HSZL := Lib.hid hsz
  have HST := Lib.hid hst
  obtain ⟨d0, d1, d2, e1, e2⟩ := hbd.c.cells
  clear hbd hrows hown hll hsz hst HK21 HS21 HON HOS HOP HOR
  go_upto_region 30 with fail
  go_cut [134] from 125 to 134 (fun s134 wx => s134 = .bool (decide (i < n8) && !bad) ∧ wr = wx)
  case first =>
    by_cases h1 : i < n8
    · have h1i : (i : Int) < (n8 : Int) := by omega
      have HD := Lib.hid (decide_eq_true h1)
      clear h1
      cases bad
      · go_wp2
        go_meet
        exact ⟨by rw [HD.out]; rfl, rfl⟩
      · go_wp2
        go_meet
        exact ⟨by rw [HD.out]; rfl, rfl⟩
    · have h1i : ¬ (i : Int) < (n8 : Int) := by omega
      have HD := Lib.hid (decide_eq_false h1)
      clear h1
      go_wp2
      go_meet
      exact ⟨by rw [HD.out]; rfl, rfl⟩
  case rest =>
  obtain ⟨rfl, rfl⟩ := hcut
  cases hd : (decide (i < n8) && !bad) with
  | true =>
    rw [Bool.and_eq_true] at hd
    have hlt : i < n8 := of_decide_eq_true hd.1
    have hb2 : bad = false := by simpa using hd.2
    subst hb2
    clear hd d0 d1 d2 e1 e2
    have hwi : IntKind.i64.wrap ((i : Int) + 1) = (i : Int) + 1 := IntWalk.i64_in _ (by omega)
    obtain ⟨i0, hi0, hz0, hsz0, hby0⟩ := place_tinfo
    have hm1 : lst.length + 1 ≤ maxLen := by rw [HLL.out]; unfold maxLen; omega
    have hm2 : (lst.length + 1) * 32 ≤ 140737488355328 := by rw [HLL.out]; omega
    go_upto_region 33 with (first
      | (go_at_call 75; (with_reducible refine (HWI.out _ _ _ HBD.out.c).mono ?_); rintro e w22 ⟨x, k22, b22, rfl, hx22, hc22, hf22, ht22, hg22⟩; have HF22 := Lib.hid hf22; have HT22 := Lib.hid ht22; clear hf22 ht22))
    have hx24 : x < 16777216 := hx22
    have HX24 := Lib.hid hx24
    have HK22 := Lib.hid (HBD.out.reader hc22 hg22)
    have HO22 := Lib.hid (own_far HOWN.out hg22 HGGP.out)
    have HR22 : RowKit.Hid (w22.ownsRow (gp + 1) 59 2 (.slice p9 n9 c9) nm.length (nm.flatMap nameC) ∧ w22.ownsRow (gp + 1) 65 5 (.slice p10 n10 c10) sg.length (sg.flatMap segC) ∧ w22.ownsRow (gp + 1) 9 1 (.slice p11 n11 c11) ph.length (ph.flatMap strE) ∧ w22.ownsRow (gp + 1) 9 1 (.slice p19 n19 c19) rm.length (rm.flatMap strE)) := Lib.hid ⟨own_far HRO.out.1 hg22 HGGP.out, own_far HRO.out.2.1 hg22 HGGP.out, own_far HRO.out.2.2.1 hg22 HGGP.out, own_far HRO.out.2.2.2 hg22 HGGP.out⟩
    have y10 : w22.cell? ⟨gp, 10, none⟩ = some (.slice p3 n3 c3) := (HK22.out.blk.cell 10).trans rfl
    obtain ⟨a1, ha1⟩ : ∃ a : Nat, a = x / 65536 := ⟨_, rfl⟩
    obtain ⟨a2, ha2⟩ : ∃ a : Nat, a = x / 4096 % 16 := ⟨_, rfl⟩
    obtain ⟨a3, ha3⟩ : ∃ a : Nat, a = x / 32 % 128 := ⟨_, rfl⟩
    obtain ⟨a4, ha4⟩ : ∃ a : Nat, a = x % 32 := ⟨_, rfl⟩
    obtain ⟨c, hc⟩ : ∃ c : UInt8, c = UInt8.ofNat (65 + a4) := ⟨_, rfl⟩
    obtain ⟨a5, ha5⟩ : ∃ a : Nat, a = a1 + 1 := ⟨_, rfl⟩
    have hq0 : (0 : Int) ≤ (x : Int) := by omega
    have hq1 : (x : Int) / 65536 = (a1 : Int) := by omega
    have hq2 : (x : Int) / 4096 % 16 = (a2 : Int) := by omega
    have hq3 : (x : Int) / 32 % 128 = (a3 : Int) := by omega
    have hq4 : (x : Int) % 32 = (a4 : Int) := by omega
    have hq5 : (a1 : Int) + 1 = (a5 : Int) := by omega
    have hw5 : IntKind.i64.wrap (a5 : Int) = (a5 : Int) := IntWalk.i64_in _ (by omega)
    have hw6 : IntKind.i64.wrap (65 + (a4 : Int)) = 65 + (a4 : Int) := IntWalk.i64_in _ (by omega)
    have hcw : IntKind.u8.wrap (65 + (a4 : Int)) = (c.toNat : Int) := by
      rw [IntKind.wrap_u8, hc, UInt8.toNat_ofNat']
      omega
    have hb1 : a1 ≤ 256 := by omega
    have hb2' : a2 ≤ 16 := by omega
    have hb3 : a3 ≤ 128 := by omega
    have hb4 : a4 ≤ 32 := by omega
    have HAX := Lib.hid (And.intro ha1 (And.intro ha2 (And.intro ha3 (And.intro ha4 (And.intro hc ha5)))))
    obtain ⟨hAP, hNX⟩ := HK22.out.push (j := 10) (v := .slice p3 n3 c3) rfl HO22.out (.cells (placeC ⟨(a5 : Int), (a2 : Int), (a3 : Int), c⟩).toArray 73)
    have HAP := Lib.hid hAP
    have HNX := Lib.hid hNX
    have hB9 : gp + 1 ≤ w22.heap.size := HK22.out.gg.2.2
    have hown := HO22.out
    clear hAP hNX ha1 ha2 ha3 ha4 ha5 hc hx24 hx22 hc22 hg22 HBD HOWN HRO
    go_wp2_with (first
      | (at_builtin; refine wpList_pushC rfl _ _ 27 rfl (gp + 1) 73 i0 _ 4 32 Tryz.underlying27 hi0 hz0 hsz0 hby0 rfl (by decide) _ lst.length _ rfl hown (placeC ⟨(a5 : Int), (a2 : Int), (a3 : Int), c⟩) rfl rfl (placeC_oneZ _) hm1 hm2 hB9 ?_; intro v4 w4 ho4 hb4 hg4; obtain ⟨hf, hkc⟩ := HAP.out w4 hg4; obtain ⟨g4, cp4, e4, _, _⟩ := World.ownsRow.form ho4 (Nat.succ_pos _); subst e4))
    obtain ⟨hk23, ho23, hoth⟩ := HNX.out w4 _ _ _ ho4 hg4
    have hrw : ((w4.setCell ⟨gp, 10, none⟩ (.slice (some ⟨g4, 0, none⟩) (lst.length + 1) cp4)).ownsRow (gp + 1) 59 2 (.slice p9 n9 c9) nm.length (nm.flatMap nameC) ∧ (w4.setCell ⟨gp, 10, none⟩ (.slice (some ⟨g4, 0, none⟩) (lst.length + 1) cp4)).ownsRow (gp + 1) 65 5 (.slice p10 n10 c10) sg.length (sg.flatMap segC) ∧ (w4.setCell ⟨gp, 10, none⟩ (.slice (some ⟨g4, 0, none⟩) (lst.length + 1) cp4)).ownsRow (gp + 1) 9 1 (.slice p11 n11 c11) ph.length (ph.flatMap strE) ∧ (w4.setCell ⟨gp, 10, none⟩ (.slice (some ⟨g4, 0, none⟩) (lst.length + 1) cp4)).ownsRow (gp + 1) 9 1 (.slice p19 n19 c19) rm.length (rm.flatMap strE)) := ⟨hoth _ _ _ _ _ (by decide) HR22.out.1, hoth _ _ _ _ _ (by decide) HR22.out.2.1, hoth _ _ _ _ _ (by decide) HR22.out.2.2.1, hoth _ _ _ _ _ (by decide) HR22.out.2.2.2⟩
    have HSTk := HST.out
    obtain ⟨j1, j2, j3, j4, j5, j6⟩ := HAX.out
    have hstn := place_step (n := x % 65536) (px := (a2 : Int)) (rw := (a3 : Int)) (c := c) (sg := (a5 : Int)) HX24.out (by rw [show n8 - i = (n8 - (i + 1)) + 1 by omega] at HSTk; exact HSTk) (fun h => ⟨rfl, (HF22.out h).2⟩) (fun h => by rcases HT22.out h with h1 | h1; cases h1; exact .inr h1) rfl (by omega) (by omega) (by rw [j5, j4]; congr 1; omega) (by omega)
    go_roundg (n8 - (i + 1))
    case measure => omega
    case rel => exact ⟨i + 1, lst ++ [⟨(a5 : Int), (a2 : Int), (a3 : Int), c⟩], k22, b22, _, _, _, by omega, rfl, by go_num, hk23, hrw, by rw [List.length_append, List.flatMap_append, List.length_singleton, show ([⟨(a5 : Int), (a2 : Int), (a3 : Int), c⟩] : List PlaceT).flatMap placeC = placeC ⟨(a5 : Int), (a2 : Int), (a3 : Int), c⟩ by simp]; exact ho23, by rw [List.length_append, HLL.out]; rfl, (fun t ht => by
          rcases List.mem_append.1 ht with h1 | h1
          · exact HSZL.out t h1
          · rw [List.mem_singleton.1 h1]; exact WalkArith.wf_i64 (by show (-9223372036854775808 : Int) ≤ (a5 : Int) ∧ (a5 : Int) ≤ 9223372036854775807; have := HX24.out; omega)), hstn⟩
  | false =>
    have hs0 : Stg (pPnr b) bad (some ((⟨loc, off, nm, sg, ph, (kq : Int), (td : Int), (tm : Int), rc, rm, lst, qb⟩ : PnrT), (toL s).drop kx)) := by
      refine ⟨fun hb => ?_, HST.out.2⟩
      have h1 := HST.out.1 hb
      rw [hb] at hd
      have hie : i = n8 := by simp at hd; omega
      rw [hie, Nat.sub_self] at h1
      exact h1
    have HS0 := Lib.hid hs0
    have hrg := HBD.out.blk.range
    have hrs := HBD.out.res
    clear hd hs0
    go_wp2_with (first
      | (refine wpList_load_mid rfl 29 (.tmp 3) rfl gp 0 rfl _ _ hrg Tryz.underlying29 rfl info_pnr ?_)
      | (refine wpList_store_blk rfl 29 (.tmp 2) (.tmp 159) rfl w.heap.size 29 zeroC [.string loc, .string off, .slice p9 n9 c9, .slice p10 n10 c10, .slice p11 n11 c11, .int .i64 (kq : Int), .int .i64 (td : Int), .int .i64 (tm : Int), .string rc, .slice p19 n19 c19, .slice p3 n3 c3, .bool qb] rfl rfl hrs rfl info_pnr (pnrC_one (x := ⟨loc, off, nm, sg, ph, (kq : Int), (td : Int), (tm : Int), rc, rm, lst, qb⟩)) ?_; intro w8 ha8 hb8 hgr8))
    have hlt8 : w.heap.size < gp + 1 := by have := HBD.out.gg; omega
    refine bodyPost_ret (results_row1Z rfl _ _ w.heap.size 29 [.string loc, .string off, .slice p9 n9 c9, .slice p10 n10 c10, .slice p11 n11 c11, .int .i64 (kq : Int), .int .i64 (td : Int), .int .i64 (tm : Int), .string rc, .slice p19 n19 c19, .slice p3 n3 c3, .bool qb] _ rfl ha8 Tryz.underlying29 rfl info_pnr) rfl ?_
    have hm : (40 : Nat) ≤ maxLen := by unfold maxLen; omega
    have hpin : ∀ W R, R < gp + 1 → w8.grownBy W (some R) → PIn W ⟨loc, off, nm, sg, ph, (kq : Int), (td : Int), (tm : Int), rc, rm, lst, qb⟩ (.slice p9 n9 c9) (.slice p10 n10 c10) (.slice p11 n11 c11) (.slice p19 n19 c19) (.slice p3 n3 c3) := fun W R hR hW => by
      refine ⟨HasE.own (own_far (own_far HRO.out.1 hgr8 hlt8) hW hR), HasE.own (own_far (own_far HRO.out.2.1 hgr8 hlt8) hW hR), (own_texts (own_far (own_far HRO.out.2.2.1 hgr8 hlt8) hW hR)).has, (own_texts (own_far (own_far HRO.out.2.2.2 hgr8 hlt8) hW hR)).has, HasE.own (own_far (own_far HOWN.out hgr8 hlt8) hW hR), ⟨Nat.le_trans hs2 hm, Nat.le_trans hs6 hm, fun x hx => ⟨Nat.le_trans (HNZ.out.2 x hx).1 hm, Nat.le_trans (HNZ.out.2 x hx).2 hm⟩, fun x hx => Nat.le_trans (HSZ2.out.2 x hx) (Nat.le_trans (by omega) hm), fun x hx => Nat.le_trans (HZ11.out.2 x hx) hm, Nat.le_trans HS17.out hm, fun x hx => Nat.le_trans (HZ19.out.2 x hx) hm⟩, HSZL.out, ?_⟩
      have h1 := HNZ.out.1
      have h2 := HSZ2.out.1
      have h3 := HZ11.out.1
      have h4 := HZ19.out.1
      have h5 := HLL.out
      exact ⟨by show nm.length ≤ 1000; omega, by show sg.length ≤ 1000; omega, by show ph.length ≤ 1000; omega, by show rm.length ≤ 1000; omega, by show lst.length ≤ 1000; omega⟩
    refine ⟨⟨loc, off, nm, sg, ph, (kq : Int), (td : Int), (tm : Int), rc, rm, lst, qb⟩, .slice p9 n9 c9, .slice p10 n10 c10, .slice p11 n11 c11, .slice p19 n19 c19, .slice p3 n3 c3, kx, bad, _, rfl, hpin w8 w.heap.size hlt8 (World.grownBy.refl _ _), ?_, HS0.out, ?_, fun W R hR hW => hpin W R (by omega) hW⟩
    · exact HBD.out.c.far hgr8 (by intro e; injection e with e; omega)
    · exact gr_newZ HBD.out.gr hgr8 (fun b e => by injection e with e; omega)
end Go.Proofs.YtofomopmmopflaaGreatDoor
