/- plan.New. -/
import Derived.Test.YtmhhbnnjilbdnaaGreatDoorKA
import Derived.Test.YtmhhbnnjilbdnaaGreatDoorKB
import Derived.Test.YtmhhbnnjilbdnaaGreatDoorKE
import Derived.Test.YtmhhbnnjilbdnaaGreatDoorKD
import Derived.Test.YtmhhbnnjilbdnaaGreatDoorKF
import Derived.Test.YtmhhbnnjilbdnaaGreatDoorPlnI
import Derived.Test.YtmhhbnnjilbdnaaGreatDoorPlnJ
import Derived.Test.YtmhhbnnjilbdnaaGreatDoorPlnP
import Derived.Test.YtmhhbnnjilbdnaaGreatDoorKG
import Derived.Test.YtmhhbnnjilbdnaaGreatDoorKH
import Derived.Test.YtmhhbnnjilbdnaaGreatDoorPlnN
import Derived.Test.YtmhhbnnjilbdnaaGreatDoorPlnO
import Derived.Test.YtmhhbnnjilbdnaaGreatDoorRows
import Derived.WalkKit
import Derived.WalkSpells
import Derived.WalkLawsBesides
import Derived.Lib.ConvBytes
import Derived.Lib.Hide
import Derived.Lib.SliceRun
import Derived.IntWalk
import Derived.BigQuiet
import Derived.Deep.QuietTactic
import Derived.Deep.RegionWith
import Derived.Deep.RegionHeld3
import Derived.Deep.LoopGhost
import Derived.Deep.CutRange
import Derived.Deep.CutBlock
import Derived.Deep.MidRow
import Derived.Laws.OwnMore
import Derived.OwnWalk
import Derived.Laws.AppendOwnNone
import Derived.Laws.Rows
import Derived.Laws.MakeOwn
import Derived.Laws.CopyOwn
import Derived.Laws.BitsAllLaws
import Derived.DeepKeys5
import Derived.Maps.OwnOps
import Derived.Handy
import Derived.Lib.AppendStr
import Derived.StillTailTactics
import Derived.Deep.AppendLies
import Derived.ProofKit
import Derived.OpenShut
import Derived.SliceStrings
import Derived.Lib.SmallJoins
import Derived.Deep.SlicePairs
import Derived.ChangeSlices
import Derived.WideKeyEntry
import Derived.Tactics2
import Derived.Defers
import Derived.Recover
import Derived.Shelf.Strconv.Itoa0
import Derived.Shelf.Strconv.Itoa1
import Derived.Shelf.LaysM
import Derived.Shelf.Strconv.Itoa2
import Derived.Shelf.Strconv.Itoa3
import Derived.Maps.AppendAt
import Derived.Lib.Bytealg
import Derived.Deep.RegionLaw
namespace Go.Proofs.YtmhhbnnjilbdnaaGreatDoor
open Go.RowKit Go.ChangeMaps
set_option linter.unusedSimpArgs false

def newE (p : Pl) (B : Nat) (e : Ending) (w' : World) : Prop :=
  (rightB p = false ∧ e = .returned (.tuple #[.pointer none, .int .i64 4])) ∨ ∃ v l, rightB p = true ∧ letF p.lets.data.toList = some l ∧ e = .returned (.tuple #[v, .int .i64 0]) ∧ MapObj w' B v p l

theorem not_take {P : List St} (hn : P.Nodup) {k : Nat} {s : St} (h : P[k]? = some s) : s ∉ P.take k := by
  intro hm
  obtain ⟨j, hj⟩ := List.mem_iff_getElem?.1 hm
  rw [List.getElem?_take] at hj
  split at hj
  · have h1 := idxOf_get hn h
    have h2 := idxOf_get hn hj
    omega
  · cases hj

theorem own_take {w : World} {B : Nat} {P : List St} {k g cap : Nat} {s : St} (hk : (P.take k).length = k) (h : P[k]? = some s) (ho : w.ownsRow B 46 2 (.slice (some ⟨g, 0, none⟩) (k + 1) cap) (k + 1) ((P.take k).flatMap stC ++ seatC s.1 s.2)) : OwnS w B (.slice (some ⟨g, 0, none⟩) (k + 1) cap) (P.take (k + 1)) := by
  unfold OwnS
  rw [take_get h, List.length_append, hk, List.flatMap_append]
  have e : [s].flatMap stC = seatC s.1 s.2 := by simp [stC]
  rw [e]
  exact ho

theorem hat_own {W : World} {v : Value} {g n cap H : Nat} (hs : W.heap.size = H) (h : v.ownBlock = some g ∨ g = H) : (Value.slice (some ⟨g, 0, none⟩) n cap).ownBlock = v.ownBlock ∨ ∀ k, (Value.slice (some ⟨g, 0, none⟩) n cap).ownBlock = some k → W.heap.size ≤ k := by
  rcases h with h | h
  · exact .inl h.symm
  · refine .inr fun k hk => ?_
    have hk2 : g = k := by injection hk
    omega

set_option maxRecDepth 20000 in
set_option maxHeartbeats 16000000 in
theorem new_any (p : Pl) (ve vb : Value) (w : World) (he : HasE intC w ve p.exits) (hb : HasE stC w vb p.bks) (hsz : p.lets.size ≤ 1000000) (hx : p.exits.length ≤ 100000) (hbk : p.bks.length ≤ 100000) :
    Calls Tryz.prog 42 #[planV p ve vb] w fun e w' => newE p w.heap.size e w' ∧ Below w.heap.size w w' := by
  have hszm : p.lets.size ≤ maxLen := Nat.le_trans hsz (by unfold maxLen; omega)
  have HCH : RowKit.Hid (∀ W, HasE intC W ve p.exits → HasE stC W vb p.bks → Calls Tryz.prog 70 #[planV p ve vb] W fun e w' => e = .returned (.int .i64 (errOf (rightB p))) ∧ Below W.heap.size W w') := Lib.hid fun W h1 h2 => check_any p ve vb W h1 h2 hszm hx hbk
  have HLT : RowKit.Hid (∀ W, Calls Tryz.prog 71 #[.string p.lets] W fun e w' => e = .returned (.tuple #[.string (strOf ((letF p.lets.data.toList).getD [])), .bool (letF p.lets.data.toList).isSome]) ∧ Below W.heap.size W w') := Lib.hid fun W => letters_any_c p.lets W hszm
  have HBL := Lib.hid (planC_blk w p ve vb)
  cases hr : rightB p with
  | false =>
    obtain ⟨a, b, q, x, bk⟩ := p
    obtain ⟨pe, ce, rfl⟩ := he.len
    obtain ⟨pb, cb, rfl⟩ := hb.len
    rw [hr] at HCH
    simp only at he hb hsz hx hbk hszm HCH HLT ⊢
    obtain ⟨w1, e1, a0, a1, a2, a3, a4, hb1, hz1⟩ := plan_boxed w a b q (.slice pe x.length ce) (.slice pb bk.length cb)
    unfold planC at HBL
    simp only at HBL
    rw [e1] at HBL
    have HC := Lib.hid (HCH.out w1 (he.mono hb1) (hb.mono hb1))
    have HB := Lib.hid hb1
    unfold planV at HC ⊢
    have HR := Lib.hid hr
    clear he hb hr HCH a0 a1 a2 a3 a4 hb1 hz1
    go_enter Tryz.func42, Tryz.ntmps42
    go_wp2_with (first
      | (refine wpList_load_mid rfl 58 (.tmp 1) rfl w.heap.size 0 rfl _ _ HBL.out.range Tryz.underlying58 rfl info_plan ?_)
      | (go_at_call 70; (with_reducible refine HC.out.mono ?_); rintro e w2 ⟨rfl, hb2⟩))
    go_ret2
    exact ⟨.inl ⟨HR.out, rfl⟩, bel_trans HB.out hb2⟩
  | true =>
    obtain ⟨l, hl, hrp⟩ := rightB_some hr
    have HR := Lib.hid hr
    have HLL := Lib.hid hl
    have HPN := Lib.hid (placesL_nodup p.first p.last (letF_rises hl))
    have hpl := right_places hrp hl
    obtain ⟨l1, l2, _, _⟩ := letF_some hl
    obtain ⟨r1, r2, r3, r4, _, r6⟩ := hrp
    have HMK : RowKit.Hid (∀ (W : World) (s : St), HasE intC W ve p.exits → s.2 ∈ l → Calls Tryz.prog 72 #[planV p ve vb, seatK_c s] W fun e w' => e = .returned (.string (strOf (marksL p.lets.data.toList p.exits s))) ∧ Below W.heap.size W w') := Lib.hid fun W s h1 h2 => marks_any p ve vb s l W h1 hl h2 hsz hx
    have HG : RowKit.Hid (∀ i j, i < (p.last + 1 - p.first).toNat → j < l.length → (placesL p.first p.last l)[i * l.length + j]? = some (p.first + (i : Int), l.getD j 0)) := Lib.hid fun i j hi hj => placesL_get hi (by rw [List.getD_eq_getElem?_getD, List.getElem?_eq_getElem hj]; rfl)
    have HL : RowKit.Hid ((placesL p.first p.last l).length = (p.last + 1 - p.first).toNat * l.length) := Lib.hid (placesL_len _ _ l)
    have HBIN : RowKit.Hid (∀ i, i < p.bks.length → p.bks.getD i st0 ∈ placesL p.first p.last l) := Lib.hid fun i hi => by
      obtain ⟨h1, h2, h3, _⟩ := r6 i hi
      exact mem_placesL.2 ⟨h1, h2, h3⟩
    have HMG : RowKit.Hid (∀ s, markG p l s = ⟨atL (placesL p.first p.last l) s, false, strOf (marksL p.lets.data.toList p.exits s)⟩) := Lib.hid fun s => rfl
    have HN0 := Lib.hid (markN_zero p l)
    have HNA := Lib.hid (markN_all p l)
    have HNS : RowKit.Hid (∀ n, n < p.bks.length → ∀ s, setF (markN p l n) (p.bks.getD n st0) ⟨(markN p l n (p.bks.getD n st0)).num, true, ⟨#[]⟩⟩ s = markN p l (n + 1) s) := Lib.hid fun n h s => markN_set h s
    have HFIN : RowKit.Hid (∀ (w' : World) B g b vl, B ≥ w.heap.size → Stage w' B g b vl (placesL p.first p.last l) (placesL p.first p.last l) (markF p l) → newE p w.heap.size (.returned (.tuple #[.pointer (some ⟨g, 0, none⟩), .int .i64 0])) w') := Lib.hid fun w' B g b vl hB h => .inr ⟨_, l, hr, hl, rfl, g, b, vl, rfl, ⟨Nat.le_trans hB h.hg, Nat.le_trans hB h.hb, h.blk, h.map, own_low h.own hB⟩⟩
    rw [hr] at HCH
    rw [hl] at HLT
    obtain ⟨a, b, q, x, bk⟩ := p
    obtain ⟨pe, ce, rfl⟩ := he.len
    obtain ⟨pb, cb, rfl⟩ := hb.len
    simp only at he hb hsz hx hbk hszm HCH HLT HMK HG HL HBIN HMG HN0 HNA HNS HFIN HPN hpl r1 r2 r3 r4 r6 ⊢
    obtain ⟨w1, e1, a0, a1, a2, a3, a4, hb1, hz1⟩ := plan_boxed w a b q (.slice pe x.length ce) (.slice pb bk.length cb)
    unfold planC at HBL
    simp only at HBL
    rw [e1] at HBL
    have HC := Lib.hid (HCH.out w1 (he.mono hb1) (hb.mono hb1))
    have HE := Lib.hid (he.mono hb1)
    have HS := Lib.hid (hb.mono hb1)
    have HB := Lib.hid hb1
    have HZ := Lib.hid hz1
    unfold planV at HC HMK ⊢
    have hstr : (strOf l).size = l.length := rfl
    have hgl : ∀ j (h : j < (strOf l).size), (strOf l)[j] = l.getD j 0 := fun j h => get_list (strOf l) j h
    have hsl : (strOf l).data.toList = l := by simp [strOf]
    have HPM : RowKit.Hid (∀ s, s ∈ placesL a b l → s.2 ∈ l) := Lib.hid fun s h => (mem_placesL.1 h).2.2
    generalize markG ⟨a, b, q, x, bk⟩ l = mg at *
    generalize markN ⟨a, b, q, x, bk⟩ l = mn at *
    generalize markF ⟨a, b, q, x, bk⟩ l = mf at *
    generalize placesL a b l = P at *
    generalize hxN : x.length = N at *
    generalize hbM : bk.length = M at *
    generalize hn : l.length = n at *
    generalize hRR : (b + 1 - a).toNat = R at *
    have HRR := Lib.hid hRR
    have HBM := Lib.hid hbM
    clear he hb hr hl HCH hb1 hz1 r6 hgl hRR hxN hbM
    have hmk : ∀ W, (Instr.makeMap 128 none).run Tryz.prog W = .ok (.map (some W.heap.size)) (W.alloc (.map #[] 0)) := fun W => run_makeMap _ W
    go_enter Tryz.func42, Tryz.ntmps42
    go_upto_region 6 with (first
      | (refine wpList_load_mid rfl 58 (.tmp 1) rfl w.heap.size 0 rfl _ _ HBL.out.range Tryz.underlying58 rfl info_plan ?_)
      | (go_at_call 70; (with_reducible refine HC.out.mono ?_); rintro e w2 ⟨rfl, hb2⟩; have c2 := cell_bel hb2 a2)
      | (go_at_call 71; (with_reducible refine (HLT.out _).mono ?_); rintro e w3 ⟨rfl, hb3⟩))
    have HP : RowKit.Hid (∀ W, Below w3.heap.size w3 W → (W.cell? ⟨w.heap.size, 0, none⟩ = some (.int .i64 a) ∧ W.cell? ⟨w.heap.size, 1, none⟩ = some (.int .i64 b) ∧ W.cell? ⟨w.heap.size, 2, none⟩ = some (.string q) ∧ W.cell? ⟨w.heap.size, 3, none⟩ = some (.slice pe N ce) ∧ W.cell? ⟨w.heap.size, 4, none⟩ = some (.slice pb M cb)) ∧ HasE intC W (.slice pe N ce) x ∧ HasE stC W (.slice pb M cb) bk) := Lib.hid fun W h =>
      have h1 := bel_trans (bel_trans hb2 hb3) h
      ⟨⟨cell_bel h1 a0, cell_bel h1 a1, cell_bel h1 a2, cell_bel h1 a3, cell_bel h1 a4⟩, HE.out.mono h1, HS.out.mono h1⟩
    have hbw3 := bel_trans (bel_trans HB.out hb2) hb3
    have HST : RowKit.Hid (Stage ((w3.alloc (.map #[] 0)).alloc (.cells #[.map (some w3.heap.size), .slice none 0 0] 130)) w3.heap.size (w3.heap.size + 1) w3.heap.size (.slice none 0 0) [] [] mg) := Lib.hid (by
      refine ⟨by omega, Nat.le_refl _, ?_, (MapF.made w3 mg).alloc _, OwnS.nil _ _⟩
      have h1 := Blk.new (w3.alloc (.map #[] 0)) 130 [.map (some w3.heap.size), .slice none 0 0]
      have h2 : (w3.alloc (.map #[] 0)).heap.size = w3.heap.size + 1 := by simp
      rw [h2] at h1
      exact h1)
    have hb4 : Below w3.heap.size w3 ((w3.alloc (.map #[] 0)).alloc (.cells #[.map (some w3.heap.size), .slice none 0 0] 130)) := ((Below.refl _ _).alloc (Nat.le_refl _) _).alloc (by simp) _
    generalize ((w3.alloc (Obj.map #[] 0)).alloc (Obj.cells #[Value.map (some w3.heap.size), Value.slice none 0 0] 130)) = w4 at *
    obtain ⟨⟨k0, k1, k2, k3, k4⟩, _, _⟩ := HP.out w4 hb4
    have HB3 := Lib.hid hbw3
    clear e1 a0 a1 a2 a3 a4 c2 HC HLT HBL HB HE HS hb2 hb3 hbw3 hmk
    generalize hB : w3.heap.size = B at *
    go_wp2
    go_loopg [8] R (fun g0 r wr => ∃ (i : Nat) (vl : Value), i ≤ R ∧ g0 = R - i ∧ r = .int .i64 (a + (i : Int)) ∧ Stage wr B (B + 1) B vl (P.take (i * n)) (P.take (i * n)) mg ∧ Below B w3 wr)
    case atStart => exact ⟨0, _, Nat.zero_le _, rfl, by go_num, by rw [Nat.zero_mul]; exact HST.out, hb4⟩
    case round =>
      obtain ⟨i, vl, hi, rfl, rfl, hst, hb5⟩ := hrel
      have HST5 := Lib.hid hst
      clear hst
      obtain ⟨⟨d0, d1, d2, d3, d4⟩, _, _⟩ := HP.out wr hb5
      by_cases hlt : i < R
      · have hir : a + (i : Int) ≤ b := by have := HRR.out; omega
        have hi0 : (0 : Int) ≤ (i : Int) := by omega
        obtain ⟨w6, cap, hconv, hb6, hz6, hbyt⟩ := bytes_conv2 (strOf l) wr
        rw [hsl] at hbyt
        have hst6 := HST5.out.mono hb6
        generalize hbc : wr.heap.size = bc at hconv hbyt
        have hb36 : Below B w3 w6 := by
          have hsz := hb5.size
          exact hb5.trans (hb6.mono (by omega))
        have HST6 := Lib.hid hst6
        have HBY := Lib.hid hbyt
        clear hst6 hbyt hz6 hb6 d2 d3 d4
        go_wp2
        go_loopg [40] n (fun g0 jv wr2 => ∃ (j : Nat) (vl : Value), j ≤ n ∧ g0 = n - j ∧ jv = .int .i64 (j : Int) ∧ Stage wr2 B (B + 1) B vl (P.take (i * n + j)) (P.take (i * n + j)) mg ∧ Below B w3 wr2 ∧ Byt wr2 bc l)
        case atStart => exact ⟨0, _, Nat.zero_le _, rfl, rfl, HST6.out, hb36, HBY.out⟩
        case round =>
          obtain ⟨j, vl7, hj, rfl, rfl, hst7, hb7, hby7⟩ := hrel
          by_cases hjn : j < n
          · have hji : (j : Int) < (n : Int) := by omega
            have hj0 : (0 : Int) ≤ (j : Int) := by omega
            have hcj := hby7.cell (j := j) (by rw [hn]; exact hjn)
            have HGJ := Lib.hid (HG.out i j hlt hjn)
            have HST7 := Lib.hid hst7
            have HBY7 := Lib.hid hby7
            clear hst7 hby7
            generalize l.getD j 0 = c at *
            generalize hkk : i * n + j = kk at *
            have HKK := Lib.hid hkk
            clear hkk
            go_upto_region 13 with (first
              | (refine wpList_store_blk rfl 46 (.tmp 11) (.tmp 46) rfl wr.heap.size 46 (seatC 0 0) (seatC (a + (i : Int)) c) rfl rfl (Blk.new wr 46 (seatC 0 0)) rfl info_seat seatC_one ?_; intro w8 ha8 hb8 _))
            dsimp only [Act.put]
            have hb18 : Below wr.heap.size wr w8 := (((Below.refl _ _).alloc (Nat.le_refl _) _).trans hb8)
            have hwB : B ≤ wr.heap.size := Nat.le_of_lt HST7.out.map.lt
            have hph : Ph w3 B vl7 (P.take (kk)) mg bc l wr.heap.size (a + (i : Int), c) w8 := .inl ⟨hb7.trans (hb18.mono hwB), HST7.out.mono hb18, HBY7.out.mono hb18, ha8⟩
            obtain ⟨p7, c7, rfl⟩ := HST7.out.own.has.len
            have hlenk : (P.take (kk)).length = kk := by
              have h1 := HL.out
              have h2 : kk < P.length := (List.getElem?_eq_some_iff.1 HGJ.out).1
              rw [List.length_take]
              omega
            rw [hlenk] at hph HST7
            have HALL : RowKit.Hid (∀ W, Ph w3 B (.slice p7 (kk) c7) (P.take (kk)) mg bc l wr.heap.size (a + (i : Int), c) W → Ph w3 B (.slice p7 (kk) c7) (P.take (kk)) mg bc l wr.heap.size (a + (i : Int), c) W ∧ (W.cell? ⟨w.heap.size, 0, none⟩ = some (.int .i64 a) ∧ W.cell? ⟨w.heap.size, 1, none⟩ = some (.int .i64 b) ∧ W.cell? ⟨w.heap.size, 2, none⟩ = some (.string q) ∧ W.cell? ⟨w.heap.size, 3, none⟩ = some (.slice pe N ce) ∧ W.cell? ⟨w.heap.size, 4, none⟩ = some (.slice pb M cb)) ∧ W.cell? ⟨wr.heap.size, 0, none⟩ = some (.int .i64 (a + (i : Int))) ∧ W.cell? ⟨wr.heap.size, 1, none⟩ = some (.int .u8 c.toNat) ∧ W.cell? ⟨B + 1, 0, none⟩ = some (.map (some B)) ∧ W.cell? ⟨B + 1, 1, none⟩ = some (.slice p7 (kk) c7)) := Lib.hid fun W h => ⟨h, (HP.out W h.low).1, h.cells⟩
            have hS0 := HALL.out _ hph
            have hS1 := HALL.out _ (hph.mono (Below.refl _ _).drew)
            have hkP : (a + (i : Int), c) ∈ P := List.mem_of_getElem? HGJ.out
            have hcl : c ∈ l := HPM.out _ hkP
            have hnot : (a + (i : Int), c) ∉ P.take (kk) := not_take HPN.out HGJ.out
            have hok : okRow (a + (i : Int)) := by
              have h1 : i < R := hlt
              have := HRR.out
              unfold okRow
              simp [Lit.wf, IntKind.min, IntKind.max, show IntKind.i64.signed = true from rfl, show IntKind.i64.bits = 64 from rfl]
              omega
            have HM2 : RowKit.Hid (∀ W, Ph w3 B (.slice p7 (kk) c7) (P.take (kk)) mg bc l wr.heap.size (a + (i : Int), c) W → Calls Tryz.prog 72 #[.agg #[.int .i64 a, .int .i64 b, .string q, .slice pe N ce, .slice pb M cb], .agg #[.int .i64 (a + (i : Int)), .int .u8 c.toNat]] W fun e w' => e = .returned (.string (mg (a + (i : Int), c)).txt) ∧ Below W.heap.size W w') := Lib.hid fun W h => by
              rw [HMG.out]
              exact HMK.out W (a + (i : Int), c) (HP.out W h.low).2.1 hcl
            have hmv : RowKit.Hid (markV (mg (a + (i : Int), c)) = .agg #[.int .i64 ((kk : Nat) : Int), .bool false, .string (mg (a + (i : Int), c)).txt]) := Lib.hid (by
              have h1 := atL_get HPN.out HGJ.out
              unfold markV
              rw [HMG.out]
              simp only [h1])
            have HPH9 : RowKit.Hid (∀ W, Ph w3 B (.slice p7 (kk) c7) (P.take (kk)) mg bc l wr.heap.size (a + (i : Int), c) W → ∃ w', (Instr.mapUpdate 128 (.map (some B)) (.agg #[.int .i64 (a + (i : Int)), .int .u8 c.toNat]) (.agg #[.int .i64 (kk : Nat), .bool false, .string (mg (a + (i : Int), c)).txt])).run Tryz.prog W = .ok () w' ∧ Rd w3 B (.slice p7 kk c7) (P.take kk) (P.take kk ++ [(a + (i : Int), c)]) mg bc l wr.heap.size (a + (i : Int), c) w' ∧ W.grownBy w' (some B)) := Lib.hid fun W h => by
              have := h.put hok hnot
              rw [hmv.out] at this
              exact this
            go_region_held3 (fun W => Ph w3 B (.slice p7 (kk) c7) (P.take (kk)) mg bc l wr.heap.size (a + (i : Int), c) W ∧ (W.cell? ⟨w.heap.size, 0, none⟩ = some (.int .i64 a) ∧ W.cell? ⟨w.heap.size, 1, none⟩ = some (.int .i64 b) ∧ W.cell? ⟨w.heap.size, 2, none⟩ = some (.string q) ∧ W.cell? ⟨w.heap.size, 3, none⟩ = some (.slice pe N ce) ∧ W.cell? ⟨w.heap.size, 4, none⟩ = some (.slice pb M cb)) ∧ W.cell? ⟨wr.heap.size, 0, none⟩ = some (.int .i64 (a + (i : Int))) ∧ W.cell? ⟨wr.heap.size, 1, none⟩ = some (.int .u8 c.toNat) ∧ W.cell? ⟨B + 1, 0, none⟩ = some (.map (some B)) ∧ W.cell? ⟨B + 1, 1, none⟩ = some (.slice p7 (kk) c7))
              (first
                | exact hS0
                | exact hS1
                | assumption
                | exact HALL.out _ ((show Ph _ _ _ _ _ _ _ _ _ _ ∧ _ by assumption).1.mono hb9)
                | exact HALL.out _ (.inr hr10))
              (first
                | (go_at_call 72; (with_reducible refine (HM2.out _ (show Ph _ _ _ _ _ _ _ _ _ _ ∧ _ by assumption).1).mono ?_); rintro e w9 ⟨rfl, hb9⟩; obtain ⟨w10, hrun10, hr10, hg10⟩ := HPH9.out _ ((show Ph _ _ _ _ _ _ _ _ _ _ ∧ _ by assumption).1.mono hb9)))
            clear hS0 hS1 hph HPH9 HM2 HALL HST7 HBY7 hb18 ha8 hb8 hrun10 hg10 hb9 hb7 hmv
            have hm10 := (hr10.stg.blk.cell 0).trans rfl
            have m0 : w10.cell? ⟨B + 1, 0, none⟩ = some (.map (some B)) := (hr10.stg.blk.cell 0).trans rfl
            have m1 : w10.cell? ⟨B + 1, 1, none⟩ = some (.slice p7 kk c7) := (hr10.stg.blk.cell 1).trans rfl
            have s0 : w10.cell? ⟨wr.heap.size, 0, none⟩ = some (.int .i64 (a + (i : Int))) := (hr10.blk.cell 0).trans rfl
            have s1 : w10.cell? ⟨wr.heap.size, 1, none⟩ = some (.int .u8 c.toNat) := (hr10.blk.cell 1).trans rfl
            obtain ⟨i0, hi7, hz7, hsz7, hby7⟩ := seat_info
            clear hm10
            go_upto_region 14 with fail
            have hb11 : Below w10.heap.size w10 (w10.alloc (.cells #[.int .i64 (a + (i : Int)), .int .u8 c.toNat] 46)).drew := ((Below.refl _ _).alloc (Nat.le_refl _) _).drew
            have hr11 := hr10.mono hb11
            have hoa := hr11.stg.own
            unfold OwnS at hoa
            rw [hlenk] at hoa
            have hnews : ∀ (j : Nat) (u : Value), (seatC (a + (i : Int)) c)[j]? = some u → (w10.alloc (.cells #[.int .i64 (a + (i : Int)), .int .u8 c.toNat] 46)).drew.cell? (Addr.add ⟨w10.heap.size, 0, none⟩ j) = some u := seat_news w10 (a + (i : Int), c)
            have hk600 : kk < 600 := by
              have h2 : kk < P.length := (List.getElem?_eq_some_iff.1 HGJ.out).1
              omega
            have HR11 := Lib.hid hr11
            have hbase : B ≤ (w10.alloc (.cells #[.int .i64 (a + (i : Int)), .int .u8 c.toNat] 46)).drew.heap.size := Nat.le_of_lt hr11.stg.map.lt
            have hsz11 : (w10.alloc (.cells #[.int .i64 (a + (i : Int)), .int .u8 c.toNat] 46)).drew.heap.size = w10.heap.size + 1 := by simp
            have m1a : (w10.alloc (.cells #[.int .i64 (a + (i : Int)), .int .u8 c.toNat] 46)).cell? ⟨B + 1, 1, none⟩ = some (.slice p7 kk c7) := (hr11.stg.blk.cell 1).trans rfl
            clear hr11 hb11
            go_region_law (first
              | (refine step_append_lies _ (by rfl) _ _ _ (by rfl) B 46 i0 _ 2 16 Tryz.underlying56 hi7 hz7 hsz7 hby7 rfl (by decide) (.slice p7 kk c7) kk ((P.take kk).flatMap stC) (by rfl) hoa ⟨w10.heap.size, 0, none⟩ 1 1 (seatC (a + (i : Int)) c) (by rfl) (by rfl) hnews seatC_one (by decide) (by unfold maxLen; omega) (by omega) hbase (w10.heap.size + 1) hsz11 ?_
                 intro gg cap11 w11 ho11 hg11 hat11 hlt11
                 have n1 : w11.cell? ⟨B + 1, 1, none⟩ = some (.slice p7 kk c7) := ((HR11.out.field hg11).cell 1).trans rfl
                 have n2 := (HR11.out.field hg11).frozen 1))
            all_goals
              have hfin := HR11.out.append (v' := .slice (some ⟨gg, 0, none⟩) (kk + 1) cap11) (pl' := P.take (kk + 1)) (own_take hlenk HGJ.out ho11) hg11 (hat_own hsz11 hat11)
              have htk := take_get HGJ.out
              rw [← htk] at hfin
              go_wp2
              go_roundg (n - (j + 1))
              case measure => omega
              case rel => exact ⟨j + 1, _, by omega, rfl, by go_num, by rw [show i * n + (j + 1) = kk + 1 by have := HKK.out; omega]; exact hfin.1, hfin.2.1, hfin.2.2⟩
          · have hjn2 : j = n := by omega
            subst hjn2
            have hji : ¬ (j : Int) < (j : Int) := by omega
            go_wp2
            go_roundg (R - (i + 1))
            case measure => omega
            case rel => exact ⟨i + 1, _, by omega, rfl, by go_num, by rw [Nat.succ_mul]; exact hst7, hb7⟩
      · have hie : i = R := by omega
        subst hie
        have hir : ¬ a + (i : Int) ≤ b := by have := HRR.out; omega
        have HST8 : RowKit.Hid (Stage wr B (B + 1) B vl P P (mn 0)) := Lib.hid (by
          have h1 := HST5.out
          rw [← HL.out, List.take_length] at h1
          exact h1.congr fun s _ => (HN0.out s).symm)
        clear HST5 HG HMG HPN HPM HMK HRR
        go_wp2
        go_loopg [75] M (fun g0 kv wr2 => ∃ (k : Nat), k ≤ M ∧ g0 = M - k ∧ kv = .int .i64 (k : Int) ∧ Stage wr2 B (B + 1) B vl P P (mn k) ∧ Below B w3 wr2)
        case atStart => exact ⟨0, Nat.zero_le _, rfl, rfl, HST8.out, hb5⟩
        case round =>
          obtain ⟨k, hk, rfl, rfl, hst9, hb9⟩ := hrel
          have HST9 := Lib.hid hst9
          clear hst9
          by_cases hlt9 : k < M
          · have hki : (k : Int) < (M : Int) := by omega
            have hk0 : (0 : Int) ≤ (k : Int) := by omega
            obtain ⟨bb, off, rfl, hr, _, _⟩ := st_at (HP.out _ hb9).2.2 (i := k) (by rw [HBM.out]; exact hlt9)
            have HIN := Lib.hid (HBIN.out k hlt9)
            have HNX := Lib.hid (HNS.out k hlt9)
            generalize bk.getD k st0 = s at *
            go_upto_region 19 with (first
              | (refine wpList_load_mid rfl 46 _ rfl bb (off + k * 2) rfl [.int .i64 s.1, .int .u8 s.2.toNat] _ hr Tryz.underlying46 rfl info_seat ?_)
              | (refine wpList_store_blk rfl 46 (.tmp 13) (.tmp 78) rfl wr.heap.size 46 (seatC 0 0) (seatC s.1 s.2) rfl rfl (Blk.new wr 46 (seatC 0 0)) rfl info_seat seatC_one ?_; intro w8 ha8 hb8 _))
            dsimp only [Act.put]
            have hb18 : Below wr.heap.size wr w8 := (((Below.refl _ _).alloc (Nat.le_refl _) _).trans hb8)
            have hwB : B ≤ wr.heap.size := Nat.le_of_lt HST9.out.map.lt
            have hq8 : Rq w3 B vl P (mn k) wr.heap.size s w8 := ⟨hb9.trans (hb18.mono hwB), HST9.out.mono hb18, ha8⟩
            have hqd : Rq w3 B vl P (mn k) wr.heap.size s w8.drew := hq8.mono (Below.refl _ _).drew
            have hqa : ∀ o, Rq w3 B vl P (mn k) wr.heap.size s (w8.alloc o).drew := fun o => hq8.mono ((Below.refl _ _).alloc (Nat.le_refl _) o).drew
            have HA : RowKit.Hid (∀ W, Rq w3 B vl P (mn k) wr.heap.size s W → Rq w3 B vl P (mn k) wr.heap.size s W ∧ W.cell? ⟨wr.heap.size, 0, none⟩ = some (.int .i64 s.1) ∧ W.cell? ⟨wr.heap.size, 1, none⟩ = some (.int .u8 s.2.toNat) ∧ W.cell? ⟨B + 1, 0, none⟩ = some (.map (some B))) := Lib.hid fun W h => ⟨h, h.cells⟩
            have hl1 := hqd.look HIN.out
            have hl2 := (hqa (.cells #[.int .i64 0, .bool false, .string ⟨#[]⟩] 133)).look HIN.out
            have hS0 := HA.out _ hqd
            have HQA := Lib.hid hqa
            have HQ8 := Lib.hid hq8
            clear hqa hqd hq8
            go_region_held3 (fun W => Rq w3 B vl P (mn k) wr.heap.size s W ∧ W.cell? ⟨wr.heap.size, 0, none⟩ = some (.int .i64 s.1) ∧ W.cell? ⟨wr.heap.size, 1, none⟩ = some (.int .u8 s.2.toNat) ∧ W.cell? ⟨B + 1, 0, none⟩ = some (.map (some B)))
              (first
                | exact hS0
                | assumption
                | exact HA.out _ (HQA.out _))
              (first
                | (go_at_call 72; skip))
            all_goals
              clear hl1 hl2 hS0
              go_upto_region 21 with fail
              have hq9 := HQA.out (.cells #[.int .i64 (mn k s).num, .bool true, .string ⟨#[]⟩] 133)
              have hk0' : (w8.alloc (.cells #[.int .i64 (mn k s).num, .bool true, .string ⟨#[]⟩] 133)).drew.cell? ⟨w8.heap.size, 0, none⟩ = some (.int .i64 (mn k s).num) := World.cell?_alloc_new _ _ _ _
              have hk1' : (w8.alloc (.cells #[.int .i64 (mn k s).num, .bool true, .string ⟨#[]⟩] 133)).drew.cell? ⟨w8.heap.size, 1, none⟩ = some (.bool true) := World.cell?_alloc_new _ _ _ _
              have hk2' : (w8.alloc (.cells #[.int .i64 (mn k s).num, .bool true, .string ⟨#[]⟩] 133)).drew.cell? ⟨w8.heap.size, 2, none⟩ = some (.string ⟨#[]⟩) := World.cell?_alloc_new _ _ _ _
              generalize (w8.alloc (Obj.cells #[Value.int IntKind.i64 (mn k s).num, Value.bool true, Value.string ⟨#[]⟩] 133)).drew = w9 at *
              obtain ⟨w10, hrun10, hst10, hb10, hg10⟩ := (hq9.mono (Below.refl _ _).drew).put ⟨(mn k s).num, true, ⟨#[]⟩⟩ HIN.out
              obtain ⟨q0, q1, q2⟩ := hq9.cells
              have hne1 := hq9.sne
              have hne2 : w8.heap.size ≠ B := by
                have := HQ8.out.stg.map.lt
                omega
              have hne3 : B + 1 ≠ B := by omega
              have hR10 : w9.drew.cell? ⟨wr.heap.size, 0, none⟩ = some (.int .i64 s.1) ∧ w9.drew.cell? ⟨wr.heap.size, 1, none⟩ = some (.int .u8 s.2.toNat) ∧ w9.drew.cell? ⟨B + 1, 0, none⟩ = some (.map (some B)) ∧ w9.drew.cell? ⟨w8.heap.size, 0, none⟩ = some (.int .i64 (mn k s).num) ∧ w9.drew.cell? ⟨w8.heap.size, 1, none⟩ = some (.bool true) ∧ w9.drew.cell? ⟨w8.heap.size, 2, none⟩ = some (.string ⟨#[]⟩) := ⟨q0, q1, q2, hk0', hk1', hk2'⟩
              have hR11 : w10.cell? ⟨wr.heap.size, 0, none⟩ = some (.int .i64 s.1) ∧ w10.cell? ⟨wr.heap.size, 1, none⟩ = some (.int .u8 s.2.toNat) ∧ w10.cell? ⟨B + 1, 0, none⟩ = some (.map (some B)) ∧ w10.cell? ⟨w8.heap.size, 0, none⟩ = some (.int .i64 (mn k s).num) ∧ w10.cell? ⟨w8.heap.size, 1, none⟩ = some (.bool true) ∧ w10.cell? ⟨w8.heap.size, 2, none⟩ = some (.string ⟨#[]⟩) :=
                ⟨far_cell hg10 hR10.1 hne1, far_cell hg10 hR10.2.1 hne1, far_cell hg10 hR10.2.2.1 hne3, far_cell hg10 hR10.2.2.2.1 hne2, far_cell hg10 hR10.2.2.2.2.1 hne2, far_cell hg10 hR10.2.2.2.2.2 hne2⟩
              have HFN : RowKit.Hid (Stage w10 B (B + 1) B vl P P (mn (k + 1)) ∧ Below B w3 w10) := Lib.hid ⟨hst10.congr fun s' _ => HNX.out s', hb10⟩
              clear hq9 hst10 hb10 hg10 hne1 hne2 hne3 q0 q1 q2 hk0' hk1' hk2' HQ8 HQA HA HNX HIN ha8 hb8 hb18 hr HST9
              go_region_held3 (fun W => W.cell? ⟨wr.heap.size, 0, none⟩ = some (.int .i64 s.1) ∧ W.cell? ⟨wr.heap.size, 1, none⟩ = some (.int .u8 s.2.toNat) ∧ W.cell? ⟨B + 1, 0, none⟩ = some (.map (some B)) ∧ W.cell? ⟨w8.heap.size, 0, none⟩ = some (.int .i64 (mn k s).num) ∧ W.cell? ⟨w8.heap.size, 1, none⟩ = some (.bool true) ∧ W.cell? ⟨w8.heap.size, 2, none⟩ = some (.string ⟨#[]⟩))
                (first
                  | exact hR10
                  | exact hR11)
                (first
                  | (go_at_call 72; skip))
              go_wp2
              go_roundg (M - (k + 1))
              case measure => omega
              case rel => exact ⟨k + 1, by omega, rfl, by go_num, HFN.out.1, HFN.out.2⟩
          · have hkM : k = M := by omega
            subst hkM
            have hki : ¬ (k : Int) < (k : Int) := by omega
            go_wp2
            go_ret2
            refine ⟨HFIN.out _ B (B + 1) B vl (by have := HB3.out.size; omega) (HST9.out.congr fun s _ => HNA.out s), HB3.out.trans (hb9.mono (by have := HB3.out.size; omega))⟩
end Go.Proofs.YtmhhbnnjilbdnaaGreatDoor
