/- plan.marks. -/
import Derived.Test.YtmhhbnnjilbdnaaGreatDoorKA
import Derived.Test.YtmhhbnnjilbdnaaGreatDoorKE
import Derived.Test.YtmhhbnnjilbdnaaGreatDoorKD
import Derived.Test.YtmhhbnnjilbdnaaGreatDoorKF
import Derived.Test.YtmhhbnnjilbdnaaGreatDoorRows
import Derived.WalkKit
import Derived.WalkSpells
import Derived.WalkLawsBesides
import Derived.Lib.ConvBytes
import Derived.Lib.Hide
import Derived.Lib.SliceRun
import Derived.IntWalk
import Derived.BigQuiet
import Derived.Deep.QuietTactic
import Derived.Deep.RegionWith
import Derived.Deep.RegionHeld3
import Derived.Deep.LoopGhost
import Derived.Deep.CutRange
import Derived.Deep.CutBlock
import Derived.Deep.MidRow
import Derived.Laws.OwnMore
import Derived.OwnWalk
import Derived.Laws.AppendOwnNone
import Derived.Laws.Rows
import Derived.Laws.MakeOwn
import Derived.Laws.CopyOwn
import Derived.Laws.BitsAllLaws
import Derived.DeepKeys5
import Derived.Maps.OwnOps
import Derived.Handy
import Derived.Lib.AppendStr
import Derived.StillTailTactics
import Derived.Deep.AppendLies
import Derived.ProofKit
import Derived.OpenShut
import Derived.SliceStrings
import Derived.Lib.SmallJoins
import Derived.Deep.SlicePairs
import Derived.ChangeSlices
import Derived.WideKeyEntry
import Derived.Maps.AppendAt
import Derived.Tactics2
import Derived.Defers
import Derived.Recover
import Derived.Shelf.Strconv.Itoa0
import Derived.Shelf.Strconv.Itoa1
import Derived.Shelf.LaysM
import Derived.Shelf.Strconv.Itoa2
import Derived.Shelf.Strconv.Itoa3
import Derived.Lib.Bytealg
namespace Go.Proofs.YtmhhbnnjilbdnaaGreatDoor
open Go.RowKit
set_option linter.unusedSimpArgs false

def planC (p : Pl) (ve vb : Value) : List Value := [.int .i64 p.first, .int .i64 p.last, .string p.lets, ve, vb]

/-- A plan as a value; its exits and its blocked places as ve and vb. -/
def planV (p : Pl) (ve vb : Value) : Value := .agg #[.int .i64 p.first, .int .i64 p.last, .string p.lets, ve, vb]

theorem info_plan : (Tryz.prog.info? 58).map (·.size) = some 5 := by kernel_rfl

/-- A boxed plan. -/
theorem plan_boxed (w : World) (a b : Int) (s : ByteArray) (ve vb : Value) : ∃ w1, w.alloc (.cells #[.int .i64 a, .int .i64 b, .string s, ve, vb] 58) = w1 ∧ w1.cell? ⟨w.heap.size, 0, none⟩ = some (.int .i64 a) ∧ w1.cell? ⟨w.heap.size, 1, none⟩ = some (.int .i64 b) ∧
    w1.cell? ⟨w.heap.size, 2, none⟩ = some (.string s) ∧ w1.cell? ⟨w.heap.size, 3, none⟩ = some ve ∧ w1.cell? ⟨w.heap.size, 4, none⟩ = some vb ∧ Below w.heap.size w w1 ∧ w1.heap.size = w.heap.size + 1 :=
  ⟨_, rfl, World.cell?_alloc_new _ _ _ _, World.cell?_alloc_new _ _ _ _, World.cell?_alloc_new _ _ _ _, World.cell?_alloc_new _ _ _ _, World.cell?_alloc_new _ _ _ _, (Below.refl _ _).alloc (Nat.le_refl _) _, by simp⟩

theorem exE_few (x : List Int) (r : Int) (k : Nat) : (exE (x.take k) r).length ≤ x.length := by
  have h1 := exE_len (x.take k) r
  have h2 : (x.take k).length ≤ x.length := by rw [List.length_take]; omega
  omega

def baseL (bs : List UInt8) (k : Nat) : List UInt8 := (if wOf bs k = true then [87] else []) ++ (if aOf bs k = true then [65] else [])

theorem baseL_len (bs : List UInt8) (k : Nat) : (baseL bs k).length ≤ 2 := by
  unfold baseL
  cases wOf bs k <;> cases aOf bs k <;> decide

theorem strOf_len (l : List UInt8) : (strOf l).size = l.length := rfl

theorem strOf_app (l m : List UInt8) : strOf l ++ strOf m = strOf (l ++ m) := by
  apply str_eq_list
  simp [strOf]

def wStr (b : Bool) : ByteArray := strOf (if b = true then [87] else [])

theorem wStr_len (b : Bool) : (wStr b).size ≤ 1 := by cases b <;> decide

set_option maxRecDepth 20000 in
set_option maxHeartbeats 8000000 in
theorem marks_any (p : Pl) (ve vb : Value) (s : St) (l : List UInt8) (w : World) (he : HasE intC w ve p.exits) (hl : letF p.lets.data.toList = some l) (hm : s.2 ∈ l) (hsz : p.lets.size ≤ 1000000) (hx : p.exits.length ≤ 100000) :
    Calls Tryz.prog 72 #[planV p ve vb, seatK_c s] w fun e w' => e = .returned (.string (strOf (marksL p.lets.data.toList p.exits s))) ∧ Below w.heap.size w w' := by
  obtain ⟨a, b, q, x, bk⟩ := p
  obtain ⟨r, c⟩ := s
  obtain ⟨pe, ce, rfl⟩ := he.len
  simp only at he hl hm hsz hx ⊢
  obtain ⟨hk, hkc, _⟩ := idx_letter hl hm
  have hql : q.data.toList.length = q.size := by simp
  rw [hql] at hk
  obtain ⟨w1, e1, a0, a1, a2, a3, a4, hb1, hz1⟩ := plan_boxed w a b q (.slice pe x.length ce) vb
  obtain ⟨w2, e2, c0, c1, hb2, hz2⟩ := seat_boxed w1 r c
  have hb12 : Below w.heap.size w w2 := bel_trans hb1 hb2
  have HE := Lib.hid (he.mono hb12)
  have HB := Lib.hid hb12
  have d2 := cell_bel hb2 a2
  have d3 := cell_bel hb2 a3
  have HCI : RowKit.Hid (Calls Tryz.prog 82 #[.string q, .int .u8 c.toNat] w2 fun e w' => e = .returned (.int .i64 (q.data.toList.idxOf c : Nat)) ∧ w2 = w') := Lib.hid (by
    have := index_any q c w2
    unfold byteAt at this
    have hmq : c ∈ q.data.toList := by
      rw [← hkc, List.getD_eq_getElem?_getD, List.getElem?_eq_getElem (by rw [hql]; exact hk)]
      exact List.getElem_mem _
    rw [if_pos hmq] at this
    exact this)
  have HML : RowKit.Hid (marksL q.data.toList x (r, c) = baseL q.data.toList (q.data.toList.idxOf c) ++ exE x r) := Lib.hid rfl
  have HBL := Lib.hid (baseL_len q.data.toList (q.data.toList.idxOf c))
  unfold planV seatK_c seatV
  generalize hkk : q.data.toList.idxOf c = k at *
  clear hl hm hkc a0 a1 a2 a3 a4 hz1 hz2 hb1 hb2 hb12 he hkk
  generalize hN : x.length = N at *
  have HN := Lib.hid hN
  clear hN
  have hk0 : (0 : Int) ≤ (k : Int) := by omega
  have hki : (k : Int) < (q.size : Int) := by omega
  go_enter Tryz.func72, Tryz.ntmps72
  go_upto_region 3 with (first
    | (go_at_call 82; (with_reducible refine HCI.out.mono ?_); rintro e w3 ⟨rfl, rfl⟩))
  go_cut [23] from 14 to 66 (fun s23 wx => s23 = .bool (wOf q.data.toList k) ∧ w2 = wx)
  case first =>
    by_cases hk1 : k = 0
    · subst hk1
      go_wp2
      go_meet
      exact ⟨by unfold wOf; simp, rfl⟩
    · have hz : ((k : Int) == 0) = false := by rw [beq_eq_false_iff_ne]; omega
      by_cases hk2 : k + 1 = q.size
      · have hz2 : ((k : Int) == (q.size : Int) - 1) = true := by rw [beq_iff_eq]; omega
        have hW : RowKit.Hid (wOf q.data.toList k = true) := Lib.hid (by unfold wOf; rw [hql]; exact decide_eq_true (.inr hk2))
        clear hk1 hk2
        go_wp2
        go_meet
        exact ⟨by rw [hW.out], rfl⟩
      · have hz2 : ((k : Int) == (q.size : Int) - 1) = false := by rw [beq_eq_false_iff_ne]; omega
        have hW : RowKit.Hid (wOf q.data.toList k = false) := Lib.hid (by unfold wOf; rw [hql]; exact decide_eq_false (by omega))
        clear hk1 hk2
        go_wp2
        go_meet
        exact ⟨by rw [hW.out], rfl⟩
  case rest =>
    obtain ⟨rfl, rfl⟩ := hcut
    have HW : RowKit.Hid (baseL q.data.toList k = (if wOf q.data.toList k = true then [87] else []) ++ (if aOf q.data.toList k = true then [65] else [])) := Lib.hid rfl
    generalize wOf q.data.toList k = bw at *
    go_upto_if 23 with fail
    go_cut [6] from 14 to 66 (fun s6 wx => s6 = .string (wStr bw) ∧ w2 = wx)
    case first =>
      cases bw
      · go_wp2
        go_meet
        exact ⟨rfl, rfl⟩
      · go_wp2
        go_meet
        exact ⟨rfl, rfl⟩
    case rest =>
      obtain ⟨rfl, rfl⟩ := hcut
      go_upto_region 5 with fail
      go_cut [49] from 14 to 66 (fun s49 wx => s49 = .bool (aOf q.data.toList k) ∧ w2 = wx)
      case first =>
        by_cases hk1 : k = 0
        · subst hk1
          have hq0 : ¬ (0 : Nat) < 0 := Nat.lt_irrefl 0
          have HQ0 := Lib.hid hq0
          clear hq0
          by_cases hn : 0 + 1 < q.size
          · have hni : ((0 : Nat) : Int) < (q.size : Int) - 1 := by omega
            have hgn := get_list q (0 + 1) hn
            by_cases h46 : (q.data.toList.getD (0 + 1) 0).toNat = 46
            · have hA : RowKit.Hid (aOf q.data.toList 0 = true) := Lib.hid (by unfold aOf; rw [hql]; exact decide_eq_true (.inr ⟨hn, h46⟩))
              have hb : (((q.data.toList.getD (0 + 1) 0).toNat : Int) == 46) = true := by rw [beq_iff_eq]; omega
              generalize q.data.toList.getD (0 + 1) 0 = y at *
              clear h46
              go_wp2
              go_meet
              exact ⟨by rw [hA.out], rfl⟩
            · have hA : RowKit.Hid (aOf q.data.toList 0 = false) := Lib.hid (by unfold aOf; rw [hql]; exact decide_eq_false fun h => h.elim (fun h => absurd h.1 HQ0.out) (fun h => h46 h.2))
              have hb : (((q.data.toList.getD (0 + 1) 0).toNat : Int) == 46) = false := by rw [beq_eq_false_iff_ne]; omega
              generalize q.data.toList.getD (0 + 1) 0 = y at *
              clear h46
              go_wp2
              go_meet
              exact ⟨by rw [hA.out], rfl⟩
          · have hni : ¬ ((0 : Nat) : Int) < (q.size : Int) - 1 := by omega
            have hA : RowKit.Hid (aOf q.data.toList 0 = false) := Lib.hid (by unfold aOf; rw [hql]; exact decide_eq_false fun h => h.elim (fun h => absurd h.1 HQ0.out) (fun h => hn h.1))
            skip
            go_wp2
            go_meet
            exact ⟨by rw [hA.out], rfl⟩
        · obtain ⟨j, rfl⟩ : ∃ j, k = j + 1 := ⟨k - 1, by omega⟩
          have hgj := get_list q j (by omega)
          have hj0 : (0 : Int) < (j : Int) + 1 := by omega
          by_cases hp : (q.data.toList.getD j 0).toNat = 46
          · have hA : RowKit.Hid (aOf q.data.toList (j + 1) = true) := Lib.hid (by unfold aOf; exact decide_eq_true (.inl ⟨by omega, hp⟩))
            have hpb : (((q.data.toList.getD j 0).toNat : Int) == 46) = true := by rw [beq_iff_eq]; omega
            generalize q.data.toList.getD j 0 = x1 at *
            clear hp hk1
            go_wp2
            go_meet
            exact ⟨by rw [hA.out], rfl⟩
          · have HP : RowKit.Hid (¬ (q.data.toList.getD (j + 1 - 1) 0).toNat = 46) := Lib.hid hp
            have hpb : (((q.data.toList.getD j 0).toNat : Int) == 46) = false := by rw [beq_eq_false_iff_ne]; omega
            generalize q.data.toList.getD j 0 = x1 at *
            clear hp hk1
            by_cases hn : (j + 1) + 1 < q.size
            · have hni : (((j + 1) : Nat) : Int) < (q.size : Int) - 1 := by omega
              have hgn := get_list q ((j + 1) + 1) hn
              by_cases h46 : (q.data.toList.getD ((j + 1) + 1) 0).toNat = 46
              · have hA : RowKit.Hid (aOf q.data.toList (j + 1) = true) := Lib.hid (by unfold aOf; rw [hql]; exact decide_eq_true (.inr ⟨hn, h46⟩))
                have hb : (((q.data.toList.getD ((j + 1) + 1) 0).toNat : Int) == 46) = true := by rw [beq_iff_eq]; omega
                generalize q.data.toList.getD ((j + 1) + 1) 0 = y at *
                clear h46
                go_wp2
                go_meet
                exact ⟨by rw [hA.out], rfl⟩
              · have hA : RowKit.Hid (aOf q.data.toList (j + 1) = false) := Lib.hid (by unfold aOf; rw [hql]; exact decide_eq_false fun h => h.elim (fun h => HP.out h.2) (fun h => h46 h.2))
                have hb : (((q.data.toList.getD ((j + 1) + 1) 0).toNat : Int) == 46) = false := by rw [beq_eq_false_iff_ne]; omega
                generalize q.data.toList.getD ((j + 1) + 1) 0 = y at *
                clear h46
                go_wp2
                go_meet
                exact ⟨by rw [hA.out], rfl⟩
            · have hni : ¬ (((j + 1) : Nat) : Int) < (q.size : Int) - 1 := by omega
              have hA : RowKit.Hid (aOf q.data.toList (j + 1) = false) := Lib.hid (by unfold aOf; rw [hql]; exact decide_eq_false fun h => h.elim (fun h => HP.out h.2) (fun h => hn h.1))
              skip
              go_wp2
              go_meet
              exact ⟨by rw [hA.out], rfl⟩
      case rest =>
        obtain ⟨rfl, rfl⟩ := hcut
        generalize aOf q.data.toList k = ba at *
        go_upto_if 49 with fail
        go_cut [6] from 14 to 66 (fun s6 wx => s6 = .string (strOf (baseL q.data.toList k)) ∧ w2 = wx)
        case first =>
          cases ba
          · have h1 : RowKit.Hid (wStr bw = strOf (baseL q.data.toList k)) := Lib.hid (by rw [HW.out]; simp [wStr])
            go_wp2
            go_meet
            exact ⟨by rw [h1.out], rfl⟩
          · have h1 : RowKit.Hid (wStr bw ++ ⟨#[65]⟩ = strOf (baseL q.data.toList k)) := Lib.hid (by rw [HW.out]; exact strOf_app _ _)
            have hsz := wStr_len bw
            generalize wStr bw = sb at *
            go_wp2
            go_meet
            exact ⟨by rw [h1.out], rfl⟩
        case rest =>
          obtain ⟨rfl, rfl⟩ := hcut
          generalize baseL q.data.toList k = B at *
          clear e1 e2
          go_wp2
          go_loopg [6, 55] N (fun g t i wr => ∃ n : Nat, n ≤ N ∧ g = N - n ∧ i = .int .i64 n ∧ t = .string (strOf (B ++ exE (x.take n) r)) ∧ w2 = wr)
          case atStart => exact ⟨0, Nat.zero_le _, rfl, rfl, by simp [exE], rfl⟩
          case round =>
            obtain ⟨n, hn, rfl, rfl, rfl, rfl⟩ := hrel
            by_cases hlt : n < N
            · have hni : (n : Int) < (N : Int) := by omega
              have hn0 : (0 : Int) ≤ (n : Int) := by omega
              obtain ⟨b1, off, rfl, g0⟩ := int_at HE.out (i := n) (by rw [HN.out]; exact hlt)
              have hx1 := exE_take (x := x) (k := n) (by rw [HN.out]; exact hlt) r
              have hsz1 : (strOf (B ++ exE (x.take n) r)).size ≤ N + 2 := by
                have := exE_few x r n
                have := HBL.out
                rw [strOf_len, List.length_append]
                have := HN.out
                omega
              generalize x.getD n 0 = y at *
              by_cases hy : y = r
              · rw [if_pos hy] at hx1
                have HX : RowKit.Hid (strOf (B ++ exE (x.take n) r) ++ ⟨#[69]⟩ = strOf (B ++ exE (x.take (n + 1)) r)) := Lib.hid (by rw [hx1, ← List.append_assoc]; exact strOf_app _ [69])
                clear hx1
                generalize strOf (B ++ exE (x.take n) r) = T at *
                go_wp2
                go_roundg (N - (n + 1))
                case measure => omega
                case rel => exact ⟨n + 1, by omega, rfl, by go_num, by rw [HX.out], rfl⟩
              · rw [if_neg hy] at hx1
                have hyb : (y == r) = false := by rw [beq_eq_false_iff_ne]; exact hy
                have HX : RowKit.Hid (strOf (B ++ exE (x.take n) r) = strOf (B ++ exE (x.take (n + 1)) r)) := Lib.hid (by rw [hx1])
                clear hx1
                generalize strOf (B ++ exE (x.take n) r) = T at *
                go_wp2
                go_roundg (N - (n + 1))
                case measure => omega
                case rel => exact ⟨n + 1, by omega, rfl, by go_num, by rw [HX.out], rfl⟩
            · have hnn : n = N := by omega
              subst hnn
              have hni : ¬ (n : Int) < (n : Int) := by omega
              have HX : RowKit.Hid (strOf (B ++ exE (x.take n) r) = strOf (marksL q.data.toList x (r, c))) := Lib.hid (by rw [HML.out, ← HN.out, exE_all])
              generalize strOf (B ++ exE (x.take n) r) = T at *
              go_wp2
              go_ret
              exact ⟨ret_str (by rw [HX.out]), HB.out⟩
end Go.Proofs.YtmhhbnnjilbdnaaGreatDoor
