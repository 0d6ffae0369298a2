/- plan.Check. -/
import Derived.Test.YtmhhbnnjilbdnaaGreatDoorKA
import Derived.Test.YtmhhbnnjilbdnaaGreatDoorKB
import Derived.Test.YtmhhbnnjilbdnaaGreatDoorKE
import Derived.Test.YtmhhbnnjilbdnaaGreatDoorKD
import Derived.Test.YtmhhbnnjilbdnaaGreatDoorKF
import Derived.Test.YtmhhbnnjilbdnaaGreatDoorPlnI
import Derived.Test.YtmhhbnnjilbdnaaGreatDoorPlnP
import Derived.Test.YtmhhbnnjilbdnaaGreatDoorKG
import Derived.Test.YtmhhbnnjilbdnaaGreatDoorRows
import Derived.WalkKit
import Derived.WalkSpells
import Derived.WalkLawsBesides
import Derived.Lib.ConvBytes
import Derived.Lib.Hide
import Derived.Lib.SliceRun
import Derived.IntWalk
import Derived.BigQuiet
import Derived.Deep.QuietTactic
import Derived.Deep.RegionWith
import Derived.Deep.RegionHeld3
import Derived.Deep.LoopGhost
import Derived.Deep.CutRange
import Derived.Deep.CutBlock
import Derived.Deep.MidRow
import Derived.Laws.OwnMore
import Derived.OwnWalk
import Derived.Laws.AppendOwnNone
import Derived.Laws.Rows
import Derived.Laws.MakeOwn
import Derived.Laws.CopyOwn
import Derived.Laws.BitsAllLaws
import Derived.DeepKeys5
import Derived.Maps.OwnOps
import Derived.Handy
import Derived.Lib.AppendStr
import Derived.StillTailTactics
import Derived.Deep.AppendLies
import Derived.ProofKit
import Derived.OpenShut
import Derived.SliceStrings
import Derived.Lib.SmallJoins
import Derived.Deep.SlicePairs
import Derived.ChangeSlices
import Derived.WideKeyEntry
import Derived.Tactics2
import Derived.Defers
import Derived.Recover
import Derived.Shelf.Strconv.Itoa0
import Derived.Shelf.Strconv.Itoa1
import Derived.Shelf.LaysM
import Derived.Shelf.Strconv.Itoa2
import Derived.Shelf.Strconv.Itoa3
import Derived.Maps.AppendAt
import Derived.Lib.Bytealg
namespace Go.Proofs.YtmhhbnnjilbdnaaGreatDoor
open Go.RowKit
set_option linter.unusedSimpArgs false

/-- What plan.Check asks ahead of its loops. -/
def headB (p : Pl) (o : Bool) : Bool := o && decide (1 ≤ p.first ∧ p.first ≤ p.last ∧ p.last ≤ 60 ∧ p.bks.length ≤ 40)

/-- The first k exits are right. -/
def exB (a b : Int) (x : List Int) : Nat → Bool
  | 0 => true
  | k + 1 => exB a b x k && decide (exOk a b x k)

def bkB (a b : Int) (l : List UInt8) (bk : List St) : Nat → Bool
  | 0 => true
  | k + 1 => bkB a b l bk k && decide (bkOk a b l bk k)

theorem exB_iff (a b : Int) (x : List Int) (n : Nat) : exB a b x n = true ↔ ∀ i, i < n → exOk a b x i := by
  induction n with
  | zero => simp [exB]
  | succ n ih =>
    rw [exB, Bool.and_eq_true, ih, decide_eq_true_eq]
    exact ⟨fun h i hi => by rcases Nat.lt_or_ge i n with h1 | h1; exact h.1 i h1; rw [show i = n by omega]; exact h.2, fun h => ⟨fun i hi => h i (by omega), h n (by omega)⟩⟩

theorem bkB_iff (a b : Int) (l : List UInt8) (bk : List St) (n : Nat) : bkB a b l bk n = true ↔ ∀ i, i < n → bkOk a b l bk i := by
  induction n with
  | zero => simp [bkB]
  | succ n ih =>
    rw [bkB, Bool.and_eq_true, ih, decide_eq_true_eq]
    exact ⟨fun h i hi => by rcases Nat.lt_or_ge i n with h1 | h1; exact h.1 i h1; rw [show i = n by omega]; exact h.2, fun h => ⟨fun i hi => h i (by omega), h n (by omega)⟩⟩

theorem right_loops (p : Pl) : (headB p (letF p.lets.data.toList).isSome && exB p.first p.last p.exits p.exits.length && bkB p.first p.last ((letF p.lets.data.toList).getD []) p.bks p.bks.length) = rightB p := by
  cases hl : letF p.lets.data.toList with
  | none => rw [rightB_none hl]; rfl
  | some l =>
    rw [rightB_of hl, Bool.eq_iff_iff]
    simp only [Bool.and_eq_true, exB_iff, bkB_iff, decide_eq_true_eq, headB, Option.isSome_some, Option.getD_some, true_and]
    unfold rightP
    constructor
    · rintro ⟨⟨⟨h1, h2, h3, h4⟩, h5⟩, h6⟩; exact ⟨h1, h2, h3, h4, h5, h6⟩
    · rintro ⟨h1, h2, h3, h4, h5, h6⟩; exact ⟨⟨⟨h1, h2, h3, h4⟩, h5⟩, h6⟩

def errOf (b : Bool) : Int := if b = true then 0 else 4

/-- Seven cells, and the world below, stay. -/
theorem held7_bel {w W W' : World} {a1 a2 a3 a4 a5 a6 a7 : Addr} {x1 x2 x3 x4 x5 x6 x7 : Value}
    (h : W.cell? a1 = some x1 ∧ W.cell? a2 = some x2 ∧ W.cell? a3 = some x3 ∧ W.cell? a4 = some x4 ∧ W.cell? a5 = some x5 ∧ W.cell? a6 = some x6 ∧ W.cell? a7 = some x7 ∧ Below w.heap.size w W) (hb : Below W.heap.size W W') :
    W'.cell? a1 = some x1 ∧ W'.cell? a2 = some x2 ∧ W'.cell? a3 = some x3 ∧ W'.cell? a4 = some x4 ∧ W'.cell? a5 = some x5 ∧ W'.cell? a6 = some x6 ∧ W'.cell? a7 = some x7 ∧ Below w.heap.size w W' :=
  ⟨cell_bel hb h.1, cell_bel hb h.2.1, cell_bel hb h.2.2.1, cell_bel hb h.2.2.2.1, cell_bel hb h.2.2.2.2.1, cell_bel hb h.2.2.2.2.2.1, cell_bel hb h.2.2.2.2.2.2.1, bel_trans h.2.2.2.2.2.2.2 hb⟩

theorem byteAt_nn (l : List UInt8) (c : UInt8) : 0 ≤ byteAt l c ↔ c ∈ l := by
  unfold byteAt
  by_cases h : c ∈ l
  · rw [if_pos h]; simp [h]
  · rw [if_neg h]; simp [h]

set_option maxRecDepth 20000 in
set_option maxHeartbeats 16000000 in
theorem check_any (p : Pl) (ve vb : Value) (w : World) (he : HasE intC w ve p.exits) (hb : HasE stC w vb p.bks) (hsz : p.lets.size ≤ maxLen) (hx : p.exits.length ≤ 100000) (hbk : p.bks.length ≤ 100000) :
    Calls Tryz.prog 70 #[planV p ve vb] w fun e w' => e = .returned (.int .i64 (errOf (rightB p))) ∧ Below w.heap.size w w' := by
  have HRL := Lib.hid (right_loops p)
  have hhead : ∀ o, headB p o = (o && decide (1 ≤ p.first ∧ p.first ≤ p.last ∧ p.last ≤ 60 ∧ p.bks.length ≤ 40)) := fun _ => rfl
  obtain ⟨a, b, q, x, bk⟩ := p
  obtain ⟨pe, ce, rfl⟩ := he.len
  obtain ⟨pb, cb, rfl⟩ := hb.len
  simp only at he hb hsz hx hbk hhead ⊢
  obtain ⟨w1, e1, a0, a1, a2, a3, a4, hb1, hz1⟩ := plan_boxed w a b q (.slice pe x.length ce) (.slice pb bk.length cb)
  have HE := Lib.hid (he.mono hb1)
  have HS := Lib.hid (hb.mono hb1)
  have HB := Lib.hid hb1
  have HC := Lib.hid (letters_any_c q w1 hsz)
  unfold planV
  generalize (letF q.data.toList).isSome = o at *
  generalize (letF q.data.toList).getD [] = l at *
  clear he hb hb1 hz1
  generalize hN : x.length = N at *
  generalize hM : bk.length = M at *
  have HN := Lib.hid hN
  have HM := Lib.hid hM
  clear hN hM
  go_enter Tryz.func70, Tryz.ntmps70
  go_upto_region 2 with (first
    | (go_at_call 71; (with_reducible refine HC.out.mono ?_); rintro e w2 ⟨rfl, hb2⟩; have c0 := cell_bel hb2 a0; have c1 := cell_bel hb2 a1; have c3 := cell_bel hb2 a3; have c4 := cell_bel hb2 a4))
  have hbw := bel_trans HB.out hb2
  have HE2 := Lib.hid (HE.out.mono hb2)
  have HS2 := Lib.hid (HS.out.mono hb2)
  clear e1 a0 a1 a2 a3 a4 HC
  go_cut [4] from 10 to 121 (fun s4 wx => s4 = .bool (headB ⟨a, b, q, x, bk⟩ o) ∧ w2 = wx)
  case first =>
    cases o
    · go_wp2
      go_meet
      exact ⟨rfl, rfl⟩
    · by_cases h1 : 1 ≤ a
      · by_cases h2 : a ≤ b
        · by_cases h3 : b ≤ 60
          · by_cases h4 : (M : Int) ≤ 40
            · have hh := Lib.hid ((hhead true).trans (by rw [decide_eq_true ⟨h1, h2, h3, by omega⟩]; rfl : _ = true))
              go_wp2
              go_meet
              exact ⟨by rw [hh.out], rfl⟩
            · have hh := Lib.hid ((hhead true).trans (by rw [decide_eq_false (fun h => h4 (by omega))]; rfl : _ = false))
              go_wp2
              go_meet
              exact ⟨by rw [hh.out], rfl⟩
          · have hh := Lib.hid ((hhead true).trans (by rw [decide_eq_false (fun h => h3 h.2.2.1)]; rfl : _ = false))
            go_wp2
            go_meet
            exact ⟨by rw [hh.out], rfl⟩
        · have hh := Lib.hid ((hhead true).trans (by rw [decide_eq_false (fun h => h2 h.2.1)]; rfl : _ = false))
          go_wp2
          go_meet
          exact ⟨by rw [hh.out], rfl⟩
      · have hh := Lib.hid ((hhead true).trans (by rw [decide_eq_false (fun h => h1 h.1)]; rfl : _ = false))
        go_wp2
        go_meet
        exact ⟨by rw [hh.out], rfl⟩
  case rest =>
    obtain ⟨rfl, rfl⟩ := hcut
    clear hhead
    generalize headB ⟨a, b, q, x, bk⟩ o = hd at *
    go_wp2
    go_loopg [4, 42] N (fun g k0 i wr => ∃ (k : Nat), k ≤ N ∧ g = N - k ∧ i = .int .i64 (k : Int) ∧ k0 = .bool (hd && exB a b x k) ∧ w2 = wr)
    case atStart => exact ⟨0, Nat.zero_le _, rfl, rfl, by simp [exB], rfl⟩
    case round =>
      obtain ⟨k, hk, rfl, rfl, rfl, rfl⟩ := hrel
      by_cases hlt : k < N
      · have hki : (k : Int) < (N : Int) := by omega
        have hk0 : (0 : Int) ≤ (k : Int) := by omega
        obtain ⟨b1, off, rfl, g0⟩ := int_at HE2.out (i := k) (by rw [HN.out]; exact hlt)
        have hnx : exB a b x (k + 1) = (exB a b x k && decide (exOk a b x k)) := rfl
        have hand : (hd && exB a b x (k + 1)) = (hd && exB a b x k && decide (exOk a b x k)) := by rw [hnx, Bool.and_assoc]
        have hxo : exOk a b x k ↔ a ≤ x.getD k 0 ∧ x.getD k 0 ≤ b ∧ (k = 0 ∨ x.getD (k - 1) 0 < x.getD k 0) := Iff.rfl
        have HA := Lib.hid hand
        have HX := Lib.hid hxo
        clear hnx hand hxo
        generalize hy : x.getD k 0 = y at *
        generalize (hd && exB a b x k) = ok at *
        clear hy
        have HG0 := Lib.hid hk0
        cases ok
        · have hh := Lib.hid (HA.out.trans (by rfl : _ = false))
          go_wp2
          go_roundg (N - (k + 1))
          case measure => omega
          case rel => exact ⟨k + 1, by omega, rfl, by go_num, by rw [hh.out], rfl⟩
        · by_cases y1 : a ≤ y
          · by_cases y2 : y ≤ b
            · by_cases hz : k = 0
              · have hkz : ((k : Int) == 0) = true := by rw [beq_iff_eq]; omega
                have hh := Lib.hid (HA.out.trans (by rw [decide_eq_true (HX.out.2 ⟨y1, y2, .inl hz⟩)]; rfl : _ = true))
                clear hz
                go_wp2
                go_roundg (N - (k + 1))
                case measure => omega
                case rel => exact ⟨k + 1, by omega, rfl, by go_num, by rw [hh.out], rfl⟩
              · obtain ⟨j, rfl⟩ : ∃ j, k = j + 1 := ⟨k - 1, by omega⟩
                obtain ⟨b2, off2, e2, g2⟩ := int_at HE2.out (i := j) (by rw [HN.out]; omega)
                injection e2 with e2
                injection e2 with e2 e3 e4
                subst e2
                subst e3
                have HX2 : RowKit.Hid (exOk a b x (j + 1) ↔ a ≤ y ∧ y ≤ b ∧ (j + 1 = 0 ∨ x.getD j 0 < y)) := Lib.hid HX.out
                have hjz : ((j : Int) + 1 == 0) = false := by rw [beq_eq_false_iff_ne]; omega
                generalize x.getD j 0 = z at *
                by_cases y3 : z < y
                · have hh := Lib.hid (HA.out.trans (by rw [decide_eq_true (HX2.out.2 ⟨y1, y2, .inr y3⟩)]; rfl : _ = true))
                  clear hz
                  go_wp2
                  go_roundg (N - (j + 1 + 1))
                  case measure => omega
                  case rel => exact ⟨j + 1 + 1, by omega, rfl, by go_num, by rw [hh.out], rfl⟩
                · have hh := Lib.hid (HA.out.trans (by rw [decide_eq_false (fun h => y3 ((HX2.out.1 h).2.2.resolve_left (by omega)))]; rfl : _ = false))
                  clear hz
                  go_wp2
                  go_roundg (N - (j + 1 + 1))
                  case measure => omega
                  case rel => exact ⟨j + 1 + 1, by omega, rfl, by go_num, by rw [hh.out], rfl⟩
            · have hh := Lib.hid (HA.out.trans (by rw [decide_eq_false (fun h => y2 (HX.out.1 h).2.1)]; rfl : _ = false))
              go_wp2
              go_roundg (N - (k + 1))
              case measure => omega
              case rel => exact ⟨k + 1, by omega, rfl, by go_num, by rw [hh.out], rfl⟩
          · have hh := Lib.hid (HA.out.trans (by rw [decide_eq_false (fun h => y1 (HX.out.1 h).1)]; rfl : _ = false))
            go_wp2
            go_roundg (N - (k + 1))
            case measure => omega
            case rel => exact ⟨k + 1, by omega, rfl, by go_num, by rw [hh.out], rfl⟩
      · have hkn : k = N := by omega
        subst hkn
        have hki : ¬ (k : Int) < (k : Int) := by omega
        generalize (hd && exB a b x k) = ok at *
        clear c3
        go_wp2
        go_loopg [4, 78] M (fun g k0 i wr => ∃ (n : Nat), n ≤ M ∧ g = M - n ∧ i = .int .i64 (n : Int) ∧ k0 = .bool (ok && bkB a b l bk n) ∧ Below w2.heap.size w2 wr)
        case atStart => exact ⟨0, Nat.zero_le _, rfl, rfl, by simp [bkB], Below.refl _ _⟩
        case round =>
          obtain ⟨n, hn, rfl, rfl, rfl, hb3⟩ := hrel
          by_cases hlt : n < M
          · have hni : (n : Int) < (M : Int) := by omega
            have hn0 : (0 : Int) ≤ (n : Int) := by omega
            have d0 := cell_bel hb3 c0
            have d1 := cell_bel hb3 c1
            have d4 := cell_bel hb3 c4
            obtain ⟨bb, off, rfl, hr, _, _⟩ := st_at (HS2.out.mono hb3) (i := n) (by rw [HM.out]; exact hlt)
            have HA : RowKit.Hid ((ok && bkB a b l bk (n + 1)) = (ok && bkB a b l bk n && decide (bkOk a b l bk n))) := Lib.hid (by rw [Bool.and_assoc]; rfl)
            have HX : RowKit.Hid (bkOk a b l bk n ↔ a ≤ (bk.getD n st0).1 ∧ (bk.getD n st0).1 ≤ b ∧ (bk.getD n st0).2 ∈ l ∧ (n = 0 ∨ stLt (bk.getD (n - 1) st0) (bk.getD n st0))) := Lib.hid Iff.rfl
            have HK : RowKit.Hid (bk.getD n st0 = ((bk.getD n st0).1, (bk.getD n st0).2)) := Lib.hid rfl
            generalize (bk.getD n st0).1 = r at *
            generalize (bk.getD n st0).2 = c at *
            generalize (ok && bkB a b l bk n) = ok2 at *
            go_upto_region 11 with (first
              | (refine wpList_load_mid rfl 46 _ rfl bb (off + n * 2) rfl (seatC r c) _ hr Tryz.underlying46 rfl info_seat ?_)
              | (refine wpList_store_blk rfl 46 (.tmp 8) (.tmp 82) rfl wr.heap.size 46 (seatC 0 0) (seatC r c) rfl rfl (Blk.new wr 46 (seatC 0 0)) rfl info_seat seatC_one ?_; intro w8 ha8 hb8 _))
            dsimp only [Act.put]
            have hb38 := hb3.trans ((((Below.refl _ _).alloc (Nat.le_refl _) _).trans hb8).mono hb3.size)
            have f0 := cell_bel hb38 c0
            have f1 := cell_bel hb38 c1
            have f4 := cell_bel hb38 c4
            have s0 : w8.cell? ⟨wr.heap.size, 0, none⟩ = some (.int .i64 r) := (ha8.cell 0).trans rfl
            have s1 : w8.cell? ⟨wr.heap.size, 1, none⟩ = some (.int .u8 c.toNat) := (ha8.cell 1).trans rfl
            have HCI : RowKit.Hid (∀ W, Calls Tryz.prog 82 #[.string (strOf l), .int .u8 c.toNat] W fun e w' => e = .returned (.int .i64 (byteAt l c)) ∧ w' = W) := Lib.hid fun W => (index_any (strOf l) c W).mono fun e w' h => ⟨h.1, h.2.symm⟩
            have HBA := Lib.hid (byteAt_nn l c)
            generalize byteAt l c = z at *
            clear d0 d1 d4 hr
            cases ok2
            · have hh := Lib.hid (HA.out.trans (by rfl : _ = false))
              go_quiet (fail)
              go_wp2
              go_roundg (M - (n + 1))
              case measure => omega
              case rel => exact ⟨n + 1, by omega, rfl, by go_num, by rw [hh.out], below_drewN hb38 _⟩
            · by_cases y1 : a ≤ r
              · have y1d : decide (a ≤ r) = true := decide_eq_true y1
                by_cases y2 : r ≤ b
                · have y2d : decide (r ≤ b) = true := decide_eq_true y2
                  by_cases y3 : 0 ≤ z
                  · have y3d : decide (0 ≤ z) = true := decide_eq_true y3
                    have hcl := HBA.out.1 y3
                    by_cases hz : n = 0
                    · have hnz : ((n : Int) == 0) = true := by rw [beq_iff_eq]; omega
                      have hh := Lib.hid (HA.out.trans (by rw [decide_eq_true (HX.out.2 ⟨y1, y2, hcl, .inl hz⟩)]; rfl : _ = true))
                      clear hz
                      go_quiet (first | (go_at_call 82; (with_reducible refine Calls.quiet_of_same (HCI.out _))))
                      go_wp2
                      go_roundg (M - (n + 1))
                      case measure => omega
                      case rel => exact ⟨n + 1, by omega, rfl, by go_num, by rw [hh.out], below_drewN hb38 _⟩
                    · obtain ⟨j, rfl⟩ : ∃ j, n = j + 1 := ⟨n - 1, by omega⟩
                      have hnz : ((j : Int) + 1 == 0) = false := by rw [beq_eq_false_iff_ne]; omega
                      obtain ⟨b2, off2, e2, _, g0, g1⟩ := st_at (HS2.out.mono hb38) (i := j) (by rw [HM.out]; omega)
                      injection e2 with e2
                      injection e2 with e2 e3 e4
                      subst e2
                      subst e3
                      have HX2 : RowKit.Hid (bkOk a b l bk (j + 1) ↔ a ≤ r ∧ r ≤ b ∧ c ∈ l ∧ (j + 1 = 0 ∨ stLt (bk.getD j st0) (r, c))) := Lib.hid (by rw [← HK.out]; exact HX.out)
                      have HLS : RowKit.Hid (∀ W, Calls Tryz.prog 83 #[.agg #[.int .i64 (bk.getD j st0).1, .int .u8 (bk.getD j st0).2.toNat], .agg #[.int .i64 r, .int .u8 c.toNat]] W fun e w' => e = .returned (.bool (decide (stLt (bk.getD j st0) (r, c)))) ∧ Below W.heap.size W w') := Lib.hid fun W => less_any (bk.getD j st0) (r, c) W
                      have hh : RowKit.Hid ((ok && bkB a b l bk (j + 1 + 1)) = decide (stLt (bk.getD j st0) (r, c))) := Lib.hid (HA.out.trans (by
                        rw [Bool.true_and]
                        refine decide_eq_decide.2 (HX2.out.trans ⟨fun h => h.2.2.2.resolve_left (by omega), fun h => ⟨y1, y2, hcl, .inr h⟩⟩)))
                      generalize decide (stLt (bk.getD j st0) (r, c)) = lt at *
                      generalize (bk.getD j st0).1 = r1 at *
                      generalize (bk.getD j st0).2 = k1 at *
                      clear hz HX HX2
                      have hjM : (j : Int) < (M : Int) := by omega
                      have hj0 : (0 : Int) ≤ (j : Int) := by omega
                      have hjM2 : j < M := by omega
                      have hwj : IntKind.i64.wrap (j : Int) = (j : Int) := IntWalk.i64_in _ ⟨by omega, by omega⟩
                      have hS0 : w8.drew.cell? ⟨w.heap.size, 0, none⟩ = some (.int .i64 a) ∧ w8.drew.cell? ⟨w.heap.size, 1, none⟩ = some (.int .i64 b) ∧ w8.drew.cell? ⟨w.heap.size, 4, none⟩ = some (.slice (some ⟨bb, off, none⟩) M cb) ∧ w8.drew.cell? ⟨wr.heap.size, 0, none⟩ = some (.int .i64 r) ∧ w8.drew.cell? ⟨wr.heap.size, 1, none⟩ = some (.int .u8 c.toNat) ∧ w8.drew.cell? ⟨bb, off + j * 2, none⟩ = some (.int .i64 r1) ∧ w8.drew.cell? ⟨bb, off + j * 2 + 1, none⟩ = some (.int .u8 k1.toNat) ∧ Below w8.heap.size w8 w8.drew := ⟨f0, f1, f4, s0, s1, g0, g1, (Below.refl _ _).drew⟩
                      go_region_held3 (fun W => W.cell? ⟨w.heap.size, 0, none⟩ = some (.int .i64 a) ∧ W.cell? ⟨w.heap.size, 1, none⟩ = some (.int .i64 b) ∧ W.cell? ⟨w.heap.size, 4, none⟩ = some (.slice (some ⟨bb, off, none⟩) M cb) ∧ W.cell? ⟨wr.heap.size, 0, none⟩ = some (.int .i64 r) ∧ W.cell? ⟨wr.heap.size, 1, none⟩ = some (.int .u8 c.toNat) ∧ W.cell? ⟨bb, off + j * 2, none⟩ = some (.int .i64 r1) ∧ W.cell? ⟨bb, off + j * 2 + 1, none⟩ = some (.int .u8 k1.toNat) ∧ Below w8.heap.size w8 W)
                        (first
                          | exact hS0
                          | assumption
                          | exact held7_bel (by assumption) hb9)
                        (first
                          | (go_at_call 82; (with_reducible refine (HCI.out _).mono ?_); rintro e w9 ⟨rfl, rfl⟩)
                          | (go_at_call 83; (with_reducible refine (HLS.out _).mono ?_); rintro e w9 ⟨rfl, hb9⟩))
                      go_wp2
                      go_roundg (M - (j + 1 + 1))
                      case measure => omega
                      case rel => exact ⟨j + 1 + 1, by omega, rfl, by go_num, by rw [hh.out], hb38.trans ((show _ ∧ _ ∧ _ ∧ _ ∧ _ ∧ _ ∧ _ ∧ Below w8.heap.size w8 _ by assumption).2.2.2.2.2.2.2.mono hb38.size)⟩
                  · have y3d : decide (0 ≤ z) = false := decide_eq_false y3
                    have hh := Lib.hid (HA.out.trans (by rw [decide_eq_false (fun h => y3 (HBA.out.2 (HX.out.1 h).2.2.1))]; rfl : _ = false))
                    go_quiet (first | (go_at_call 82; (with_reducible refine Calls.quiet_of_same (HCI.out _))))
                    go_wp2
                    go_roundg (M - (n + 1))
                    case measure => omega
                    case rel => exact ⟨n + 1, by omega, rfl, by go_num, by rw [hh.out], below_drewN hb38 _⟩
                · have y2d : decide (r ≤ b) = false := decide_eq_false y2
                  have hh := Lib.hid (HA.out.trans (by rw [decide_eq_false (fun h => y2 (HX.out.1 h).2.1)]; rfl : _ = false))
                  go_quiet (fail)
                  go_wp2
                  go_roundg (M - (n + 1))
                  case measure => omega
                  case rel => exact ⟨n + 1, by omega, rfl, by go_num, by rw [hh.out], below_drewN hb38 _⟩
              · have y1d : decide (a ≤ r) = false := decide_eq_false y1
                have hh := Lib.hid (HA.out.trans (by rw [decide_eq_false (fun h => y1 (HX.out.1 h).1)]; rfl : _ = false))
                go_quiet (fail)
                go_wp2
                go_roundg (M - (n + 1))
                case measure => omega
                case rel => exact ⟨n + 1, by omega, rfl, by go_num, by rw [hh.out], below_drewN hb38 _⟩
          · have hnn : n = M := by omega
            subst hnn
            have hni : ¬ (n : Int) < (n : Int) := by omega
            generalize (ok && bkB a b l bk n) = ok2 at *
            cases ok2
            · go_wp2
              go_ret
              exact ⟨ret_int (by rw [← HRL.out]; rfl), bel_trans hbw hb3⟩
            · go_wp2
              go_ret
              exact ⟨ret_int (by rw [← HRL.out]; rfl), bel_trans hbw hb3⟩
end Go.Proofs.YtmhhbnnjilbdnaaGreatDoor
