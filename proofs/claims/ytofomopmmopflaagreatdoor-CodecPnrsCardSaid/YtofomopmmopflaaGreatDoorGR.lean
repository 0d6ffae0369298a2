/- The reader's texts and seats. -/
import Derived.Test.YtofomopmmopflaaGreatDoorMA
import Derived.Test.YtofomopmmopflaaGreatDoorMB
import Derived.Test.YtofomopmmopflaaGreatDoorMC
import Derived.Test.YtofomopmmopflaaGreatDoorMD
import Derived.Test.YtofomopmmopflaaGreatDoorME
import Derived.Test.YtofomopmmopflaaGreatDoorFN
import Derived.Test.YtofomopmmopflaaGreatDoorGB
import Derived.Test.YtofomopmmopflaaGreatDoorGH
import Derived.Test.YtofomopmmopflaaGreatDoorGK
import Derived.Test.YtofomopmmopflaaGreatDoorGJA
import Derived.Test.YtofomopmmopflaaGreatDoorGO
import Derived.Test.YtofomopmmopflaaGreatDoorGQ
import Derived.Test.YtofomopmmopflaaGreatDoorRows
import Derived.WalkKit
import Derived.WalkSpells
import Derived.WalkLawsBesides
import Derived.Lib.ConvBytes
import Derived.Lib.Hide
import Derived.Lib.SliceRun
import Derived.IntWalk
import Derived.BigQuiet
import Derived.Deep.QuietTactic
import Derived.Deep.RegionWith
import Derived.Deep.RegionHeld3
import Derived.Deep.LoopGhost
import Derived.Deep.CutRange
import Derived.Deep.CutBlock
import Derived.Deep.MidRow
import Derived.Laws.OwnMore
import Derived.OwnWalk
import Derived.Laws.AppendOwnNone
import Derived.Laws.Rows
import Derived.Laws.MakeOwn
import Derived.Laws.CopyOwn
import Derived.Laws.BitsAllLaws
import Derived.DeepKeys5
import Derived.Maps.OwnOps
import Derived.Handy
import Derived.Lib.AppendStr
import Derived.StillTailTactics
import Derived.Deep.AppendLies
import Derived.WideKeyEntry
namespace Go.Proofs.YtofomopmmopflaaGreatDoor
open Go.RowKit Go.ChangeMaps
set_option linter.unusedSimpArgs false
set_option linter.unusedVariables false
set_option maxRecDepth 20000

theorem str_tinfo : ∃ i0 : TypeInfo, Tryz.prog.info? 9 = some i0 ∧ i0.zero = some (.string ⟨#[]⟩) ∧ i0.size = 1 ∧ i0.bytes = 16 := by
  have hbyte : (Tryz.prog.info? 9).map (fun i => (i.zero, i.size, i.bytes)) = some (some (.string ⟨#[]⟩), 1, 16) := by kernel_rfl
  rw [Option.map_eq_some_iff] at hbyte
  obtain ⟨i0, h1, h2⟩ := hbyte
  simp only [Prod.mk.injEq] at h2
  exact ⟨i0, h1, h2.1, h2.2.1, h2.2.2⟩
theorem place_tinfo : ∃ i0 : TypeInfo, Tryz.prog.info? 73 = some i0 ∧ i0.zero = some (.agg #[.int .i64 0, .int .i64 0, .int .i64 0, .int .u8 0]) ∧ i0.size = 4 ∧ i0.bytes = 32 := by
  have hbyte : (Tryz.prog.info? 73).map (fun i => (i.zero, i.size, i.bytes)) = some (some (.agg #[.int .i64 0, .int .i64 0, .int .i64 0, .int .u8 0]), 4, 32) := by kernel_rfl
  rw [Option.map_eq_some_iff] at hbyte
  obtain ⟨i0, h1, h2⟩ := hbyte
  simp only [Prod.mk.injEq] at h2
  exact ⟨i0, h1, h2.1, h2.2.1, h2.2.2⟩

theorem own_row_ne {w : World} {B g : Nat} {e : TypeId} {st n : Nat} {v : Value} {xs : List Value} (h : w.ownsRow B e st v n xs) (hg : g < B) : v.ownBlock ≠ some g := fun e => by
  have := (World.ownsRow.lt h _ e).1
  omega

/-- The reader's block and new memory, then a row of one's own behind them. -/
theorem gr_push {w w7 w4 : World} {g : Nat} (h : w.grownBy w7 (some g)) (hb : Below w.heap.size w7 w4) (hs : w7.heap.size ≤ w4.heap.size) : w.grownBy w4 (some g) :=
  ⟨hb.os.trans h.os, hb.tape.trans h.tape, hb.output.trans h.output, Nat.le_trans h.size hs, fun k hk hne => (hb.block k hk).trans (h.block k hk hne)⟩

set_option maxHeartbeats 16000000 in
theorem rtexts_any {β : Type} {o : Option β} {K : List ByteArray → List UInt8 → Option β} (g : Nat) (l : List UInt8) (bad : Bool) (most : Nat) (w0 w : World) (h : RS w0 w g l bad) (hl : l.length ≤ 1000000) (hm : most ≤ 100) (hst : Stg o bad (bindP (pNum most l) fun n r => pRun pText K n [] r)) :
    Calls Tryz.prog 37 #[.pointer (some ⟨g, 0, none⟩), .int .i64 most] w fun e w' => ListP strE 9 1 most (fun x => x.size ≤ 40) o K g w0 w e w' := by
  have HN : RowKit.Hid (Calls Tryz.prog 40 #[.pointer (some ⟨g, 0, none⟩), .int .i64 most] w fun e w' => ∃ (n : Nat) (r : List UInt8) (b2 : Bool), e = .returned (.int .i64 n) ∧ n ≤ most ∧ RS w0 w' g r b2 ∧ r.length ≤ 1000000 ∧ (b2 = false → bad = false ∧ pNum most l = some (n, r)) ∧ (b2 = true → bad = true ∨ pNum most l = none) ∧ w.grownBy w' (some g)) := Lib.hid (rnum_any g l bad most w0 w h hl (by omega))
  have HTX : RowKit.Hid (∀ W r b, RS w0 W g r b → r.length ≤ 1000000 → Calls Tryz.prog 34 #[.pointer (some ⟨g, 0, none⟩)] W fun e w' => ∃ (s : ByteArray) (r2 : List UInt8) (b2 : Bool), e = .returned (.string s) ∧ s.size ≤ 40 ∧ RS w0 w' g r2 b2 ∧ r2.length ≤ 1000000 ∧ (b2 = false → b = false ∧ pText r = some (s, r2)) ∧ (b2 = true → b = true ∨ pText r = none) ∧ W.grownBy w' (some g)) := Lib.hid fun W r b h h1 => rtext_any g r b w0 W h h1
  have HST := Lib.hid hst
  have hgl := h.lt
  have hlo := h.1
  clear hst hl
  go_enter Tryz.func37, Tryz.ntmps37
  go_upto_block 0 with (first
    | (go_at_call 40; (with_reducible refine HN.out.mono ?_); rintro e w1 ⟨n, r1, b1, rfl, hn1, hr1, hrl1, hf1, ht1, hg1⟩))
  have HS1 : RowKit.Hid (Stg o b1 (pRun pText K n [] r1)) := Lib.hid (HST.out.step (K := fun n r2 => pRun pText K n [] r2) hf1 ht1)
  have HR1 := Lib.hid hr1
  have HG1 := Lib.hid hg1
  clear hf1 ht1 hr1 hg1 HST HN
  go_wp2
  go_loopg [5, 9] n (fun g0 s5 s9 wr => ∃ (i : Nat) (lst : List ByteArray) (r : List UInt8) (bad : Bool) (p3 : Option Addr) (n3 c3 : Nat), i ≤ n ∧ g0 = n - i ∧ s9 = .int .i64 (i : Int) ∧ s5 = .slice p3 n3 c3 ∧ wr.ownsRow w.heap.size 9 1 (.slice p3 n3 c3) i (lst.flatMap strE) ∧ lst.length = i ∧ (∀ x ∈ lst, x.size ≤ 40) ∧ RS w0 wr g r bad ∧ r.length ≤ 1000000 ∧ Stg o bad (pRun pText K (n - i) lst r) ∧ w.grownBy wr (some g))
  case atStart => exact ⟨0, [], r1, b1, none, 0, 0, Nat.zero_le _, rfl, rfl, rfl, World.ownsRow_nil _ _ _ _, rfl, (fun x hx => by cases hx), HR1.out, hrl1, HS1.out, HG1.out⟩
  case round =>
    obtain ⟨i, lst, r, bad, p3, n3, c3, hin, rfl, rfl, rfl, hown, hll, hsz, hrs, hrl, hst, hgr⟩ := hrel
    have HOWN := Lib.hid hown
    have HLL := Lib.hid hll
    have HSZ := Lib.hid hsz
    have HRS := Lib.hid hrs
    have HST := Lib.hid hst
    have HGR := Lib.hid hgr
    clear hown hll hsz hrs hst hgr HR1 HS1 HG1 hrl1
    by_cases hlt : i < n
    · have hii : (i : Int) < (n : Int) := by omega
      obtain ⟨i0, hi0, hz0, hsz0, hby0⟩ := str_tinfo
      have hm1 : i + 1 ≤ maxLen := by unfold maxLen; omega
      have hm2 : (i + 1) * 16 ≤ 140737488355328 := by omega
      go_wp2_with (first
        | (go_at_call 34; (with_reducible refine (HTX.out _ _ _ HRS.out hrl).mono ?_); rintro e w7 ⟨s7, r7, b7, rfl, hs7, hr7, hrl7, hf7, ht7, hg7⟩; have ho7 := own_far HOWN.out hg7 hgl; have hg57 := gby_trans HGR.out hg7; have hB7 := hg57.size)
        | (at_builtin; refine wpList_pushC rfl _ _ 24 rfl w.heap.size 9 i0 _ 1 16 Tryz.underlying24 hi0 hz0 hsz0 hby0 rfl (by decide) _ i _ rfl ho7 (strE s7) rfl rfl (strE_one _) hm1 hm2 hB7 ?_; intro v4 w4 ho4 hb4 hg4; replace hg4 : World.grownBy _ w4 (Value.slice p3 n3 c3).ownBlock := hg4; obtain ⟨p4, n4, c4, rfl⟩ := own_slice ho4))
      have hstn : Stg o b7 (pRun pText K (n - (i + 1)) (lst ++ [s7]) r7) := Stg.step (p := pText r) (K := fun s r' => pRun pText K (n - (i + 1)) (lst ++ [s]) r') (by have := HST.out; rw [show n - i = (n - (i + 1)) + 1 by omega] at this; exact this) hf7 ht7
      have hr4 := hr7.farA hg4 (own_row_ne ho7 hgl) (fun k hk => by have := (World.ownsRow.lt ho7 k hk).1; omega)
      have hgrn : w.grownBy w4 (some g) := gr_push hg57 hb4 (Nat.le_trans (by simp) hg4.size)
      go_roundg (n - (i + 1))
      case measure => omega
      case rel => exact ⟨i + 1, lst ++ [s7], r7, b7, _, _, _, by omega, rfl, by go_num, rfl, by rw [List.flatMap_append, show ([s7] : List ByteArray).flatMap strE = strE s7 by simp]; exact ho4, by rw [List.length_append, HLL.out]; rfl, (fun t ht => by
        rcases List.mem_append.1 ht with h1 | h1
        · exact HSZ.out t h1
        · rw [List.mem_singleton.1 h1]; exact hs7), hr4, hrl7, hstn, hgrn⟩
    · have hie : i = n := by omega
      subst hie
      have hii : ¬ (i : Int) < (i : Int) := by omega
      go_wp2
      go_ret
      exact ⟨_, lst, r, bad, rfl, by rw [HLL.out]; exact HOWN.out, by rw [HLL.out]; exact hn1, HSZ.out, HRS.out, hrl, by have := HST.out; rw [Nat.sub_self] at this; exact this, HGR.out⟩

theorem i64_and_nat (a b : Nat) (ha : a < 9223372036854775808) (hb : b < 9223372036854775808) : bits .and .i64 (a : Int) (b : Int) = ((a &&& b : Nat) : Int) := by
  have hx : a &&& b ≤ a := Nat.and_le_left
  show IntKind.i64.wrap ((BitVec.ofInt 64 (a : Int) &&& BitVec.ofInt 64 (b : Int)).toNat : Int) = _
  rw [BitVec.toNat_and, ofInt_i64 a ha, ofInt_i64 b hb, IntKind.wrap_i64]
  omega
theorem and_low {x : Nat} (hx : x < 16777216) : bits .and .i64 (x : Int) 65535 = ((x % 65536 : Nat) : Int) := by
  rw [show (65535 : Int) = ((65535 : Nat) : Int) from rfl, i64_and_nat _ _ (by omega) (by omega)]
  congr 1
  exact Nat.and_two_pow_sub_one_eq_mod x 16
theorem and_one {x : Nat} (hx : x < 16777216) : bits .and .i64 (x : Int) 1 = ((x % 2 : Nat) : Int) := by
  rw [show (1 : Int) = ((1 : Nat) : Int) from rfl, i64_and_nat _ _ (by omega) (by omega)]
  congr 1
  exact Nat.and_two_pow_sub_one_eq_mod x 1

theorem place_step {β : Type} {o : Option β} {K : List PlaceT → List UInt8 → Option β} {bad b7 : Bool} {r r7 : List UInt8} {x : Nat} {k : Nat} {lst : List PlaceT} (hx : x < 16777216) (h : Stg o bad (pRun pPlace K (k + 1) lst r))
    (hf7 : b7 = false → bad = false ∧ pFix 3 r = some (x, r7)) (ht7 : b7 = true → bad = true ∨ pFix 3 r = none) {px rw : Int} {c : UInt8} {n : Nat} (hn : n = x % 65536) (hp : px = ((n / 4096 : Nat) : Int)) (hr : rw = ((n / 32 % 128 : Nat) : Int)) (hc : c = UInt8.ofNat (65 + n % 32)) {sg : Int} (hs : sg = ((x / 65536 + 1 : Nat) : Int)) :
    Stg o b7 (pRun pPlace K k (lst ++ [⟨sg, px, rw, c⟩]) r7) := by
  have e1 : n / 4096 = x / 4096 % 16 := by omega
  have e2 : n / 32 % 128 = x / 32 % 128 := by omega
  have e3 : n % 32 = x % 32 := by omega
  rw [hp, hr, hc, hs, e1, e2, e3]
  refine Stg.step (p := pPlace r) (K := fun s r' => pRun pPlace K k (lst ++ [s]) r') h (fun e => ?_) (fun e => ?_)
  · obtain ⟨k1, k2⟩ := hf7 e
    exact ⟨k1, by unfold pPlace; rw [bindP_some k2]⟩
  · rcases ht7 e with k1 | k1
    · exact .inl k1
    · exact .inr (bindP_none k1)

set_option maxHeartbeats 16000000 in
theorem rseats_any {β : Type} {o : Option β} {K : List PlaceT → List UInt8 → Option β} (g : Nat) (l : List UInt8) (bad : Bool) (w0 w : World) (h : RS w0 w g l bad) (hl : l.length ≤ 1000000) (hst : Stg o bad (bindP (pNum 72 l) fun n r => pRun pPlace K n [] r)) :
    Calls Tryz.prog 41 #[.pointer (some ⟨g, 0, none⟩)] w fun e w' => ListP placeC 73 4 72 (fun x => (Lit.int .i64 x.seg).wf = true) o K g w0 w e w' := by
  have HN : RowKit.Hid (Calls Tryz.prog 40 #[.pointer (some ⟨g, 0, none⟩), .int .i64 72] w fun e w' => ∃ (n : Nat) (r : List UInt8) (b2 : Bool), e = .returned (.int .i64 n) ∧ n ≤ 72 ∧ RS w0 w' g r b2 ∧ r.length ≤ 1000000 ∧ (b2 = false → bad = false ∧ pNum 72 l = some (n, r)) ∧ (b2 = true → bad = true ∨ pNum 72 l = none) ∧ w.grownBy w' (some g)) := Lib.hid (rnum_any g l bad 72 w0 w h hl (by omega))
  have HFX : RowKit.Hid (∀ W r b, RS w0 W g r b → r.length ≤ 1000000 → Calls Tryz.prog 68 #[.pointer (some ⟨g, 0, none⟩), .int .i64 3] W fun e w' => ∃ (n : Nat) (r2 : List UInt8) (b2 : Bool), e = .returned (.int .i64 n) ∧ n < 256 ^ 3 ∧ RS w0 w' g r2 b2 ∧ r2.length ≤ 1000000 ∧ (b2 = false → b = false ∧ pFix 3 r = some (n, r2)) ∧ (b2 = true → b = true ∨ pFix 3 r = none) ∧ W.grownBy w' (some g)) := Lib.hid fun W r b h h1 => rfix_any g r b 3 w0 W h (by omega) (by omega) h1
  have HUN : RowKit.Hid (∀ (n : Nat) W, n < 65536 → Calls Tryz.prog 69 #[.int .i64 n] W fun e w' => ∃ (px rw : Int) (c : UInt8), e = .returned (.tuple #[.int .i64 px, .agg #[.int .i64 rw, .int .u8 c.toNat]]) ∧ (px = ((n / 4096 : Nat) : Int) ∧ rw = ((n / 32 % 128 : Nat) : Int) ∧ c = UInt8.ofNat (65 + n % 32)) ∧ Below W.heap.size W w') := Lib.hid fun n W h => (unpacked_any n W h).mono fun e w' h => ⟨_, _, _, h.1, ⟨rfl, rfl, rfl⟩, h.2⟩
  have HST := Lib.hid hst
  have hgl := h.lt
  have hlo := h.1
  clear hst hl
  go_enter Tryz.func41, Tryz.ntmps41
  go_upto_block 0 with (first
    | (go_at_call 40; (with_reducible refine HN.out.mono ?_); rintro e w1 ⟨n, r1, b1, rfl, hn1, hr1, hrl1, hf1, ht1, hg1⟩))
  have HS1 : RowKit.Hid (Stg o b1 (pRun pPlace K n [] r1)) := Lib.hid (HST.out.step (K := fun n r2 => pRun pPlace K n [] r2) hf1 ht1)
  have HR1 := Lib.hid hr1
  have HG1 := Lib.hid hg1
  clear hf1 ht1 hr1 hg1 HST HN
  go_wp2
  go_loopg [3, 8] n (fun g0 s3 s8 wr => ∃ (i : Nat) (lst : List PlaceT) (r : List UInt8) (bad : Bool) (p3 : Option Addr) (n3 c3 : Nat), i ≤ n ∧ g0 = n - i ∧ s8 = .int .i64 (i : Int) ∧ s3 = .slice p3 n3 c3 ∧ wr.ownsRow w.heap.size 73 4 (.slice p3 n3 c3) i (lst.flatMap placeC) ∧ lst.length = i ∧ (∀ x ∈ lst, (Lit.int .i64 x.seg).wf = true) ∧ RS w0 wr g r bad ∧ r.length ≤ 1000000 ∧ Stg o bad (pRun pPlace K (n - i) lst r) ∧ w.grownBy wr (some g))
  case atStart => exact ⟨0, [], r1, b1, none, 0, 0, Nat.zero_le _, rfl, rfl, rfl, World.ownsRow_nil _ _ _ _, rfl, (fun x hx => by cases hx), HR1.out, hrl1, HS1.out, HG1.out⟩
  case round =>
    obtain ⟨i, lst, r, bad, p3, n3, c3, hin, rfl, rfl, rfl, hown, hll, hsz, hrs, hrl, hst, hgr⟩ := hrel
    have HOWN := Lib.hid hown
    have HLL := Lib.hid hll
    have HSZ := Lib.hid hsz
    have HRS := Lib.hid hrs
    have HST := Lib.hid hst
    have HGR := Lib.hid hgr
    clear hown hll hsz hrs hst hgr HR1 HS1 HG1 hrl1
    by_cases hlt : i < n
    · have hii : (i : Int) < (n : Int) := by omega
      obtain ⟨i0, hi0, hz0, hsz0, hby0⟩ := place_tinfo
      have hm1 : i + 1 ≤ maxLen := by unfold maxLen; omega
      have hm2 : (i + 1) * 32 ≤ 140737488355328 := by omega
      go_upto_region 5 with (first
        | (go_at_call 68; (with_reducible refine (HFX.out _ _ _ HRS.out hrl).mono ?_); rintro e w5 ⟨x, r5, b5, rfl, hx, hr5, hrl5, hf5, ht5, hg5⟩))
      have hx24 : x < 16777216 := Nat.lt_of_lt_of_le hx (by decide)
      have ho5 := own_far HOWN.out hg5 hgl
      have hg55 := gby_trans HGR.out hg5
      obtain ⟨q, hq⟩ : ∃ q : Nat, q = x / 65536 := ⟨_, rfl⟩
      obtain ⟨n16, hn16⟩ : ∃ n16 : Nat, n16 = x % 65536 := ⟨_, rfl⟩
      have hsr : ((x : Nat) : Int) / 65536 = (q : Int) := by omega
      have hand : bits .and .i64 (x : Int) 65535 = (n16 : Int) := by rw [and_low hx24, hn16]
      have hq8 : q < 256 := by omega
      have hn65 : n16 < 65536 := by omega
      have HQ := Lib.hid hq
      have HN16 := Lib.hid hn16
      have HSGV : RowKit.Hid (((q : Int) + 1) = ((x / 65536 + 1 : Nat) : Int)) := Lib.hid (by omega)
      have HWF : RowKit.Hid ((Lit.int .i64 ((q : Int) + 1)).wf = true) := Lib.hid (wfI_of (by omega) (by omega))
      have HX24 := Lib.hid hx24
      have HO5 := Lib.hid ho5
      have HG55 := Lib.hid hg55
      have HR5 := Lib.hid hr5
      have HF5 := Lib.hid hf5
      have HT5 := Lib.hid ht5
      have hzs := hg55.size
      clear hx hq hn16 ho5 hg55 hr5 hf5 ht5 hg5 hx24
      go_upto_region 6 with (first
        | (refine wpList_store_blk rfl 73 (.tmp 5) (.tmp 15) rfl w5.heap.size 73 [.int .i64 0, .int .i64 0, .int .i64 0, .int .u8 0] [.int .i64 ((q : Int) + 1), .int .i64 0, .int .i64 0, .int .u8 0] rfl rfl (Blk.new w5 73 [.int .i64 0, .int .i64 0, .int .i64 0, .int .u8 0]) rfl info_place (placeC_one ⟨(q : Int) + 1, 0, 0, 0⟩) ?_; intro w8 ha8 hb8 hgr8))
      try dsimp only [Act.put]
      have h58 : Below w5.heap.size w5 w8 := ((Below.refl _ _).alloc (Nat.le_refl _) _).trans hb8
      have hgne : w5.heap.size ≠ g := by have := HR5.out.lt; omega
      have HA8 := Lib.hid ha8
      have HB58 := Lib.hid h58
      have HGX : RowKit.Hid (w.heap.size ≤ w5.heap.size) := Lib.hid hzs
      clear ha8 hb8 hgr8 h58
      generalize hgx : w5.heap.size = gx at *
      have HGXE := Lib.hid hgx
      clear hgx
      go_upto_region 7 with (first
        | (go_at_call 69; (with_reducible refine (HUN.out n16 _ hn65).mono ?_); rintro e w6 ⟨px, rw, c, rfl, hpr, hb6⟩; have HPR := Lib.hid hpr; clear hpr; have hbx6 := HA8.out.mono hb6; have HBX6 := Lib.hid hbx6; have hf6 := hbx6.frozen 1; have hc6 : w6.cell? ⟨gx, 1, none⟩ = some (.int .i64 0) := (hbx6.cell 1).trans rfl)
        | (refine wpList_store_part rfl 71 (.tmp 23) (.tmp 21) rfl gx 2 73 [.int .i64 ((q : Int) + 1), .int .i64 px, .int .i64 0, .int .u8 0] [.int .i64 rw, .int .u8 c.toNat] rfl rfl (HBX6.out.set 1 _) (show (4 : Nat) ≤ 4 by decide) info_seat2 (seat2_one _ _) ?_; intro w7 hbx7 hb7 hg7))
      try dsimp only [Act.put]
      have HBX7 : RowKit.Hid (Blk w7 gx 73 [.int .i64 ((q : Int) + 1), .int .i64 px, .int .i64 rw, .int .u8 c.toNat]) := Lib.hid hbx7
      have hall : w5.grownBy w7 (some gx) := gr_same (gr_same (gr_of_below (by rw [HGXE.out]; exact HB58.out.trans (hb6.mono (by have := HB58.out.size; rw [HGXE.out] at this; exact this))) _) (gr_setCell1 (b := gx) (World.grownBy.refl w6 _) 1 (.int .i64 px))) hg7
      have HALL := Lib.hid hall
      have hr7 : RS w0 w7 g r5 b5 := RS.kept (row := some gx) HR5.out hall (by intro e; injection e with e; exact hgne e.symm) (fun k hk => by injection hk with hk; subst hk; have := HR5.out.bel.size; rw [HGXE.out] at this; omega)
      have ho7 : w7.ownsRow w.heap.size 73 4 (.slice p3 n3 c3) i (lst.flatMap placeC) := World.ownsRow.kept HO5.out hall (by
        refine .inr fun e => ?_
        have := (World.ownsRow.lt HO5.out _ e).2
        rw [HGXE.out] at this
        omega)
      have hg77 : w.grownBy w7 (some g) := gr_new HG55.out hall HGX.out
      have hrr : w7.rangeAt gx 0 [.int .i64 ((q : Int) + 1), .int .i64 px, .int .i64 rw, .int .u8 c.toNat] := HBX7.out.range
      have hB7 := hg77.size
      have HR7 := Lib.hid hr7
      have HO7 := Lib.hid ho7
      have HG77 := Lib.hid hg77
      clear hbx7 hb7 hg7 hall hr7 ho7 hg77 HA8 HB58 hb6 hbx6 hf6 hc6 HBX6
      go_wp2_with (first
        | (refine wpList_load_mid rfl 73 (.tmp 5) rfl gx 0 rfl [.int .i64 ((q : Int) + 1), .int .i64 px, .int .i64 rw, .int .u8 c.toNat] _ hrr Tryz.underlying73 rfl info_place ?_)
        | (at_builtin; refine wpList_pushC rfl _ _ 27 rfl w.heap.size 73 i0 _ 4 32 Tryz.underlying27 hi0 hz0 hsz0 hby0 rfl (by decide) _ i _ rfl HO7.out (placeC ⟨(q : Int) + 1, px, rw, c⟩) rfl rfl (placeC_one _) hm1 hm2 hB7 ?_; intro v4 w4 ho4 hb4 hg4; replace hg4 : World.grownBy _ w4 (Value.slice p3 n3 c3).ownBlock := hg4; obtain ⟨p4, n4, c4, rfl⟩ := own_slice ho4))
      have hstn := place_step (k := n - (i + 1)) HX24.out (by have := HST.out; rw [show n - i = (n - (i + 1)) + 1 by omega] at this; exact this) HF5.out HT5.out HN16.out HPR.out.1 HPR.out.2.1 HPR.out.2.2 HSGV.out
      have hr4 := HR7.out.farA hg4 (own_row_ne HO7.out hgl) (fun k hk => by have := (World.ownsRow.lt HO7.out k hk).1; omega)
      have hgrn : w.grownBy w4 (some g) := gr_push HG77.out hb4 (Nat.le_trans (by simp) hg4.size)
      go_roundg (n - (i + 1))
      case measure => omega
      case rel => exact ⟨i + 1, lst ++ [⟨(q : Int) + 1, px, rw, c⟩], r5, b5, _, _, _, by omega, rfl, by go_num, rfl, by rw [List.flatMap_append, show ([⟨(q : Int) + 1, px, rw, c⟩] : List PlaceT).flatMap placeC = placeC ⟨(q : Int) + 1, px, rw, c⟩ by simp]; exact ho4, by rw [List.length_append, HLL.out]; rfl, (fun t ht => by
        rcases List.mem_append.1 ht with h1 | h1
        · exact HSZ.out t h1
        · rw [List.mem_singleton.1 h1]; exact HWF.out), hr4, hrl5, hstn, hgrn⟩
    · have hie : i = n := by omega
      subst hie
      have hii : ¬ (i : Int) < (i : Int) := by omega
      go_wp2
      go_ret
      exact ⟨_, lst, r, bad, rfl, by rw [HLL.out]; exact HOWN.out, by rw [HLL.out]; exact hn1, HSZ.out, HRS.out, hrl, by have := HST.out; rw [Nat.sub_self] at this; exact this, HGR.out⟩
end Go.Proofs.YtofomopmmopflaaGreatDoor
