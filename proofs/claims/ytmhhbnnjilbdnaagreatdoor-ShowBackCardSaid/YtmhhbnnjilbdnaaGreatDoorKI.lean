/- The lines of queues' sizes (program and reference). What is left on flights: the program's lines. -/
import Derived.Test.YtmhhbnnjilbdnaaGreatDoorKA
import Derived.Test.YtmhhbnnjilbdnaaGreatDoorKB
import Derived.Test.YtmhhbnnjilbdnaaGreatDoorKF
import Derived.Test.YtmhhbnnjilbdnaaGreatDoorPlnP
import Derived.Test.YtmhhbnnjilbdnaaGreatDoorKG
import Derived.Test.YtmhhbnnjilbdnaaGreatDoorSA
import Derived.Test.YtmhhbnnjilbdnaaGreatDoorSB
import Derived.Test.YtmhhbnnjilbdnaaGreatDoorSC
import Derived.Test.YtmhhbnnjilbdnaaGreatDoorKH
import Derived.Test.YtmhhbnnjilbdnaaGreatDoorRows
import Derived.WalkKit
import Derived.WalkSpells
import Derived.WalkLawsBesides
import Derived.Lib.ConvBytes
import Derived.Lib.Hide
import Derived.Lib.SliceRun
import Derived.IntWalk
import Derived.BigQuiet
import Derived.Deep.QuietTactic
import Derived.Deep.RegionWith
import Derived.Deep.RegionHeld3
import Derived.Deep.LoopGhost
import Derived.Deep.CutRange
import Derived.Deep.CutBlock
import Derived.Deep.MidRow
import Derived.Laws.OwnMore
import Derived.OwnWalk
import Derived.Laws.AppendOwnNone
import Derived.Laws.Rows
import Derived.Laws.MakeOwn
import Derived.Laws.CopyOwn
import Derived.Laws.BitsAllLaws
import Derived.DeepKeys5
import Derived.Maps.OwnOps
import Derived.Handy
import Derived.Lib.AppendStr
import Derived.StillTailTactics
import Derived.Deep.AppendLies
import Derived.ProofKit
import Derived.OpenShut
import Derived.SliceStrings
import Derived.Lib.SmallJoins
import Derived.Deep.SlicePairs
import Derived.ChangeSlices
import Derived.WideKeyEntry
import Derived.Tactics2
import Derived.Defers
import Derived.Recover
import Derived.Shelf.Strconv.Itoa0
import Derived.Shelf.Strconv.Itoa1
import Derived.Shelf.LaysM
import Derived.Shelf.Strconv.Itoa2
import Derived.Shelf.Strconv.Itoa3
import Derived.Maps.AppendAt
import Derived.Lib.Bytealg
import Derived.Deep.RegionLaw
import Derived.Shelf.Strings.Builder1
import Derived.Shelf.Strings.Builder2
import Derived.Shelf.Strings.Count
import Derived.Shelf.Strings.Split
import Derived.Shelf.Strings.Replace
namespace Go.Proofs.YtmhhbnnjilbdnaaGreatDoor.Sh
open Go.RowKit En Go.ChangeMaps
set_option linter.unusedSimpArgs false
set_option linter.unusedVariables false
set_option maxRecDepth 20000

theorem abs_u64 (m : Nat) (h : 1 ≤ m) (h2 : (m : Int) ≤ 9223372036854775808) : IntKind.u64.wrap (-(IntKind.u64.wrap (-(m : Int)))) = (m : Int) := by
  have e : ∀ x : Int, IntKind.u64.wrap x = x % 18446744073709551616 := fun x => by
    simp [IntKind.wrap, IntKind.signed, IntKind.bits]
  rw [e, e]
  omega

theorem heap_new_at {W : World} {o : Obj} {g : Nat} (h : W.heap.size = g) : (W.alloc o).heap[g]? = some o := by subst h; exact heap_alloc_new _ _
theorem e64 (x : Int) : IntKind.u64.wrap x = x % 18446744073709551616 := by simp [IntKind.wrap, IntKind.signed, IntKind.bits]
theorem e8 (x : Int) : IntKind.u8.wrap x = x % 256 := by simp [IntKind.wrap, IntKind.signed, IntKind.bits]
theorem dgt (m : Nat) (h : (m : Int) ≤ 9223372036854775808) : IntKind.u8.wrap (IntKind.u64.wrap (48 + (IntKind.u64.wrap ((m : Int) / 10)).tmod 10)) = 48 + ((m % 100 : Nat) : Int) / 10 ∧ IntKind.u8.wrap (IntKind.u64.wrap (48 + (m : Int).tmod 10)) = 48 + ((m % 100 : Nat) : Int) % 10 := by
  have e1 : IntKind.u64.wrap ((m : Int) / 10) = (m : Int) / 10 := by rw [e64]; omega
  rw [e1, Int.tmod_eq_emod_of_nonneg (by omega), Int.tmod_eq_emod_of_nonneg (by omega), e64, e64, e8, e8]
  omega
/-- 'string([]byte{a, b})', the block wherever it lies. -/
theorem two_at (W : World) (g k : Nat) (a b : Int) (hk : k < 100) (ha : a = 48 + (k : Int) / 10) (hb : b = 48 + (k : Int) % 10) (h0 : W.cell? ⟨g, 0, none⟩ = some (.int .u8 a)) (h1 : W.cell? ⟨g, 1, none⟩ = some (.int .u8 b)) :
    (convert 69 9 (.slice (some ⟨g, 0, none⟩) 2 2)).run Tryz.prog W = .ok (.string (Da.twoA k)) W := by
  refine string_conv (Da.two k) _ g 2 2 rfl fun j hj => ?_
  match j, hj with
  | 0, _ => rw [h0, ha]; show _ = some (Value.int .u8 (((UInt8.ofNat (48 + k / 10)).toNat : Nat) : Int)); rw [Da.ofNat_int _ (by omega)]; congr 2
  | 1, _ => rw [h1, hb]; show _ = some (Value.int .u8 (((UInt8.ofNat (48 + k % 10)).toNat : Nat) : Int)); rw [Da.ofNat_int _ (by omega)]; congr 2

set_option maxHeartbeats 8000000 in
theorem sizes_any (office : ByteArray) (v : Value) (l : List (Int × Int)) (w : World) (ho : office.size ≤ 1125899906842624) (hv : HasE szC w v l) (hl : l.length ≤ 1000) (hw : ∀ x ∈ l, (Lit.int .i64 x.1).wf = true ∧ (Lit.int .i64 x.2).wf = true) (hp : PowTab w) :
    Calls Tryz.prog 17 #[.string office, v] w fun e w' => LinesE w.heap.size (sizesL (toL office) l) e w' ∧ Below w.heap.size w w' := by
  obtain ⟨p, c, rfl⟩ := hv.len
  have HV : RowKit.Hid (∀ W, Below w.heap.size w W → HasE szC W (.slice p l.length c) l) := Lib.hid fun W h => hv.mono h
  have HI : RowKit.Hid (∀ n, (Lit.int .i64 n).wf = true → ∀ W, Below w.heap.size w W → Calls Tryz.prog 28 #[.int .i64 n] W fun e w' => (∃ s : ByteArray, e = .returned (.string s) ∧ toL s = itoaL n ∧ s.size ≤ 20) ∧ Below W.heap.size W w') := Lib.hid fun n hn => (itoaH hp n hn).out
  have HW := Lib.hid hw
  have hb0 : Below w.heap.size w (w.alloc (.cells #[.string ((⟨#[81, 85, 69, 85, 69, 83, 32]⟩ : ByteArray) ++ office)] 9)) := (Below.refl _ _).alloc (Nat.le_refl _) _
  have hown0 : OwnL (w.alloc (.cells #[.string ((⟨#[81, 85, 69, 85, 69, 83, 32]⟩ : ByteArray) ++ office)] 9)) w.heap.size (.slice (some ⟨w.heap.size, 0, none⟩) 1 1) [(⟨#[81, 85, 69, 85, 69, 83, 32]⟩ : ByteArray) ++ office] := World.ownsRow_lit (size := 1) w #[.string _] 1 (Nat.le_refl _) (by decide) rfl
  generalize hw1 : w.alloc (.cells #[.string ((⟨#[81, 85, 69, 85, 69, 83, 32]⟩ : ByteArray) ++ office)] 9) = w1 at hb0 hown0
  have HO := Lib.hid hown0
  have HB := Lib.hid hb0
  obtain ⟨MX, hMX, hof⟩ : ∃ M : Int, M ≤ 9223372036854775807 ∧ (office.size : Int) + 100 ≤ M := ⟨9223372036854775807, Int.le_refl _, by omega⟩
  clear hown0 hb0 hv hp hw ho
  generalize hM : l.length = M at *
  have HM := Lib.hid hM
  clear hM
  go_enter Tryz.func17, Tryz.ntmps17
  go_upto_region 2 with fail
  try rw [hw1]
  clear hw1
  go_wp2
  go_loopg [5, 14] M (fun g0 s5 s14 wr => ∃ (i : Nat) (q : Option Addr) (nq cq : Nat) (L : List ByteArray), i ≤ M ∧ g0 = M - i ∧ s5 = .slice q nq cq ∧ s14 = .int .i64 (i : Int) ∧ OwnL wr w.heap.size (.slice q nq cq) L ∧ L.length ≤ i + 1 ∧ L.map toL = ([81, 85, 69, 85, 69, 83, 32] ++ toL office) :: (l.take i).map szLn ∧ Below w.heap.size w wr)
  case atStart => exact ⟨0, _, _, _, [_], Nat.zero_le _, rfl, rfl, rfl, HO.out, Nat.le_refl _, by simp [toL_app, toL_lit], HB.out⟩
  case round =>
    obtain ⟨i, q, nq, cq, L, hiM, rfl, rfl, rfl, hown, hLl, hLm, hbw⟩ := hrel
    have HOWN := Lib.hid hown
    have HLM := Lib.hid hLm
    have HBW := Lib.hid hbw
    have hBs := hbw.size
    clear hown hLm hbw HO HB
    by_cases hlt : i < M
    · have hii : (i : Int) < (M : Int) := by omega
      have hi0 : (0 : Int) ≤ (i : Int) := by omega
      have hiM2 : i < l.length := by rw [HM.out]; exact hlt
      obtain ⟨bb, off, rfl, hr, _, _⟩ := sz_at (HV.out wr HBW.out) hiM2
      have hwf := HW.out _ (List.mem_of_getElem? (getD_at (0, 0) hiM2))
      have HTK := Lib.hid (take_map_snoc szLn (0, 0) hiM2)
      generalize l.getD i (0, 0) = x at *
      obtain ⟨qu, nn⟩ := x
      simp only at hwf
      have HWF := Lib.hid hwf
      clear hwf
      go_upto_region 5 with (first
        | (refine wpList_load_mid rfl 105 _ rfl bb (off + i * 2) rfl [.int .i64 qu, .int .i64 nn] _ hr Tryz.underlying105 rfl info_size ?_)
        | (refine wpList_store_blk rfl 105 (.tmp 7) (.tmp 17) rfl wr.heap.size 105 [.int .i64 0, .int .i64 0] [.int .i64 qu, .int .i64 nn] rfl rfl (Blk.new wr 105 [.int .i64 0, .int .i64 0]) rfl info_size (szC_one (qu, nn)) ?_; intro w8 ha8 hb8 hg8))
      dsimp only [Act.put]
      have hal : Below wr.heap.size wr (wr.alloc (.cells #[.int .i64 0, .int .i64 0] 105)) := (Below.refl _ _).alloc (Nat.le_refl _) _
      have hr8 := hal.trans hb8
      have HR8 := Lib.hid hr8
      have c0 : w8.cell? ⟨wr.heap.size, 0, none⟩ = some (.int .i64 qu) := (ha8.cell 0).trans rfl
      have c1 : w8.cell? ⟨wr.heap.size, 1, none⟩ = some (.int .i64 nn) := (ha8.cell 1).trans rfl
      have HO8 := Lib.hid (HOWN.out.mono hr8)
      have HB8 := Lib.hid (bel_trans HBW.out hr8)
      clear hr ha8 hb8 hg8 hal hr8
      have hqb : -9223372036854775808 ≤ qu ∧ qu ≤ 9223372036854775807 := by
        have := HWF.out.1
        simp [Lit.wf, IntKind.min, IntKind.max, IntKind.signed, IntKind.bits] at this
        omega
      have hcm : ∃ m : Nat, (m : Int) ≤ 9223372036854775808 ∧ ((qu = -(m : Int) ∧ 1 ≤ m) ∨ (qu = (m : Int) ∧ (m : Int) ≤ 9223372036854775807)) := ⟨qu.natAbs, by omega, by omega⟩
      obtain ⟨m, hm1, hm⟩ := hcm
      clear hqb
      have hu : IntKind.u64.wrap (m : Int) = (m : Int) := by
        simp [IntKind.wrap, IntKind.signed, IntKind.bits]
        omega
      have HU := Lib.hid hu
      clear hu
      rcases hm with ⟨rfl, hm2⟩ | ⟨rfl, hm2⟩
      focus (
        have HA := Lib.hid (abs_u64 m hm2 hm1)
        have HNA : RowKit.Hid ((-(m : Int)).natAbs = m) := Lib.hid (by omega)
        have hneg : -(m : Int) < 0 := by omega
        obtain ⟨MM, hMM⟩ : ∃ M : Int, (m : Int) ≤ M := ⟨m, Int.le_refl _⟩
        have HM1 := Lib.hid hm1
        clear hm1
        go_upto_region 8 with fail
        rw [HA.out]
        clear hneg hm2 HA)
      rotate_left
      focus (
        have HNA : RowKit.Hid ((m : Int).natAbs = m) := Lib.hid (by omega)
        have hneg : ¬ (m : Int) < 0 := by omega
        have HM1 := Lib.hid hm1
        clear hm1 hm2
        go_upto_region 8 with fail
        try rw [HU.out]
        clear hneg)
      all_goals (
        have hk100 : m % 100 < 100 := Nat.mod_lt _ (by decide)
        have hdg := dgt m HM1.out
        obtain ⟨tw, hts, htl, htw⟩ : ∃ tw : ByteArray, tw.size = 2 ∧ toL tw = Da.two (m % 100) ∧ RowKit.Hid (∀ (W : World) (g : Nat), W.cell? ⟨g, 0, none⟩ = some (.int .u8 (IntKind.u8.wrap (IntKind.u64.wrap (48 + (IntKind.u64.wrap ((m : Int) / 10)).tmod 10)))) → W.cell? ⟨g, 1, none⟩ = some (.int .u8 (IntKind.u8.wrap (IntKind.u64.wrap (48 + (m : Int).tmod 10)))) → (convert 69 9 (.slice (some ⟨g, 0, none⟩) 2 2)).run Tryz.prog W = .ok (.string tw) W) := ⟨Da.twoA (m % 100), rfl, Da.twoA_list _, Lib.hid fun W g h0 h1 => two_at W g (m % 100) _ _ hk100 hdg.1 hdg.2 h0 h1⟩
        have HTL := Lib.hid htl
        have HTS := Lib.hid hts
        have hq0 := sum_ok (a := tw.size) (b := 1) (by omega)
        clear hk100 hdg htl hts
        have HIX := Lib.hid (HI.out nn HWF.out.2)
        have HCD : RowKit.Hid (∀ W, Below w8.heap.size w8 W → W.cell? ⟨wr.heap.size, 1, none⟩ = some (.int .i64 nn)) := Lib.hid fun W h => cell_bel h c1
        have hd1 : Below w8.heap.size w8 w8.drew := (Below.refl _ _).drew
        have hd2 : Below w8.heap.size w8 (w8.alloc (.cells #[.int .u8 (IntKind.u8.wrap (IntKind.u64.wrap (48 + (IntKind.u64.wrap ((m : Int) / 10)).tmod 10))), .int .u8 (IntKind.u8.wrap (IntKind.u64.wrap (48 + (m : Int).tmod 10)))] 5)).drew := ((Below.refl _ _).alloc (Nat.le_refl _) _).drew
        have HNC : RowKit.Hid (∀ W : World, (W.alloc (.cells #[.int .u8 (IntKind.u8.wrap (IntKind.u64.wrap (48 + (IntKind.u64.wrap ((m : Int) / 10)).tmod 10))), .int .u8 (IntKind.u8.wrap (IntKind.u64.wrap (48 + (m : Int).tmod 10)))] 5)).cell? ⟨W.heap.size, 0, none⟩ = some (.int .u8 (IntKind.u8.wrap (IntKind.u64.wrap (48 + (IntKind.u64.wrap ((m : Int) / 10)).tmod 10)))) ∧ (W.alloc (.cells #[.int .u8 (IntKind.u8.wrap (IntKind.u64.wrap (48 + (IntKind.u64.wrap ((m : Int) / 10)).tmod 10))), .int .u8 (IntKind.u8.wrap (IntKind.u64.wrap (48 + (m : Int).tmod 10)))] 5)).cell? ⟨W.heap.size, 1, none⟩ = some (.int .u8 (IntKind.u8.wrap (IntKind.u64.wrap (48 + (m : Int).tmod 10))))) := Lib.hid fun W => ⟨((Blk.new W 5 [.int .u8 (IntKind.u8.wrap (IntKind.u64.wrap (48 + (IntKind.u64.wrap ((m : Int) / 10)).tmod 10))), .int .u8 (IntKind.u8.wrap (IntKind.u64.wrap (48 + (m : Int).tmod 10)))]).cell 0).trans rfl, ((Blk.new W 5 [.int .u8 (IntKind.u8.wrap (IntKind.u64.wrap (48 + (IntKind.u64.wrap ((m : Int) / 10)).tmod 10))), .int .u8 (IntKind.u8.wrap (IntKind.u64.wrap (48 + (m : Int).tmod 10)))]).cell 1).trans rfl⟩
        have cva : (convert 69 9 (.slice (some ⟨w8.heap.size, 0, none⟩) 2 2)).run Tryz.prog (w8.alloc (.cells #[.int .u8 (IntKind.u8.wrap (IntKind.u64.wrap (48 + (IntKind.u64.wrap ((m : Int) / 10)).tmod 10))), .int .u8 (IntKind.u8.wrap (IntKind.u64.wrap (48 + (m : Int).tmod 10)))] 5)).drew = .ok (.string tw) (w8.alloc (.cells #[.int .u8 (IntKind.u8.wrap (IntKind.u64.wrap (48 + (IntKind.u64.wrap ((m : Int) / 10)).tmod 10))), .int .u8 (IntKind.u8.wrap (IntKind.u64.wrap (48 + (m : Int).tmod 10)))] 5)).drew := htw.out _ _ (HNC.out w8).1 (HNC.out w8).2
        have c1a : (w8.alloc (.cells #[.int .u8 (IntKind.u8.wrap (IntKind.u64.wrap (48 + (IntKind.u64.wrap ((m : Int) / 10)).tmod 10))), .int .u8 (IntKind.u8.wrap (IntKind.u64.wrap (48 + (m : Int).tmod 10)))] 5)).cell? ⟨wr.heap.size, 1, none⟩ = some (.int .i64 nn) := cell_bel ((Below.refl _ _).alloc (Nat.le_refl _) _) c1
        clear c0
        go_region_law (first
          | (go_simp; go_at_call 28; refine (HIX.out _ (below_w HB8.out (by first | exact hd1 | exact hd2))).mono ?_; rintro e w9 ⟨⟨t, rfl, ht, hz⟩, hb9⟩; have hi9 := bel_trans (show Below w8.heap.size w8 _ by first | exact hd1 | exact hd2) hb9; have hq := sum_ok (a := tw.size + 1) (b := t.size) (by have := HTS.out; omega); have hO9 := HO8.out.mono hi9; have hz9 := (below_w HB8.out hi9).size; have cvb : (convert 69 9 (.slice (some ⟨w9.heap.size, 0, none⟩) 2 2)).run Tryz.prog (w9.alloc (.cells #[.int .u8 (IntKind.u8.wrap (IntKind.u64.wrap (48 + (IntKind.u64.wrap ((m : Int) / 10)).tmod 10))), .int .u8 (IntKind.u8.wrap (IntKind.u64.wrap (48 + (m : Int).tmod 10)))] 5)) = .ok (.string tw) (w9.alloc (.cells #[.int .u8 (IntKind.u8.wrap (IntKind.u64.wrap (48 + (IntKind.u64.wrap ((m : Int) / 10)).tmod 10))), .int .u8 (IntKind.u8.wrap (IntKind.u64.wrap (48 + (m : Int).tmod 10)))] 5)) := htw.out _ _ (HNC.out w9).1 (HNC.out w9).2; (try have cvc : (convert 69 9 (.slice (some ⟨w8.heap.size, 0, none⟩) 2 2)).run Tryz.prog w9 = .ok (.string tw) w9 := htw.out _ _ (cell_bel hb9 (HNC.out w8).1) (cell_bel hb9 (HNC.out w8).2)))
          | (refine step_push_txt (by rfl) _ _ (by rfl) w.heap.size _ L (by rfl) (by first | exact World.ownsRow.alloc hO9 _ | exact World.ownsRow.alloc (World.ownsRow.alloc hO9 _) _) _ (by rfl) _ (by first | exact heap_alloc_new _ _ | exact heap_new_at (by simp)) (by omega) (by simp <;> omega) ?_; intro q4 n4 c4 w4 ho4 hb4))
        all_goals (
          have hB4 : Below w.heap.size w w4 := by
            have k9 := below_w HB8.out hi9
            first
              | exact (k9.alloc k9.size _).trans hb4
              | exact ((k9.alloc k9.size _).alloc (by simp; omega) _).trans hb4
          have hL4 : (L ++ [tw ++ ⟨#[32]⟩ ++ t]).map toL = ([81, 85, 69, 85, 69, 83, 32] ++ toL office) :: (l.take (i + 1)).map szLn := by
            rw [List.map_append, HLM.out, HTK.out]
            have key : ∀ qu : Int, qu.natAbs = m → toL (tw ++ ⟨#[32]⟩ ++ t) = szLn (qu, nn) := fun qu hqu => by
              unfold szLn
              rw [hqu, toL_app, toL_app, HTL.out, ht, List.append_assoc]
              rfl
            rw [List.map_singleton, key _ HNA.out]
            rfl
          have HB4 := Lib.hid hB4
          have HL4 := Lib.hid hL4
          have HO4 := Lib.hid ho4
          clear hB4 hL4 ho4 hb4
          go_wp2
          go_roundg (M - (i + 1))
          case measure => omega
          case rel => exact ⟨i + 1, q4, n4, c4, _, by omega, rfl, rfl, by go_num, HO4.out, by rw [List.length_append, List.length_singleton]; omega, HL4.out, HB4.out⟩))
    · have hie : i = M := by omega
      subst hie
      have hii : ¬ (i : Int) < (i : Int) := by omega
      by_cases h0 : i = 0
      · subst h0
        have hl0 : l = [] := List.length_eq_zero_iff.1 HM.out
        have HL0 := Lib.hid hl0
        clear hl0
        go_wp2_with (at_builtin; refine push_txt rfl _ _ rfl w.heap.size _ L rfl HOWN.out _ rfl (by omega) hBs ?_; intro q4 n4 c4 w4 ho4 hb4)
        go_ret
        exact ⟨⟨_, _, rfl, ho4, by rw [List.map_append, HLM.out, HL0.out]; rfl⟩, HBW.out.trans hb4⟩
      · have hne : ((i : Int) == 0) = false := by rw [beq_eq_false_iff_ne]; omega
        have hnn : (i == 0) = false := by rw [beq_eq_false_iff_ne]; exact h0
        have HL0 : RowKit.Hid (l ≠ []) := Lib.hid fun e => h0 (by rw [← HM.out, e]; rfl)
        clear h0
        go_wp2
        go_ret
        exact ⟨⟨_, _, rfl, HOWN.out, by rw [HLM.out, ← HM.out, List.take_length]; unfold sizesL; rw [if_neg HL0.out]⟩, HBW.out⟩
end Go.Proofs.YtmhhbnnjilbdnaaGreatDoor.Sh
namespace Go.Proofs.YtmhhbnnjilbdnaaGreatDoor.Sh
open Go.RowKit En Go.ChangeMaps
set_option linter.unusedSimpArgs false
set_option linter.unusedVariables false
set_option maxRecDepth 20000

/-- So many are left of a class. -/
structure LeftT where
  c : UInt8
  n : Int
def leftC (x : LeftT) : List Value := [.int .u8 x.c.toNat, .int .i64 x.n]
theorem leftC_one (x : LeftT) : ∀ v ∈ leftC x, v.oneCell' = true := by
  intro v hv
  simp [leftC] at hv
  rcases hv with rfl | rfl <;> rfl
/-- A flight and what is left on it. -/
structure LineT where
  car : ByteArray
  num : Int
  src : ByteArray
  dst : ByteArray
  dep : Int
  arr : Int
  linked : Bool
  left : List LeftT
def lineC (x : LineT × Value) : List Value := [.string x.1.car, .int .i64 x.1.num, .string x.1.src, .string x.1.dst, .int .i64 x.1.dep, .int .i64 x.1.arr, .bool x.1.linked, x.2]
def leftLn (x : LeftT) : List UInt8 := 32 :: x.c :: itoaL x.n
def headAv (i : Nat) (x : LineT) : List UInt8 := itoaL ((i : Int) + 1) ++ (if x.linked then [43] else [])
def bodyAv (x : LineT) : List UInt8 := 32 :: (flTx x.car x.num ++ (32 :: (toL x.src ++ (32 :: (cTx x.dep ++ (32 :: (toL x.dst ++ (32 :: cTx x.arr))))))))
def avLn (i : Nat) (x : LineT) : List UInt8 := headAv i x ++ (bodyAv x ++ x.left.flatMap leftLn)
def availL (d : Int) (src dst : List UInt8) (l : List LineT) : List (List UInt8) := (dTx d ++ (32 :: (src ++ (45 :: dst)))) :: (if l = [] then [[78, 79, 32, 70, 76, 73, 71, 72, 84, 83]] else l.mapIdx avLn)
/-- What is known of a line. -/
structure LineOk (x : LineT) : Prop where
  car : x.car.size ≤ 1000
  src : x.src.size ≤ 1000
  dst : x.dst.size ≤ 1000
  num : (Lit.int .i64 x.num).wf = true
  few : x.left.length ≤ 50
  wf : ∀ y ∈ x.left, (Lit.int .i64 y.n).wf = true
def lv0 : LeftT := ⟨0, 0⟩
def ln0 : LineT := ⟨⟨#[]⟩, 0, ⟨#[]⟩, ⟨#[]⟩, 0, 0, false, []⟩
theorem info_line : (Tryz.prog.info? 100).map (·.size) = some 8 := by kernel_rfl
theorem info_sold' : (Tryz.prog.info? 102).map (·.size) = some 2 := by kernel_rfl
theorem left_at {w : World} {p : Option Addr} {n c : Nat} {l : List LeftT} (h : HasE leftC w (.slice p n c) l) {i : Nat} (hi : i < l.length) : ∃ b off, p = some ⟨b, off, none⟩ ∧ w.rangeAt b (off + i * 2) (leftC (l.getD i lv0)) ∧ w.cell? ⟨b, off + i * 2, none⟩ = some (.int .u8 (l.getD i lv0).c.toNat) ∧ w.cell? ⟨b, off + i * 2 + 1, none⟩ = some (.int .i64 (l.getD i lv0).n) := by
  obtain ⟨b, off, rfl, hc⟩ := HasE.at (st := 2) (fun _ => rfl) h (getD_at lv0 hi)
  refine ⟨b, off, rfl, fun j u hj => ?_, ?_, ?_⟩
  · have hj2 : j < 2 := (List.getElem?_eq_some_iff.1 hj).1
    have := hc j u hj2 hj
    rwa [show off + (i * 2 + j) = off + i * 2 + j by omega] at this
  · have := hc 0 _ (by decide) rfl
    simpa using this
  · have := hc 1 _ (by decide) rfl
    rwa [show off + (i * 2 + 1) = off + i * 2 + 1 by omega] at this
theorem line_at {w : World} {p : Option Addr} {n c : Nat} {l : List (LineT × Value)} (h : HasE lineC w (.slice p n c) l) {i : Nat} (hi : i < l.length) : ∃ b off, p = some ⟨b, off, none⟩ ∧ w.rangeAt b (off + i * 8) (lineC (l.getD i (ln0, .slice none 0 0))) := by
  obtain ⟨b, off, rfl, hc⟩ := HasE.at (st := 8) (fun _ => rfl) h (getD_at (ln0, .slice none 0 0) hi)
  refine ⟨b, off, rfl, fun j u hj => ?_⟩
  have hj2 : j < 8 := (List.getElem?_eq_some_iff.1 hj).1
  have := hc j u hj2 hj
  rwa [show off + (i * 8 + j) = off + i * 8 + j by omega] at this
theorem take_mapIdx_snoc {α β : Type} (f : Nat → α → β) (d : α) {l : List α} {i : Nat} (h : i < l.length) : (l.take (i + 1)).mapIdx f = (l.take i).mapIdx f ++ [f i (l.getD i d)] := by
  rw [List.take_succ_eq_append_getElem h, List.mapIdx_concat]
  have : (l.take i).length = i := by simp; omega
  rw [this]
  simp [List.getD, h]
theorem take_flat_snoc {α β : Type} (f : α → List β) (d : α) {l : List α} {i : Nat} (h : i < l.length) : (l.take (i + 1)).flatMap f = (l.take i).flatMap f ++ f (l.getD i d) := by
  rw [List.take_succ_eq_append_getElem h, List.flatMap_append]
  simp [List.getD, h]
end Go.Proofs.YtmhhbnnjilbdnaaGreatDoor.Sh
