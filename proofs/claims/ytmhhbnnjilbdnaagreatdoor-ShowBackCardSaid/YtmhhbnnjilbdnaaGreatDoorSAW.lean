/- The statements' own look at plain answers. -/
import Derived.Test.YtmhhbnnjilbdnaaGreatDoorKA
import Derived.Test.YtmhhbnnjilbdnaaGreatDoorKB
import Derived.Test.YtmhhbnnjilbdnaaGreatDoorKD
import Derived.Test.YtmhhbnnjilbdnaaGreatDoorKF
import Derived.Test.YtmhhbnnjilbdnaaGreatDoorPlnP
import Derived.Test.YtmhhbnnjilbdnaaGreatDoorKG
import Derived.Test.YtmhhbnnjilbdnaaGreatDoorSA
import Derived.Test.YtmhhbnnjilbdnaaGreatDoorSB
import Derived.Test.YtmhhbnnjilbdnaaGreatDoorSD
import Derived.Test.YtmhhbnnjilbdnaaGreatDoorKH
import Derived.Test.YtmhhbnnjilbdnaaGreatDoorKI
import Derived.Test.YtmhhbnnjilbdnaaGreatDoorKJ
import Derived.Test.YtmhhbnnjilbdnaaGreatDoorKL
import Derived.Test.YtmhhbnnjilbdnaaGreatDoorKN
import Derived.Test.YtmhhbnnjilbdnaaGreatDoorSP
import Derived.Test.YtmhhbnnjilbdnaaGreatDoorSJ
import Derived.Test.YtmhhbnnjilbdnaaGreatDoorRows
import Derived.WalkKit
import Derived.WalkSpells
import Derived.WalkLawsBesides
import Derived.Lib.ConvBytes
import Derived.Lib.Hide
import Derived.Lib.SliceRun
import Derived.IntWalk
import Derived.BigQuiet
import Derived.Deep.QuietTactic
import Derived.Deep.RegionWith
import Derived.Deep.RegionHeld3
import Derived.Deep.LoopGhost
import Derived.Deep.CutRange
import Derived.Deep.CutBlock
import Derived.Deep.MidRow
import Derived.Laws.OwnMore
import Derived.OwnWalk
import Derived.Laws.AppendOwnNone
import Derived.Laws.Rows
import Derived.Laws.MakeOwn
import Derived.Laws.CopyOwn
import Derived.Laws.BitsAllLaws
import Derived.DeepKeys5
import Derived.Maps.OwnOps
import Derived.Handy
import Derived.Lib.AppendStr
import Derived.StillTailTactics
import Derived.Deep.AppendLies
import Derived.ProofKit
import Derived.OpenShut
import Derived.SliceStrings
import Derived.Lib.SmallJoins
import Derived.Deep.SlicePairs
import Derived.ChangeSlices
import Derived.WideKeyEntry
import Derived.Tactics2
import Derived.Defers
import Derived.Recover
import Derived.Shelf.Strconv.Itoa0
import Derived.Shelf.Strconv.Itoa1
import Derived.Shelf.LaysM
import Derived.Shelf.Strconv.Itoa2
import Derived.Shelf.Strconv.Itoa3
import Derived.Maps.AppendAt
import Derived.Lib.Bytealg
import Derived.Deep.RegionLaw
import Derived.Shelf.Strings.Builder1
import Derived.Shelf.Strings.Builder2
import Derived.Shelf.Strings.Count
import Derived.Shelf.Strings.Split
import Derived.Shelf.Strings.Replace
import Derived.StillTail
import Derived.Lib.QuietBelow
import Derived.Lib.ReplaceLaws
import Derived.ArgAppend
import Derived.Laws.RangeString
namespace Go.Proofs.YtmhhbnnjilbdnaaGreatDoor.Sh
open Go.RowKit Go.ChangeMaps En
set_option linter.unusedSimpArgs false
set_option linter.unusedVariables false
set_option maxRecDepth 20000

def mkB (l : List UInt8) : ByteArray := ⟨l.toArray⟩
theorem toL_mkB (l : List UInt8) : toL (mkB l) = l := toL_mk l
theorem map_mkB {l : List ByteArray} {L : List (List UInt8)} (h : l.map toL = L) : l = L.map mkB := by
  subst h
  rw [List.map_map]
  conv => lhs; rw [← List.map_id l]
  exact List.map_congr_left fun s _ => toL_inj (toL_mkB _).symm
theorem lines_own {B : Nat} {L : List (List UInt8)} {e : Ending} {w : World} (h : LinesE B L e w) : ∃ v, e = .returned v ∧ OwnL w B v (L.map mkB) := by
  obtain ⟨v, l, h1, h2, h3⟩ := h
  rw [map_mkB h3] at h2
  exact ⟨v, h1, h2⟩
theorem one_own {B : Nat} {x : List UInt8} {e : Ending} {w : World} (h : OneE B x e w) : ∃ v, e = .returned v ∧ OwnL w B v [mkB x] := by
  obtain ⟨v, s, h1, h2, h3⟩ := h.own
  have : s = mkB x := toL_inj (h3.trans (toL_mkB x).symm)
  rw [this] at h2
  exact ⟨v, h1, h2⟩

theorem itoa_1 : itoaL (((0 : Nat) : Int) + 1) = [49] := by
  unfold itoaL
  rw [if_neg (by decide), show (((0 : Nat) : Int) + 1).toNat = 1 from rfl, digL_lt (by decide)]
  rfl
theorem itoa_one : itoaL (1 : Int) = [49] := itoa_1
theorem err_13 : errLn 13 = [69, 49, 51, 32, 83, 79, 76, 68, 32, 79, 85, 84] := by
  unfold errLn errL
  rw [if_neg (by decide), show (13 : Int).toNat = 13 from rfl, digL_ge (by decide), digL_lt (by decide)]
  rfl
def p0 : PnrT := ⟨⟨#[73, 73, 68, 73, 83, 77]⟩, ⟨#[76, 79, 78]⟩, [], [], [⟨#[48, 50, 48]⟩], 0, 0, 0, ⟨#[]⟩, [], [], false⟩
theorem show_p0 : showP p0 = [[80, 78, 82, 32, 73, 73, 68, 73, 83, 77, 32, 76, 79, 78], [80, 49, 32, 48, 50, 48], [84, 32, 78, 79, 78, 69]] := by
  show [headLn p0, 80 :: (itoaL (((0 : Nat) : Int) + 1) ++ (32 :: [48, 50, 48])), tickLn p0] = _
  rw [itoa_1]
  rfl
def pl1 : Pl := ⟨1, 1, ⟨#[65, 46, 66]⟩, [], []⟩
theorem map_p1 : mapL pl1 [] ⟨#[]⟩ = [[32, 32, 32, 65, 32, 66], [32, 49, 32, 111, 32, 111]] := by
  have hl : letF pl1.lets.data.toList = some [65, 66] := by decide
  have hr : rightB pl1 = true := by decide
  rw [mapL_yes hr hl]
  have hrow : rowsL pl1.first pl1.last = [1] := by decide
  rw [hrow]
  show [headM pl1, mapLn pl1 [65, 66] [] ⟨#[]⟩ 1] = _
  have hm : (pl1.lets.data.toList.map (fun c => markC pl1 [65, 66] [] ⟨#[]⟩ (1, c)) ++ exT pl1.exits 1) = [111, 32, 111] := by decide
  have hh : headM pl1 = [32, 32, 32, 65, 32, 66] := by decide
  unfold mapLn rowTx
  rw [hm, hh, if_pos (by decide), itoa_one]
  rfl
theorem avail_0 : availL 0 (toL (⟨#[76, 79, 78]⟩ : ByteArray)) (toL (⟨#[80, 65, 82]⟩ : ByteArray)) [] = [[48, 49, 74, 65, 78, 32, 76, 79, 78, 45, 80, 65, 82], [78, 79, 32, 70, 76, 73, 71, 72, 84, 83]] := by
  unfold availL
  rw [if_pos rfl]
  have h : dTx 0 = [48, 49, 74, 65, 78] := by decide
  rw [h]
  rfl
theorem sizes_0 : sizesL (toL (⟨#[76, 79, 78]⟩ : ByteArray)) [] = [[81, 85, 69, 85, 69, 83, 32, 76, 79, 78], [69, 77, 80, 84, 89]] := by
  unfold sizesL
  rw [if_pos rfl]
  rfl
theorem hasE_nil {α : Type} (en : α → List Value) (w : World) : HasE en w (.slice none 0 0) [] := .inl ⟨none, 0, rfl, rfl, fun _ => rfl⟩

theorem fit_p0 : FitB p0 where
  loc := by decide
  off := by decide
  names := fun x h => by cases h
  segs := fun x h => by cases h
  phones := fun x h => by
    have h : x ∈ [(⟨#[48, 50, 48]⟩ : ByteArray)] := h
    rw [List.mem_singleton.1 h]
    decide
  recv := by decide
  remarks := fun x h => by cases h
  seats := fun x h => by cases h
theorem pin_p0 {W : World} {b : Nat} (h : W.cell? ⟨b, 0, none⟩ = some (.string ⟨#[48, 50, 48]⟩)) : PIn W p0 (.slice none 0 0) (.slice none 0 0) (.slice (some ⟨b, 0, none⟩) 1 1) (.slice none 0 0) (.slice none 0 0) where
  n := hasE_nil _ _
  s := hasE_nil _ _
  ph := .inr ⟨b, 0, 1, rfl, Nat.le_refl _, by decide, fun j hj => by
    have : j = 0 := by have : [(⟨#[48, 50, 48]⟩ : ByteArray)].length = 1 := rfl; have hj : j < 1 := hj; omega
    subst this
    exact h⟩
  rm := HasL.nil _
  x := hasE_nil _ _
  fit := ⟨by decide, by decide, fun x h => (by cases h), fun x h => (by cases h), fun s h => by
    have h : s ∈ [(⟨#[48, 50, 48]⟩ : ByteArray)] := h
    rw [List.mem_singleton.1 h]
    decide, by decide, fun x h => (by cases h)⟩
  wf := fun x h => by cases h
  few := ⟨by decide, by decide, by decide, by decide, by decide⟩

set_option maxHeartbeats 8000000 in
theorem awake_any (w : World) (hm : MaxCell w) (ht : Da.LenTab w) (hp : PowTab w) :
    Calls Tryz.prog 5 #[] w fun e w' => e = .returned (.bool true) ∧ Below w.heap.size w w' := by
  have HEr : RowKit.Hid (Calls Tryz.prog 14 #[.int .i64 13] w fun e w' => (∃ v, e = .returned v ∧ OwnL w' w.heap.size v [mkB (errLn 13)]) ∧ Below w.heap.size w w') := Lib.hid ((error_any 13 w (by decide) hm).mono fun e w' ⟨h1, h2⟩ => ⟨one_own h1, h2⟩)
  have HPn : RowKit.Hid (∀ W b, Below w.heap.size w W → W.cell? ⟨b, 0, none⟩ = some (.string ⟨#[48, 50, 48]⟩) → Calls Tryz.prog 8 #[.agg #[.string ⟨#[73, 73, 68, 73, 83, 77]⟩, .string ⟨#[76, 79, 78]⟩, .slice none 0 0, .slice none 0 0, .slice (some ⟨b, 0, none⟩) 1 1, .int .i64 0, .int .i64 0, .int .i64 0, .string ⟨#[]⟩, .slice none 0 0, .slice none 0 0, .bool false]] W fun e w' => (∃ v, e = .returned v ∧ OwnL w' W.heap.size v ((showP p0).map mkB)) ∧ Below W.heap.size W w') := Lib.hid fun W b hW hc => (pnrS_any p0 _ _ _ _ _ W (pin_p0 hc) fit_p0 (ht.keep hW) (powTab_keep hp hW)).mono fun e w' ⟨h1, h2⟩ => ⟨lines_own h1, h2⟩
  have HMp : RowKit.Hid (∀ W, Below w.heap.size w W → Calls Tryz.prog 15 #[.agg #[.int .i64 1, .int .i64 1, .string ⟨#[65, 46, 66]⟩, .slice none 0 0, .slice none 0 0], .slice none 0 0, .string ⟨#[]⟩] W fun e w' => (∃ v, e = .returned v ∧ OwnL w' W.heap.size v ((mapL pl1 [] ⟨#[]⟩).map mkB)) ∧ Below W.heap.size W w') := Lib.hid fun W hW => (map_any pl1 (.slice none 0 0) (.slice none 0 0) (.slice none 0 0) [] ⟨#[]⟩ W (hasE_nil _ _) (hasE_nil _ _) (hasE_nil _ _) (by decide) (by decide) (by decide) (by decide) (fun x h => by cases h) (hm.keep hW) (powTab_keep hp hW)).mono fun e w' ⟨h1, h2⟩ => ⟨lines_own h1, h2⟩
  have HAv : RowKit.Hid (∀ W, Below w.heap.size w W → Calls Tryz.prog 16 #[.int .i64 0, .string ⟨#[76, 79, 78]⟩, .string ⟨#[80, 65, 82]⟩, .slice none 0 0] W fun e w' => (∃ v, e = .returned v ∧ OwnL w' W.heap.size v ((availL 0 (toL (⟨#[76, 79, 78]⟩ : ByteArray)) (toL (⟨#[80, 65, 82]⟩ : ByteArray)) []).map mkB)) ∧ Below W.heap.size W w') := Lib.hid fun W hW => (avail_any 0 ⟨#[76, 79, 78]⟩ ⟨#[80, 65, 82]⟩ (.slice none 0 0) [] W (by decide) (by decide) (hasE_nil _ _) (by decide) (fun x h => by cases h) (ht.keep hW) (powTab_keep hp hW)).mono fun e w' ⟨h1, h2⟩ => ⟨lines_own h1, h2⟩
  have HSz : RowKit.Hid (∀ W, Below w.heap.size w W → Calls Tryz.prog 17 #[.string ⟨#[76, 79, 78]⟩, .slice none 0 0] W fun e w' => (∃ v, e = .returned v ∧ OwnL w' W.heap.size v ((sizesL (toL (⟨#[76, 79, 78]⟩ : ByteArray)) []).map mkB)) ∧ Below W.heap.size W w') := Lib.hid fun W hW => (sizes_any ⟨#[76, 79, 78]⟩ (.slice none 0 0) [] W (by decide) (hasE_nil _ _) (by decide) (fun x h => by cases h) (powTab_keep hp hW)).mono fun e w' ⟨h1, h2⟩ => ⟨lines_own h1, h2⟩
  rw [err_13] at HEr
  rw [show_p0] at HPn
  rw [map_p1] at HMp
  rw [avail_0] at HAv
  rw [sizes_0] at HSz
  simp only [List.map_cons, List.map_nil, mkB] at HEr HPn HMp HAv HSz
  clear hm ht hp
  go_enter Tryz.func5, Tryz.ntmps5
  go_upto_region 2 with (first
    | (go_at_call 14; (with_reducible refine HEr.out.mono ?_); rintro e w1 ⟨⟨v1, rfl, ho1⟩, hb1⟩))
  have hcl : (w1.alloc (.cells #[.string ⟨#[48, 50, 48]⟩] 9)).cell? ⟨w1.heap.size, 0, none⟩ = some (.string ⟨#[48, 50, 48]⟩) := new1 w1 _ _
  have hb1a : Below w.heap.size w (w1.alloc (.cells #[.string ⟨#[48, 50, 48]⟩] 9)) := hb1.alloc hb1.size _
  have HPC := Lib.hid (HPn.out _ _ hb1a hcl)
  have HO1 := Lib.hid (OwnL.mono ho1 ((Below.refl w1.heap.size w1).alloc (Nat.le_refl _) (.cells #[.string ⟨#[48, 50, 48]⟩] 9)))
  have HB1 := Lib.hid hb1a
  clear hcl hb1a ho1 hb1 HPn HEr
  go_upto_region 3 with (first
    | (go_at_call 8; (with_reducible refine HPC.out.mono ?_); rintro e w2 ⟨⟨v2, rfl, ho2⟩, hb2⟩))
  have HB2 := Lib.hid (bel_trans HB1.out hb2)
  have HO1b := Lib.hid (OwnL.mono HO1.out hb2)
  have HO2 := Lib.hid ho2
  clear ho2 hb2 HO1 HB1 HPC
  go_upto_region 4 with (first
    | (go_at_call 15; (with_reducible refine (HMp.out _ HB2.out).mono ?_); rintro e w3 ⟨⟨v3, rfl, ho3⟩, hb3⟩))
  have HB3 := Lib.hid (bel_trans HB2.out hb3)
  have HO1c := Lib.hid (OwnL.mono HO1b.out hb3)
  have HO2c := Lib.hid (OwnL.mono HO2.out hb3)
  have HO3 := Lib.hid ho3
  clear ho3 hb3 HO1b HO2 HB2 HMp
  go_upto_region 5 with (first
    | (go_at_call 16; (with_reducible refine (HAv.out _ HB3.out).mono ?_); rintro e w4 ⟨⟨v4, rfl, ho4⟩, hb4⟩))
  have HB4 := Lib.hid (bel_trans HB3.out hb4)
  have HO1d := Lib.hid (OwnL.mono HO1c.out hb4)
  have HO2d := Lib.hid (OwnL.mono HO2c.out hb4)
  have HO3d := Lib.hid (OwnL.mono HO3.out hb4)
  have HO4 := Lib.hid ho4
  clear ho4 hb4 HO1c HO2c HO3 HB3 HAv
  go_upto_region 6 with (first
    | (go_at_call 17; (with_reducible refine (HSz.out _ HB4.out).mono ?_); rintro e w5 ⟨⟨v5, rfl, ho5⟩, hb5⟩))
  have HB5 := Lib.hid (bel_trans HB4.out hb5)
  have h1 := OwnL.has (OwnL.mono HO1d.out hb5)
  have h2 := OwnL.has (OwnL.mono HO2d.out hb5)
  have h3 := OwnL.has (OwnL.mono HO3d.out hb5)
  have h4 := OwnL.has (OwnL.mono HO4.out hb5)
  have h5 := OwnL.has ho5
  clear ho5 hb5 HO1d HO2d HO3d HO4 HB4 HSz
  obtain ⟨b1, o1, n1, c1, e1, x1⟩ := text_at2 h1 (i := 0) (by decide)
  obtain ⟨b2, o2, n2, c2, e2, x2⟩ := text_at2 h2 (i := 0) (by decide)
  obtain ⟨b3, o3, n3, c3, e3, x3⟩ := text_at2 h2 (i := 1) (by decide)
  obtain ⟨b4, o4, n4, c4, e4, x4⟩ := text_at2 h3 (i := 1) (by decide)
  obtain ⟨b5, o5, n5, c5, e5, x5⟩ := text_at2 h4 (i := 0) (by decide)
  obtain ⟨q1, r1, f1⟩ := hasL_len2 h1
  obtain ⟨q2, r2, f2⟩ := hasL_len2 h2
  obtain ⟨q3, r3, f3⟩ := hasL_len2 h3
  obtain ⟨q4, r4, f4⟩ := hasL_len2 h4
  obtain ⟨q5, r5, f5⟩ := hasL_len2 h5
  subst e1
  injection f1 with g1 g2 g3
  subst g1 g2 g3
  have e32 := e3.symm.trans e2
  injection e32 with k1 k2 k3
  injection k1 with k1
  injection k1 with k1 k4 _
  subst k1 k2 k3 k4
  subst e2
  clear e3
  injection f2 with g1 g2 g3
  subst g1 g2 g3
  subst e4
  injection f3 with g1 g2 g3
  subst g1 g2 g3
  subst e5
  injection f4 with g1 g2 g3
  subst g1 g2 g3
  subst f5
  simp only [List.getD_cons_zero, List.getD_cons_succ, List.length_cons, List.length_nil, Nat.add_zero, Nat.zero_add] at x1 x2 x3 x4 x5 ⊢
  clear h1 h2 h3 h4 h5
  go_wp2
  go_ret
  exact ⟨rfl, HB5.out⟩
end Go.Proofs.YtmhhbnnjilbdnaaGreatDoor.Sh
