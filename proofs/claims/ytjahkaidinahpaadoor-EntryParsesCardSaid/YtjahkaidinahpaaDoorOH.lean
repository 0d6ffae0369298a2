/- Entries: the reference's Parse. -/
import Derived.Test.YtjahkaidinahpaaDoorOJ
import Derived.Test.YtjahkaidinahpaaDoorNS
namespace Go.Proofs.YtjahkaidinahpaaDoor.En
open Go Go.RowKit
set_option linter.unusedSimpArgs false
set_option linter.unusedVariables false
set_option maxRecDepth 100000

theorem results_row_tmp2 {P : Program} {fn : Func} {p q r : Tmp} {ty : TypeId} (h : fn.results = #[.cell p ty, .tmp q, .tmp r]) (tmps : Array Value) (w : World) (g : Nat) (t : TypeId) (cs : List Value) (d : TypeDesc)
    (hp : tmps.getD p undef = .pointer (some ⟨g, 0, none⟩)) (hg : Blk w g t cs)
    (hu : P.underlying ty = some d) (hd : (match d with | .struct _ | .array _ _ => true | _ => false) = true) (hi : (P.info? ty).map (·.size) = some cs.length) :
    (results fn tmps).run P w = .ok (.tuple #[.agg cs.toArray, tmps.getD q undef, tmps.getD r undef]) w := by
  have hp' : tmps[p]?.getD undef = .pointer (some ⟨g, 0, none⟩) := by simpa using hp
  simp [results, h, hp', asAddr, run_loadVar_row w g t ty cs.toArray (0, 0) d hg hu hd (by simpa using hi)]

/-- What the reference's Parse comes to. -/
def RefP (o : Except Flt CmdT) (e : Ending) : Prop :=
  (∃ c, RowKit.Hid (o = .ok c) ∧ e = .returned (.tuple #[.agg (cmdC c).toArray, .int .i64 0, .int .i64 0])) ∨ (∃ k q, RowKit.Hid (o = .error (k, q)) ∧ k ≠ 0 ∧ e = .returned (.tuple #[.agg (cmdC cmd0).toArray, .int .i64 k, .int .i64 (q : Nat)]))

theorem rparse_back {a : Act} {w w0 : World} {g : Nat} {cs : List Value} {k z : Int} {o : Except Flt CmdT}
    (hp : a.tmps.getD 2 undef = .pointer (some ⟨g, 0, none⟩)) (hq : a.tmps.getD 3 undef = .int .i64 k) (hz : a.tmps.getD 4 undef = .int .i64 z) (hd : a.defers = []) (hg : Blk w g 71 cs) (hl : cs.length = 15) (hw : Below w0.heap.size w0 w)
    (h : RefP o (.returned (.tuple #[.agg cs.toArray, .int .i64 k, .int .i64 z]))) :
    bodyPost Tryd.prog Tryd.f30 (fun e w' => RefP o e ∧ RowKit.Hid (Below w0.heap.size w0 w')) .ret a w := by
  refine bodyPost_ret (results_row_tmp2 rfl a.tmps w g 71 cs _ hp hg Tryd.underlying71 rfl (by rw [hl]; exact info_cmd)) hd ?_
  rw [hq, hz]
  exact ⟨h, Lib.hid hw⟩

theorem RS.range {w : World} {b : Nat} {s : ByteArray} {p : Nat} {c : CmdT} {x : ErrS} (h : RS w b s p c x) : w.rangeAt b 2 (cmdC c) := fun j v hj => by
  have h1 := Blk.range h (j + 2) v
  rw [show 0 + (j + 2) = 2 + j by omega] at h1
  refine h1 ?_
  show (cmdC c ++ [.int .i64 x.1, .int .i64 (x.2 : Int)])[j]? = some v
  rw [List.getElem?_append_left (by have := (List.getElem?_eq_some_iff.1 hj).1; exact this)]
  exact hj

set_option maxHeartbeats 8000000 in
theorem rparse_m (s : ByteArray) (w : World) (hs : s.size ≤ maxLen) :
    Calls Tryd.prog 30 #[.string s] w fun e w' => RefP (parse (toL s)) e ∧ RowKit.Hid (Below w.heap.size w w') := by
  have hsl : (toL s).length = s.size := by simp
  obtain ⟨w1, e1, b1, hb1⟩ := box1 71 (cmdC cmd0) w
  have hz1 : w1.heap.size = w.heap.size + 1 := by rw [← e1]; simp
  have HB1 := Lib.hid b1
  have HL1 := Lib.hid hb1
  by_cases hlong : 255 < s.size
  · have hl : (255 : Int) < (s.size : Int) := by omega
    have HP : RowKit.Hid (parse (toL s) = .error (40, 255)) := Lib.hid (by unfold parse; rw [if_pos (by omega)])
    generalize parse (toL s) = pr at *
    clear b1 hb1 hsl hlong
    go_enter Tryd.func30, Tryd.ntmps30
    go_upto_region 1 with fail
    try rw [show (w.alloc (.cells #[.int .i64 0, .string ⟨#[]⟩, .string ⟨#[]⟩, .int .i64 0, .string ⟨#[]⟩, .string ⟨#[]⟩, .int .i64 0, .string ⟨#[]⟩, .string ⟨#[]⟩, .int .i64 0, .int .i64 0, .int .u8 0, .int .i64 0, .int .i64 0, .int .u8 0] 71)) = w1 from e1]
    clear e1
    go_wp2_with (first
      | (refine wpList_store_blk rfl 71 (.tmp 2) (.tmp 9) rfl w.heap.size 71 (cmdC cmd0) (cmdC cmd0) rfl rfl HB1.out rfl info_cmd cmdC_one ?_; intro w8 hb8 hl8 hg8))
    exact rparse_back rfl rfl rfl rfl hb8 rfl (HL1.out.trans hl8) (.inr ⟨40, 255, HP, by decide, rfl⟩)
  · have hl : ¬ (255 : Int) < (s.size : Int) := by omega
    obtain ⟨w2, e2, r2, hb2⟩ : ∃ w2, w1.alloc (.cells #[.string s, .int .i64 0, .int .i64 0, .string ⟨#[]⟩, .string ⟨#[]⟩, .int .i64 0, .string ⟨#[]⟩, .string ⟨#[]⟩, .int .i64 0, .string ⟨#[]⟩, .string ⟨#[]⟩, .int .i64 0, .int .i64 0, .int .u8 0, .int .i64 0, .int .i64 0, .int .u8 0, .int .i64 0, .int .i64 0] 136) = w2 ∧ RS w2 w1.heap.size s 0 cmd0 (0, 0) ∧ Below w1.heap.size w1 w2 :=
      ⟨_, rfl, by have h := Blk.new w1 136 (.string s :: .int .i64 0 :: (cmdC cmd0 ++ [.int .i64 0, .int .i64 0])); exact h, (Below.refl _ _).alloc (Nat.le_refl _) _⟩
    have hsm : s.size ≤ maxLen := hs
    have HBG : RowKit.Hid (Calls Tryd.prog 65 #[.pointer (some ⟨w1.heap.size, 0, none⟩)] w2 fun e w' => ∃ k q, RowKit.Hid (rBeg (toL s) = (k, q)) ∧ e = .returned (.tuple #[]) ∧ RS w' w1.heap.size s q (cmdK k) (err0 k) ∧ q ≤ s.size ∧ RowKit.Hid (Below w1.heap.size w2 w')) := Lib.hid ((rbegin_m _ s w2 hsm r2).mono fun e w' h => ⟨_, _, Lib.hid rfl, h.1, h.2.1, h.2.2.1, Lib.hid h.2.2.2⟩)
    have HPA : RowKit.Hid (∀ k q x W, q ≤ s.size → RS W w1.heap.size s q (cmdK k) x → Calls Tryd.prog 66 #[.pointer (some ⟨w1.heap.size, 0, none⟩)] W fun e w' => ∃ c q' y, RowKit.Hid (rParts k (toL s) q x = (c, q', y)) ∧ e = .returned (.tuple #[]) ∧ RS w' w1.heap.size s q' c y ∧ RowKit.Hid (Below w1.heap.size W w')) := Lib.hid fun k q x W hq hc => (rparts_m _ s k q x W hsm hq hc).mono fun e w' h => ⟨_, _, _, Lib.hid rfl, h.1, h.2.1, Lib.hid h.2.2.2⟩
    have HW : RowKit.Hid (∀ q c x W, RS W w1.heap.size s q c x → Calls Tryd.prog 67 #[.pointer (some ⟨w1.heap.size, 0, none⟩), .int .i64 47, .int .i64 (q : Int)] W fun e w' => e = .returned (.tuple #[]) ∧ RS w' w1.heap.size s q c (wrongP x 47 q) ∧ RowKit.Hid (Below w1.heap.size W w')) := Lib.hid fun q c x W h => (wrong_m _ s q c x 47 q W h).mono fun _ _ h => ⟨h.1, h.2.1, Lib.hid h.2.2⟩
    have HEN : RowKit.Hid (∀ k p c q x, rBeg (toL s) = (k, p) → rParts k (toL s) p (err0 k) = (c, q, x) → ((errE (toL s) q x).1 = 0 → parse (toL s) = .ok c) ∧ ((errE (toL s) q x).1 ≠ 0 → parse (toL s) = .error (errE (toL s) q x))) := Lib.hid fun k p c q x h1 h2 => ref_end (by omega) h1 h2
    have HE1 : RowKit.Hid (∀ q x, q < s.size → errE (toL s) q x = wrongP x 47 q) := Lib.hid fun q x h => by unfold errE; rw [if_pos (by omega)]
    have HE2 : RowKit.Hid (∀ q x, ¬ q < s.size → errE (toL s) q x = x) := Lib.hid fun q x h => by unfold errE; rw [if_neg (by omega)]
    generalize parse (toL s) = pr at *
    have HC2 := Lib.hid r2
    have HB2 := Lib.hid (b1.mono hb2)
    have HL2 := Lib.hid (hb1.trans (below_le hb2 (by omega)))
    have HG : RowKit.Hid (w.heap.size < w1.heap.size) := Lib.hid (by omega)
    clear b1 hb1 hsl hlong r2 hb2 hz1
    go_enter Tryd.func30, Tryd.ntmps30
    go_upto_region 1 with fail
    try rw [show (w.alloc (.cells #[.int .i64 0, .string ⟨#[]⟩, .string ⟨#[]⟩, .int .i64 0, .string ⟨#[]⟩, .string ⟨#[]⟩, .int .i64 0, .string ⟨#[]⟩, .string ⟨#[]⟩, .int .i64 0, .int .i64 0, .int .u8 0, .int .i64 0, .int .i64 0, .int .u8 0] 71)) = w1 from e1]
    clear e1
    go_upto_region 4 with fail
    try rw [e2]
    clear e2
    generalize w1.heap.size = g at *
    go_upto_region 6 with (first
      | (go_at_call 65; (with_reducible refine HBG.out.mono ?_); rintro e w3 ⟨k3, q3, h3, rfl, hc3, hq3, hx3⟩)
      | (go_at_call 66; (with_reducible refine (HPA.out _ _ _ _ hq3 hc3).mono ?_); rintro e w4 ⟨c4, q4, y4, h4, rfl, hc4, hx4⟩))
    have HX := Lib.hid (HEN.out _ _ _ _ _ h3.out h4.out)
    have HL4 := Lib.hid (bl3 hx3.out hx4.out)
    have ka := hc4.at_
    have HC4 := Lib.hid hc4
    clear HEN HBG HPA h3 h4 hc3 hx3 hx4 HC2
    by_cases hq : q4 < s.size
    · have hqi : (q4 : Int) < (s.size : Int) := by omega
      have hee := HE1.out q4 y4 hq
      rw [hee] at HX
      clear hee HE1 HE2 hc4
      go_upto_region 8 with (first
        | (go_at_call 67; (with_reducible refine (HW.out _ _ _ _ HC4.out).mono ?_); rintro e w5 ⟨rfl, hc5, hx5⟩))
      have HL5 := Lib.hid (bl3 HL4.out hx5.out)
      have HC5 := Lib.hid hc5
      generalize wrongP y4 47 q4 = y5 at *
      clear HL4 HC4 hx5 ka
      have ke := hc5.err
      have kf := hc5.from_
      by_cases hy : y5.1 = 0
      · have hyb : (y5.1 != 0) = false := by simp [hy]
        have hr := hc5.range
        go_wp2_with (first
          | (refine wpList_load_mid rfl 71 (.tmp 46) rfl g 2 rfl _ _ hr Tryd.underlying71 rfl info_cmd ?_)
          | (refine wpList_store_blk rfl 71 (.tmp 2) (.tmp 47) rfl w.heap.size 71 (cmdC cmd0) (cmdC c4) rfl rfl (HB2.out.keep HL5.out HG.out) rfl info_cmd cmdC_one ?_; intro w8 hb8 hl8 hg8))
        exact rparse_back rfl rfl rfl rfl hb8 rfl ((HL2.out.trans (below_le HL5.out (Nat.le_of_lt HG.out))).trans hl8) (.inl ⟨c4, Lib.hid (HX.out.1 hy), rfl⟩)
      · have hyb : (y5.1 != 0) = true := by simp [hy]
        have za := HB2.out.keep HL5.out HG.out
        have HZA := Lib.hid za
        have f0 : ∀ j, w5.frozen? ⟨w.heap.size, j, none⟩ = false := za.frozen
        have z0 := za.cell 0
        have z1 := za.cell 1
        have z2 := za.cell 2
        have z3 := za.cell 3
        have z4 := za.cell 4
        have z5 := za.cell 5
        have z6 := za.cell 6
        have z7 := za.cell 7
        have z8 := za.cell 8
        have z9 := za.cell 9
        have z10 := za.cell 10
        have z11 := za.cell 11
        have z12 := za.cell 12
        have z13 := za.cell 13
        have z14 := za.cell 14
        simp only [cmdC, cmd0, List.getElem?_cons_zero, List.getElem?_cons_succ] at z0 z1 z2 z3 z4 z5 z6 z7 z8 z9 z10 z11 z12 z13 z14
        clear za
        go_wp2
        go_region
        go_wp2
        refine rparse_back rfl rfl rfl rfl (blk_dr (blk_set15 (.int .i64 0) (txV []) (txV []) (.int .i64 0) (txV []) (txV []) (.int .i64 0) (txV []) (txV []) (.int .i64 0) (.int .i64 0) (.int .u8 0) (.int .i64 0) (.int .i64 0) (.int .u8 0) HZA.out)) rfl ?_ (.inr ⟨y5.1, y5.2, Lib.hid (HX.out.2 hy), hy, rfl⟩)
        exact (low_set15 (Nat.le_refl _) _ _ _ _ _ _ _ _ _ _ _ _ _ _ _ (HL2.out.trans (below_le HL5.out (Nat.le_of_lt HG.out)))).drew
    · have hqi : ¬ (q4 : Int) < (s.size : Int) := by omega
      have hee := HE2.out q4 y4 hq
      rw [hee] at HX
      clear hee HE1 HE2
      go_upto_region 8 with fail
      have hc5 := hc4
      have HL5 := HL4
      have HC5 := Lib.hid hc5
      clear HL4 HC4 hc4
      have ke := hc5.err
      have kf := hc5.from_
      by_cases hy : y4.1 = 0
      · have hyb : (y4.1 != 0) = false := by simp [hy]
        have hr := hc5.range
        go_wp2_with (first
          | (refine wpList_load_mid rfl 71 (.tmp 46) rfl g 2 rfl _ _ hr Tryd.underlying71 rfl info_cmd ?_)
          | (refine wpList_store_blk rfl 71 (.tmp 2) (.tmp 47) rfl w.heap.size 71 (cmdC cmd0) (cmdC c4) rfl rfl (HB2.out.keep HL5.out HG.out) rfl info_cmd cmdC_one ?_; intro w8 hb8 hl8 hg8))
        exact rparse_back rfl rfl rfl rfl hb8 rfl ((HL2.out.trans (below_le HL5.out (Nat.le_of_lt HG.out))).trans hl8) (.inl ⟨c4, Lib.hid (HX.out.1 hy), rfl⟩)
      · have hyb : (y4.1 != 0) = true := by simp [hy]
        have za := HB2.out.keep HL5.out HG.out
        have HZA := Lib.hid za
        have f0 : ∀ j, w4.frozen? ⟨w.heap.size, j, none⟩ = false := za.frozen
        have z0 := za.cell 0
        have z1 := za.cell 1
        have z2 := za.cell 2
        have z3 := za.cell 3
        have z4 := za.cell 4
        have z5 := za.cell 5
        have z6 := za.cell 6
        have z7 := za.cell 7
        have z8 := za.cell 8
        have z9 := za.cell 9
        have z10 := za.cell 10
        have z11 := za.cell 11
        have z12 := za.cell 12
        have z13 := za.cell 13
        have z14 := za.cell 14
        simp only [cmdC, cmd0, List.getElem?_cons_zero, List.getElem?_cons_succ] at z0 z1 z2 z3 z4 z5 z6 z7 z8 z9 z10 z11 z12 z13 z14
        clear za
        go_wp2
        go_region
        go_wp2
        refine rparse_back rfl rfl rfl rfl (blk_dr (blk_set15 (.int .i64 0) (txV []) (txV []) (.int .i64 0) (txV []) (txV []) (.int .i64 0) (txV []) (txV []) (.int .i64 0) (.int .i64 0) (.int .u8 0) (.int .i64 0) (.int .i64 0) (.int .u8 0) HZA.out)) rfl ?_ (.inr ⟨y4.1, y4.2, Lib.hid (HX.out.2 hy), hy, rfl⟩)
        exact (low_set15 (Nat.le_refl _) _ _ _ _ _ _ _ _ _ _ _ _ _ _ _ (HL2.out.trans (below_le HL5.out (Nat.le_of_lt HG.out)))).drew
end Go.Proofs.YtjahkaidinahpaaDoor.En
