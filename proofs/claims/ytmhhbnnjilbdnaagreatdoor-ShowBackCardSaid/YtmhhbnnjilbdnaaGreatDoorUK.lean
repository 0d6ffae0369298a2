/- A line of a name. Printed by tools/gen_uk.py. -/
import Derived.Test.YtmhhbnnjilbdnaaGreatDoorUI
namespace Go.Proofs.YtmhhbnnjilbdnaaGreatDoor.Sh
open Go.RowKit En Go.ChangeMaps
set_option linter.unusedSimpArgs false
set_option linter.unusedVariables false
set_option maxRecDepth 20000

theorem name_eq {i : Nat} {x : NameT} (hi : i < 9) : ∃ d : UInt8, 49 ≤ d.toNat ∧ d.toNat ≤ 57 ∧ nameLn i x = d :: 46 :: (toL x.last ++ (47 :: toL x.first)) := by
  refine ⟨dch (i + 1), ?_, ?_, ?_⟩
  · rw [dch_toNat]; omega
  · rw [dch_toNat]; omega
  · unfold nameLn itoaL
    rw [if_neg (by omega), digL_lt (by omega)]
    have : ((i : Int) + 1).toNat = i + 1 := by omega
    rw [this]
    rfl
theorem own_neN {w : World} {B : Nat} {e : TypeId} {st n : Nat} {v : Value} {xs : List Value} (h : w.ownsRow B e st v n xs) {k : Nat} (hk : k < B) : some k ≠ v.ownBlock := fun e => by
  have := (World.ownsRow.lt h k e.symm).1
  omega

/-- What the names' region leaves. -/
def NmP (w : World) (B : Nat) (p : PnrT) (vs vp vr vx : Value) (csf : Value → List Value) (wx : World) : Prop := ∃ p4 n4 c4, Blk wx w.heap.size 29 (csf (.slice p4 n4 c4)) ∧ Blk wx (w.heap.size + 1) 29 zeroC ∧ Below B w wx ∧ RdP wx B p (.slice p4 n4 c4) vs vp vr vx
theorem name_done {w w3 wA w4 : World} {B : Nat} {p : PnrT} {vn vs vp vr vx v : Value} {n : Nat} {xs cs : List Value} {l : List NameT} {p4 : Option Addr} {n4 c4 : Nat} (hR : RdP w B p vn vs vp vr vx) (hW3 : Below w.heap.size w w3) (hB : B ≤ w.heap.size) (h2 : w.heap.size + 2 ≤ w3.heap.size)
    (hk0 : Blk wA w.heap.size 29 cs) (hk1 : Blk wA (w.heap.size + 1) 29 zeroC) (hbA : Below w3.heap.size w3 wA) (hv : wA.ownsRow w3.heap.size 38 2 v n xs) (hg : wA.grownBy w4 v.ownBlock)
    (ho : w4.ownsRow w3.heap.size 38 2 (.slice p4 n4 c4) l.length (l.flatMap nameC)) (hf : l.length ≤ 1000) :
    NmP w B { p with names := l } vs vp vr vx (fun u => cs.set 2 u) (w4.setCell ⟨w.heap.size, 2, none⟩ (.slice p4 n4 c4)) := by
  have k0 := hk0.far hg (own_neN hv (by omega))
  have k1 := hk1.far hg (own_neN hv (by omega))
  have hs : w4.grownBy (w4.setCell ⟨w.heap.size, 2, none⟩ (.slice p4 n4 c4)) (some w.heap.size) := gr_setCell1 (World.grownBy.refl _ _) 2 _
  have hb34 : Below w3.heap.size w3 w4 := hbA.grown hg hbA.size fun k hk => (World.ownsRow.lt hv k hk).1
  have hb04 : Below B w w4 := (below_le hW3 hB).trans (below_le hb34 (by omega))
  have hr := (RdP.names (l := l) (hR.mono hW3) (gr_of_below hb34 none) (own_low ho (by have := hW3.size; omega)) hf).box k0 hs
  exact ⟨p4, n4, c4, k0.set 2 _, k1.far hs (fun e => by injection e with e; omega), hb04.grown hs (Nat.le_trans hB hb04.size) (fun k hk => by injection hk with hk; omega), hr⟩

set_option maxHeartbeats 16000000 in
theorem line_name (B : Nat) (p : PnrT) (vn vs vp vr vx : Value) (i : Nat) (x : NameT) (hx : nameOk x) (hi : i < 9) (hfew : p.names.length + 1 ≤ 1000) (w : World) (h : RdP w B p vn vs vp vr vx) (hB : B ≤ w.heap.size) :
    Calls Tryz.prog 34 #[.agg (pnrC p vn vs vp vr vx).toArray, .string (mkB (nameLn i x))] w fun e w' => LineE B { p with names := p.names ++ [x] } e w' ∧ Below B w w' := by
  obtain ⟨w2, e2, b0, b1, hb2, hz2⟩ := boxes2 w (pnrC p vn vs vp vr vx)
  have hLN : (mkB (nameLn i x)).size ≤ 1000 := by
    rw [mkB_size]
    exact Nat.le_trans (name_ok (by omega) hx).le (by decide)
  have HWD : RowKit.Hid (∀ W, Calls Tryz.prog 33 #[.string (mkB (nameLn i x))] W fun e w' => (∃ g c, e = .returned (.slice (some ⟨g, 0, none⟩) 1 c) ∧ ∀ W', HiAgr W.heap.size w' W' → W'.cell? ⟨g, 0, none⟩ = some (.string (mkB (nameLn i x)))) ∧ Below W.heap.size W w') := Lib.hid fun W =>
    (words_at (ws := [(nameLn i x)]) (n := 1) (by simp) rfl ((congrArg wordsL (toL_mkB _)).trans (name_words hx)) hLN W).mono fun e w' ⟨⟨g, c, h1, h2⟩, h3⟩ => ⟨⟨g, c, h1, fun W' hW => h2 W' hW 0 _ rfl⟩, h3⟩
  obtain ⟨c0, hd1, hd2, hE⟩ := name_eq (x := x) hi
  have hll := letters_le hx.1
  have hlf := letters_le hx.2
  rw [toL_size] at hll hlf
  have hgl : ∀ h0 : 0 < (mkB (nameLn i x)).size, (mkB (nameLn i x))[0] = c0 := fun h0 => (mkB_at h0).trans (by rw [hE]; rfl)
  have hsz : (mkB (nameLn i x)).size = x.last.size + x.first.size + 3 := by
    rw [mkB_size, hE]
    simp only [List.length_cons, List.length_append, toL_size]
    omega
  have HAT : RowKit.Hid (∀ k, k < x.last.size → ∀ h : 2 + k < (mkB (nameLn i x)).size, (((mkB (nameLn i x))[2 + k]'h).toNat : Int) ≠ 47) := Lib.hid fun k hk h => by
    rw [get_list _ _ h, mkB_data, hE]
    have e : (c0 :: 46 :: (toL x.last ++ (47 :: toL x.first))).getD (2 + k) 0 = (toL x.last).getD k 0 := by
      rw [show 2 + k = k + 1 + 1 by omega, List.getD_cons_succ, List.getD_cons_succ]
      simp only [List.getD_eq_getElem?_getD]
      rw [List.getElem?_append_left (by rw [toL_size]; exact hk)]
    rw [e]
    have hm : (toL x.last).getD k 0 ∈ toL x.last := by
      have hk2 : k < (toL x.last).length := by rw [toL_size]; exact hk
      have : (toL x.last).getD k 0 = (toL x.last)[k] := by simp [List.getD, hk2]
      rw [this]
      exact List.getElem_mem hk2
    have := letters_all hx.1 _ hm
    omega
  have HSL : RowKit.Hid (∀ h : 2 + x.last.size < (mkB (nameLn i x)).size, (((mkB (nameLn i x))[2 + x.last.size]'h).toNat : Int) = 47) := Lib.hid fun h => by
    rw [get_list _ _ h, mkB_data, hE]
    have e : (c0 :: 46 :: (toL x.last ++ (47 :: toL x.first))).getD (2 + x.last.size) 0 = 47 := by
      rw [show 2 + x.last.size = x.last.size + 1 + 1 by omega, List.getD_cons_succ, List.getD_cons_succ]
      simp only [List.getD_eq_getElem?_getD]
      rw [← toL_size, List.getElem?_append_right (Nat.le_refl _)]
      simp
    rw [e]
    rfl
  have HLA : RowKit.Hid ((mkB (nameLn i x)).extract 2 (2 + x.last.size) = x.last) := Lib.hid (by
    apply toL_inj
    have e : toL ((mkB (nameLn i x)).extract 2 (2 + x.last.size)) = ((toL (mkB (nameLn i x))).drop 2).take x.last.size := by
      unfold toL
      simp [List.extract]
    rw [e, toL_mkB, hE]
    simp [← toL_size])
  have HFI : RowKit.Hid ((mkB (nameLn i x)).extract (2 + x.last.size + 1) (mkB (nameLn i x)).size = x.first) := Lib.hid (by
    have e := cut_right (c0 :: 46 :: (toL x.last ++ [47])) (toL x.first) (n := 2 + x.last.size + 1) (by simp [toL_size]; omega)
    apply toL_inj
    rw [show (c0 :: 46 :: (toL x.last ++ [47])) ++ toL x.first = nameLn i x by rw [hE]; simp] at e
    exact e)
  have hs1 : 2 ≤ (mkB (nameLn i x)).size ∧ (mkB (nameLn i x)).size ≤ 1000 ∧ 5 ≤ (mkB (nameLn i x)).size ∧ True := ⟨by omega, hLN, by omega, trivial⟩
  generalize hmk : mkB (nameLn i x) = s0 at *
  obtain ⟨s, rfl⟩ : ∃ s, s = s0 := ⟨_, rfl⟩
  obtain ⟨hs2, hs3, hs4, hs5⟩ := hs1
  have hh0 : 0 < s.size := by omega
  have hgl0 := hgl hh0
  have hi2 : ¬ (s.size : Int) < 2 := by omega
  have hi4 : ¬ (s.size : Int) < 1 := by omega
  have hi6 : (s.size : Int) ≤ 1000 := by omega
  have H0 := Lib.hid b0
  have H1 := Lib.hid b1
  have HB2 := Lib.hid hb2
  have HRD := Lib.hid h
  have HBB := Lib.hid hB
  have HZ2 : RowKit.Hid (w.heap.size < w2.heap.size) := Lib.hid (by omega)
  have HZ3 : RowKit.Hid (w.heap.size + 2 ≤ w2.heap.size) := Lib.hid (by omega)
  have e83 : ((c0.toNat : Int) == 83) = false := by rw [beq_eq_false_iff_ne]; omega
  have e80 : ((c0.toNat : Int) == 80) = false := by rw [beq_eq_false_iff_ne]; omega
  have e82 : ((c0.toNat : Int) == 82) = false := by rw [beq_eq_false_iff_ne]; omega
  have e77 : ((c0.toNat : Int) == 77) = false := by rw [beq_eq_false_iff_ne]; omega
  have e84 : ((c0.toNat : Int) == 84) = false := by rw [beq_eq_false_iff_ne]; omega
  have e65 : ((c0.toNat : Int) == 65) = false := by rw [beq_eq_false_iff_ne]; omega
  have HFEW := Lib.hid hfew
  have HNH := Lib.hid (HasE.own h.n)
  have hm1 : p.names.length + 1 ≤ maxLen := by unfold maxLen; omega
  have hm2 : (p.names.length + 1) * 32 ≤ 140737488355328 := by omega
  have HM := Lib.hid (And.intro hm1 hm2)
  obtain ⟨i0, hi0, hz0, hsz0, hby0⟩ := name_tinfo
  generalize hlst : x.last = nl at *
  generalize hfst : x.first = nf at *
  have HXX : RowKit.Hid (x = ⟨nl, nf⟩) := Lib.hid (by rw [← hlst, ← hfst])
  have HSZ := Lib.hid (And.intro hsz (And.intro hll hlf))
  clear hlst hfst hx hi hfew hm1 hm2 hd1 hd2 hE hsz hll hlf hmk
  obtain ⟨pn, nn, cn, rfl⟩ := own_slice h.n
  obtain ⟨ps, ns, cs, rfl⟩ := own_slice h.s
  obtain ⟨pp, np, cp, rfl⟩ := own_slice h.ph
  obtain ⟨pr, nr, cr, rfl⟩ := own_slice h.rm
  obtain ⟨px, nx, cx, rfl⟩ := own_slice h.x
  obtain ⟨loc, off, names, segs, phones, tk, td, tm, recv, remarks, seats, queued⟩ := p
  unfold pnrC at H0 e2 ⊢
  have H1' := H1
  unfold zeroC at H1' e2
  simp only at H0 e2 HNH HM HFEW ⊢
  simp only [List.toArray] at e2
  clear b0 b1 hb2 h hB hgl hs2 hs3 hs4 hs5 hz2 H1' hLN
  go_enter Tryz.func34, Tryz.ntmps34
  go_upto_region 1 with fail
  try rw [e2]
  clear e2
  go_upto_region 8 with (first
    | (go_at_call 33; (with_reducible refine (HWD.out _).mono ?_); rintro e w3 ⟨⟨gw, cw, rfl, hcw⟩, hb3⟩; have d0 := hcw w3 (HiAgr.bel (Below.refl _ _)); have s3 : St w w3 w3 w2.heap.size _ := ⟨H0.out.mono hb3, H1.out.mono hb3, HiAgr.bel (Below.refl _ _), bel_trans HB2.out hb3, HZ2.out⟩; have HLE := Lib.hid hb3.size))
  have S3 := Lib.hid s3
  clear s3 hb3 hcw d0 e83 e80 e82 e77 e84 e65 hgl0
  obtain ⟨hsz, hll, hlf⟩ := HSZ.out
  clear hsz
  go_wp2_with fail
  go_loopg [10] nl.size (fun g s10 wr => ∃ k : Nat, k ≤ nl.size ∧ g = nl.size - k ∧ s10 = .int .i64 ((2 + k : Nat) : Int) ∧ w3 = wr)
  case atStart => exact ⟨0, Nat.zero_le _, rfl, rfl, rfl⟩
  case round =>
    obtain ⟨k, hk, rfl, rfl, rfl⟩ := hrel
    have hks : 2 + k < s.size := by have := HSZ.out; omega
    have hki : ((2 + k : Nat) : Int) < (s.size : Int) := by omega
    have hk0 : (0 : Int) ≤ ((2 + k : Nat) : Int) := by omega
    by_cases hlt : k < nl.size
    · have hne := HAT.out k hlt hks
      have hnb : (((s[2 + k]'hks).toNat : Int) != 47) = true := by rw [bne_iff_ne]; exact hne
      generalize hch : (s[2 + k]'hks) = ch at *
      generalize hkk : 2 + k = kk at *
      have HKK := Lib.hid hkk
      clear hne hkk
      go_wp2_with fail
      go_roundg (nl.size - (k + 1))
      case measure => omega
      case rel => exact ⟨k + 1, by omega, rfl, by have := HKK.out; go_num, rfl⟩
    · have hke : k = nl.size := by omega
      subst hke
      have hch := HSL.out hks
      have hnb : (((s[2 + nl.size]'hks).toNat : Int) != 47) = false := by rw [hch]; rfl
      clear hch
      generalize hcc : (s[2 + nl.size]'hks) = ch at *
      generalize hkk : 2 + nl.size = at0 at *
      have HKK := Lib.hid hkk
      clear hkk
      go_upto_region 13 with fail
      have hsz := HSZ.out.1
      have hkk := HKK.out
      have hat2 : (2 : Int) ≤ (at0 : Int) := by omega
      obtain ⟨at1, hat1⟩ : ∃ a : Nat, a = at0 + 1 := ⟨_, rfl⟩
      have hatw : IntKind.i64.wrap ((at0 : Int) + 1) = (at1 : Int) := by rw [IntWalk.i64_in _ (by omega)]; omega
      have hats : (at1 : Int) ≤ (s.size : Int) := by omega
      have hat0 : (0 : Int) ≤ (at1 : Int) := by omega
      have hatn : at0 ≤ s.size := by omega
      have hatn1 : at1 ≤ s.size := by omega
      have hat2n : 2 ≤ at0 := by omega
      rw [← hat1] at HFI
      clear hcc hks hk hsz hkk hll hlf hnb hat1
      have HCT : RowKit.Hid (∀ v l W, HasE nameC W v l → l.length ≤ 1000 → Calls Tryz.prog 61 #[v] W fun e w' => (∃ v', e = .returned v' ∧ w'.ownsRow W.heap.size 38 2 v' l.length (l.flatMap nameC)) ∧ Below W.heap.size W w') := Lib.hid fun v l W h1 h2 => copyNames_any v l W h1 h2
      have HFEW2 : RowKit.Hid (names.length ≤ 1000) := Lib.hid (by have := HFEW.out; omega)
      have HPA : RowKit.Hid (∀ W, Below w3.heap.size w3 W → HasE nameC W (.slice pn nn cn) names) := Lib.hid fun W h => HNH.out.mono (bel_trans S3.out.b h)
      have HTC : RowKit.Hid (∀ W, Below w3.heap.size w3 W → W.cell? ⟨w.heap.size, 2, none⟩ = some (.slice pn nn cn) ∧ W.frozen? ⟨w.heap.size, 2, none⟩ = false) := Lib.hid fun W hW => ⟨((S3.out.bel hW).k.cell 2).trans rfl, (S3.out.bel hW).k.frozen 2⟩
      have hp2 := (HTC.out w3 (Below.refl _ _)).1
      obtain ⟨hm1, hm2⟩ := HM.out
      have hl3 := HFEW2.out
      have HZ4 : RowKit.Hid (w.heap.size < w3.heap.size) := Lib.hid (by have := HZ3.out; have := HLE.out; omega)
      have HZ5 : RowKit.Hid (w.heap.size + 2 ≤ w3.heap.size) := Lib.hid (by have := HZ3.out; have := HLE.out; omega)
      have HD1 : RowKit.Hid (Below w3.heap.size w3 w3.drew) := Lib.hid (Below.refl _ _).drew
      have HD2 : RowKit.Hid (Below w3.heap.size w3 (w3.alloc (.cells #[.string (s.extract 2 at0), .string (s.extract at1 s.size)] 38)).drew) := Lib.hid ((Below.refl _ _).alloc (Nat.le_refl _) _).drew
      have HZ1 : RowKit.Hid (w3.heap.size ≤ w3.drew.heap.size) := Lib.hid HD1.out.size
      have HZ2b : RowKit.Hid (w3.heap.size ≤ (w3.alloc (.cells #[.string (s.extract 2 at0), .string (s.extract at1 s.size)] 38)).drew.heap.size) := Lib.hid HD2.out.size
      have HZ3b : RowKit.Hid (w3.heap.size < (w3.alloc (.cells #[.string (s.extract 2 at0), .string (s.extract at1 s.size)] 38)).drew.heap.size) := Lib.hid (by simp)
      have HNB : RowKit.Hid ((w3.alloc (.cells #[.string (s.extract 2 at0), .string (s.extract at1 s.size)] 38)).drew.heap[w3.heap.size]? = some (.cells #[.string (s.extract 2 at0), .string (s.extract at1 s.size)] 38 (0, 0))) := Lib.hid (heap_alloc_new w3 _)
      have hp2b := (HTC.out (w3.alloc (.cells #[.string (s.extract 2 at0), .string (s.extract at1 s.size)] 38)) ((Below.refl _ _).alloc (Nat.le_refl _) _)).1
      go_region_law (first
        | (go_simp; go_at_call 61; refine (HCT.out _ _ _ (by first | exact HPA.out _ HD1.out | exact HPA.out _ HD2.out) hl3).mono ?_; rintro e wC ⟨⟨vC, rfl, hoC⟩, hbC⟩; obtain ⟨pC, nC, cC, rfl⟩ := own_slice hoC; (first | (have hb5 := bel_trans HD1.out hbC; have hoL := own_low (base' := w3.heap.size) hoC HZ1.out) | (have hb5 := bel_trans HD2.out hbC; have hoL := own_low (base' := w3.heap.size) hoC HZ2b.out; have hnb := (hbC.block (w3.heap.size) HZ3b.out).trans HNB.out)); obtain ⟨tcp, tcf⟩ := HTC.out _ hb5; have hs5 := hb5.size; have hbs1 : w3.heap.size ≤ (wC.alloc (.cells #[.string (s.extract 2 at0), .string (s.extract at1 s.size)] 38)).heap.size := (by simp; omega); have hbs2 : w3.heap.size ≤ wC.heap.size := (by omega))
        | (refine step_append_lies _ (by rfl) _ _ _ (by rfl) w3.heap.size 38 i0 _ 2 32 Tryz.underlying22 hi0 hz0 hsz0 hby0 rfl (by decide) (.slice pC nC cC) names.length (names.flatMap nameC) (by rfl) (World.ownsRow.alloc hoL _) ⟨wC.heap.size, 0, none⟩ 1 1 [.string (s.extract 2 at0), .string (s.extract at1 s.size)] (by rfl) (by rfl) (World.news_of_block (cs := #[.string (s.extract 2 at0), .string (s.extract at1 s.size)]) (t := 38) (fr := (0, 0)) (heap_alloc_new wC _)) (nameC_one (⟨s.extract 2 at0, s.extract at1 s.size⟩ : NameT)) (by decide) hm1 hm2 hbs1 (wC.heap.size + 1) (by simp) ?_; intro gq cq w4 ho4 hg4 hr4 hl4; have sA := (S3.out.bel (hb5.alloc hb5.size (.cells #[.string (s.extract 2 at0), .string (s.extract at1 s.size)] 38))); have hA0 := sA.k; have hA2 := sA.t; have hbA := hb5.alloc hb5.size (.cells #[.string (s.extract 2 at0), .string (s.extract at1 s.size)] 38); have hvA := World.ownsRow.alloc hoL (.cells #[.string (s.extract 2 at0), .string (s.extract at1 s.size)] 38); have hx := hA0.far hg4 (own_neN hvA HZ4.out); have hxc := (hx.cell 2).trans rfl; have hxf := hx.frozen 2)
        | (refine step_append_lies _ (by rfl) _ _ _ (by rfl) w3.heap.size 38 i0 _ 2 32 Tryz.underlying22 hi0 hz0 hsz0 hby0 rfl (by decide) (.slice pC nC cC) names.length (names.flatMap nameC) (by rfl) hoL ⟨w3.heap.size, 0, none⟩ 1 1 [.string (s.extract 2 at0), .string (s.extract at1 s.size)] (by rfl) (by rfl) (World.news_of_block (cs := #[.string (s.extract 2 at0), .string (s.extract at1 s.size)]) (t := 38) (fr := (0, 0)) hnb) (nameC_one (⟨s.extract 2 at0, s.extract at1 s.size⟩ : NameT)) (by decide) hm1 hm2 hbs2 wC.heap.size rfl ?_; intro gq cq w4 ho4 hg4 hr4 hl4; have hA0 := (S3.out.bel hb5).k; have hA2 := (S3.out.bel hb5).t; have hbA := hb5; have hvA := hoL; have hx := hA0.far hg4 (own_neN hvA HZ4.out); have hxc := (hx.cell 2).trans rfl; have hxf := hx.frozen 2))
      all_goals (
        have HND : RowKit.Hid (NmP w B ⟨loc, off, names ++ [(⟨nl, nf⟩ : NameT)], segs, phones, tk, td, tm, recv, remarks, seats, queued⟩ (.slice ps ns cs) (.slice pp np cp) (.slice pr nr cr) (.slice px nx cx) (fun u => [.string loc, .string off, u, .slice ps ns cs, .slice pp np cp, .int .i64 tk, .int .i64 td, .int .i64 tm, .string recv, .slice pr nr cr, .slice px nx cx, .bool queued]) _) := Lib.hid (name_done HRD.out S3.out.b HBB.out HZ5.out hA0 hA2 hbA hvA hg4 (by rw [List.length_append, List.flatMap_append, show ([(⟨nl, nf⟩ : NameT)] : List NameT).flatMap nameC = nameC (⟨nl, nf⟩ : NameT) by simp]; rw [HLA.out, HFI.out] at ho4; exact ho4) (by rw [List.length_append, List.length_singleton]; exact HFEW.out))
        obtain ⟨p4, n4, c4, k0, k2, kb, kl⟩ := HND.out
        generalize w4.setCell ⟨w.heap.size, 2, none⟩ (.slice (some ⟨gq, 0, none⟩) (names.length + 1) cq) = wx at *
        have hrr := k0.range
        have HN1 := Lib.hid (pnrC_one (x := ⟨loc, off, names, segs, phones, tk, td, tm, recv, remarks, seats, queued⟩) (p1 := p4) (n1 := n4) (c1 := c4) (p2 := ps) (n2 := ns) (c2 := cs) (p3 := pp) (n3 := np) (c3 := cp) (p4 := pr) (n4 := nr) (c4 := cr) (p5 := px) (n5 := nx) (c5 := cx))
        clear HND hA0 hA2 hbA hvA hg4 hx hxc hxf tcp tcf
        go_wp2_with (first
          | (refine wpList_load_mid rfl 29 (.tmp 2) rfl w.heap.size 0 rfl _ _ hrr Tryz.underlying29 rfl info_pnr ?_)
          | (refine wpList_store_blk rfl 29 (.tmp 4) (.tmp 194) rfl (w.heap.size + 1) 29 _ [.string loc, .string off, .slice p4 n4 c4, .slice ps ns cs, .slice pp np cp, .int .i64 tk, .int .i64 td, .int .i64 tm, .string recv, .slice pr nr cr, .slice px nx cx, .bool queued] rfl rfl k2 rfl info_pnr HN1.out ?_; intro w8 hb8 hl8 hg8))
        rw [HXX.out]
        exact line_back rfl rfl rfl rfl hb8 rfl (kb.grown hg8 (Nat.le_trans HBB.out kb.size) (fun k hk => by injection hk with hk; have := HBB.out; omega)) ⟨_, _, _, _, _, rfl, kl.box k2 hg8⟩)
end Go.Proofs.YtmhhbnnjilbdnaaGreatDoor.Sh
