/- The law CodecUnlike: are two PNRs' bytes alike just if these are (unlike). -/
import Derived.Test.YtjahkaidinahpaaDoorHK
import Derived.Test.YtjahkaidinahpaaDoorGV
import Derived.Test.YtjahkaidinahpaaDoorGP
namespace Go.Proofs.YtjahkaidinahpaaDoor
open Go.RowKit Go.ChangeMaps
set_option linter.unusedSimpArgs false
set_option linter.unusedVariables false
set_option maxRecDepth 20000

theorem by_yes {B : Nat} {b : List UInt8} {o : Option (List UInt8)} (ho : o = some b) (hb : b ≠ []) {e : Ending} {w : World} (h : byP B o e w) : ∃ g off c, e = .returned (.tuple #[.slice (some ⟨g, off, none⟩) b.length c, .int .i64 0]) ∧ HasE byteC w (.slice (some ⟨g, off, none⟩) b.length c) b ∧ b.length ≤ c ∧ c ≤ maxLen := by
  rcases h with ⟨bs, v, h1, h2, h3⟩ | ⟨h1, _⟩
  · rw [ho] at h1
    injection h1 with h1
    subst h1
    have k := h3.has
    rcases k with ⟨p, c, e1, e2, _⟩ | ⟨g, off, c, e1, l1, l2, l3⟩
    · exact absurd e2 hb
    · subst e1
      exact ⟨g, off, c, h2, .inr ⟨g, off, c, rfl, l1, l2, l3⟩, l1, l2⟩
  · rw [ho] at h1; cases h1
theorem by_no {B : Nat} {o : Option (List UInt8)} (ho : o = none) {e : Ending} {w : World} (h : byP B o e w) : e = .returned (.tuple #[.slice none 0 0, .int .i64 4]) := by
  rcases h with ⟨bs, v, h1, _⟩ | ⟨_, h1⟩
  · rw [ho] at h1; cases h1
  · exact h1

/-- The strings that are compared. -/
theorem cut_conv {W : World} {g off c n : Nat} {A : List UInt8} (h : HasE byteC W (.slice (some ⟨g, off, none⟩) A.length c) A) (hn : n ≤ A.length) (hc : A.length ≤ c) (hm : c ≤ maxLen) : (convert 48 9 (.slice (some ⟨g, off, none⟩) n c)).run Tryd.prog W = .ok (.string ⟨(A.take n).toArray⟩) W := conv_has (h.take hn hc hm)

theorem str_same {l m : List UInt8} (h : (⟨l.toArray⟩ : ByteArray).toList = (⟨m.toArray⟩ : ByteArray).toList) : l = m := by
  rw [ByteArray.toList_eq, ByteArray.toList_eq] at h
  simpa using h

set_option maxHeartbeats 32000000 in
theorem unlike_any (p q : PnrT) (vn vs vp vr vx un us up ur ux : Value) (w : World) (hp : PIn w p vn vs vp vr vx) (hq : PIn w q un us up ur ux) :
    Calls Tryd.prog 16 #[.agg (pnrC p vn vs vp vr vx).toArray, .agg (pnrC q un us up ur ux).toArray] w fun e w' => e = .returned (.bool true) ∧ Below w.heap.size w w' := by
  have ha1 : Below w.heap.size w (w.alloc (.cells (pnrC p vn vs vp vr vx).toArray 29)) := (Below.refl _ _).alloc (Nat.le_refl _) _
  have hB0 := Blk.new w 29 (pnrC p vn vs vp vr vx)
  have hz1 : (w.alloc (.cells (pnrC p vn vs vp vr vx).toArray 29)).heap.size = w.heap.size + 1 := by simp
  have ha2 : Below (w.heap.size + 1) (w.alloc (.cells (pnrC p vn vs vp vr vx).toArray 29)) ((w.alloc (.cells (pnrC p vn vs vp vr vx).toArray 29)).alloc (.cells (pnrC q un us up ur ux).toArray 29)) := (Below.refl _ _).alloc (by simp) _
  have hB1 := Blk.new (w.alloc (.cells (pnrC p vn vs vp vr vx).toArray 29)) 29 (pnrC q un us up ur ux)
  rw [hz1] at hB1
  have hB0' := hB0.keep ha2 (Nat.lt_succ_self _)
  have hb1 : Below w.heap.size w ((w.alloc (.cells (pnrC p vn vs vp vr vx).toArray 29)).alloc (.cells (pnrC q un us up ur ux).toArray 29)) := ha1.trans (below_le ha2 (Nat.le_succ _))
  clear ha1 ha2 hB0 hz1
  generalize hw1 : (w.alloc (.cells (pnrC p vn vs vp vr vx).toArray 29)).alloc (.cells (pnrC q un us up ur ux).toArray 29) = w1 at hb1 hB0' hB1
  have HPP : RowKit.Hid (∀ W, Below w1.heap.size w1 W → PIn W p vn vs vp vr vx ∧ PIn W q un us up ur ux ∧ W.rangeAt w.heap.size 0 (pnrC p vn vs vp vr vx) ∧ W.rangeAt (w.heap.size + 1) 0 (pnrC q un us up ur ux)) := Lib.hid fun W h => ⟨hp.mono (bel_trans hb1 h), hq.mono (bel_trans hb1 h), (hB0'.mono h).range, (hB1.mono h).range⟩
  have HB1 := Lib.hid hb1
  obtain ⟨_, _, hr0, hr1⟩ := HPP.out w1 (Below.refl _ _)
  clear hp hq hB0' hB1 hb1
  rcases Classical.em (SoundP p) with hsp | hsp
  rotate_left
  · have HCP : RowKit.Hid (∀ W, Below w1.heap.size w1 W → Calls Tryd.prog 39 #[.agg (pnrC p vn vs vp vr vx).toArray] W fun e w' => e = .returned (.tuple #[.slice none 0 0, .int .i64 4]) ∧ Below W.heap.size W w') := Lib.hid fun W h => (pnr_any p _ _ _ _ _ W (HPP.out W h).1).mono fun e w' k => ⟨by_no (pnrF_no hsp) k.1, k.2⟩
    have HCQ : RowKit.Hid (∀ W, Below w1.heap.size w1 W → Calls Tryd.prog 39 #[.agg (pnrC q un us up ur ux).toArray] W fun e w' => (∃ p' n' c' z, e = .returned (.tuple #[.slice p' n' c', .int .i64 z])) ∧ Below W.heap.size W w') := Lib.hid fun W h => (pnr_any q _ _ _ _ _ W (HPP.out W h).2.1).mono fun e w' k => ⟨by
      rcases k.1 with ⟨bs, v, h1, h2, h3⟩ | ⟨_, h1⟩
      · obtain ⟨p', n', c', rfl⟩ := own_form h3
        exact ⟨_, _, _, _, h2⟩
      · exact ⟨_, _, _, _, h1⟩, k.2⟩
    clear hsp
    unfold pnrC at hr0 hr1 HPP HCP HCQ hw1 ⊢
    simp only [List.toArray] at hw1
    go_enter Tryd.func16, Tryd.ntmps16
    go_upto_region 1 with fail
    try rw [hw1]
    clear hw1
    go_wp2_with (first
      | (refine wpList_load_mid rfl 29 (.tmp 2) rfl w.heap.size 0 rfl _ _ hr0 Tryd.underlying29 rfl info_pnr ?_)
      | (go_at_call 39; (with_reducible refine (HCP.out _ (Below.refl _ _)).mono ?_); rintro e w2 ⟨rfl, hb2⟩; obtain ⟨_, _, _, hr2⟩ := HPP.out w2 hb2)
      | (refine wpList_load_mid rfl 29 (.tmp 3) rfl (w.heap.size + 1) 0 rfl _ _ hr2 Tryd.underlying29 rfl info_pnr ?_)
      | (go_at_call 39; (with_reducible refine (HCQ.out _ hb2).mono ?_); rintro e w3 ⟨⟨p', n', c', z, rfl⟩, hb3⟩))
    go_ret
    exact ⟨rfl, below_w HB1.out (bel_trans hb2 hb3)⟩
  have HCP : RowKit.Hid (∀ W, Below w1.heap.size w1 W → Calls Tryd.prog 39 #[.agg (pnrC p vn vs vp vr vx).toArray] W fun e w' => (∃ g off c, e = .returned (.tuple #[.slice (some ⟨g, off, none⟩) (pnrB p).length c, .int .i64 0]) ∧ HasE byteC w' (.slice (some ⟨g, off, none⟩) (pnrB p).length c) (pnrB p) ∧ (pnrB p).length ≤ c ∧ c ≤ maxLen) ∧ Below W.heap.size W w') := Lib.hid fun W h => (pnr_any p _ _ _ _ _ W (HPP.out W h).1).mono fun e w' k => ⟨by_yes (pnrF_yes hsp) (by unfold pnrB; simp) k.1, k.2⟩
  rcases Classical.em (SoundP q) with hsq | hsq
  rotate_left
  · have HCQ : RowKit.Hid (∀ W, Below w1.heap.size w1 W → Calls Tryd.prog 39 #[.agg (pnrC q un us up ur ux).toArray] W fun e w' => e = .returned (.tuple #[.slice none 0 0, .int .i64 4]) ∧ Below W.heap.size W w') := Lib.hid fun W h => (pnr_any q _ _ _ _ _ W (HPP.out W h).2.1).mono fun e w' k => ⟨by_no (pnrF_no hsq) k.1, k.2⟩
    clear hsp hsq
    unfold pnrC at hr0 hr1 HPP HCP HCQ hw1 ⊢
    simp only [List.toArray] at hw1
    generalize pnrB p = A at *
    go_enter Tryd.func16, Tryd.ntmps16
    go_upto_region 1 with fail
    try rw [hw1]
    clear hw1
    go_wp2_with (first
      | (refine wpList_load_mid rfl 29 (.tmp 2) rfl w.heap.size 0 rfl _ _ hr0 Tryd.underlying29 rfl info_pnr ?_)
      | (go_at_call 39; (with_reducible refine (HCP.out _ (Below.refl _ _)).mono ?_); rintro e w2 ⟨⟨ga, oa, ca, rfl, hA, _, _⟩, hb2⟩; obtain ⟨_, _, _, hr2⟩ := HPP.out w2 hb2)
      | (refine wpList_load_mid rfl 29 (.tmp 3) rfl (w.heap.size + 1) 0 rfl _ _ hr2 Tryd.underlying29 rfl info_pnr ?_)
      | (go_at_call 39; (with_reducible refine (HCQ.out _ hb2).mono ?_); rintro e w3 ⟨rfl, hb3⟩))
    go_ret
    exact ⟨rfl, below_w HB1.out (bel_trans hb2 hb3)⟩
  have HCQ : RowKit.Hid (∀ W, Below w1.heap.size w1 W → Calls Tryd.prog 39 #[.agg (pnrC q un us up ur ux).toArray] W fun e w' => (∃ g off c, e = .returned (.tuple #[.slice (some ⟨g, off, none⟩) (pnrB q).length c, .int .i64 0]) ∧ HasE byteC w' (.slice (some ⟨g, off, none⟩) (pnrB q).length c) (pnrB q) ∧ (pnrB q).length ≤ c ∧ c ≤ maxLen) ∧ Below W.heap.size W w') := Lib.hid fun W h => (pnr_any q _ _ _ _ _ W (HPP.out W h).2.1).mono fun e w' k => ⟨by_yes (pnrF_yes hsq) (by unfold pnrB; simp) k.1, k.2⟩
  have HSM : RowKit.Hid (∀ W, Below w1.heap.size w1 W → Calls Tryd.prog 41 #[.agg (pnrC p vn vs vp vr vx).toArray, .agg (pnrC q un us up ur ux).toArray] W fun e w' => e = .returned (.bool (sameS p q)) ∧ Below W.heap.size W w') := Lib.hid fun W h => samePnr_any p q _ _ _ _ _ _ _ _ _ _ W (HPP.out W h).1 (HPP.out W h).2.1
  have HEQ : RowKit.Hid (∀ n, n = min (pnrB p).length (pnrB q).length → ((⟨((pnrB p).take n).toArray⟩ : ByteArray).toList == (⟨((pnrB q).take n).toArray⟩ : ByteArray).toList) = sameS p q) := Lib.hid fun n hn => by
    rcases Classical.em (p = q) with rfl | hne
    · rw [sameS_yes rfl]; simp
    · rw [sameS_no hne, beq_eq_false_iff_ne]
      exact fun h => hne (pnr_unlike hsp hsq hn (str_same h))
  clear hsp hsq
  unfold pnrC at hr0 hr1 HPP HCP HCQ HSM hw1 ⊢
  simp only [List.toArray] at hw1
  generalize sameS p q = sm at *
  generalize pnrB p = A at *
  generalize pnrB q = B at *
  go_enter Tryd.func16, Tryd.ntmps16
  go_upto_region 1 with fail
  try rw [hw1]
  clear hw1
  go_upto_region 5 with (first
    | (refine wpList_load_mid rfl 29 (.tmp 2) rfl w.heap.size 0 rfl _ _ hr0 Tryd.underlying29 rfl info_pnr ?_)
    | (go_at_call 39; (with_reducible refine (HCP.out _ (Below.refl _ _)).mono ?_); rintro e w2 ⟨⟨ga, oa, ca, rfl, hA, hA1, hA2⟩, hb2⟩; obtain ⟨_, _, _, hr2⟩ := HPP.out w2 hb2)
    | (refine wpList_load_mid rfl 29 (.tmp 3) rfl (w.heap.size + 1) 0 rfl _ _ hr2 Tryd.underlying29 rfl info_pnr ?_)
    | (go_at_call 39; (with_reducible refine (HCQ.out _ hb2).mono ?_); rintro e w3 ⟨⟨gb, ob, cb, rfl, hB, hB1, hB2⟩, hb3⟩))
  have hb13 := bel_trans hb2 hb3
  have HB3 := Lib.hid hb13
  obtain ⟨_, _, hs0, hs1⟩ := HPP.out w3 hb13
  have HCA : RowKit.Hid (∀ n W, n ≤ A.length → Below w3.heap.size w3 W → (convert 48 9 (.slice (some ⟨ga, oa, none⟩) n ca)).run Tryd.prog W = .ok (.string ⟨(A.take n).toArray⟩) W) := Lib.hid fun n W hn hW => cut_conv (hA.mono (bel_trans hb3 hW)) hn hA1 hA2
  have HCB : RowKit.Hid (∀ n W, n ≤ B.length → Below w3.heap.size w3 W → (convert 48 9 (.slice (some ⟨gb, ob, none⟩) n cb)).run Tryd.prog W = .ok (.string ⟨(B.take n).toArray⟩) W) := Lib.hid fun n W hn hW => cut_conv (hB.mono hW) hn hB1 hB2
  have hlA : A.length ≤ maxLen := Nat.le_trans hA1 hA2
  have hlB : B.length ≤ maxLen := Nat.le_trans hB1 hB2
  unfold maxLen at hlA hlB hA2 hB2
  clear hr0 hr1 hr2 hA hB hb2 hb3 hb13
  go_cut [9] from 26 to 30 (fun s9 wx => s9 = .int .i64 ((min A.length B.length : Nat) : Int) ∧ w3 = wx)
  case first =>
    by_cases hle : A.length ≤ B.length
    · have hi : (A.length : Int) ≤ (B.length : Int) := by omega
      have hmin : min A.length B.length = A.length := by omega
      have HM := Lib.hid hmin
      clear hmin
      go_wp2
      go_meet
      exact ⟨by rw [HM.out], rfl⟩
    · have hi : ¬ (A.length : Int) ≤ (B.length : Int) := by omega
      have hi2 : (B.length : Int) < (A.length : Int) := by omega
      have hmin : min A.length B.length = B.length := by omega
      have HM := Lib.hid hmin
      clear hmin
      go_wp2
      go_meet
      exact ⟨by rw [HM.out], rfl⟩
  case rest =>
    obtain ⟨rfl, rfl⟩ := hcut
    have hnA : min A.length B.length ≤ A.length := Nat.min_le_left _ _
    have hnB : min A.length B.length ≤ B.length := Nat.min_le_right _ _
    have HE := Lib.hid (HEQ.out _ rfl)
    generalize min A.length B.length = n at *
    have hn0 : (0 : Int) ≤ (n : Int) := by omega
    have hnca : (n : Int) ≤ (ca : Int) := by omega
    have hncb : (n : Int) ≤ (cb : Int) := by omega
    have HCL : RowKit.Hid (∀ W, Below w3.heap.size w3 W → (∀ (j : Nat) (u : Value), ([.string p.loc, .string p.off, vn, vs, vp, .int .i64 p.tk, .int .i64 p.td, .int .i64 p.tm, .string p.recv, vr, vx, .bool p.queued] : List Value)[j]? = some u → W.cell? ⟨w.heap.size, j, none⟩ = some u) ∧ (∀ (j : Nat) (u : Value), ([.string q.loc, .string q.off, un, us, up, .int .i64 q.tk, .int .i64 q.td, .int .i64 q.tm, .string q.recv, ur, ux, .bool q.queued] : List Value)[j]? = some u → W.cell? ⟨w.heap.size + 1, j, none⟩ = some u)) := Lib.hid fun W hW => by
      obtain ⟨_, _, r0, r1⟩ := HPP.out W (bel_trans HB3.out hW)
      exact ⟨fun j u hj => by have := r0 j u hj; rwa [Nat.zero_add] at this, fun j u hj => by have := r1 j u hj; rwa [Nat.zero_add] at this⟩
    have HCA2 : RowKit.Hid (∀ W, Below w3.heap.size w3 W → (convert 48 9 (.slice (some ⟨ga, oa, none⟩) n ca)).run Tryd.prog W = .ok (.string ⟨(A.take n).toArray⟩) W ∧ (convert 48 9 (.slice (some ⟨gb, ob, none⟩) n cb)).run Tryd.prog W = .ok (.string ⟨(B.take n).toArray⟩) W ∧ Below w3.heap.size w3 W ∧ W.cell? ⟨w.heap.size, 0, none⟩ = some (.string p.loc) ∧ W.cell? ⟨w.heap.size, 1, none⟩ = some (.string p.off) ∧ W.cell? ⟨w.heap.size, 2, none⟩ = some (vn) ∧ W.cell? ⟨w.heap.size, 3, none⟩ = some (vs) ∧ W.cell? ⟨w.heap.size, 4, none⟩ = some (vp) ∧ W.cell? ⟨w.heap.size, 5, none⟩ = some (.int .i64 p.tk) ∧ W.cell? ⟨w.heap.size, 6, none⟩ = some (.int .i64 p.td) ∧ W.cell? ⟨w.heap.size, 7, none⟩ = some (.int .i64 p.tm) ∧ W.cell? ⟨w.heap.size, 8, none⟩ = some (.string p.recv) ∧ W.cell? ⟨w.heap.size, 9, none⟩ = some (vr) ∧ W.cell? ⟨w.heap.size, 10, none⟩ = some (vx) ∧ W.cell? ⟨w.heap.size, 11, none⟩ = some (.bool p.queued) ∧ W.cell? ⟨w.heap.size + 1, 0, none⟩ = some (.string q.loc) ∧ W.cell? ⟨w.heap.size + 1, 1, none⟩ = some (.string q.off) ∧ W.cell? ⟨w.heap.size + 1, 2, none⟩ = some (un) ∧ W.cell? ⟨w.heap.size + 1, 3, none⟩ = some (us) ∧ W.cell? ⟨w.heap.size + 1, 4, none⟩ = some (up) ∧ W.cell? ⟨w.heap.size + 1, 5, none⟩ = some (.int .i64 q.tk) ∧ W.cell? ⟨w.heap.size + 1, 6, none⟩ = some (.int .i64 q.td) ∧ W.cell? ⟨w.heap.size + 1, 7, none⟩ = some (.int .i64 q.tm) ∧ W.cell? ⟨w.heap.size + 1, 8, none⟩ = some (.string q.recv) ∧ W.cell? ⟨w.heap.size + 1, 9, none⟩ = some (ur) ∧ W.cell? ⟨w.heap.size + 1, 10, none⟩ = some (ux) ∧ W.cell? ⟨w.heap.size + 1, 11, none⟩ = some (.bool q.queued)) := Lib.hid fun W hW => ⟨HCA.out n W hnA hW, HCB.out n W hnB hW, hW, (HCL.out W hW).1 0 _ rfl, (HCL.out W hW).1 1 _ rfl, (HCL.out W hW).1 2 _ rfl, (HCL.out W hW).1 3 _ rfl, (HCL.out W hW).1 4 _ rfl, (HCL.out W hW).1 5 _ rfl, (HCL.out W hW).1 6 _ rfl, (HCL.out W hW).1 7 _ rfl, (HCL.out W hW).1 8 _ rfl, (HCL.out W hW).1 9 _ rfl, (HCL.out W hW).1 10 _ rfl, (HCL.out W hW).1 11 _ rfl, (HCL.out W hW).2 0 _ rfl, (HCL.out W hW).2 1 _ rfl, (HCL.out W hW).2 2 _ rfl, (HCL.out W hW).2 3 _ rfl, (HCL.out W hW).2 4 _ rfl, (HCL.out W hW).2 5 _ rfl, (HCL.out W hW).2 6 _ rfl, (HCL.out W hW).2 7 _ rfl, (HCL.out W hW).2 8 _ rfl, (HCL.out W hW).2 9 _ rfl, (HCL.out W hW).2 10 _ rfl, (HCL.out W hW).2 11 _ rfl⟩
    generalize (⟨(A.take n).toArray⟩ : ByteArray) = sA at *
    generalize (⟨(B.take n).toArray⟩ : ByteArray) = sB at *
    have HSM3 : RowKit.Hid (∀ W, Below w3.heap.size w3 W → Calls Tryd.prog 41 #[.agg #[.string p.loc, .string p.off, vn, vs, vp, .int .i64 p.tk, .int .i64 p.td, .int .i64 p.tm, .string p.recv, vr, vx, .bool p.queued], .agg #[.string q.loc, .string q.off, un, us, up, .int .i64 q.tk, .int .i64 q.td, .int .i64 q.tm, .string q.recv, ur, ux, .bool q.queued]] W fun e w' => e = .returned (.bool sm) ∧ Below W.heap.size W w') := Lib.hid fun W h => HSM.out W (bel_trans HB3.out h)
    clear HCA HCB HEQ HSM HCP HCQ hA1 hA2 hB1 hB2 hlA hlB hnA hnB
    go_upto_region 6 with fail
    have hS0 := HCA2.out w3.drew (Below.refl _ _).drew
    go_region_held3 (fun W => (convert 48 9 (.slice (some ⟨ga, oa, none⟩) n ca)).run Tryd.prog W = .ok (.string sA) W ∧ (convert 48 9 (.slice (some ⟨gb, ob, none⟩) n cb)).run Tryd.prog W = .ok (.string sB) W ∧ Below w3.heap.size w3 W ∧ W.cell? ⟨w.heap.size, 0, none⟩ = some (.string p.loc) ∧ W.cell? ⟨w.heap.size, 1, none⟩ = some (.string p.off) ∧ W.cell? ⟨w.heap.size, 2, none⟩ = some (vn) ∧ W.cell? ⟨w.heap.size, 3, none⟩ = some (vs) ∧ W.cell? ⟨w.heap.size, 4, none⟩ = some (vp) ∧ W.cell? ⟨w.heap.size, 5, none⟩ = some (.int .i64 p.tk) ∧ W.cell? ⟨w.heap.size, 6, none⟩ = some (.int .i64 p.td) ∧ W.cell? ⟨w.heap.size, 7, none⟩ = some (.int .i64 p.tm) ∧ W.cell? ⟨w.heap.size, 8, none⟩ = some (.string p.recv) ∧ W.cell? ⟨w.heap.size, 9, none⟩ = some (vr) ∧ W.cell? ⟨w.heap.size, 10, none⟩ = some (vx) ∧ W.cell? ⟨w.heap.size, 11, none⟩ = some (.bool p.queued) ∧ W.cell? ⟨w.heap.size + 1, 0, none⟩ = some (.string q.loc) ∧ W.cell? ⟨w.heap.size + 1, 1, none⟩ = some (.string q.off) ∧ W.cell? ⟨w.heap.size + 1, 2, none⟩ = some (un) ∧ W.cell? ⟨w.heap.size + 1, 3, none⟩ = some (us) ∧ W.cell? ⟨w.heap.size + 1, 4, none⟩ = some (up) ∧ W.cell? ⟨w.heap.size + 1, 5, none⟩ = some (.int .i64 q.tk) ∧ W.cell? ⟨w.heap.size + 1, 6, none⟩ = some (.int .i64 q.td) ∧ W.cell? ⟨w.heap.size + 1, 7, none⟩ = some (.int .i64 q.tm) ∧ W.cell? ⟨w.heap.size + 1, 8, none⟩ = some (.string q.recv) ∧ W.cell? ⟨w.heap.size + 1, 9, none⟩ = some (ur) ∧ W.cell? ⟨w.heap.size + 1, 10, none⟩ = some (ux) ∧ W.cell? ⟨w.heap.size + 1, 11, none⟩ = some (.bool q.queued))
      (first
        | exact hS0
        | assumption
        | exact HCA2.out _ (bel_trans (show _ ∧ _ ∧ Below w3.heap.size w3 _ ∧ _ by assumption).2.2.1 hb5))
      (first
        | (go_at_call 41; (with_reducible refine (HSM3.out _ (show _ ∧ _ ∧ Below w3.heap.size w3 _ ∧ _ by assumption).2.2.1).mono ?_); rintro e w5 ⟨rfl, hb5⟩))
    have hy : Below w3.heap.size w3 w5 := (show _ ∧ _ ∧ Below w3.heap.size w3 w5 ∧ _ by assumption).2.2.1
    go_wp2
    go_ret
    exact ⟨ret_bool (by rw [HE.out]; simp), below_w HB1.out (bel_trans HB3.out hy)⟩
end Go.Proofs.YtjahkaidinahpaaDoor
