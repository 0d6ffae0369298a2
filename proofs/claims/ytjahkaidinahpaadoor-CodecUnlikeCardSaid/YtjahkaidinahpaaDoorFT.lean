/- The law's 'leg'. -/
import Derived.Test.YtjahkaidinahpaaDoorFS
namespace Go.Proofs.YtjahkaidinahpaaDoor
open Go.RowKit Go.ChangeMaps
set_option linter.unusedSimpArgs false
set_option linter.unusedVariables false
set_option maxRecDepth 20000

theorem no_nil {α : Type} {enc : α → List Value} : ∀ a, ∀ u ∈ enc a, u ∉ ([] : List Value) := fun _ _ _ => List.not_mem_nil

theorem blkN {w : World} {b : Nat} {T : TypeId} (h : w.heap.size = b) : Blk (w.alloc (.cells #[] T)) b T [] := by subst h; exact Blk.new w T []
theorem blkND {w : World} {b : Nat} {T : TypeId} (h : w.heap.size = b) : Blk (w.alloc (.cells #[] T)).drew b T [] := blkN h
theorem blkNA {w : World} {b : Nat} {T : TypeId} {o : Obj} (h : w.heap.size = b) : Blk ((w.alloc (.cells #[] T)).alloc o) b T [] := (blkN h).alloc o
theorem blkNAD {w : World} {b : Nat} {T : TypeId} {o : Obj} (h : w.heap.size = b) : Blk ((w.alloc (.cells #[] T)).alloc o).drew b T [] := (blkN h).alloc o

theorem below_grown {B b : Nat} {a w w' : World} (h : Below B a w) (hg : w.grownBy w' (some b)) (hB : B ≤ w.heap.size) (hb : B ≤ b) : Below B a w' := h.grown hg hB fun k hk => by injection hk with hk; omega

theorem below_grown2 {b : Nat} {a w w' : World} (h : Below a.heap.size a w) (hg : w.grownBy w' (some b)) (hb : a.heap.size ≤ b) : Below a.heap.size a w' := below_grown h hg h.size hb

set_option maxHeartbeats 16000000 in
theorem leg_any (s : List SoldT) (h : List HeldT) (vs vh : Value) (w : World) (hs : HasE soldC w vs s) (hh : HasE heldC w vh h) (l1 : s.length ≤ 1000000) (l2 : h.length ≤ 1000000) :
    Calls Tryd.prog 34 #[.agg #[vs, vh]] w fun e w' => (∃ vs' vh', e = .returned (.agg #[vs', vh']) ∧ HasE soldC w' vs' s ∧ HasE heldC w' vh' h) ∧ Below w.heap.size w w' := by
  obtain ⟨ps, cs, rfl⟩ := hs.len
  obtain ⟨ph, ch, rfl⟩ := hh.len
  have hb2 : Below w.heap.size w ((w.alloc (.cells #[.slice ps s.length cs, .slice ph h.length ch] 88)).alloc (.cells #[.slice none 0 0, .slice none 0 0] 90)) := ((Below.refl _ _).alloc (Nat.le_refl _) _).alloc (by simp) _
  have k1 := (Blk.new w 88 [.slice ps s.length cs, .slice ph h.length ch]).alloc (.cells #[.slice none 0 0, .slice none 0 0] 90)
  have k2 := Blk.new (w.alloc (.cells #[.slice ps s.length cs, .slice ph h.length ch] 88)) 90 [.slice none 0 0, .slice none 0 0]
  have hsz : (w.alloc (.cells #[.slice ps s.length cs, .slice ph h.length ch] 88)).heap.size = w.heap.size + 1 := by simp
  have hsz2 : ((w.alloc (.cells #[.slice ps s.length cs, .slice ph h.length ch] 88)).alloc (.cells #[.slice none 0 0, .slice none 0 0] 90)).heap.size = w.heap.size + 2 := by simp
  rw [hsz] at k2
  have HS := Lib.hid (hs.mono hb2)
  have HH := Lib.hid (hh.mono hb2)
  have K1 := Lib.hid k1
  have K2 := Lib.hid k2
  have HB2 := Lib.hid hb2
  have HZ2 := Lib.hid hsz2
  obtain ⟨i1, hi1, hz1, hsz1, hby1⟩ := sold_info
  obtain ⟨i2, hi2, hz2, hszz2, hby2⟩ := held_info
  have hl1 : s.length ≤ maxLen := by unfold maxLen; omega
  have hl2 : h.length ≤ maxLen := by unfold maxLen; omega
  have hl3 : s.length * 16 ≤ 140737488355328 := by omega
  have hl4 : h.length * 40 ≤ 140737488355328 := by omega
  clear hs hh hb2 k1 k2 hsz hsz2 l1 l2
  have HLs := Lib.hid hl1
  have HLh := Lib.hid hl2
  have HLs3 := Lib.hid hl3
  have HLh4 := Lib.hid hl4
  clear hl1 hl2 hl3 hl4
  generalize hns : s.length = ns at HS HH K1 K2 HB2 HZ2 ⊢
  generalize hnh : h.length = nh at HS HH K1 K2 HB2 HZ2 ⊢
  clear hns hnh
  go_enter Tryd.func34, Tryd.ntmps34
  go_upto_region 1 with fail
  generalize (w.alloc (.cells #[.slice ps ns cs, .slice ph nh ch] 88)).alloc (.cells #[.slice none 0 0, .slice none 0 0] 90) = w2 at *
  have HST : RowKit.Hid (∀ W, w2.grownBy W (some (w.heap.size + 1)) → W.cell? ⟨w.heap.size, 0, none⟩ = some (.slice ps ns cs) ∧ W.cell? ⟨w.heap.size, 1, none⟩ = some (.slice ph nh ch) ∧ w2.grownBy W (some (w.heap.size + 1))) := Lib.hid fun W hb => ⟨gr_cell hb ((K1.out.cell 0).trans rfl) (by omega), gr_cell hb ((K1.out.cell 1).trans rfl) (by omega), hb⟩
  have hS0 := HST.out w2.drew (gr_of_below (Below.refl _ _).drew _)
  go_region_held3 (fun W => W.cell? ⟨w.heap.size, 0, none⟩ = some (.slice ps ns cs) ∧ W.cell? ⟨w.heap.size, 1, none⟩ = some (.slice ph nh ch) ∧ w2.grownBy W (some (w.heap.size + 1)))
    (first
      | exact hS0
      | assumption
      | exact HST.out _ (gr_same (show _ ∧ _ ∧ w2.grownBy _ (some (w.heap.size + 1)) by assumption).2.2 (gr_of_below ((Below.refl _ _).alloc (Nat.le_refl _) _) _))
      | exact HST.out _ (gr_new (show _ ∧ _ ∧ w2.grownBy _ (some (w.heap.size + 1)) by assumption).2.2 hg6 (by first | exact Nat.le_refl _ | exact Nat.le_succ _ | exact hz10 | omega))
      | exact HST.out _ (gr_new (show _ ∧ _ ∧ w2.grownBy _ (some (w.heap.size + 1)) by assumption).2.2 hg10 (by first | exact Nat.le_refl _ | exact Nat.le_succ _ | exact hz6 | omega))
      | exact HST.out _ (gr_setCell1 (gr_setCell1 (show _ ∧ _ ∧ w2.grownBy _ (some (w.heap.size + 1)) by assumption).2.2 0 _) 1 _))
    (first
      | (refine step_copyE soldC_len soldC_one (by decide) (by rfl) _ _ 85 (by rfl) _ 144 i1 _ 16 Tryd.underlying85 hi1 hz1 hsz1 hby1 (by rfl) (by rfl) (by first | exact blkND (by simp) | exact blkNAD (by simp) | exact blkN (by simp) | exact Blk.far (blkND (by simp)) hg10 (by simp) | exact Blk.far (blkNAD (by simp)) hg10 (by simp)) _ s (by rfl) (hasE_far HS.out K2.out (fun _ => soldC_no) (show _ ∧ _ ∧ w2.grownBy _ (some (w.heap.size + 1)) by assumption).2.2) HLs.out HLs3.out ?_; intro v6 w6 hv6 hg6 hk6; obtain ⟨p6, c6, rfl⟩ := hv6.len; have hz6 : w2.heap.size ≤ w6.heap.size := (by have := hg6.size; (try simp at this); omega); have hr6 : Blk w6 (w.heap.size + 1) 90 [.slice none 0 0, .slice none 0 0] := (by first | exact K2.out.farD hg6 (fun e => by injection e with e; have := HZ2.out; omega) | exact (K2.out.alloc _).farD hg6 (fun e => by injection e with e; have := HZ2.out; omega) | exact Blk.far hr10 hg6 (fun e => by injection e with e; have := HZ2.out; omega) | exact hr10.farA hg6 (fun e => by injection e with e; have := HZ2.out; omega)); (try have hv10' : HasE heldC w6 (.slice p10 h.length c10) h := (by first | exact hk6 _ _ _ _ hv10 | exact hk6 _ _ _ _ (hv10.mono ((Below.refl _ _).alloc (Nat.le_refl _) _)))); have hf0 := hr6.frozen 0; have hf1 := hr6.frozen 1; have hc0 : w6.cell? ⟨w.heap.size + 1, 0, none⟩ = some (.slice none 0 0) := (hr6.cell 0).trans rfl; have hc1 : w6.cell? ⟨w.heap.size + 1, 1, none⟩ = some (.slice none 0 0) := (hr6.cell 1).trans rfl)
      | (refine step_copyE heldC_len heldC_one (by decide) (by rfl) _ _ 86 (by rfl) _ 148 i2 _ 40 Tryd.underlying86 hi2 hz2 hszz2 hby2 (by rfl) (by rfl) (by first | exact blkND (by simp) | exact blkNAD (by simp) | exact blkN (by simp) | exact Blk.far (blkND (by simp)) hg6 (by simp) | exact Blk.far (blkNAD (by simp)) hg6 (by simp)) _ h (by rfl) (hasE_far HH.out K2.out (fun _ => heldC_no) (show _ ∧ _ ∧ w2.grownBy _ (some (w.heap.size + 1)) by assumption).2.2) HLh.out HLh4.out ?_; intro v10 w10 hv10 hg10 hk10; obtain ⟨p10, c10, rfl⟩ := hv10.len; have hz10 : w2.heap.size ≤ w10.heap.size := (by have := hg10.size; (try simp at this); omega); have hr10 : Blk w10 (w.heap.size + 1) 90 [.slice none 0 0, .slice none 0 0] := (by first | exact K2.out.farD hg10 (fun e => by injection e with e; have := HZ2.out; omega) | exact (K2.out.alloc _).farD hg10 (fun e => by injection e with e; have := HZ2.out; omega) | exact Blk.far hr6 hg10 (fun e => by injection e with e; have := HZ2.out; omega) | exact hr6.farA hg10 (fun e => by injection e with e; have := HZ2.out; omega)); (try have hv6' : HasE soldC w10 (.slice p6 s.length c6) s := (by first | exact hk10 _ _ _ _ hv6 | exact hk10 _ _ _ _ (hv6.mono ((Below.refl _ _).alloc (Nat.le_refl _) _)))); have hf0 := hr10.frozen 0; have hf1 := hr10.frozen 1; have hc0 : w10.cell? ⟨w.heap.size + 1, 0, none⟩ = some (.slice none 0 0) := (hr10.cell 0).trans rfl; have hc1 : w10.cell? ⟨w.heap.size + 1, 1, none⟩ = some (.slice none 0 0) := (hr10.cell 1).trans rfl))
  all_goals (
    have hgF := (show _ ∧ _ ∧ w2.grownBy _ (some (w.heap.size + 1)) by assumption).2.2
    have HBX : RowKit.Hid (∀ W, w2.grownBy W (some (w.heap.size + 1)) → Below w.heap.size w W) := Lib.hid fun W hg => HB2.out.grown hg HB2.out.size fun k hk => by injection hk with hk; omega
    go_wp2
    first
      | (refine bodyPost_ret (results_row1 rfl _ _ (w.heap.size + 1) 90 [.slice p6 s.length c6, .slice p10 h.length c10] _ rfl ((hr10.set 0 _).set 1 _) Tryd.underlying90 rfl info_leg) rfl ⟨⟨_, _, rfl, hasE_far hv6' hr10 (fun _ => soldC_no) (gr_setCell1 (gr_setCell1 (World.grownBy.refl _ _) 0 _) 1 _), hasE_far hv10 hr10 (fun _ => heldC_no) (gr_setCell1 (gr_setCell1 (World.grownBy.refl _ _) 0 _) 1 _)⟩, HBX.out _ (by assumption)⟩)
      | (refine bodyPost_ret (results_row1 rfl _ _ (w.heap.size + 1) 90 [.slice p6 s.length c6, .slice p10 h.length c10] _ rfl ((hr6.set 0 _).set 1 _) Tryd.underlying90 rfl info_leg) rfl ⟨⟨_, _, rfl, hasE_far hv6 hr6 (fun _ => soldC_no) (gr_setCell1 (gr_setCell1 (World.grownBy.refl _ _) 0 _) 1 _), hasE_far hv10' hr6 (fun _ => heldC_no) (gr_setCell1 (gr_setCell1 (World.grownBy.refl _ _) 0 _) 1 _)⟩, HBX.out _ (by assumption)⟩))
end Go.Proofs.YtjahkaidinahpaaDoor
