/- The cursor's num, loc. -/
import Derived.Test.YtjahkaidinahpaaDoorEU
namespace Go.Proofs.YtjahkaidinahpaaDoor
open Go.RowKit Go.ChangeMaps
set_option linter.unusedSimpArgs false
set_option linter.unusedVariables false
set_option maxRecDepth 20000

theorem ext_rest (s : ByteArray) (k : Nat) : toL (s.extract k s.size) = (toL s).drop k := by
  rw [ext_list, List.take_of_length_le (by rw [size_toL]; exact Nat.le_refl _)]

/-- What 'num' tells. -/
def NumP (g : Nat) (s : ByteArray) (k most : Nat) (bad : Bool) (w : World) (e : Ending) (w' : World) : Prop :=
  ∃ (n k2 : Nat) (b2 : Bool), e = .returned (.int .i64 n) ∧ n ≤ most ∧ CS w' g s k2 b2 ∧ (b2 = false → bad = false ∧ pNum most ((toL s).drop k) = some (n, (toL s).drop k2)) ∧ (b2 = true → bad = true ∨ pNum most ((toL s).drop k) = none) ∧ w.grownBy w' (some g)

set_option maxHeartbeats 16000000 in
theorem num_any (g : Nat) (s : ByteArray) (k most : Nat) (bad : Bool) (w : World) (h : CS w g s k bad) (hl : s.size ≤ 1000000) (hm : most ≤ 4000000000) :
    Calls Tryd.prog 58 #[.pointer (some ⟨g, 0, none⟩), .int .i64 most] w fun e w' => NumP g s k most bad w e w' := by
  obtain ⟨c0, c1, c2, f1, f2⟩ := h.cells
  have HC := Lib.hid h
  have hkS := h.2
  cases bad with
  | true =>
    clear h hm
    go_enter Tryd.func58, Tryd.ntmps58
    go_wp2
    go_ret
    exact ⟨0, k, true, rfl, Nat.zero_le _, HC.out, (fun h => by cases h), (fun _ => .inl rfl), World.grownBy.refl _ _⟩
  | false =>
    have hks2 : (k : Int) ≤ (s.size : Int) := by omega
    have hk0 : (0 : Int) ≤ (k : Int) := by omega
    have hw1 : IntKind.u64.wrap (most : Int) = (most : Int) := by rw [IntKind.wrap_u64]; omega
    have HRR := refReadVar_any (s.extract k s.size)
    have hxs : (s.extract k s.size).size ≤ 1000000 := by rw [← size_toL, ext_rest, List.length_drop, size_toL]; omega
    have hS0 : w.drew.cell? ⟨g, 0, none⟩ = some (.string s) ∧ w.drew.cell? ⟨g, 1, none⟩ = some (.int .i64 k) ∧ Below w.heap.size w w.drew := ⟨c0, c1, (Below.refl _ _).drew⟩
    have hlen : ((toL s).drop k).length = s.size - k := by rw [List.length_drop, size_toL]
    have hw1' := hw1
    rw [ext_rest] at HRR
    cases hp : pNum most ((toL s).drop k) with
    | some x =>
      obtain ⟨n, r⟩ := x
      obtain ⟨kk, hrv, hnm, hr, hk1, hk2⟩ := pNum_some hp
      have HRV : RowKit.Hid (∀ W, Calls Tryd.prog 119 #[.string (s.extract k s.size)] W fun e w' => e = .returned (.tuple #[.int .u64 n, .int .i64 kk, .int .i64 0]) ∧ W = w') := Lib.hid fun W => (HRR W hxs).mono (by
        rintro e w' ⟨h1, rfl⟩
        rcases h1 with ⟨n', k', h2, rfl⟩ | ⟨h2, _⟩
        · rw [hrv] at h2
          injection h2 with h2
          injection h2 with h2 h3
          subst h2 h3
          exact ⟨rfl, rfl⟩
        · rw [hrv] at h2; cases h2)
      have HPN : RowKit.Hid (pNum most ((toL s).drop k) = some (n, (toL s).drop (k + kk))) := Lib.hid (by rw [hp, hr, List.drop_drop])
      have HNM := Lib.hid hnm
      have hni : ¬ (most : Int) < (n : Int) := by omega
      have hw2 : IntKind.i64.wrap (n : Int) = (n : Int) := by rw [IntKind.wrap_i64]; omega
      have hkk : k + kk ≤ s.size := by omega
      have hkw : IntKind.i64.wrap ((k : Int) + (kk : Int)) = (k : Int) + (kk : Int) := by rw [IntKind.wrap_i64]; omega
      have HKK := Lib.hid hkk
      clear h hm HRR hxs hlen hp hrv hnm hr hk1 hk2 hkk hl
      go_enter Tryd.func58, Tryd.ntmps58
      go_upto_region 3 with fail
      go_region_held3 (fun W => W.cell? ⟨g, 0, none⟩ = some (.string s) ∧ W.cell? ⟨g, 1, none⟩ = some (.int .i64 k) ∧ Below w.heap.size w W)
        (first
          | exact hS0
          | assumption)
        (first
          | (go_at_call 119; (with_reducible refine (HRV.out _).mono ?_); rintro e w9 ⟨rfl, rfl⟩))
      have hC1 : CS w.drew g s k false := HC.out.mono (Below.refl w.heap.size w).drew
      have hgr1 : w.grownBy w.drew (some g) := gr_of_below (Below.refl w.heap.size w).drew _
      generalize w.drew = wq at *
      clear c0 c1 c2 f1 f2
      obtain ⟨d0, d1, d2, e1, e2⟩ := hC1.cells
      go_wp2
      go_ret
      have hC2 : CS (wq.setCell ⟨g, 1, none⟩ (.int .i64 ((k : Int) + (kk : Int)))) g s (k + kk) false := hC1.goAt (k2 := k + kk) HKK.out
      exact ⟨n, k + kk, false, rfl, HNM.out, hC2, (fun _ => ⟨rfl, HPN.out⟩), (fun h => by cases h), gr_setCell1 hgr1 1 _⟩
    | none =>
      have HPN := Lib.hid hp
      rcases pNum_none hp with hrv | ⟨n, kk, hrv, hmn⟩
      · have HRV : RowKit.Hid (∀ W, Calls Tryd.prog 119 #[.string (s.extract k s.size)] W fun e w' => ∃ z : Int, (z != 0) = true ∧ e = .returned (.tuple #[.int .u64 0, .int .i64 0, .int .i64 z]) ∧ W = w') := Lib.hid fun W => (HRR W hxs).mono (by
          rintro e w' ⟨h1, rfl⟩
          rcases h1 with ⟨n', k', h2, rfl⟩ | ⟨h2, z, hz, rfl⟩
          · rw [hrv] at h2; cases h2
          · exact ⟨z, by rw [bne_iff_ne]; exact hz, rfl, rfl⟩)
        clear h hm HRR hxs hlen hp hrv hl
        go_enter Tryd.func58, Tryd.ntmps58
        go_upto_region 3 with fail
        go_region_held3 (fun W => W.cell? ⟨g, 0, none⟩ = some (.string s) ∧ W.cell? ⟨g, 1, none⟩ = some (.int .i64 k) ∧ Below w.heap.size w W)
          (first
            | exact hS0
            | assumption)
          (first
            | (go_at_call 119; (with_reducible refine (HRV.out _).mono ?_); rintro e w9 ⟨z, hz, rfl, rfl⟩))
        have hC1 : CS w.drew g s k false := HC.out.mono (Below.refl w.heap.size w).drew
        have hgr1 : w.grownBy w.drew (some g) := gr_of_below (Below.refl w.heap.size w).drew _
        generalize w.drew = wq at *
        clear c0 c1 c2 f1 f2
        obtain ⟨d0, d1, d2, e1, e2⟩ := hC1.cells
        go_wp2
        go_ret
        exact ⟨0, k, true, rfl, Nat.zero_le _, hC1.goBad true, (fun h => by cases h), (fun _ => .inr HPN.out), gr_setCell1 hgr1 2 _⟩
      · have HRV : RowKit.Hid (∀ W, Calls Tryd.prog 119 #[.string (s.extract k s.size)] W fun e w' => e = .returned (.tuple #[.int .u64 n, .int .i64 kk, .int .i64 0]) ∧ W = w') := Lib.hid fun W => (HRR W hxs).mono (by
          rintro e w' ⟨h1, rfl⟩
          rcases h1 with ⟨n', k', h2, rfl⟩ | ⟨h2, _⟩
          · rw [hrv] at h2
            injection h2 with h2
            injection h2 with h2 h3
            subst h2 h3
            exact ⟨rfl, rfl⟩
          · rw [hrv] at h2; cases h2)
        have hni : (most : Int) < (n : Int) := by omega
        clear h hm HRR hxs hlen hp hrv hl hmn
        go_enter Tryd.func58, Tryd.ntmps58
        go_upto_region 3 with fail
        go_region_held3 (fun W => W.cell? ⟨g, 0, none⟩ = some (.string s) ∧ W.cell? ⟨g, 1, none⟩ = some (.int .i64 k) ∧ Below w.heap.size w W)
          (first
            | exact hS0
            | assumption)
          (first
            | (go_at_call 119; (with_reducible refine (HRV.out _).mono ?_); rintro e w9 ⟨rfl, rfl⟩))
        have hC1 : CS w.drew g s k false := HC.out.mono (Below.refl w.heap.size w).drew
        have hgr1 : w.grownBy w.drew (some g) := gr_of_below (Below.refl w.heap.size w).drew _
        generalize w.drew = wq at *
        clear c0 c1 c2 f1 f2
        obtain ⟨d0, d1, d2, e1, e2⟩ := hC1.cells
        go_wp2
        go_ret
        exact ⟨0, k, true, rfl, Nat.zero_le _, hC1.goBad true, (fun h => by cases h), (fun _ => .inr HPN.out), gr_setCell1 hgr1 2 _⟩

/-- What 'loc' tells. -/
def LocP (g : Nat) (s : ByteArray) (k : Nat) (bad : Bool) (w : World) (e : Ending) (w' : World) : Prop :=
  ∃ (t : ByteArray) (k2 : Nat) (b2 : Bool), e = .returned (.string t) ∧ t.size ≤ 6 ∧ CS w' g s k2 b2 ∧ (b2 = false → bad = false ∧ pLoc ((toL s).drop k) = some (toL t, (toL s).drop k2)) ∧ (b2 = true → bad = true ∨ pLoc ((toL s).drop k) = none) ∧ w.grownBy w' (some g)

theorem pLoc_at {l r : List UInt8} {n : Nat} (h : pFix 4 l = some (n, r)) (hn : n < 308915776) : pLoc l = some (txt (turnN n), r) := by
  unfold pLoc; rw [h]; exact if_pos hn
theorem pLoc_far {l r : List UInt8} {n : Nat} (h : pFix 4 l = some (n, r)) (hn : 308915776 ≤ n) : pLoc l = none := by
  unfold pLoc; rw [h]; exact if_neg (by omega)
theorem pLoc_short {l : List UInt8} (h : pFix 4 l = none) : pLoc l = none := by
  unfold pLoc; rw [h]

set_option maxHeartbeats 16000000 in
theorem loc_any (g : Nat) (s : ByteArray) (k : Nat) (bad : Bool) (w : World) (h : CS w g s k bad) (hl : s.size ≤ 1000000) :
    Calls Tryd.prog 59 #[.pointer (some ⟨g, 0, none⟩)] w fun e w' => LocP g s k bad w e w' := by
  have HW : RowKit.Hid (Calls Tryd.prog 83 #[.pointer (some ⟨g, 0, none⟩), .int .i64 4] w fun e w' => WideP g s k 4 bad w e w') := Lib.hid (wide_any g s k 4 bad w h hl (by omega))
  have HT := Lib.hid fun (n : Nat) W (hn : n < 308915776) => rtext_yes n W hn
  have HT2 := Lib.hid fun (n : Nat) W (hn : 308915776 ≤ n) => rtext_no (n : Int) W (.inr (by omega))
  clear h hl
  go_enter Tryd.func59, Tryd.ntmps59
  go_upto_region 2 with (first
    | (go_at_call 83; (with_reducible refine HW.out.mono ?_); rintro e w1 ⟨x, k2, b2, rfl, hx, hc, hf, ht, hg⟩; rcases Nat.lt_or_ge x 308915776 with hxl | hxl)
    | (go_at_call 120; (with_reducible refine (HT.out x _ hxl).mono ?_); rintro e w2 ⟨rfl, hb2⟩; obtain ⟨d0, d1, d2, e1, e2⟩ := (hc.mono hb2).cells)
    | (go_at_call 120; (with_reducible refine (HT2.out x _ hxl).mono ?_); rintro e w2 ⟨rfl, hb2⟩; obtain ⟨d0, d1, d2, e1, e2⟩ := (hc.mono hb2).cells))
  · have HC2 := Lib.hid (hc.mono hb2)
    have HF := Lib.hid hf
    have HTT := Lib.hid ht
    have HG : RowKit.Hid (w.grownBy w2 (some g)) := Lib.hid (gby_trans hg (gr_of_below hb2 _))
    have HTX : RowKit.Hid (toL (⟨(txt (turnN x)).toArray⟩ : ByteArray) = txt (turnN x)) := Lib.hid (strA_toL _)
    have HTS : RowKit.Hid ((⟨(txt (turnN x)).toArray⟩ : ByteArray).size ≤ 6) := Lib.hid (Nat.le_refl _)
    generalize htx : (⟨(txt (turnN x)).toArray⟩ : ByteArray) = tx at *
    have HXL := Lib.hid hxl
    clear hc hb2 hf ht hg hx hxl htx d0 d1 e1
    cases b2 with
    | true =>
      go_wp2
      go_ret
      exact ⟨tx, k2, true, rfl, HTS.out, HC2.out.goBad true, (fun h => by cases h), (fun _ => by
        rcases HTT.out (by first | rfl | trivial) with h1 | h1
        · exact .inl h1
        · exact .inr (pLoc_short h1)), gr_setCell1 HG.out 2 _⟩
    | false =>
      go_wp2
      go_ret
      exact ⟨tx, k2, false, rfl, HTS.out, HC2.out.goBad false, (fun h => by
        obtain ⟨h1, h2⟩ := HF.out (by first | rfl | trivial)
        exact ⟨h1, by rw [HTX.out]; exact pLoc_at h2 HXL.out⟩), (fun h => by cases h), gr_setCell1 HG.out 2 _⟩
  · have HC2 := Lib.hid (hc.mono hb2)
    have HF := Lib.hid hf
    have HTT := Lib.hid ht
    have HG : RowKit.Hid (w.grownBy w2 (some g)) := Lib.hid (gby_trans hg (gr_of_below hb2 _))
    have HXL := Lib.hid hxl
    clear hc hb2 hf ht hg hx hxl d0 d1 e1
    cases b2 with
    | true =>
      go_wp2
      go_ret
      exact ⟨⟨#[]⟩, k2, true, rfl, Nat.zero_le _, HC2.out.goBad true, (fun h => by cases h), (fun _ => by
        rcases HTT.out (by first | rfl | trivial) with h1 | h1
        · exact .inl h1
        · exact .inr (pLoc_short h1)), gr_setCell1 HG.out 2 _⟩
    | false =>
      go_wp2
      go_ret
      exact ⟨⟨#[]⟩, k2, true, rfl, Nat.zero_le _, HC2.out.goBad true, (fun h => by cases h), (fun _ => by
        obtain ⟨h1, h2⟩ := HF.out (by first | rfl | trivial)
        exact .inr (pLoc_far h2 HXL.out)), gr_setCell1 HG.out 2 _⟩
end Go.Proofs.YtjahkaidinahpaaDoor
