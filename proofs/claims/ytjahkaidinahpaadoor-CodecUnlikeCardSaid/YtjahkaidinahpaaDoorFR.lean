/- jetwayref14.ReadLeg. -/
import Derived.Test.YtjahkaidinahpaaDoorFQ
namespace Go.Proofs.YtjahkaidinahpaaDoor
open Go.RowKit Go.ChangeMaps
set_option linter.unusedSimpArgs false
set_option linter.unusedVariables false
set_option maxRecDepth 20000

/-- A leg and yes, or no. -/
def rlgP (o : Option (List SoldT × List HeldT)) (e : Ending) (w : World) : Prop :=
  (∃ s h vs vh, o = some (s, h) ∧ e = .returned (.tuple #[.agg #[vs, vh], .bool true]) ∧ HasE soldC w vs s ∧ HasE heldC w vh h ∧ ∀ x ∈ h, x.loc.size ≤ maxLen) ∨ (o = none ∧ e = .returned (.tuple #[.agg #[.slice none 0 0, .slice none 0 0], .bool false]))

theorem rlg_back {fn : Func} {p q : Tmp} (hf : fn.results = #[.cell p 88, .tmp q]) {a : Act} {w w0 : World} {g : Nat} {x y : Value} {z : Bool} {o : Option (List SoldT × List HeldT)}
    (hp : a.tmps.getD p undef = .pointer (some ⟨g, 0, none⟩)) (hq : a.tmps.getD q undef = .bool z) (hd : a.defers = []) (hg : Blk w g 88 [x, y]) (hw : Below w0.heap.size w0 w)
    (h : (∃ s h, o = some (s, h) ∧ HasE soldC w x s ∧ HasE heldC w y h ∧ (∀ t ∈ h, t.loc.size ≤ maxLen) ∧ z = true) ∨ (o = none ∧ x = .slice none 0 0 ∧ y = .slice none 0 0 ∧ z = false)) :
    bodyPost Tryd.prog fn (fun e w' => rlgP o e w' ∧ Below w0.heap.size w0 w') .ret a w := by
  refine bodyPost_ret (results_row_tmp hf a.tmps w g 88 [x, y] _ hp hg Tryd.underlying88 rfl info_rleg) hd ?_
  rw [hq]
  rcases h with ⟨s, h, h1, h2, h3, h4, rfl⟩ | ⟨h1, rfl, rfl, rfl⟩
  · exact ⟨.inl ⟨s, h, _, _, h1, rfl, h2, h3, h4⟩, hw⟩
  · exact ⟨.inr ⟨h1, rfl⟩, hw⟩

set_option maxHeartbeats 16000000 in
theorem refReadLeg_any (s : ByteArray) (w : World) (hl : s.size ≤ 20000) :
    Calls Tryd.prog 37 #[.string s] w fun e w' => rlgP (readLg (toL s)) e w' ∧ Below w.heap.size w w' := by
  have hz1 : (w.alloc (.cells #[.slice none 0 0, .slice none 0 0] 88)).heap.size = w.heap.size + 1 := by simp
  have hcs0 : CS ((w.alloc (.cells #[.slice none 0 0, .slice none 0 0] 88)).alloc (.cells #[.string s, .int .i64 0, .bool false] 125)) (w.heap.size + 1) s 0 false := ⟨by have h := Blk.new (w.alloc (.cells #[.slice none 0 0, .slice none 0 0] 88)) 125 [.string s, .int .i64 0, .bool false]; rw [hz1] at h; exact h, Nat.zero_le _⟩
  have hb0 : Below w.heap.size w ((w.alloc (.cells #[.slice none 0 0, .slice none 0 0] 88)).alloc (.cells #[.string s, .int .i64 0, .bool false] 125)) := ((Below.refl _ _).alloc (Nat.le_refl _) _).alloc (by simp) _
  have hres : Blk ((w.alloc (.cells #[.slice none 0 0, .slice none 0 0] 88)).alloc (.cells #[.string s, .int .i64 0, .bool false] 125)) w.heap.size 88 [.slice none 0 0, .slice none 0 0] := (Blk.new w 88 [.slice none 0 0, .slice none 0 0]).alloc _
  have HB0 := Lib.hid hb0
  have HRES := Lib.hid hres
  have HFI := Lib.hid (first_any (w.heap.size + 1) s 76 _ hcs0 (by omega) (by decide))
  have HN6 : RowKit.Hid (∀ W k bad, CS W (w.heap.size + 1) s k bad → Calls Tryd.prog 58 #[.pointer (some ⟨w.heap.size + 1, 0, none⟩), .int .i64 6] W fun e w' => NumP (w.heap.size + 1) s k 6 bad W e w') := Lib.hid fun W k bad h => num_any (w.heap.size + 1) s k 6 bad W h (by omega) (by omega)
  have HN4 : RowKit.Hid (∀ W k bad, CS W (w.heap.size + 1) s k bad → Calls Tryd.prog 58 #[.pointer (some ⟨w.heap.size + 1, 0, none⟩), .int .i64 400] W fun e w' => NumP (w.heap.size + 1) s k 400 bad W e w') := Lib.hid fun W k bad h => num_any (w.heap.size + 1) s k 400 bad W h (by omega) (by omega)
  have HN600 : RowKit.Hid (∀ W k bad, CS W (w.heap.size + 1) s k bad → Calls Tryd.prog 58 #[.pointer (some ⟨w.heap.size + 1, 0, none⟩), .int .i64 600] W fun e w' => NumP (w.heap.size + 1) s k 600 bad W e w') := Lib.hid fun W k bad h => num_any (w.heap.size + 1) s k 600 bad W h (by omega) (by omega)
  have HLO : RowKit.Hid (∀ W k bad, CS W (w.heap.size + 1) s k bad → Calls Tryd.prog 59 #[.pointer (some ⟨w.heap.size + 1, 0, none⟩)] W fun e w' => LocP (w.heap.size + 1) s k bad W e w') := Lib.hid fun W k bad h => loc_any (w.heap.size + 1) s k bad W h (by omega)
  have HBY : RowKit.Hid (∀ W k bad, CS W (w.heap.size + 1) s k bad → Calls Tryd.prog 57 #[.pointer (some ⟨w.heap.size + 1, 0, none⟩)] W fun e w' => ByteP (w.heap.size + 1) s k bad W e w') := Lib.hid fun W k bad h => byte_any (w.heap.size + 1) s k bad W h (by omega)
  have HWI : RowKit.Hid (∀ W k bad, CS W (w.heap.size + 1) s k bad → Calls Tryd.prog 83 #[.pointer (some ⟨w.heap.size + 1, 0, none⟩), .int .i64 2] W fun e w' => WideP (w.heap.size + 1) s k 2 bad W e w') := Lib.hid fun W k bad h => wide_any (w.heap.size + 1) s k 2 bad W h (by omega) (by omega)
  clear hl hcs0 hb0 hres hz1
  go_enter Tryd.func37, Tryd.ntmps37
  go_upto_region 3 with (first
    | (go_at_call 57; (with_reducible refine HFI.out.mono ?_); rintro e w2 ⟨x, k2, b2, rfl, hc2, hx1, hx2, hg2⟩; obtain ⟨d0, d1, d2, e1, e2⟩ := hc2.cells))
  have hz2 : w.heap.size + 2 ≤ w2.heap.size := by have := hg2.size; simp at this; omega
  have hc3 : CS (w2.setCell ⟨w.heap.size + 1, 2, none⟩ (.bool ((x : Int) != 76))) (w.heap.size + 1) s k2 ((x : Int) != 76) := hc2.goBad _
  have hb3 : Below w.heap.size w (w2.setCell ⟨w.heap.size + 1, 2, none⟩ (.bool ((x : Int) != 76))) := (bel_gr HB0.out hg2 (Nat.le_succ _)).setCell (p := ⟨w.heap.size + 1, 2, none⟩) (Nat.le_succ _) _
  have hs3 : (w2.setCell ⟨w.heap.size + 1, 2, none⟩ (.bool ((x : Int) != 76))).heap.size = w2.heap.size := by simp [World.setCell]
  have hr3 : Blk (w2.setCell ⟨w.heap.size + 1, 2, none⟩ (.bool ((x : Int) != 76))) w.heap.size 88 [.slice none 0 0, .slice none 0 0] := (HRES.out.far hg2 (fun e => by injection e with e; omega)).far (gr_setCell1 (World.grownBy.refl _ _) 2 _) (fun e => by injection e with e; omega)
  have hst : Stg (pLeg (toL s)) ((x : Int) != 76) (pLegS ((toL s).drop k2)) := Stg.start (α := Unit) (c := 76) (l := toL s) (K := fun (_ : Unit) r => pLegS r) rfl (fun h => hx1 (by rw [bne_eq_false_iff_eq] at h; show x = 76; omega)) (fun h => hx2 (by rw [bne_iff_ne] at h; show x ≠ 76; omega))
  have HST := Lib.hid hst
  have HC3 := Lib.hid hc3
  have HB3 := Lib.hid hb3
  have HR3 := Lib.hid hr3
  rw [← hs3] at hz2
  generalize w2.setCell ⟨w.heap.size + 1, 2, none⟩ (.bool ((x : Int) != 76)) = w3 at *
  generalize ((x : Int) != 76) = bad1 at *
  clear hc2 hx1 hx2 hg2 d0 d1 d2 e1 e2 HFI HB0 hs3 hc3 hb3 hr3 hst HRES
  have hql0 : QL false w (w3.alloc (.cells #[.slice none 0 0, .slice none 0 0] 88)) (w.heap.size + 1) w3.heap.size (w3.heap.size + 1) s k2 bad1 [] [] :=
    ⟨HC3.out.mono ((Below.refl _ _).alloc (Nat.le_refl _) _), HB3.out.alloc HB3.out.size _, ⟨_, _, Blk.new w3 88 [.slice none 0 0, .slice none 0 0], World.ownsRow_nil _ _ _ _, World.ownsRow_nil _ _ _ _, (fun _ => ⟨rfl, rfl⟩), (fun h => by cases h)⟩, HR3.out.alloc _, by omega, by omega, by omega, by simp⟩
  have HQL0 := Lib.hid hql0
  have hbk0 := Blk.new w3 88 [.slice none 0 0, .slice none 0 0]
  have HBK0 := Lib.hid hbk0
  clear hql0 hbk0 HB3 HR3 HC3
  go_upto_region 4 with (first
    | (refine wpList_store_blk rfl 88 (.tmp 5) (.tmp 23) rfl w3.heap.size 88 [.slice none 0 0, .slice none 0 0] [.slice none 0 0, .slice none 0 0] rfl rfl HBK0.out rfl info_rleg two_one ?_; intro w4 hb4 hl4 hg4))
  try dsimp only [Act.put]
  have hql4 : QL false w w4 (w.heap.size + 1) w3.heap.size (w3.heap.size + 1) s k2 bad1 [] [] :=
    ⟨HQL0.out.cs.far hg4 (fun e => by injection e with e; omega), HQL0.out.bel.trans (hl4.mono (by have := HQL0.out.bel.size; simp at this; omega)), ⟨_, _, hb4, World.ownsRow_nil _ _ _ _, World.ownsRow_nil _ _ _ _, (fun _ => ⟨rfl, rfl⟩), (fun h => by cases h)⟩, HQL0.out.res.far hg4 (fun e => by injection e with e; omega), by omega, by omega, by omega, Nat.le_trans HQL0.out.gg.2.2.2 hg4.size⟩
  have HQL4 := Lib.hid hql4
  clear hql4 hb4 hl4 hg4 HQL0 HBK0
  generalize w3.heap.size = gl at *
  go_wp2_with (first
    | (go_at_call 58; (with_reducible refine (HN6.out _ _ _ HQL4.out.cs).mono ?_); rintro e w5 ⟨n, k4, b4, rfl, hn, hc4, hf4, ht4, hg4⟩))
  have HQL5 := Lib.hid (HQL4.out.reader hc4 hg4)
  have HS5 : RowKit.Hid (Stg (pLeg (toL s)) b4 (pRun pSold pLegH n [] ((toL s).drop k4))) := Lib.hid (HST.out.step (K := fun n r2 => pRun pSold pLegH n [] r2) hf4 ht4)
  clear hc4 hg4 hf4 ht4 HQL4 HST
  go_loopg [7] n (fun g0 s7 wr => ∃ (i : Nat) (lst : List SoldT) (kk : Nat) (bad : Bool), i ≤ n ∧ g0 = n - i ∧ s7 = .int .i64 (i : Int) ∧ QL false w wr (w.heap.size + 1) gl (gl + 1) s kk bad lst [] ∧ lst.length = i ∧ Stg (pLeg (toL s)) bad (pRun pSold pLegH (n - i) lst ((toL s).drop kk)))
  case atStart => exact ⟨0, [], k4, b4, Nat.zero_le _, rfl, rfl, HQL5.out, rfl, HS5.out⟩
  case round =>
    obtain ⟨i, lst, kk, bad, hin, rfl, rfl, hql, hll, hst⟩ := hrel
    have HQL := Lib.hid hql
    have HLL := Lib.hid hll
    have HST := Lib.hid hst
    obtain ⟨d0, d1, d2, e1, e2⟩ := hql.cs.cells
    clear hql hll hst
    go_upto_region 6 with fail
    go_cut [35] from 26 to 49 (fun s35 wx => s35 = .bool (decide (i < n) && !bad) ∧ wr = wx)
    case first =>
      by_cases h1 : i < n
      · have h1i : (i : Int) < (n : Int) := by omega
        have HD := Lib.hid (decide_eq_true h1)
        clear h1
        cases bad
        · go_wp2
          go_meet
          exact ⟨by rw [HD.out]; rfl, rfl⟩
        · go_wp2
          go_meet
          exact ⟨by rw [HD.out]; rfl, rfl⟩
      · have h1i : ¬ (i : Int) < (n : Int) := by omega
        have HD := Lib.hid (decide_eq_false h1)
        clear h1
        go_wp2
        go_meet
        exact ⟨by rw [HD.out]; rfl, rfl⟩
    case rest =>
      obtain ⟨rfl, rfl⟩ := hcut
      cases hd : (decide (i < n) && !bad) with
      | true =>
        rw [Bool.and_eq_true] at hd
        have hlt : i < n := of_decide_eq_true hd.1
        have hb2 : bad = false := by simpa using hd.2
        subst hb2
        clear hd d0 d1 d2 e1 e2
        have hgl2 : gl ≠ w.heap.size + 1 := by have := HQL.out.gg; omega
        have hm1 : lst.length + 1 ≤ maxLen := by rw [HLL.out]; unfold maxLen; omega
        have hm2 : (lst.length + 1) * 16 ≤ 140737488355328 := by rw [HLL.out]; omega
        obtain ⟨i0, hi0, hz0, hsz0, hby0⟩ := sold_info
        go_upto_region 9 with (first
          | (go_at_call 57; (with_reducible refine (HBY.out _ _ _ HQL.out.cs).mono ?_); rintro e w5 ⟨x, k5, b5, rfl, hc5, hf5, ht5, hg5⟩; have HF5 := Lib.hid hf5; have HT5 := Lib.hid ht5; clear hf5 ht5; have hxm : ((x.toNat : Nat) : Int) % 256 = ((x.toNat : Nat) : Int) := (by have := x.toNat_lt; omega)))
        have hk5 := HQL.out.reader hc5 hg5
        obtain ⟨pv, nv, cv, qv, mv, dv, c0, _, _, _, _, _⟩ := hk5.cells
        have hglt : gl < w5.heap.size := by have := hk5.gg; omega
        have HK5 := Lib.hid (hk5.mono (Below.refl _ _).drew)
        have d5 := cell_bel (Below.refl _ _).drew c0
        clear hk5 hc5
        go_region_law (first
          | (go_simp; go_at_call 58; refine (HN4.out _ _ _ HK5.out.cs).mono ?_; rintro e w7 ⟨n7, k7, b7, rfl, hn7, hc7, hf7, ht7, hg7⟩; have hk7 := HK5.out.reader hc7 hg7; have d7 := gr_cell hg7 d5 hgl2; obtain ⟨hown7, hAP7, hST7⟩ := hk7.sold d7 ⟨x, n7⟩; have HAP7 := Lib.hid hAP7; have HST7 := Lib.hid hST7; have hbsz : (w7.alloc (.cells (soldC ⟨x, n7⟩).toArray 144)).heap.size = w7.heap.size + 1 := (by simp); have hbase : gl + 1 ≤ (w7.alloc (.cells (soldC ⟨x, n7⟩).toArray 144)).heap.size := (by rw [hbsz]; have := hk7.gg; omega); have hgl7 : gl < w7.heap.size := (by have := hk7.gg; omega))
          | (refine step_append_lies _ (by rfl) _ _ _ (by rfl) (gl + 1) 144 i0 _ 2 16 Tryd.underlying85 hi0 hz0 hsz0 hby0 rfl (by decide) _ lst.length (lst.flatMap soldC) (by rfl) (World.ownsRow.alloc hown7 _) ⟨w7.heap.size, 0, none⟩ 1 1 (soldC ⟨x, n7⟩) (by rfl) (by rfl) (World.news_of_block (cs := (soldC ⟨x, n7⟩).toArray) (t := 144) (fr := (0, 0)) (heap_alloc_new w7 _)) (soldC_one _) (by decide) hm1 hm2 hbase (w7.heap.size + 1) hbsz ?_
             intro gg cap w4 hown1 hgrow hat hlt4
             obtain ⟨hf, hk⟩ := HAP7.out w4 hgrow))
        all_goals (
          have hk8 := HST7.out w4 _ hown1 hgrow
          have HSTk := HST.out
          go_wp2
          go_roundg (n - (i + 1))
          case measure => omega
          case rel => exact ⟨i + 1, lst ++ [⟨x, n7⟩], k7, b7, by omega, rfl, by go_num, hk8, by rw [List.length_append, HLL.out]; rfl, sold_step (by rw [show n - i = (n - (i + 1)) + 1 by omega] at HSTk; exact HSTk) (fun h => ⟨rfl, (HF5.out h).2⟩) (fun h => by rcases HT5.out h with h1 | h1; cases h1; exact .inr h1) hf7 ht7⟩)
      | false =>
        have hs0 : Stg (pLeg (toL s)) bad (pLegH lst ((toL s).drop kk)) := by
          refine ⟨fun hb => ?_, HST.out.2⟩
          have h1 := HST.out.1 hb
          rw [hb] at hd
          have hie : i = n := by simp at hd; omega
          rw [hie, Nat.sub_self] at h1
          exact h1
        have HS0 := Lib.hid hs0
        have HR2 := Lib.hid HQL.out.second
        clear hs0 HST HQL5 HS5 hd d0 d1 d2 e1 e2
        go_upto_region 12 with (first
          | (go_at_call 58; (with_reducible refine (HN600.out _ _ _ HR2.out.cs).mono ?_); rintro e w9 ⟨m, k9, b9, rfl, hm, hc9, hf9, ht9, hg9⟩))
        have HK9 := Lib.hid (HR2.out.reader hc9 hg9)
        have HS9 : RowKit.Hid (Stg (pLeg (toL s)) b9 (pRun pHeld (fun h _ => some (lst, h)) m [] ((toL s).drop k9))) := Lib.hid (HS0.out.step (K := fun m r2 => pRun pHeld (fun h _ => some (lst, h)) m [] r2) hf9 ht9)
        clear hc9 hg9 hf9 ht9 HR2 HS0 HQL
        generalize wr.heap.size = B at *
        go_loopg [9] m (fun g0 s9 wx => ∃ (j : Nat) (hl : List HeldT) (kk : Nat) (bad : Bool), j ≤ m ∧ g0 = m - j ∧ s9 = .int .i64 (j : Int) ∧ QL true w wx (w.heap.size + 1) gl B s kk bad lst hl ∧ hl.length = j ∧ (∀ x ∈ hl, x.loc.size ≤ 6) ∧ Stg (pLeg (toL s)) bad (pRun pHeld (fun h _ => some (lst, h)) (m - j) hl ((toL s).drop kk)))
        case atStart => exact ⟨0, [], k9, b9, Nat.zero_le _, rfl, rfl, HK9.out, rfl, (fun x hx => by cases hx), HS9.out⟩
        case round =>
          obtain ⟨j, hl, kk, bad, hjm, rfl, rfl, hk, hll, hls, hst⟩ := hrel
          have HK := Lib.hid hk
          have HLL2 := Lib.hid hll
          have HLS := Lib.hid hls
          have HST := Lib.hid hst
          obtain ⟨d0, d1, d2, e1, e2⟩ := hk.cs.cells
          clear hk hll hls hst HK9 HS9
          go_upto_region 12 with fail
          go_cut [61] from 52 to 88 (fun s61 wx => s61 = .bool (decide (j < m) && !bad) ∧ wr = wx)
          case first =>
            by_cases h1 : j < m
            · have h1i : (j : Int) < (m : Int) := by omega
              have HD := Lib.hid (decide_eq_true h1)
              clear h1
              cases bad
              · go_wp2
                go_meet
                exact ⟨by rw [HD.out]; rfl, rfl⟩
              · go_wp2
                go_meet
                exact ⟨by rw [HD.out]; rfl, rfl⟩
            · have h1i : ¬ (j : Int) < (m : Int) := by omega
              have HD := Lib.hid (decide_eq_false h1)
              clear h1
              go_wp2
              go_meet
              exact ⟨by rw [HD.out]; rfl, rfl⟩
          case rest =>
            obtain ⟨rfl, rfl⟩ := hcut
            cases hd : (decide (j < m) && !bad) with
            | true =>
              rw [Bool.and_eq_true] at hd
              have hlt : j < m := of_decide_eq_true hd.1
              have hb2 : bad = false := by simpa using hd.2
              subst hb2
              clear hd d0 d1 d2 e1 e2
              go_upto_region 15 with (first
                | (go_at_call 83; (with_reducible refine (HWI.out _ _ _ HK.out.cs).mono ?_); rintro e w5 ⟨x, k5, b5, rfl, hx, hc5, hf5, ht5, hg5⟩; have HF5 := Lib.hid hf5; have HT5 := Lib.hid ht5; clear hf5 ht5))
              have hk5 := HK.out.reader hc5 hg5
              have HK5 := Lib.hid hk5
              have hx0 : (0 : Int) ≤ (x : Int) := by omega
              have hx1 : (x : Int) ≤ 65535 := by omega
              have hgx : gl < w5.heap.size ∧ w.heap.size + 1 < w5.heap.size ∧ B ≤ w5.heap.size := by have := hk5.gg; omega
              have HGX := Lib.hid hgx
              have HC5 := Lib.hid hc5
              clear hk5 hc5 hg5 hgx
              go_upto_region 17 with fail
              have hrw : (x : Int) / 32 % 128 = ((x / 32 % 128 : Nat) : Int) := by omega
              have hpx : (x : Int) / 4096 = ((x / 4096 : Nat) : Int) := by omega
              have hcc : 65 + (x : Int) % 32 = ((UInt8.ofNat (65 + x % 32)).toNat : Int) := let_of.symm
              rw [hcc]
              generalize hrwe : (x : Int) / 32 % 128 = rw at *
              generalize hpxe : (x : Int) / 4096 = px at *
              generalize hce : UInt8.ofNat (65 + x % 32) = c at *
              have HX := Lib.hid (And.intro hrw (And.intro hpx hce))
              clear hrw hpx hcc hrwe hpxe hce hx0 hx1
              have hbx : Blk (w5.alloc (.cells #[.int .i64 rw, .int .u8 c.toNat, .string ⟨#[]⟩, .int .i64 px] 148)) w5.heap.size 148 [.int .i64 rw, .int .u8 c.toNat, .string ⟨#[]⟩, .int .i64 px] := Blk.new w5 148 [.int .i64 rw, .int .u8 c.toNat, .string ⟨#[]⟩, .int .i64 px]
              have hgr : w5.grownBy (w5.alloc (.cells #[.int .i64 rw, .int .u8 c.toNat, .string ⟨#[]⟩, .int .i64 px] 148)) (some (w.heap.size + 1)) := gr_of_below ((Below.refl _ _).alloc (Nat.le_refl _) _) _
              have hcb : CS (w5.alloc (.cells #[.int .i64 rw, .int .u8 c.toNat, .string ⟨#[]⟩, .int .i64 px] 148)) (w.heap.size + 1) s k5 b5 := HC5.out.mono ((Below.refl _ _).alloc (Nat.le_refl _) _)
              have HBX := Lib.hid hbx
              have HGR := Lib.hid hgr
              have HCB := Lib.hid hcb
              clear hbx hgr hcb HC5
              generalize w5.alloc (.cells #[.int .i64 rw, .int .u8 c.toNat, .string ⟨#[]⟩, .int .i64 px] 148) = wb at *
              have hgne : w5.heap.size ≠ w.heap.size + 1 := by have := HGX.out; omega
              have hgnl : w5.heap.size ≠ gl := by have := HGX.out; omega
              have hgxx : w5.heap.size ≤ w5.heap.size := Nat.le_refl _
              have HGXX := Lib.hid hgxx
              clear hgxx
              generalize hgxe : w5.heap.size = gx at HBX HGXX HGX hgne hgnl ⊢
              go_upto_region 18 with (first
                | (go_at_call 59; (with_reducible refine (HLO.out _ _ _ HCB.out).mono ?_); rintro e w8 ⟨s8, k8, b8, rfl, hs8, hc8, hf8, ht8, hg8⟩; have hbx8 : Blk w8 gx 148 [.int .i64 rw, .int .u8 c.toNat, .string ⟨#[]⟩, .int .i64 px] := (Blk.far HBX.out hg8 (fun e => hgne (by injection e))); have hfz8 := hbx8.frozen 2; have hce8 : w8.cell? ⟨gx, 2, none⟩ = some (.string ⟨#[]⟩) := (hbx8.cell 2).trans rfl))
              have hstn := held_step (k := m - (j + 1)) (by have := HST.out; rw [show m - j = (m - (j + 1)) + 1 by omega] at this; exact this) (fun h => ⟨rfl, (HF5.out h).2⟩) (fun h => by rcases HT5.out h with h1 | h1; cases h1; exact .inr h1) hf8 ht8
              rw [← HX.out.1, ← HX.out.2.1, HX.out.2.2] at hstn
              have HSTn := Lib.hid hstn
              have hg59 := gr_new (gr_same HGR.out hg8) (gr_setCell1 (b := gx) (World.grownBy.refl w8 _) 2 (.string s8)) (by omega)
              have hc9 := hc8.far (gr_setCell1 (b := gx) (World.grownBy.refl w8 _) 2 (.string s8)) (fun e => hgne (by injection e with e))
              have hk9 := HK5.out.reader hc9 hg59
              have hbx9 := hbx8.set 2 (.string s8)
              have HS8 := Lib.hid hs8
              clear hstn hs8 hc8 hf8 ht8 hg8 hbx8 hfz8 hce8 hg59 hc9 HF5 HT5 HX HBX HGR HCB HK5 HK HST
              generalize w8.setCell ⟨gx, 2, none⟩ (.string s8) = w9 at *
              obtain ⟨pv, nv, cv, qv, mv, dv, c0, c1, _, _, _, _⟩ := hk9.cells
              obtain ⟨hown, hAP, hNX⟩ := hk9.held c1 ⟨rw, c, s8, px⟩
              obtain ⟨i0, hi0, hz0, hsz0, hby0⟩ := held_info
              have HAP := Lib.hid hAP
              have HNX := Lib.hid hNX
              have hm1 : hl.length + 1 ≤ maxLen := by rw [HLL2.out]; unfold maxLen; omega
              have hm2 : (hl.length + 1) * 40 ≤ 140737488355328 := by rw [HLL2.out]; omega
              have hB9 : B ≤ w9.heap.size := hk9.gg.2.2.2
              clear hAP hNX c0
              go_wp2_with (first
                | (refine wpList_load_mid rfl 148 (.tmp 11) rfl gx 0 rfl [.int .i64 rw, .int .u8 c.toNat, .string s8, .int .i64 px] _ hbx9.range Tryd.underlying148 rfl info_held ?_)
                | (at_builtin; refine wpList_pushC rfl _ _ 86 rfl B 148 i0 _ 4 40 Tryd.underlying86 hi0 hz0 hsz0 hby0 rfl (by decide) _ hl.length _ rfl hown (heldC ⟨rw, c, s8, px⟩) rfl rfl (heldC_one _) hm1 hm2 hB9 ?_; intro v4 w4 ho4 hb4 hg4; obtain ⟨hf, hkc⟩ := HAP.out w4 hg4; obtain ⟨g4, cp4, e4, _, _⟩ := World.ownsRow.form ho4 (Nat.succ_pos _); subst e4))
              have hk10 := HNX.out w4 _ ho4 hg4
              go_roundg (m - (j + 1))
              case measure => omega
              case rel => exact ⟨j + 1, hl ++ [⟨rw, c, s8, px⟩], k8, b8, by omega, rfl, by go_num, hk10, by rw [List.length_append, HLL2.out]; rfl, (fun t ht => by
                rcases List.mem_append.1 ht with h1 | h1
                · exact HLS.out t h1
                · rw [List.mem_singleton.1 h1]; exact HS8.out), HSTn.out⟩
            | false =>
              have hs0 : Stg (pLeg (toL s)) bad (some (lst, hl)) := by
                refine ⟨fun hb => ?_, HST.out.2⟩
                have h1 := HST.out.1 hb
                rw [hb] at hd
                have hje : j = m := by simp at hd; omega
                rw [hje, Nat.sub_self] at h1
                exact h1
              have HS0 := Lib.hid hs0
              obtain ⟨pv, nv, cv, qv, mv, dv, c0, c1, hbk, hs, hh, hke⟩ := HK.out.cells
              have hzz : ∀ x ∈ hl, x.loc.size ≤ maxLen := fun x hx => by have := HLS.out x hx; unfold maxLen; omega
              have HZZ := Lib.hid hzz
              have HOF := Lib.hid (refOfLeg_any lst hl (.slice pv nv cv) (.slice qv mv dv) wr hs hh hzz)
              have HBK := Lib.hid hbk
              have HBR := Lib.hid HK.out.bel
              have HKE := Lib.hid hke
              have HRE := Lib.hid HK.out.res
              have HC := Lib.hid HK.out.cs
              clear hs0 hs hh hzz hbk hke HST hd d0 d1 d2 e1 e2
              cases bad with
              | true =>
                have HNO := Lib.hid (readLg_none (HS0.out.2 (by first | rfl | trivial)))
                go_wp2_with (first
                  | (refine wpList_load_mid rfl 88 (.tmp 5) rfl gl 0 rfl [.slice pv nv cv, .slice qv mv dv] _ HBK.out.range Tryd.underlying88 rfl info_rleg ?_)
                  | (go_at_call 35; (with_reducible refine HOF.out.mono ?_); rintro e w7 ⟨hst, hb7⟩; obtain ⟨t7, b7, rfl, h7⟩ := stP_form hst; obtain ⟨d0, d1, d2, e1, e2⟩ := (HC.out.mono hb7).cells)
                  | (refine wpList_store_blk rfl 88 (.tmp 2) (.tmp 107) rfl w.heap.size 88 [.slice none 0 0, .slice none 0 0] [.slice none 0 0, .slice none 0 0] rfl rfl (HRE.out.mono hb7) rfl info_rleg two_one ?_; intro w8 hb8 hl8 _))
                exact rlg_back rfl rfl rfl rfl hb8 ((below_low HBR.out HBR.out.size hb7).trans hl8) (.inr ⟨HNO.out, rfl, rfl, rfl⟩)
              | false =>
                have HPB := Lib.hid (HS0.out.1 (by first | rfl | trivial))
                go_upto_region 20 with (first
                  | (refine wpList_load_mid rfl 88 (.tmp 5) rfl gl 0 rfl [.slice pv nv cv, .slice qv mv dv] _ HBK.out.range Tryd.underlying88 rfl info_rleg ?_)
                  | (go_at_call 35; (with_reducible refine HOF.out.mono ?_); rintro e w7 ⟨hst, hb7⟩; obtain ⟨t7, b7, rfl, h7⟩ := stP_form hst; obtain ⟨d0, d1, d2, e1, e2⟩ := (HC.out.mono hb7).cells))
                rcases h7 with ⟨bs, h1, rfl, rfl⟩ | ⟨h1, rfl, rfl⟩
                · by_cases hbb : bs = toL s
                  · have HY := Lib.hid (readLg_some HPB.out (by rw [h1, hbb]))
                    have hss : strA bs = s := by rw [hbb, strA_of]
                    have hks : (s.toList == s.toList) = true := by simp
                    have HKE7 : RowKit.Hid (∀ W', w7.grownBy W' (some w.heap.size) → HasE soldC W' (.slice pv nv cv) lst ∧ HasE heldC W' (.slice qv mv dv) hl) := Lib.hid fun W' hg => HKE.out W' (gr_same (gr_of_below hb7 _) hg)
                    rw [hss]
                    clear h1 hbb hss hst
                    go_wp2_with (first
                      | (refine wpList_load_mid rfl 88 (.tmp 5) rfl gl 0 rfl [.slice pv nv cv, .slice qv mv dv] _ (HBK.out.mono hb7).range Tryd.underlying88 rfl info_rleg ?_)
                      | (refine wpList_store_blk rfl 88 (.tmp 2) (.tmp 108) rfl w.heap.size 88 [.slice none 0 0, .slice none 0 0] [.slice pv nv cv, .slice qv mv dv] rfl rfl (HRE.out.mono hb7) rfl info_rleg two_one ?_; intro w8 hb8 hl8 hg8))
                    exact rlg_back rfl rfl rfl rfl hb8 ((below_low HBR.out HBR.out.size hb7).trans hl8) (.inl ⟨lst, hl, HY.out, (HKE7.out _ hg8).1, (HKE7.out _ hg8).2, HZZ.out, rfl⟩)
                  · have HY := Lib.hid (readLg_other HPB.out (by rw [h1]; exact fun e => hbb (by injection e with e)))
                    have hks : ((strA bs).toList == s.toList) = false := by rw [beq_eq_false_iff_ne]; exact fun h => hbb (by rw [← toList_inj h, strA_toL])
                    generalize strA bs = S9 at *
                    clear h1 hbb hst
                    go_wp2_with (first
                      | (refine wpList_store_blk rfl 88 (.tmp 2) (.tmp 107) rfl w.heap.size 88 [.slice none 0 0, .slice none 0 0] [.slice none 0 0, .slice none 0 0] rfl rfl (HRE.out.mono hb7) rfl info_rleg two_one ?_; intro w8 hb8 hl8 _))
                    exact rlg_back rfl rfl rfl rfl hb8 ((below_low HBR.out HBR.out.size hb7).trans hl8) (.inr ⟨HY.out, rfl, rfl, rfl⟩)
                · have HY := Lib.hid (readLg_other HPB.out (by rw [h1]; exact fun e => by cases e))
                  clear h1 hst
                  go_wp2_with (first
                    | (refine wpList_store_blk rfl 88 (.tmp 2) (.tmp 107) rfl w.heap.size 88 [.slice none 0 0, .slice none 0 0] [.slice none 0 0, .slice none 0 0] rfl rfl (HRE.out.mono hb7) rfl info_rleg two_one ?_; intro w8 hb8 hl8 _))
                  exact rlg_back rfl rfl rfl rfl hb8 ((below_low HBR.out HBR.out.size hb7).trans hl8) (.inr ⟨HY.out, rfl, rfl, rfl⟩)
end Go.Proofs.YtjahkaidinahpaaDoor
