/- codec.ReadLeg. -/
import Derived.Test.YtjahkaidinahpaaDoorFN
namespace Go.Proofs.YtjahkaidinahpaaDoor
open Go.RowKit Go.ChangeMaps
set_option linter.unusedSimpArgs false
set_option linter.unusedVariables false
set_option maxRecDepth 20000

/-- A leg, or ErrForm. -/
def lgP (o : Option (List SoldT × List HeldT)) (e : Ending) (w : World) : Prop :=
  (∃ s h vs vh, o = some (s, h) ∧ e = .returned (.tuple #[.agg #[vs, vh], .int .i64 0]) ∧ HasE soldC w vs s ∧ HasE heldC w vh h ∧ ∀ x ∈ h, x.loc.size ≤ maxLen) ∨ (o = none ∧ e = .returned (.tuple #[.agg #[.slice none 0 0, .slice none 0 0], .int .i64 4]))

theorem lg_back {fn : Func} {p q : Tmp} (hf : fn.results = #[.cell p 90, .tmp q]) {a : Act} {w w0 : World} {g : Nat} {x y : Value} {z : Int} {o : Option (List SoldT × List HeldT)}
    (hp : a.tmps.getD p undef = .pointer (some ⟨g, 0, none⟩)) (hq : a.tmps.getD q undef = .int .i64 z) (hd : a.defers = []) (hg : Blk w g 90 [x, y]) (hw : Below w0.heap.size w0 w)
    (h : (∃ s h, o = some (s, h) ∧ HasE soldC w x s ∧ HasE heldC w y h ∧ (∀ t ∈ h, t.loc.size ≤ maxLen) ∧ z = 0) ∨ (o = none ∧ x = .slice none 0 0 ∧ y = .slice none 0 0 ∧ z = 4)) :
    bodyPost Tryd.prog fn (fun e w' => lgP o e w' ∧ Below w0.heap.size w0 w') .ret a w := by
  refine bodyPost_ret (results_row_tmp hf a.tmps w g 90 [x, y] _ hp hg Tryd.underlying90 rfl info_leg) hd ?_
  rw [hq]
  rcases h with ⟨s, h, h1, h2, h3, h4, rfl⟩ | ⟨h1, rfl, rfl, rfl⟩
  · exact ⟨.inl ⟨s, h, _, _, h1, rfl, h2, h3, h4⟩, hw⟩
  · exact ⟨.inr ⟨h1, rfl⟩, hw⟩

set_option maxHeartbeats 16000000 in
theorem readLeg_any (v : Value) (b : List UInt8) (w : World) (hv : HasE byteC w v b) (hl : b.length ≤ 20000) :
    Calls Tryd.prog 36 #[v] w fun e w' => lgP (readLg b) e w' ∧ Below w.heap.size w w' := by
  obtain ⟨p, c, rfl⟩ := hv.len
  have HV := Lib.hid hv
  have hz1 : (w.alloc (.cells #[.slice none 0 0, .slice none 0 0] 90)).heap.size = w.heap.size + 1 := by simp
  have hrs : RS w ((w.alloc (.cells #[.slice none 0 0, .slice none 0 0] 90)).alloc (.cells #[.slice p b.length c, .bool false] 118)) (w.heap.size + 1) b false :=
    ⟨Nat.le_succ _, ⟨_, by have h := Blk.new (w.alloc (.cells #[.slice none 0 0, .slice none 0 0] 90)) 118 [.slice p b.length c, .bool false]; rw [hz1] at h; exact h, hv⟩, ((Below.refl _ _).alloc (Nat.le_refl _) _).alloc (by simp) _⟩
  have hres : Blk ((w.alloc (.cells #[.slice none 0 0, .slice none 0 0] 90)).alloc (.cells #[.slice p b.length c, .bool false] 118)) w.heap.size 90 [.slice none 0 0, .slice none 0 0] := (Blk.new w 90 [.slice none 0 0, .slice none 0 0]).alloc _
  have HBEG : RowKit.Hid (∀ W, RS w W (w.heap.size + 1) b false → Calls Tryd.prog 53 #[.pointer (some ⟨w.heap.size + 1, 0, none⟩), .int .u8 76] W fun e w' => e = .returned (.tuple #[]) ∧ (∃ r bad, RS w w' (w.heap.size + 1) r bad ∧ r.length ≤ 1000000 ∧ (bad = false → b = 76 :: r) ∧ (bad = true → ∀ r, b ≠ 76 :: r)) ∧ W.grownBy w' (some (w.heap.size + 1))) := Lib.hid fun W h => begin_any (w.heap.size + 1) 76 b w W h (by omega) (by decide)
  have HRS := Lib.hid hrs
  have HRES := Lib.hid hres
  have HNUM : RowKit.Hid (∀ (most : Nat) W l bad, most ≤ 4000000000 → RS w W (w.heap.size + 1) l bad → l.length ≤ 1000000 → Calls Tryd.prog 54 #[.pointer (some ⟨w.heap.size + 1, 0, none⟩), .int .i64 most] W fun e w' => ∃ (n : Nat) (r : List UInt8) (b2 : Bool), e = .returned (.int .i64 n) ∧ n ≤ most ∧ RS w w' (w.heap.size + 1) r b2 ∧ r.length ≤ 1000000 ∧ (b2 = false → bad = false ∧ pNum most l = some (n, r)) ∧ (b2 = true → bad = true ∨ pNum most l = none) ∧ W.grownBy w' (some (w.heap.size + 1))) := Lib.hid fun most W l bad h2 h h1 => rnum_any (w.heap.size + 1) l bad most w W h h1 h2
  have HN6 : RowKit.Hid (∀ W l bad, RS w W (w.heap.size + 1) l bad → l.length ≤ 1000000 → Calls Tryd.prog 54 #[.pointer (some ⟨w.heap.size + 1, 0, none⟩), .int .i64 6] W fun e w' => ∃ (n : Nat) (r : List UInt8) (b2 : Bool), e = .returned (.int .i64 n) ∧ n ≤ 6 ∧ RS w w' (w.heap.size + 1) r b2 ∧ r.length ≤ 1000000 ∧ (b2 = false → bad = false ∧ pNum 6 l = some (n, r)) ∧ (b2 = true → bad = true ∨ pNum 6 l = none) ∧ W.grownBy w' (some (w.heap.size + 1))) := Lib.hid fun W l bad h h1 => HNUM.out 6 W l bad (by omega) h h1
  have HN400 : RowKit.Hid (∀ W l bad, RS w W (w.heap.size + 1) l bad → l.length ≤ 1000000 → Calls Tryd.prog 54 #[.pointer (some ⟨w.heap.size + 1, 0, none⟩), .int .i64 400] W fun e w' => ∃ (n : Nat) (r : List UInt8) (b2 : Bool), e = .returned (.int .i64 n) ∧ n ≤ 400 ∧ RS w w' (w.heap.size + 1) r b2 ∧ r.length ≤ 1000000 ∧ (b2 = false → bad = false ∧ pNum 400 l = some (n, r)) ∧ (b2 = true → bad = true ∨ pNum 400 l = none) ∧ W.grownBy w' (some (w.heap.size + 1))) := Lib.hid fun W l bad h h1 => HNUM.out 400 W l bad (by omega) h h1
  have HN600 : RowKit.Hid (∀ W l bad, RS w W (w.heap.size + 1) l bad → l.length ≤ 1000000 → Calls Tryd.prog 54 #[.pointer (some ⟨w.heap.size + 1, 0, none⟩), .int .i64 600] W fun e w' => ∃ (n : Nat) (r : List UInt8) (b2 : Bool), e = .returned (.int .i64 n) ∧ n ≤ 600 ∧ RS w w' (w.heap.size + 1) r b2 ∧ r.length ≤ 1000000 ∧ (b2 = false → bad = false ∧ pNum 600 l = some (n, r)) ∧ (b2 = true → bad = true ∨ pNum 600 l = none) ∧ W.grownBy w' (some (w.heap.size + 1))) := Lib.hid fun W l bad h h1 => HNUM.out 600 W l bad (by omega) h h1
  have HONE : RowKit.Hid (∀ W l bad, RS w W (w.heap.size + 1) l bad → l.length ≤ 1000000 → Calls Tryd.prog 80 #[.pointer (some ⟨w.heap.size + 1, 0, none⟩), .int .i64 1] W fun e w' => ∃ (x : UInt8) (r : List UInt8) (b2 : Bool) (b off c : Nat), e = .returned (.slice (some ⟨b, off, none⟩) 1 c) ∧ w'.cell? ⟨b, off, none⟩ = some (.int .u8 x.toNat) ∧ RS w w' (w.heap.size + 1) r b2 ∧ r.length ≤ 1000000 ∧ (b2 = false → bad = false ∧ pFix 1 l = some (x.toNat, r)) ∧ (b2 = true → bad = true ∨ pFix 1 l = none) ∧ W.grownBy w' (some (w.heap.size + 1))) := Lib.hid fun W l bad h h1 => rone_any (w.heap.size + 1) l bad w W h h1
  have HFX : RowKit.Hid (∀ W l bad, RS w W (w.heap.size + 1) l bad → l.length ≤ 1000000 → Calls Tryd.prog 82 #[.pointer (some ⟨w.heap.size + 1, 0, none⟩), .int .i64 2] W fun e w' => ∃ (n : Nat) (r : List UInt8) (b2 : Bool), e = .returned (.int .i64 n) ∧ n < 256 ^ 2 ∧ RS w w' (w.heap.size + 1) r b2 ∧ r.length ≤ 1000000 ∧ (b2 = false → bad = false ∧ pFix 2 l = some (n, r)) ∧ (b2 = true → bad = true ∨ pFix 2 l = none) ∧ W.grownBy w' (some (w.heap.size + 1))) := Lib.hid fun W l bad h h1 => rfix_any (w.heap.size + 1) l bad 2 w W h (by omega) (by omega) h1
  have HLC : RowKit.Hid (∀ W l bad, RS w W (w.heap.size + 1) l bad → l.length ≤ 1000000 → Calls Tryd.prog 55 #[.pointer (some ⟨w.heap.size + 1, 0, none⟩)] W fun e w' => ∃ (s : ByteArray) (r : List UInt8) (b2 : Bool), e = .returned (.string s) ∧ s.size ≤ 6 ∧ RS w w' (w.heap.size + 1) r b2 ∧ r.length ≤ 1000000 ∧ (b2 = false → bad = false ∧ pLoc l = some (toL s, r)) ∧ (b2 = true → bad = true ∨ pLoc l = none) ∧ W.grownBy w' (some (w.heap.size + 1))) := Lib.hid fun W l bad h h1 => rloc_any (w.heap.size + 1) l bad w W h h1
  have HUN : RowKit.Hid (∀ (n : Nat) W, n < 65536 → Calls Tryd.prog 81 #[.int .i64 n] W fun e w' => ∃ (px rw : Int) (c : UInt8), e = .returned (.tuple #[.int .i64 px, .agg #[.int .i64 rw, .int .u8 c.toNat]]) ∧ (px = ((n / 4096 : Nat) : Int) ∧ rw = ((n / 32 % 128 : Nat) : Int) ∧ c = UInt8.ofNat (65 + n % 32)) ∧ Below W.heap.size W w') := Lib.hid fun n W h => (unpacked_any n W h).mono fun e w' h => ⟨_, _, _, h.1, ⟨rfl, rfl, rfl⟩, h.2⟩
  generalize hN : b.length = N at *
  have hgg : w.heap.size < w.heap.size + 1 := Nat.lt_succ_self _
  clear hv hrs hl hN hz1 hres HNUM
  go_enter Tryd.func36, Tryd.ntmps36
  go_upto_region 3 with (first
    | (go_at_call 53; (with_reducible refine (HBEG.out _ HRS.out).mono ?_); rintro e w2 ⟨rfl, ⟨r, bad, hr2, hrl, hg1, hg2⟩, hgr2⟩))
  have hz2 : w.heap.size + 2 ≤ w2.heap.size := by have := hgr2.size; simp at this; omega
  have hst : Stg (pLeg b) bad (pLegS r) := Stg.start (α := Unit) (c := 76) (l := b) (K := fun (_ : Unit) r => pLegS r) rfl hg1 hg2
  have hrl0 : RL false w (w2.alloc (.cells #[.slice none 0 0, .slice none 0 0] 90)) (w.heap.size + 1) w2.heap.size (w2.heap.size + 1) r bad [] [] := by
    refine ⟨hr2.mono ((Below.refl _ _).alloc (Nat.le_refl _) _), ⟨_, _, Blk.new w2 90 [.slice none 0 0, .slice none 0 0], World.ownsRow_nil _ _ _ _, World.ownsRow_nil _ _ _ _, (fun _ => ⟨rfl, rfl⟩), (fun h => by cases h)⟩, (HRES.out.far hgr2 (fun e => by injection e with e; omega)).alloc _, by omega, by omega, by omega, by simp⟩
  have HRL0 := Lib.hid hrl0
  have HST := Lib.hid hst
  clear hr2 hg1 hg2 hgr2 HBEG HRS HRES hrl0 hst
  go_upto_region 4 with fail
  generalize hgl : w2.heap.size = gl at *
  generalize w2.alloc (.cells #[.slice none 0 0, .slice none 0 0] 90) = w3 at *
  go_wp2_with (first
    | (go_at_call 54; (with_reducible refine (HN6.out _ _ _ HRL0.out.rs hrl).mono ?_); rintro e w4 ⟨n, r0, bad3, rfl, hn, hr3, hrl3, hg3, hb3, hgr3⟩))
  have HRL4 := Lib.hid (HRL0.out.reader hr3 hgr3)
  have HS4 : RowKit.Hid (Stg (pLeg b) bad3 (pRun pSold pLegH n [] r0)) := Lib.hid (HST.out.step (K := fun n r2 => pRun pSold pLegH n [] r2) hg3 hb3)
  clear hr3 hgr3 hg3 hb3 HST HRL0 hrl
  go_loopg [16] n (fun g0 s16 wr => ∃ (i : Nat) (lst : List SoldT) (r : List UInt8) (bad : Bool), i ≤ n ∧ g0 = n - i ∧ s16 = .int .i64 (i : Int) ∧ RL false w wr (w.heap.size + 1) gl (gl + 1) r bad lst [] ∧ lst.length = i ∧ r.length ≤ 1000000 ∧ Stg (pLeg b) bad (pRun pSold pLegH (n - i) lst r))
  case atStart => exact ⟨0, [], r0, bad3, Nat.zero_le _, rfl, rfl, HRL4.out, rfl, hrl3, HS4.out⟩
  case round =>
    obtain ⟨i, lst, r, bad, hin, rfl, rfl, hrl, hll, hrr, hst⟩ := hrel
    have HRL := Lib.hid hrl
    have HLL := Lib.hid hll
    have HST := Lib.hid hst
    have HRR := Lib.hid hrr
    clear hrl hll hst hrr
    by_cases hlt : i < n
    · have hii : (i : Int) < (n : Int) := by omega
      obtain ⟨pv, nv, cv, qv, mv, dv, c0, _, HBK, _, _, _⟩ := HRL.out.cells
      obtain ⟨i0, hi0, hz0, hsz0, hby0⟩ := sold_info
      have HBL := Lib.hid HBK
      have hgl2 : gl ≠ w.heap.size + 1 := by have := HRL.out.gg; omega
      have hglt : gl < wr.heap.size := by have := HRL.out.gg; omega
      have hm1 : lst.length + 1 ≤ maxLen := by rw [HLL.out]; unfold maxLen; omega
      have hm2 : (lst.length + 1) * 16 ≤ 140737488355328 := by rw [HLL.out]; omega
      clear HBK
      go_upto_region 6 with fail
      go_region_law (first
        | (go_simp; go_at_call 80; refine (HONE.out _ _ _ (HRL.out.rs.mono (Below.refl _ _).drew) HRR.out).mono ?_; rintro e w5 ⟨x, r5, b5, bb, off, cc, rfl, hx, hr5, hrl5, hf5, ht5, hg5⟩; have hk5 := (HRL.out.mono (Below.refl _ _).drew).reader hr5 hg5; have hne := hr5.byte_ne hx; have d5 := gr_cell hg5 (cell_bel (Below.refl _ _).drew c0) hgl2)
        | (go_simp; go_at_call 54; refine (HN400.out _ _ _ hr5 hrl5).mono ?_; rintro e w7 ⟨n7, r7, b7, rfl, hn7, hr7, hrl7, hf7, ht7, hg7⟩; have hk7 := hk5.reader hr7 hg7; have x7 := gr_cell hg7 hx hne; have d7 := gr_cell hg7 d5 hgl2; obtain ⟨hown7, hAP7, hST7⟩ := hk7.sold d7 ⟨x, n7⟩; have HAP7 := Lib.hid hAP7; have HST7 := Lib.hid hST7; have hbsz : (w7.alloc (.cells (soldC ⟨x, n7⟩).toArray 144)).heap.size = w7.heap.size + 1 := (by simp); have hbase : gl + 1 ≤ (w7.alloc (.cells (soldC ⟨x, n7⟩).toArray 144)).heap.size := (by rw [hbsz]; have := hk7.gg; omega); have hgl7 : gl < w7.heap.size := (by have := hk7.gg; omega))
        | (refine step_append_lies _ (by rfl) _ _ _ (by rfl) (gl + 1) 144 i0 _ 2 16 Tryd.underlying85 hi0 hz0 hsz0 hby0 rfl (by decide) _ lst.length (lst.flatMap soldC) (by rfl) (World.ownsRow.alloc hown7 _) ⟨w7.heap.size, 0, none⟩ 1 1 (soldC ⟨x, n7⟩) (by rfl) (by rfl) (World.news_of_block (cs := (soldC ⟨x, n7⟩).toArray) (t := 144) (fr := (0, 0)) (heap_alloc_new w7 _)) (soldC_one _) (by decide) hm1 hm2 hbase (w7.heap.size + 1) hbsz ?_
           intro gg cap w4 hown1 hgrow hat hlt
           obtain ⟨hf, hk⟩ := HAP7.out w4 hgrow))
      all_goals (
        have hk8 := HST7.out w4 _ hown1 hgrow
        have hlt8 := hk8.gg
        have HSTk := HST.out
        go_wp2
        go_roundg (n - (i + 1))
        case measure => omega
        case rel => exact ⟨i + 1, lst ++ [⟨x, n7⟩], r7, b7, by omega, rfl, by go_num, hk8, by rw [List.length_append, HLL.out]; rfl, hrl7, sold_step (by rw [show n - i = (n - (i + 1)) + 1 by omega] at HSTk; exact HSTk) hf5 ht5 hf7 ht7⟩)
    · have hie : i = n := by omega
      subst hie
      have hii : ¬ (i : Int) < (i : Int) := by omega
      have hs0 : Stg (pLeg b) bad (pLegH lst r) := by have := HST.out; rw [Nat.sub_self] at this; exact this
      have HS0 := Lib.hid hs0
      have HR2 := Lib.hid HRL.out.second
      have hBw : wr.heap.size ≤ wr.heap.size := Nat.le_refl _
      clear hs0 HST HRL4 HS4
      go_upto_region 9 with (first
        | (go_at_call 54; (with_reducible refine (HN600.out _ _ _ HRL.out.rs HRR.out).mono ?_); rintro e w9 ⟨m, r9, b9, rfl, hm, hr9, hrl9, hf9, ht9, hg9⟩))
      have HK9 := Lib.hid (HR2.out.reader hr9 hg9)
      have HS9 : RowKit.Hid (Stg (pLeg b) b9 (pRun pHeld (fun h _ => some (lst, h)) m [] r9)) := Lib.hid (HS0.out.step (K := fun m r2 => pRun pHeld (fun h _ => some (lst, h)) m [] r2) hf9 ht9)
      clear hr9 hg9 hf9 ht9 HR2 HS0 HRL HRR hBw
      generalize wr.heap.size = B at *
      go_wp2
      go_loopg [33] m (fun g0 s33 wx => ∃ (j : Nat) (hl : List HeldT) (r : List UInt8) (bad : Bool), j ≤ m ∧ g0 = m - j ∧ s33 = .int .i64 (j : Int) ∧ RL true w wx (w.heap.size + 1) gl B r bad lst hl ∧ hl.length = j ∧ (∀ x ∈ hl, x.loc.size ≤ 6) ∧ r.length ≤ 1000000 ∧ Stg (pLeg b) bad (pRun pHeld (fun h _ => some (lst, h)) (m - j) hl r))
      case atStart => exact ⟨0, [], r9, b9, Nat.zero_le _, rfl, rfl, HK9.out, rfl, (fun x hx => by cases hx), hrl9, HS9.out⟩
      case round =>
        obtain ⟨j, hl, r, bad, hjm, rfl, rfl, hk, hll, hls, hrr, hst⟩ := hrel
        have HK := Lib.hid hk
        have HLL2 := Lib.hid hll
        have HLS := Lib.hid hls
        have HST := Lib.hid hst
        have HRR := Lib.hid hrr
        clear hk hll hls hst hrr HK9 HS9 hrl9
        by_cases hlt : j < m
        · have hjj : (j : Int) < (m : Int) := by omega
          have hgx : w.heap.size + 1 < wr.heap.size ∧ gl < wr.heap.size ∧ w.heap.size < wr.heap.size := by have := HK.out.gg; omega
          have HGX := Lib.hid hgx
          have hal : Below wr.heap.size wr (wr.alloc (.cells #[.int .i64 0, .int .u8 0, .string ⟨#[]⟩, .int .i64 0] 148)) := (Below.refl _ _).alloc (Nat.le_refl _) _
          have HAL := Lib.hid (gr_of_below hal (some (w.heap.size + 1)))
          have HKA := Lib.hid (HK.out.mono hal)
          have HBX := Lib.hid (Blk.new wr 148 [.int .i64 0, .int .u8 0, .string ⟨#[]⟩, .int .i64 0])
          clear hgx hal
          go_upto_region 11 with fail
          generalize hgxe : wr.heap.size = gx at *
          generalize wr.alloc (.cells #[.int .i64 0, .int .u8 0, .string ⟨#[]⟩, .int .i64 0] 148) = wa at *
          have hgne : gx ≠ w.heap.size + 1 := by have := HGX.out; omega
          have hgnl : gx ≠ gl := by have := HGX.out; omega
          have hgw : w.heap.size ≤ gx := by have := HGX.out; omega
          go_upto_region 13 with (first
            | (go_at_call 82; (with_reducible refine (HFX.out _ _ _ HKA.out.rs HRR.out).mono ?_); rintro e w5 ⟨x, r5, b5, rfl, hx, hr5, hrl5, hf5, ht5, hg5⟩; have hbx5 := HBX.out.far hg5 (fun e => hgne (by injection e)))
            | (go_at_call 81; (with_reducible refine (HUN.out x _ (Nat.lt_of_lt_of_le hx (by decide))).mono ?_); rintro e w6 ⟨px, rw, c, rfl, hpr, hb6⟩; have HPR := Lib.hid hpr; clear hpr; have hbx6 := hbx5.mono hb6; have hf6 := hbx6.frozen 3; have hc6 : w6.cell? ⟨gx, 3, none⟩ = some (.int .i64 0) := (hbx6.cell 3).trans rfl; have hrt6 := (hr5.mono hb6).kept (gr_setCell1 (b := gx) (World.grownBy.refl _ _) 3 (.int .i64 px)) (fun e => hgne (by injection e with e; exact e.symm)) (fun k hk => by injection hk with hk; omega))
            | (refine wpList_store_part rfl 39 (.tmp 43) (.tmp 40) rfl gx 0 148 [.int .i64 0, .int .u8 0, .string ⟨#[]⟩, .int .i64 px] [.int .i64 rw, .int .u8 c.toNat] rfl rfl (hbx6.set 3 _) (show (2 : Nat) ≤ 4 by decide) info_seat2 (seat2_one _ _) ?_; intro w7 hbx7 hb7 hg7; have hr7 := hrt6.kept hg7 (fun e => hgne (by injection e with e; exact e.symm)) (fun k hk => by injection hk with hk; omega))
            | (go_at_call 55; (with_reducible refine (HLC.out _ _ _ hr7 hrl5).mono ?_); rintro e w8 ⟨s8, r8, b8, rfl, hs8, hr8, hrl8, hf8, ht8, hg8⟩; have hbx8 : Blk w8 gx 148 [.int .i64 rw, .int .u8 c.toNat, .string ⟨#[]⟩, .int .i64 px] := (Blk.far hbx7 hg8 (fun e => hgne (by injection e))); have hfz8 := hbx8.frozen 2; have hc8 : w8.cell? ⟨gx, 2, none⟩ = some (.string ⟨#[]⟩) := (hbx8.cell 2).trans rfl))
          have hstn := held_step (k := m - (j + 1)) (by have := HST.out; rw [show m - j = (m - (j + 1)) + 1 by omega] at this; exact this) hf5 ht5 hf8 ht8
          rw [← HPR.out.1, ← HPR.out.2.1, ← HPR.out.2.2] at hstn
          have HSTn := Lib.hid hstn
          have hg58 : wr.grownBy w8 (some (w.heap.size + 1)) := gr_same (gr_new (gr_new (gr_same (gr_same HAL.out hg5) (gr_of_below hb6 _)) (gr_setCell1 (b := gx) (World.grownBy.refl _ _) 3 (.int .i64 px)) (by omega)) hg7 (by omega)) hg8
          have hg59 := gr_new hg58 (gr_setCell1 (b := gx) (World.grownBy.refl w8 _) 2 (.string s8)) (by omega)
          have hr9 := hr8.kept (gr_setCell1 (b := gx) (World.grownBy.refl w8 _) 2 (.string s8)) (fun e => hgne (by injection e with e; exact e.symm)) (fun k hk => by injection hk with hk; omega)
          have hk9 := HK.out.reader hr9 hg59
          have hbx9 := hbx8.set 2 (.string s8)
          have HS8 := Lib.hid hs8
          clear HPR hstn hr5 hrl5 hf5 ht5 hg5 hbx5 hb6 hbx6 hf6 hc6 hrt6 hbx7 hb7 hg7 hr7 hs8 hr8 hf8 ht8 hg8 hbx8 hfz8 hc8 hg58 hg59 hr9 HKA HBX HAL HST
          generalize w8.setCell ⟨gx, 2, none⟩ (.string s8) = w9 at *
          obtain ⟨pv, nv, cv, qv, mv, dv, c0, c1, _, _, _, _⟩ := hk9.cells
          obtain ⟨hown, hAP, hNX⟩ := hk9.held c1 ⟨rw, c, s8, px⟩
          obtain ⟨i0, hi0, hz0, hsz0, hby0⟩ := held_info
          have HAP := Lib.hid hAP
          have HNX := Lib.hid hNX
          have hm1 : hl.length + 1 ≤ maxLen := by rw [HLL2.out]; unfold maxLen; omega
          have hm2 : (hl.length + 1) * 40 ≤ 140737488355328 := by rw [HLL2.out]; omega
          have hB9 : B ≤ w9.heap.size := hk9.gg.2.2.2
          clear hAP hNX c0
          go_wp2_with (first
            | (refine wpList_load_mid rfl 148 (.tmp 6) rfl gx 0 rfl [.int .i64 rw, .int .u8 c.toNat, .string s8, .int .i64 px] _ hbx9.range Tryd.underlying148 rfl info_held ?_)
            | (at_builtin; refine wpList_pushC rfl _ _ 86 rfl B 148 i0 _ 4 40 Tryd.underlying86 hi0 hz0 hsz0 hby0 rfl (by decide) _ hl.length _ rfl hown (heldC ⟨rw, c, s8, px⟩) rfl rfl (heldC_one _) hm1 hm2 hB9 ?_; intro v4 w4 ho4 hb4 hg4; obtain ⟨hf, hkc⟩ := HAP.out w4 hg4; obtain ⟨g4, cp4, e4, _, _⟩ := World.ownsRow.form ho4 (Nat.succ_pos _); subst e4))
          have hk10 := HNX.out w4 _ ho4 hg4
          go_roundg (m - (j + 1))
          case measure => omega
          case rel => exact ⟨j + 1, hl ++ [⟨rw, c, s8, px⟩], r8, b8, by omega, rfl, by go_num, hk10, by rw [List.length_append, HLL2.out]; rfl, (fun t ht => by
            rcases List.mem_append.1 ht with h1 | h1
            · exact HLS.out t h1
            · rw [List.mem_singleton.1 h1]; exact HS8.out), hrl8, HSTn.out⟩
        · have hje : j = m := by omega
          subst hje
          have hjj : ¬ (j : Int) < (j : Int) := by omega
          have hs0 : Stg (pLeg b) bad (some (lst, hl)) := by have := HST.out; rw [Nat.sub_self] at this; exact this
          have HS0 := Lib.hid hs0
          obtain ⟨pv, nv, cv, qv, mv, dv, c0, c1, hbk, hs, hh, hke⟩ := HK.out.cells
          have hzz : ∀ x ∈ hl, x.loc.size ≤ maxLen := fun x hx => by have := HLS.out x hx; unfold maxLen; omega
          have HZZ := Lib.hid hzz
          have HOF := Lib.hid (ofLeg_any lst hl (.slice pv nv cv) (.slice qv mv dv) wr hs hh hzz)
          have HBK := Lib.hid hbk
          have HBR := Lib.hid HK.out.rs.bel
          have HKE := Lib.hid hke
          have HRE := Lib.hid HK.out.res
          have HRSx := Lib.hid HK.out.rs
          clear hs0 hs hh hzz hbk hke HST
          cases bad with
          | true =>
            have HNO := Lib.hid (readLg_none (HS0.out.2 rfl))
            go_wp2_with (first
              | (refine wpList_load_mid rfl 90 (.tmp 5) rfl gl 0 rfl [.slice pv nv cv, .slice qv mv dv] _ HBK.out.range Tryd.underlying90 rfl info_leg ?_)
              | (go_at_call 33; (with_reducible refine HOF.out.mono ?_); rintro e w7 ⟨hby, hb7⟩; obtain ⟨v7, z7, rfl⟩ := byP_form hby; obtain ⟨k1, k2⟩ := (HRSx.out.mono hb7).bad)
              | (refine wpList_store_blk rfl 90 (.tmp 2) (.tmp 71) rfl w.heap.size 90 [.slice none 0 0, .slice none 0 0] [.slice none 0 0, .slice none 0 0] rfl rfl (HRE.out.mono hb7) rfl info_leg two_one ?_; intro w8 hb8 hl8 _))
            exact lg_back rfl rfl rfl rfl hb8 ((below_low HBR.out HBR.out.size hb7).trans hl8) (.inr ⟨HNO.out, rfl, rfl, rfl⟩)
          | false =>
            have HPB := Lib.hid (HS0.out.1 rfl)
            go_upto_region 16 with (first
              | (refine wpList_load_mid rfl 90 (.tmp 5) rfl gl 0 rfl [.slice pv nv cv, .slice qv mv dv] _ HBK.out.range Tryd.underlying90 rfl info_leg ?_)
              | (go_at_call 33; (with_reducible refine HOF.out.mono ?_); rintro e w7 ⟨hby, hb7⟩; obtain ⟨v7, z7, rfl⟩ := byP_form hby; obtain ⟨k1, k2⟩ := (HRSx.out.mono hb7).bad))
            rcases hby with ⟨bs, v8, h1, h2, h3⟩ | ⟨h1, h2⟩
            · injection h2 with h2
              injection h2 with h2
              simp at h2
              obtain ⟨rfl, rfl⟩ := h2
              have HAG := Lib.hid (again_yes b bs _ _ w7 ((HV.out.mono HBR.out).mono hb7) h3.has)
              by_cases hbb : b = bs
              · have HY := Lib.hid (readLg_some HPB.out (by rw [h1, hbb]))
                rw [decide_eq_true hbb] at HAG
                have HKE7 : RowKit.Hid (∀ W', w7.grownBy W' (some w.heap.size) → HasE soldC W' (.slice pv nv cv) lst ∧ HasE heldC W' (.slice qv mv dv) hl) := Lib.hid fun W' hg => HKE.out W' (gr_same (gr_of_below hb7 _) hg)
                clear h1 h3 hbb
                go_wp2_with (first
                  | (go_at_call 56; (with_reducible refine HAG.out.mono ?_); rintro e w8 ⟨rfl, rfl⟩)
                  | (refine wpList_load_mid rfl 90 (.tmp 5) rfl gl 0 rfl [.slice pv nv cv, .slice qv mv dv] _ (HBK.out.mono hb7).range Tryd.underlying90 rfl info_leg ?_)
                  | (refine wpList_store_blk rfl 90 (.tmp 2) (.tmp 72) rfl w.heap.size 90 [.slice none 0 0, .slice none 0 0] [.slice pv nv cv, .slice qv mv dv] rfl rfl (HRE.out.mono hb7) rfl info_leg two_one ?_; intro w8 hb8 hl8 hg8))
                exact lg_back rfl rfl rfl rfl hb8 ((below_low HBR.out HBR.out.size hb7).trans hl8) (.inl ⟨lst, hl, HY.out, (HKE7.out _ hg8).1, (HKE7.out _ hg8).2, HZZ.out, rfl⟩)
              · have HY := Lib.hid (readLg_other HPB.out (by rw [h1]; exact fun e => hbb (by injection e with e; exact e.symm)))
                rw [decide_eq_false hbb] at HAG
                clear h1 h3 hbb
                go_wp2_with (first
                  | (go_at_call 56; (with_reducible refine HAG.out.mono ?_); rintro e w8 ⟨rfl, rfl⟩)
                  | (refine wpList_store_blk rfl 90 (.tmp 2) (.tmp 71) rfl w.heap.size 90 [.slice none 0 0, .slice none 0 0] [.slice none 0 0, .slice none 0 0] rfl rfl (HRE.out.mono hb7) rfl info_leg two_one ?_; intro w8 hb8 hl8 _))
                exact lg_back rfl rfl rfl rfl hb8 ((below_low HBR.out HBR.out.size hb7).trans hl8) (.inr ⟨HY.out, rfl, rfl, rfl⟩)
            · injection h2 with h2
              injection h2 with h2
              simp at h2
              obtain ⟨rfl, rfl⟩ := h2
              have HAG := Lib.hid (again_no (.slice p N c) (.slice none 0 0) 4 w7 (by decide))
              have HY := Lib.hid (readLg_other HPB.out (by rw [h1]; exact fun e => by cases e))
              clear h1
              go_wp2_with (first
                | (go_at_call 56; (with_reducible refine HAG.out.mono ?_); rintro e w8 ⟨rfl, rfl⟩)
                | (refine wpList_store_blk rfl 90 (.tmp 2) (.tmp 71) rfl w.heap.size 90 [.slice none 0 0, .slice none 0 0] [.slice none 0 0, .slice none 0 0] rfl rfl (HRE.out.mono hb7) rfl info_leg two_one ?_; intro w8 hb8 hl8 _))
              exact lg_back rfl rfl rfl rfl hb8 ((below_low HBR.out HBR.out.size hb7).trans hl8) (.inr ⟨HY.out, rfl, rfl, rfl⟩)
end Go.Proofs.YtjahkaidinahpaaDoor
