/- codec.ReadCount. -/
import Derived.Test.YtjahkaidinahpaaDoorEQ
namespace Go.Proofs.YtjahkaidinahpaaDoor
open Go.RowKit Go.ChangeMaps
set_option linter.unusedSimpArgs false
set_option linter.unusedVariables false
set_option maxRecDepth 20000

/-- A row and a value come back. -/
theorem results_row_tmp {P : Program} {fn : Func} {p q : Tmp} {ty : TypeId} (h : fn.results = #[.cell p ty, .tmp q]) (tmps : Array Value) (w : World) (g : Nat) (t : TypeId) (cs : List Value) (d : TypeDesc)
    (hp : tmps.getD p undef = .pointer (some ⟨g, 0, none⟩)) (hg : Blk w g t cs)
    (hu : P.underlying ty = some d) (hd : (match d with | .struct _ | .array _ _ => true | _ => false) = true) (hi : (P.info? ty).map (·.size) = some cs.length) :
    (results fn tmps).run P w = .ok (.tuple #[.agg cs.toArray, tmps.getD q undef]) w := by
  have hp' : tmps[p]?.getD undef = .pointer (some ⟨g, 0, none⟩) := by simpa using hp
  simp [results, h, hp', asAddr, run_loadVar_row w g t ty cs.toArray (0, 0) d hg hu hd (by simpa using hi)]

def ctC (a b : Int) : List Value := [.int .i64 a, .int .i64 b]
theorem info_count : (Tryd.prog.info? 58).map (·.size) = some 2 := by kernel_rfl
theorem ctC_one {a b : Int} : ∀ v ∈ ctC a b, v.oneCell' = true := by
  intro v hv
  simp [ctC] at hv
  rcases hv with rfl | rfl <;> rfl

/-- A count, or ErrForm. -/
def ctP (o : Option (Nat × Nat)) (e : Ending) : Prop :=
  (∃ n m : Nat, o = some (n, m) ∧ e = .returned (.tuple #[.agg (ctC n m).toArray, .int .i64 0])) ∨ (o = none ∧ e = .returned (.tuple #[.agg (ctC 0 0).toArray, .int .i64 4]))

theorem ct_back {fn : Func} {p q : Tmp} (hf : fn.results = #[.cell p 58, .tmp q]) {a : Act} {w w0 : World} {g : Nat} {x y z : Int} {o : Option (Nat × Nat)}
    (hp : a.tmps.getD p undef = .pointer (some ⟨g, 0, none⟩)) (hq : a.tmps.getD q undef = .int .i64 z) (hd : a.defers = []) (hg : Blk w g 58 (ctC x y)) (hw : Below w0.heap.size w0 w)
    (h : (∃ n m : Nat, o = some (n, m) ∧ x = n ∧ y = m ∧ z = 0) ∨ (o = none ∧ x = 0 ∧ y = 0 ∧ z = 4)) :
    bodyPost Tryd.prog fn (fun e w' => ctP o e ∧ Below w0.heap.size w0 w') .ret a w := by
  refine bodyPost_ret (results_row_tmp hf a.tmps w g 58 (ctC x y) _ hp hg Tryd.underlying58 rfl info_count) hd ?_
  rw [hq]
  rcases h with ⟨n, m, h1, rfl, rfl, rfl⟩ | ⟨h1, rfl, rfl, rfl⟩
  · exact ⟨.inl ⟨n, m, h1, rfl⟩, hw⟩
  · exact ⟨.inr ⟨h1, rfl⟩, hw⟩

theorem pCount_at {b r r1 r2 : List UInt8} {n m : Nat} (hb : b = 67 :: r) (hn : pNum 308915776 r = some (n, r1)) (hm : pNum 527039 r1 = some (m, r2)) : pCount b = some (n, m) := by
  subst hb
  show (match pNum 308915776 r with | some (n, r') => (pNum 527039 r').map (fun x : Nat × List UInt8 => (n, x.1)) | none => none) = _
  rw [hn]
  show (pNum 527039 r1).map _ = _
  rw [hm]
  rfl

theorem pCount_no {b : List UInt8} (h : ∀ r, b ≠ 67 :: r) : pCount b = none := by
  unfold pCount
  split
  · exact absurd rfl (h _)
  · rfl

theorem pCount_one {b r : List UInt8} (hb : b = 67 :: r) (hn : pNum 308915776 r = none) : pCount b = none := by
  subst hb
  show (match pNum 308915776 r with | some (n, r') => (pNum 527039 r').map (fun x : Nat × List UInt8 => (n, x.1)) | none => none) = _
  rw [hn]

theorem pCount_two {b r r1 : List UInt8} {n : Nat} (hb : b = 67 :: r) (hn : pNum 308915776 r = some (n, r1)) (hm : pNum 527039 r1 = none) : pCount b = none := by
  subst hb
  show (match pNum 308915776 r with | some (n, r') => (pNum 527039 r').map (fun x : Nat × List UInt8 => (n, x.1)) | none => none) = _
  rw [hn]
  show (pNum 527039 r1).map _ = _
  rw [hm]
  rfl

theorem readCt_none {b : List UInt8} (h : pCount b = none) : readCt b = none := by unfold readCt; rw [h]
theorem readCt_some {b : List UInt8} {n m : Nat} (h : pCount b = some (n, m)) (hq : countF n m = some b) : readCt b = some (n, m) := by unfold readCt; rw [h]; exact if_pos hq
theorem readCt_other {b : List UInt8} {n m : Nat} (h : pCount b = some (n, m)) (hq : countF n m ≠ some b) : readCt b = none := by unfold readCt; rw [h]; exact if_neg hq

set_option maxHeartbeats 16000000 in
theorem readCount_any (v : Value) (b : List UInt8) (w : World) (hv : HasE byteC w v b) (hl : b.length ≤ 20000) :
    Calls Tryd.prog 26 #[v] w fun e w' => ctP (readCt b) e ∧ Below w.heap.size w w' := by
  obtain ⟨p, c, rfl⟩ := hv.len
  have HV := Lib.hid hv
  have hz1 : (w.alloc (.cells #[.int .i64 0, .int .i64 0] 58)).heap.size = w.heap.size + 1 := by simp
  have hrs : RS w ((w.alloc (.cells #[.int .i64 0, .int .i64 0] 58)).alloc (.cells #[.slice p b.length c, .bool false] 118)) (w.heap.size + 1) b false :=
    ⟨Nat.le_succ _, ⟨_, by have h := Blk.new (w.alloc (.cells #[.int .i64 0, .int .i64 0] 58)) 118 [.slice p b.length c, .bool false]; rw [hz1] at h; exact h, hv⟩, ((Below.refl _ _).alloc (Nat.le_refl _) _).alloc (by simp) _⟩
  have hres : Blk ((w.alloc (.cells #[.int .i64 0, .int .i64 0] 58)).alloc (.cells #[.slice p b.length c, .bool false] 118)) w.heap.size 58 (ctC 0 0) := (Blk.new w 58 (ctC 0 0)).alloc _
  have HBEG : RowKit.Hid (∀ W, RS w W (w.heap.size + 1) b false → Calls Tryd.prog 53 #[.pointer (some ⟨w.heap.size + 1, 0, none⟩), .int .u8 67] W fun e w' => e = .returned (.tuple #[]) ∧ (∃ r bad, RS w w' (w.heap.size + 1) r bad ∧ r.length ≤ 1000000 ∧ (bad = false → b = 67 :: r) ∧ (bad = true → ∀ r, b ≠ 67 :: r)) ∧ W.grownBy w' (some (w.heap.size + 1))) := Lib.hid fun W h => begin_any (w.heap.size + 1) 67 b w W h (by omega) (by decide)
  have HRS := Lib.hid hrs
  have HRES := Lib.hid hres
  generalize hN : b.length = N at *
  clear hv hrs hl hN hz1 hres
  have HNUM : RowKit.Hid (∀ W l bad (most : Nat), RS w W (w.heap.size + 1) l bad → l.length ≤ 1000000 → most ≤ 4000000000 → Calls Tryd.prog 54 #[.pointer (some ⟨w.heap.size + 1, 0, none⟩), .int .i64 most] W fun e w' => ∃ (n : Nat) (r : List UInt8) (b2 : Bool), e = .returned (.int .i64 n) ∧ n ≤ most ∧ RS w w' (w.heap.size + 1) r b2 ∧ r.length ≤ 1000000 ∧ (b2 = false → bad = false ∧ pNum most l = some (n, r)) ∧ (b2 = true → bad = true ∨ pNum most l = none) ∧ W.grownBy w' (some (w.heap.size + 1))) := Lib.hid fun W l bad most h h1 h2 => rnum_any (w.heap.size + 1) l bad most w W h h1 h2
  have HN1 : RowKit.Hid (∀ W l bad, RS w W (w.heap.size + 1) l bad → l.length ≤ 1000000 → Calls Tryd.prog 54 #[.pointer (some ⟨w.heap.size + 1, 0, none⟩), .int .i64 308915776] W fun e w' => ∃ (n : Nat) (r : List UInt8) (b2 : Bool), e = .returned (.int .i64 n) ∧ n ≤ 308915776 ∧ RS w w' (w.heap.size + 1) r b2 ∧ r.length ≤ 1000000 ∧ (b2 = false → bad = false ∧ pNum 308915776 l = some (n, r)) ∧ (b2 = true → bad = true ∨ pNum 308915776 l = none) ∧ W.grownBy w' (some (w.heap.size + 1))) := Lib.hid fun W l bad h h1 => HNUM.out W l bad 308915776 h h1 (by omega)
  have HN2 : RowKit.Hid (∀ W l bad, RS w W (w.heap.size + 1) l bad → l.length ≤ 1000000 → Calls Tryd.prog 54 #[.pointer (some ⟨w.heap.size + 1, 0, none⟩), .int .i64 527039] W fun e w' => ∃ (n : Nat) (r : List UInt8) (b2 : Bool), e = .returned (.int .i64 n) ∧ n ≤ 527039 ∧ RS w w' (w.heap.size + 1) r b2 ∧ r.length ≤ 1000000 ∧ (b2 = false → bad = false ∧ pNum 527039 l = some (n, r)) ∧ (b2 = true → bad = true ∨ pNum 527039 l = none) ∧ W.grownBy w' (some (w.heap.size + 1))) := Lib.hid fun W l bad h h1 => HNUM.out W l bad 527039 h h1 (by omega)
  clear HNUM
  go_enter Tryd.func26, Tryd.ntmps26
  go_upto_region 4 with (first
    | (go_at_call 53; (with_reducible refine (HBEG.out _ HRS.out).mono ?_); rintro e w2 ⟨rfl, ⟨r, bad, hr2, hrl, hg1, hg2⟩, hgr2⟩)
    | (go_at_call 54; (with_reducible refine (HN1.out _ _ _ hr2 hrl).mono ?_); rintro e w3 ⟨n, r3, b3, rfl, hn, hr3, hrl3, hf3, ht3, hgr3⟩)
    | (go_at_call 54; (with_reducible refine (HN2.out _ _ _ hr3 hrl3).mono ?_); rintro e w4 ⟨m, r4, b4, rfl, hm, hr4, hrl4, hf4, ht4, hgr4⟩)
    | (refine wpList_store_blk rfl 58 (.tmp 5) (.tmp 17) rfl w4.heap.size 58 (ctC 0 0) (ctC n m) rfl rfl (Blk.new w4 58 (ctC 0 0)) rfl info_count ctC_one ?_; intro w5 hb5 hl5 _))
  dsimp only [Act.put]
  have h45 : Below w4.heap.size w4 w5 := ((Below.refl _ _).alloc (Nat.le_refl _) _).trans hl5
  have HT : RowKit.Hid (b4 = true → pCount b = none) := Lib.hid fun h => by
    cases hbad : bad with
    | true => exact pCount_no (hg2 hbad)
    | false =>
      have hb0 := hg1 hbad
      cases hb3 : b3 with
      | true =>
        rcases ht3 hb3 with h1 | h1
        · rw [hbad] at h1; cases h1
        · exact pCount_one hb0 h1
      | false =>
        rcases ht4 h with h1 | h1
        · rw [hb3] at h1; cases h1
        · exact pCount_two hb0 (hf3 hb3).2 h1
  have HF : RowKit.Hid (b4 = false → pCount b = some (n, m)) := Lib.hid fun h => by
    obtain ⟨h1, h2⟩ := hf4 h
    obtain ⟨h3, h4⟩ := hf3 h1
    exact pCount_at (hg1 h3) h4 h2
  have HRS5 := Lib.hid (hr4.mono h45)
  have HRES5 := Lib.hid ((((HRES.out.far hgr2 (fun e => by injection e with e; omega)).far hgr3 (fun e => by injection e with e; omega)).far hgr4 (fun e => by injection e with e; omega)).mono h45)
  have HBR := Lib.hid HRS5.out.bel
  have HCT := Lib.hid hb5
  have HOF := Lib.hid (ofCount_any (n : Int) (m : Int) w5)
  have c0 : w5.cell? ⟨w4.heap.size, 0, none⟩ = some (.int .i64 n) := (hb5.cell 0).trans rfl
  have c1 : w5.cell? ⟨w4.heap.size, 1, none⟩ = some (.int .i64 m) := (hb5.cell 1).trans rfl
  clear hr2 hrl hg1 hg2 hgr2 hn hr3 hrl3 hf3 ht3 hgr3 hm hr4 hrl4 hf4 ht4 hgr4 hb5 hl5 h45 HBEG HN1 HN2 HRS HRES
  generalize w4.heap.size = gc at *
  cases b4 with
  | true =>
    have HNO := Lib.hid (readCt_none (HT.out rfl))
    go_wp2_with (first
      | (go_at_call 21; (with_reducible refine HOF.out.mono ?_); rintro e w6 ⟨hby, hb6⟩; obtain ⟨v6, z6, rfl⟩ := byP_form hby; obtain ⟨k1, k2⟩ := (HRS5.out.mono hb6).bad)
      | (refine wpList_store_blk rfl 58 (.tmp 2) (.tmp 34) rfl w.heap.size 58 (ctC 0 0) (ctC 0 0) rfl rfl (HRES5.out.mono hb6) rfl info_count ctC_one ?_; intro w7 hb7 hl7 _))
    exact ct_back rfl rfl rfl rfl hb7 ((below_low HBR.out HBR.out.size hb6).trans hl7) (.inr ⟨HNO.out, rfl, rfl, rfl⟩)
  | false =>
    have HPB2 := Lib.hid (HF.out rfl)
    go_upto_region 5 with (first
      | (go_at_call 21; (with_reducible refine HOF.out.mono ?_); rintro e w6 ⟨hby, hb6⟩; obtain ⟨v6, z6, rfl⟩ := byP_form hby; obtain ⟨k1, k2⟩ := (HRS5.out.mono hb6).bad))
    rcases hby with ⟨bs, v8, h1, h2, h3⟩ | ⟨h1, h2⟩
    · injection h2 with h2
      injection h2 with h2
      simp at h2
      obtain ⟨rfl, rfl⟩ := h2
      have HAG := Lib.hid (again_yes b bs _ _ w6 ((HV.out.mono HBR.out).mono hb6) h3.has)
      have d0 := cell_bel hb6 c0
      have d1 := cell_bel hb6 c1
      by_cases hbb : b = bs
      · have HY := Lib.hid (readCt_some HPB2.out (by rw [h1, hbb]))
        rw [decide_eq_true hbb] at HAG
        clear h1 h3 hbb
        go_wp2_with (first
          | (go_at_call 56; (with_reducible refine HAG.out.mono ?_); rintro e w8 ⟨rfl, rfl⟩)
          | (refine wpList_store_blk rfl 58 (.tmp 2) (.tmp 35) rfl w.heap.size 58 (ctC 0 0) (ctC n m) rfl rfl (HRES5.out.mono hb6) rfl info_count ctC_one ?_; intro w7 hb7 hl7 _))
        exact ct_back rfl rfl rfl rfl hb7 ((below_low HBR.out HBR.out.size hb6).trans hl7) (.inl ⟨n, m, HY.out, rfl, rfl, rfl⟩)
      · have HY := Lib.hid (readCt_other HPB2.out (by rw [h1]; exact fun e => hbb (by injection e with e; exact e.symm)))
        rw [decide_eq_false hbb] at HAG
        clear h1 h3 hbb
        go_wp2_with (first
          | (go_at_call 56; (with_reducible refine HAG.out.mono ?_); rintro e w8 ⟨rfl, rfl⟩)
          | (refine wpList_store_blk rfl 58 (.tmp 2) (.tmp 34) rfl w.heap.size 58 (ctC 0 0) (ctC 0 0) rfl rfl (HRES5.out.mono hb6) rfl info_count ctC_one ?_; intro w7 hb7 hl7 _))
        exact ct_back rfl rfl rfl rfl hb7 ((below_low HBR.out HBR.out.size hb6).trans hl7) (.inr ⟨HY.out, rfl, rfl, rfl⟩)
    · injection h2 with h2
      injection h2 with h2
      simp at h2
      obtain ⟨rfl, rfl⟩ := h2
      have HAG := Lib.hid (again_no (.slice p N c) (.slice none 0 0) 4 w6 (by decide))
      have HY := Lib.hid (readCt_other HPB2.out (by rw [h1]; exact fun e => by cases e))
      clear h1
      go_wp2_with (first
        | (go_at_call 56; (with_reducible refine HAG.out.mono ?_); rintro e w8 ⟨rfl, rfl⟩)
        | (refine wpList_store_blk rfl 58 (.tmp 2) (.tmp 34) rfl w.heap.size 58 (ctC 0 0) (ctC 0 0) rfl rfl (HRES5.out.mono hb6) rfl info_count ctC_one ?_; intro w7 hb7 hl7 _))
      exact ct_back rfl rfl rfl rfl hb7 ((below_low HBR.out HBR.out.size hb6).trans hl7) (.inr ⟨HY.out, rfl, rfl, rfl⟩)
end Go.Proofs.YtjahkaidinahpaaDoor
