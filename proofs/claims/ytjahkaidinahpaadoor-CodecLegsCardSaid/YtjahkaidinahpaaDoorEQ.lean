/- The reader's steps, whatever comes; codec.ReadQueue. -/
import Derived.Test.YtjahkaidinahpaaDoorEO
namespace Go.Proofs.YtjahkaidinahpaaDoor
open Go.RowKit Go.ChangeMaps
set_option linter.unusedSimpArgs false
set_option linter.unusedVariables false
set_option maxRecDepth 20000

theorem begin_any (g : Nat) (c : UInt8) (l : List UInt8) (w0 w : World) (h : RS w0 w g l false) (hl : l.length ≤ 900000) (hc0 : c.toNat ≠ 0) :
    Calls Tryd.prog 53 #[.pointer (some ⟨g, 0, none⟩), .int .u8 c.toNat] w fun e w' => e = .returned (.tuple #[]) ∧ (∃ r bad, RS w0 w' g r bad ∧ r.length ≤ 1000000 ∧ (bad = false → l = c :: r) ∧ (bad = true → ∀ r, l ≠ c :: r)) ∧ w.grownBy w' (some g) := by
  by_cases hx : ∃ r, l = c :: r
  · obtain ⟨r, rfl⟩ := hx
    rw [List.length_cons] at hl
    refine (begin_yes g c r w0 w h (by omega)).mono ?_
    rintro e w' ⟨rfl, h1, h2⟩
    exact ⟨rfl, ⟨r, false, h1, by omega, (fun _ => rfl), (fun h => by cases h)⟩, h2⟩
  · have hne : ∀ r, l ≠ c :: r := fun r e => hx ⟨r, e⟩
    refine (begin_no g c l w0 w h hl hc0 hne).mono ?_
    rintro e w' ⟨rfl, ⟨r, h1, h3⟩, h2⟩
    exact ⟨rfl, ⟨r, true, h1, h3, (fun h => by cases h), (fun _ => hne)⟩, h2⟩

theorem rnum_any (g : Nat) (l : List UInt8) (bad : Bool) (most : Nat) (w0 w : World) (h : RS w0 w g l bad) (hl : l.length ≤ 1000000) (hm : most ≤ 4000000000) :
    Calls Tryd.prog 54 #[.pointer (some ⟨g, 0, none⟩), .int .i64 most] w fun e w' => ∃ (n : Nat) (r : List UInt8) (b2 : Bool), e = .returned (.int .i64 n) ∧ n ≤ most ∧ RS w0 w' g r b2 ∧ r.length ≤ 1000000 ∧ (b2 = false → bad = false ∧ pNum most l = some (n, r)) ∧ (b2 = true → bad = true ∨ pNum most l = none) ∧ w.grownBy w' (some g) := by
  cases hp : pNum most l with
  | some x =>
    obtain ⟨n, r⟩ := x
    obtain ⟨k, _, hn, hr, _⟩ := pNum_some hp
    refine (rnum_yes g l r bad most n w0 w h hl hm hp).mono ?_
    rintro e w' ⟨rfl, h1, h2⟩
    exact ⟨n, r, bad, rfl, hn, h1, by rw [hr, List.length_drop]; omega, fun h => ⟨h, rfl⟩, fun h => .inl h, h2⟩
  | none =>
    refine (rnum_no g l bad most w0 w h hl hm hp).mono ?_
    rintro e w' ⟨rfl, h1, h2⟩
    exact ⟨0, [], true, rfl, Nat.zero_le _, h1, Nat.zero_le _, (fun h => by cases h), (fun _ => .inr rfl), h2⟩

theorem rloc_any (g : Nat) (l : List UInt8) (bad : Bool) (w0 w : World) (h : RS w0 w g l bad) (hl : l.length ≤ 1000000) :
    Calls Tryd.prog 55 #[.pointer (some ⟨g, 0, none⟩)] w fun e w' => ∃ (s : ByteArray) (r : List UInt8) (b2 : Bool), e = .returned (.string s) ∧ s.size ≤ 6 ∧ RS w0 w' g r b2 ∧ r.length ≤ 1000000 ∧ (b2 = false → bad = false ∧ pLoc l = some (toL s, r)) ∧ (b2 = true → bad = true ∨ pLoc l = none) ∧ w.grownBy w' (some g) := by
  by_cases hb : pLoc l = none ∨ bad = true
  · refine (rloc_no g l bad w0 w h hl hb).mono ?_
    rintro e w' ⟨⟨s, hs, rfl⟩, ⟨r, h1, h3⟩, h2⟩
    exact ⟨s, r, true, rfl, hs, h1, h3, (fun h => by cases h), (fun _ => hb.symm), h2⟩
  · cases hp : pLoc l with
    | none => exact absurd (.inl hp) hb
    | some x =>
      obtain ⟨s, r⟩ := x
      have hbf : bad = false := by
        cases bad
        · rfl
        · exact absurd (.inr rfl) hb
      obtain ⟨n, hf, hn, hs⟩ := pLoc_some hp
      have hr := (pFix_some hf).2.2
      refine (rloc_yes g l r s bad w0 w h hl hp).mono ?_
      rintro e w' ⟨rfl, h1, h2⟩
      refine ⟨⟨s.toArray⟩, r, bad, rfl, ?_, h1, by rw [hr, List.length_drop]; omega, fun h => ⟨h, ?_⟩, fun h => .inl h, h2⟩
      · rw [hs]; exact Nat.le_refl _
      · show some (s, r) = some (s.toArray.toList, r)
        simp

theorem pLocs_none {n m : Nat} {l : List UInt8} (h : pLocs n l = none) (hnm : n ≤ m) : pLocs m l = none := by
  induction m with
  | zero => rw [show n = 0 by omega] at h; exact h
  | succ m ih =>
    by_cases he : n = m + 1
    · rw [← he]; exact h
    · rw [pLocs, ih (by omega)]

theorem pLocs_on {n : Nat} {l r r' : List UInt8} {o : List (List UInt8)} {s : List UInt8} (h : pLocs n l = some (o, r)) (hs : pLoc r = some (s, r')) : pLocs (n + 1) l = some (o ++ [s], r') := by
  rw [pLocs, h]
  show (match pLoc r with | some (s, r') => some (o ++ [s], r') | none => none) = _
  rw [hs]

theorem pLocs_off {n : Nat} {l r : List UInt8} {o : List (List UInt8)} (h : pLocs n l = some (o, r)) (hs : pLoc r = none) : pLocs (n + 1) l = none := by
  rw [pLocs, h]
  show (match pLoc r with | some (s, r') => some (o ++ [s], r') | none => none) = _
  rw [hs]

theorem pQueue_at {b r r0 : List UInt8} {n : Nat} (hb : b = 81 :: r) (hn : pNum 40 r = some (n, r0)) : pQueue b = ((pLocs n r0).map fun x => x.1) := by
  subst hb
  show (match pNum 40 r with | some (n, r') => ((pLocs n r').map fun x : List (List UInt8) × List UInt8 => x.1) | none => none) = _
  rw [hn]

theorem pQueue_num {b r : List UInt8} (hb : b = 81 :: r) (hn : pNum 40 r = none) : pQueue b = none := by
  subst hb
  show (match pNum 40 r with | some (n, r') => ((pLocs n r').map fun x : List (List UInt8) × List UInt8 => x.1) | none => none) = _
  rw [hn]

theorem pQueue_no {b : List UInt8} (h : ∀ r, b ≠ 81 :: r) : pQueue b = none := by
  unfold pQueue
  split
  · exact absurd rfl (h _)
  · rfl

theorem readQ_none {b : List UInt8} (h : pQueue b = none) : readQ b = none := by
  unfold readQ; rw [h]
theorem readQ_some {b : List UInt8} {l : List ByteArray} (h : pQueue b = some (l.map toL)) (hq : queueB l = some b) : readQ b = some (l.map toL) := by
  unfold readQ; rw [h]; exact if_pos hq
theorem readQ_other {b : List UInt8} {l : List ByteArray} (h : pQueue b = some (l.map toL)) (hq : queueB l ≠ some b) : readQ b = none := by
  unfold readQ; rw [h]; exact if_neg hq

theorem byP_form {B : Nat} {o : Option (List UInt8)} {e : Ending} {w : World} (h : byP B o e w) : ∃ v z, e = .returned (.tuple #[v, .int .i64 z]) := by
  rcases h with ⟨bs, v, _, h, _⟩ | ⟨_, h⟩
  · exact ⟨_, _, h⟩
  · exact ⟨_, _, h⟩

/-- Texts, or ErrForm. -/
def liP (B : Nat) (o : Option (List (List UInt8))) (e : Ending) (w : World) : Prop :=
  (∃ l v, o = some (l.map toL) ∧ e = .returned (.tuple #[v, .int .i64 0]) ∧ OwnL w B v l) ∨ (o = none ∧ e = .returned (.tuple #[.slice none 0 0, .int .i64 4]))

theorem wpList_push_str {wr : World} {ops : Array Oper} {rest : List Oper} {o : Oper} {a : Act} {Q : Exit → Act → World → Prop} (hgd : o.guard = none) (x y : Operand)
    (ho : o.op = .call { callee := .builtin .append, args := #[x, y], argTypes := #[24, 24] })
    (base : Nat) (v : Value) (l : List ByteArray) (c : ByteArray) (hs : a.eval x = v) (hown : OwnL wr base v l) (hx : a.eval y = .slice (some ⟨wr.heap.size, 0, none⟩) 1 1)
    (hm : l.length + 1 ≤ 1000000) (hbase : base ≤ wr.heap.size)
    (h : ∀ v' w', OwnL w' base v' (l ++ [c]) → Below base wr w' → wpList Tryd.prog ops Q rest (a.put o.dst v') w') :
    wpList Tryd.prog ops Q (o :: rest) a (wr.alloc (.cells #[.string c] 9)) := by
  obtain ⟨i0, hi, hz, hsz, hby⟩ := str_info
  refine wpList_push hgd x y 24 ho base 9 i0 _ _ Tryd.underlying24 hi hz hsz hby rfl v l.length (strV l) hs hown (.string c) hx rfl (by unfold maxLen; omega) (by omega) hbase ?_
  intro v' w' hown' hb hg
  refine h v' w' ?_ hb
  unfold OwnL
  rw [List.length_append, show strV (l ++ [c]) = strV l ++ [.string c] by simp [strV]]
  exact hown'

theorem OwnL.kept2 {w w' : World} {B g : Nat} {v : Value} {l : List ByteArray} (h : OwnL w B v l) (hg : w.grownBy w' (some g)) (hB : g < B) : OwnL w' B v l := World.ownsRow.kept h hg (own_ne h hB)

theorem RS.keep {w0 w w' : World} {g B : Nat} {l : List UInt8} {bad : Bool} (h : RS w0 w g l bad) (hb : Below B w w') (hg : g < B) : RS w0 w' g l bad := by
  obtain ⟨h1, ⟨v, h2, h3⟩, h4⟩ := h
  exact ⟨h1, ⟨v, h2.keep hb hg, h3⟩, h4.trans (below_le hb (by omega))⟩

set_option maxHeartbeats 16000000 in
theorem readQueue_any (v : Value) (b : List UInt8) (w : World) (hv : HasE byteC w v b) (hl : b.length ≤ 20000) :
    Calls Tryd.prog 23 #[v] w fun e w' => liP w.heap.size (readQ b) e w' ∧ Below w.heap.size w w' := by
  obtain ⟨p, c, rfl⟩ := hv.len
  have HV := Lib.hid hv
  have hrs : RS w (w.alloc (.cells #[.slice p b.length c, .bool false] 118)) w.heap.size b false :=
    ⟨Nat.le_refl _, ⟨_, Blk.new w 118 [.slice p b.length c, .bool false], hv⟩, (Below.refl _ _).alloc (Nat.le_refl _) _⟩
  have HBEG : RowKit.Hid (∀ W, RS w W w.heap.size b false → Calls Tryd.prog 53 #[.pointer (some ⟨w.heap.size, 0, none⟩), .int .u8 81] W fun e w' => e = .returned (.tuple #[]) ∧ (∃ r bad, RS w w' w.heap.size r bad ∧ r.length ≤ 1000000 ∧ (bad = false → b = 81 :: r) ∧ (bad = true → ∀ r, b ≠ 81 :: r)) ∧ W.grownBy w' (some w.heap.size)) := Lib.hid fun W h => begin_any w.heap.size 81 b w W h (by omega) (by decide)
  have HRS := Lib.hid hrs
  generalize hN : b.length = N at *
  clear hv hrs hl hN
  go_enter Tryd.func23, Tryd.ntmps23
  go_upto_region 3 with (first
    | (go_at_call 53; (with_reducible refine (HBEG.out _ HRS.out).mono ?_); rintro e w2 ⟨rfl, ⟨r, bad, hr2, hrl, hg1, hg2⟩, hgr2⟩))
  have HR2 := Lib.hid hr2
  have HG1 := Lib.hid hg1
  have HG2 := Lib.hid hg2
  have hz2 : w.heap.size + 1 ≤ w2.heap.size := by have := hgr2.size; simp at this; omega
  have HNUM : RowKit.Hid (∀ W, RS w W w.heap.size r bad → Calls Tryd.prog 54 #[.pointer (some ⟨w.heap.size, 0, none⟩), .int .i64 40] W fun e w' => ∃ (n : Nat) (r2 : List UInt8) (b2 : Bool), e = .returned (.int .i64 n) ∧ n ≤ 40 ∧ RS w w' w.heap.size r2 b2 ∧ r2.length ≤ 1000000 ∧ (b2 = false → bad = false ∧ pNum 40 r = some (n, r2)) ∧ (b2 = true → bad = true ∨ pNum 40 r = none) ∧ W.grownBy w' (some w.heap.size)) := Lib.hid fun W h => rnum_any w.heap.size r bad 40 w W h hrl (by omega)
  clear hr2 hg1 hg2 hrl
  go_wp2_with (first
    | (go_at_call 54; (with_reducible refine (HNUM.out _ HR2.out).mono ?_); rintro e w3 ⟨n, r0, bad3, rfl, hn, hr3, hrl3, hg3, hb3, hgr3⟩))
  have HQ0 : RowKit.Hid (bad3 = false → pQueue b = (pLocs n r0).map fun x => x.1) := Lib.hid fun h => by
    obtain ⟨h1, h2⟩ := hg3 h
    exact pQueue_at (HG1.out h1) h2
  have HQ1 : RowKit.Hid (bad3 = true → pQueue b = none) := Lib.hid fun h => by
    cases hb : bad with
    | true => exact pQueue_no (HG2.out hb)
    | false =>
      rcases hb3 h with h1 | h1
      · rw [hb] at h1; cases h1
      · exact pQueue_num (HG1.out hb) h1
  have hz3 : w.heap.size + 1 ≤ w3.heap.size := by have := hgr3.size; omega
  clear hg3 hb3 HNUM HBEG HR2 HRS HG1 HG2
  go_loopg [5, 15] n (fun g0 s5 s15 wr => ∃ (i : Nat) (lst : List ByteArray) (rest : List UInt8) (b2 : Bool), i ≤ n ∧ g0 = n - i ∧ s15 = .int .i64 (i : Int) ∧ OwnL wr (w.heap.size + 1) s5 lst ∧ lst.length = i ∧ (∀ s ∈ lst, s.size ≤ maxLen) ∧ RS w wr w.heap.size rest b2 ∧ rest.length ≤ 1000000 ∧ (b2 = false → bad3 = false ∧ pLocs i r0 = some (lst.map toL, rest)) ∧ (b2 = true → pQueue b = none) ∧ w.heap.size + 1 ≤ wr.heap.size)
  case atStart => exact ⟨0, [], r0, bad3, Nat.zero_le _, rfl, rfl, OwnL.nil _ _, rfl, (fun s h => by cases h), hr3, hrl3, (fun h => ⟨h, rfl⟩), HQ1.out, hz3⟩
  case round =>
    obtain ⟨i, lst, rest, b2, hin, rfl, rfl, ho, hll, hsz, hrs, hrl, hf, ht, hz⟩ := hrel
    have HO := Lib.hid ho
    have HLL := Lib.hid hll
    have HSZ := Lib.hid hsz
    have HF := Lib.hid hf
    have HT := Lib.hid ht
    have HRS := Lib.hid hrs
    have HRL := Lib.hid hrl
    clear ho hll hsz hf ht hrs hrl
    by_cases hlt : i < n
    · have hii : (i : Int) < (n : Int) := by omega
      have HLOC : RowKit.Hid (∀ W, RS w W w.heap.size rest b2 → Calls Tryd.prog 55 #[.pointer (some ⟨w.heap.size, 0, none⟩)] W fun e w' => ∃ (s : ByteArray) (r : List UInt8) (b3 : Bool), e = .returned (.string s) ∧ s.size ≤ 6 ∧ RS w w' w.heap.size r b3 ∧ r.length ≤ 1000000 ∧ (b3 = false → b2 = false ∧ pLoc rest = some (toL s, r)) ∧ (b3 = true → b2 = true ∨ pLoc rest = none) ∧ W.grownBy w' (some w.heap.size)) := Lib.hid fun W h => rloc_any w.heap.size rest b2 w W h HRL.out
      have hl1 : lst.length + 1 ≤ 1000000 := by rw [HLL.out]; omega
      go_wp2_with (first
        | (go_at_call 55; (with_reducible refine (HLOC.out _ HRS.out).mono ?_); rintro e w5 ⟨s, r5, b5, rfl, hs6, hr5, hrl5, hf5, ht5, hgr5⟩; have hz5 : w.heap.size + 1 ≤ w5.heap.size := Nat.le_trans hz hgr5.size; have HO5 := Lib.hid (HO.out.kept2 hgr5 (Nat.lt_succ_self _)))
        | (at_builtin; refine wpList_push_str rfl _ _ rfl (w.heap.size + 1) u5 lst s rfl HO5.out rfl hl1 hz5 ?_; intro v6 w6 ho6 hb6))
      have hr6 := hr5.keep hb6 (Nat.lt_succ_self _)
      have hz6 := Nat.le_trans hz5 hb6.size
      have HF6 : RowKit.Hid (b5 = false → bad3 = false ∧ pLocs (i + 1) r0 = some ((lst ++ [s]).map toL, r5)) := Lib.hid fun h => by
        obtain ⟨h1, h2⟩ := hf5 h
        obtain ⟨h3, h4⟩ := HF.out h1
        exact ⟨h3, by rw [pLocs_on h4 h2, List.map_append]; rfl⟩
      have HT6 : RowKit.Hid (b5 = true → pQueue b = none) := Lib.hid fun h => by
        cases hb2 : b2 with
        | true => exact HT.out hb2
        | false =>
          rcases ht5 h with h1 | h1
          · rw [hb2] at h1; cases h1
          · obtain ⟨h3, h4⟩ := HF.out hb2
            rw [HQ0.out h3, pLocs_none (pLocs_off h4 h1) (by omega : i + 1 ≤ n)]
            rfl
      go_roundg (n - (i + 1))
      case measure => omega
      case rel => exact ⟨i + 1, lst ++ [s], r5, b5, by omega, rfl, by go_num, ho6, by rw [List.length_append, HLL.out]; rfl, (fun t ht => by
        rcases List.mem_append.1 ht with h1 | h1
        · exact HSZ.out t h1
        · rw [List.mem_singleton.1 h1]; unfold maxLen; omega), hr6, hrl5, HF6.out, HT6.out, hz6⟩
    · have hie : i = n := by omega
      subst hie
      have hii : ¬ (i : Int) < (i : Int) := by omega
      have HQU := Lib.hid (queue_any u5 lst wr HO.out.has HSZ.out)
      have hbr := HRS.out.bel
      have HBR := Lib.hid hbr
      have HPB : RowKit.Hid (b2 = false → pQueue b = some (lst.map toL)) := Lib.hid fun h => by
        obtain ⟨h1, h2⟩ := HF.out h
        rw [HQ0.out h1, h2]
        rfl
      clear hbr
      cases b2 with
      | true =>
        have HNO := Lib.hid (readQ_none (HT.out rfl))
        go_wp2_with (first
          | (go_at_call 18; (with_reducible refine HQU.out.mono ?_); rintro e w7 ⟨hby, hb7⟩; obtain ⟨v7, z7, rfl⟩ := byP_form hby; obtain ⟨k1, k2⟩ := (HRS.out.mono hb7).bad))
        go_ret2
        exact ⟨.inr ⟨HNO.out, rfl⟩, below_low HBR.out HBR.out.size hb7⟩
      | false =>
        have HPB2 := Lib.hid (HPB.out rfl)
        go_upto_region 9 with (first
          | (go_at_call 18; (with_reducible refine HQU.out.mono ?_); rintro e w7 ⟨hby, hb7⟩; obtain ⟨v7, z7, rfl⟩ := byP_form hby; obtain ⟨k1, k2⟩ := (HRS.out.mono hb7).bad))
        rcases hby with ⟨bs, v8, h1, h2, h3⟩ | ⟨h1, h2⟩
        · injection h2 with h2
          injection h2 with h2
          simp at h2
          obtain ⟨rfl, rfl⟩ := h2
          have HAG := Lib.hid (again_yes b bs _ _ w7 ((HV.out.mono HBR.out).mono hb7) h3.has)
          have HOW : RowKit.Hid (OwnL w7 w.heap.size u5 lst) := Lib.hid ((HO.out.mono hb7).low (by omega))
          by_cases hbb : b = bs
          · have HY := Lib.hid (readQ_some HPB2.out (by rw [h1, hbb]))
            rw [decide_eq_true hbb] at HAG
            clear h1 h3 hbb
            go_wp2_with (first
              | (go_at_call 56; (with_reducible refine HAG.out.mono ?_); rintro e w8 ⟨rfl, rfl⟩))
            go_ret2
            exact ⟨.inl ⟨lst, _, HY.out, rfl, HOW.out⟩, below_low HBR.out HBR.out.size hb7⟩
          · have HY := Lib.hid (readQ_other HPB2.out (by rw [h1]; exact fun e => hbb (by injection e with e; exact e.symm)))
            rw [decide_eq_false hbb] at HAG
            clear h1 h3 hbb
            go_wp2_with (first
              | (go_at_call 56; (with_reducible refine HAG.out.mono ?_); rintro e w8 ⟨rfl, rfl⟩))
            go_ret2
            exact ⟨.inr ⟨HY.out, rfl⟩, below_low HBR.out HBR.out.size hb7⟩
        · injection h2 with h2
          injection h2 with h2
          simp at h2
          obtain ⟨rfl, rfl⟩ := h2
          have HAG := Lib.hid (again_no (.slice p N c) (.slice none 0 0) 4 w7 (by decide))
          have HY := Lib.hid (readQ_other HPB2.out (by rw [h1]; exact fun e => by cases e))
          clear h1
          go_wp2_with (first
            | (go_at_call 56; (with_reducible refine HAG.out.mono ?_); rintro e w8 ⟨rfl, rfl⟩))
          go_ret2
          exact ⟨.inr ⟨HY.out, rfl⟩, below_low HBR.out HBR.out.size hb7⟩
end Go.Proofs.YtjahkaidinahpaaDoor
