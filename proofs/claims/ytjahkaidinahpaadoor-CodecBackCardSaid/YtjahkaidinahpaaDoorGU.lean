/- The law CodecOnly: the walk. Printed by tools/gen_only.py. -/
import Derived.Test.YtjahkaidinahpaaDoorGT
import Derived.Test.YtjahkaidinahpaaDoorFO
namespace Go.Proofs.YtjahkaidinahpaaDoor
open Go.RowKit Go.ChangeMaps
set_option linter.unusedSimpArgs false
set_option linter.unusedVariables false
set_option maxRecDepth 20000

theorem queueF_head {l : List (List UInt8)} {b : List UInt8} (h : queueF l = some b) : (∃ t, b = 81 :: t) ∧ ∀ s ∈ l, lettersS s 6 6 = true := by
  unfold queueF at h
  by_cases hc : l.length ≤ 40 ∧ (l.all fun s => lettersS s 6 6) = true ∧ l.Nodup
  · rw [if_pos hc] at h
    injection h with h
    exact ⟨⟨_, h.symm⟩, List.all_eq_true.1 hc.2.1⟩
  · rw [if_neg hc] at h; cases h
theorem countF_head {n m : Int} {b : List UInt8} (h : countF n m = some b) : ∃ t, b = 67 :: t := by
  unfold countF at h
  by_cases hc : 0 ≤ n ∧ n ≤ 308915776 ∧ 0 ≤ m ∧ m < 527040
  · rw [if_pos hc] at h
    injection h with h
    exact ⟨_, h.symm⟩
  · rw [if_neg hc] at h; cases h
theorem legF_head {s : List SoldT} {h : List HeldT} {b : List UInt8} (k : legF s h = some b) : ∃ t, b = 76 :: t := by
  by_cases hs : SoundL s h
  · rw [legF_yes hs] at k
    injection k with k
    exact ⟨_, k.symm⟩
  · rw [legF_no hs] at k; cases k
theorem readQ_bytes {b : List UInt8} {l : List (List UInt8)} (h : readQ b = some l) : queueF l = some b := by
  unfold readQ at h
  cases hp : pQueue b with
  | none => rw [hp] at h; cases h
  | some q =>
    rw [hp] at h
    simp only at h
    by_cases hq : queueF q = some b
    · rw [if_pos hq] at h
      injection h with h
      rw [← h]; exact hq
    · rw [if_neg hq] at h; cases h
theorem readCt_bytes {b : List UInt8} {n m : Nat} (h : readCt b = some (n, m)) : countF n m = some b := by
  unfold readCt at h
  cases hp : pCount b with
  | none => rw [hp] at h; cases h
  | some q =>
    obtain ⟨n', m'⟩ := q
    rw [hp] at h
    simp only at h
    by_cases hq : countF n' m' = some b
    · rw [if_pos hq] at h
      injection h with h
      injection h with h1 h2
      subst h1 h2
      exact hq
    · rw [if_neg hq] at h; cases h
theorem readLg_bytes {b : List UInt8} {s : List SoldT} {h : List HeldT} (k : readLg b = some (s, h)) : legF s h = some b := by
  unfold readLg at k
  cases hp : pLeg b with
  | none => rw [hp] at k; cases k
  | some q =>
    obtain ⟨s', h'⟩ := q
    rw [hp] at k
    simp only at k
    by_cases hq : legF s' h' = some b
    · rw [if_pos hq] at k
      injection k with k
      injection k with h1 h2
      subst h1 h2
      exact hq
    · rw [if_neg hq] at k; cases k

/-- Of what kind bytes are: at most one is read. -/
theorem kind_one (b : List UInt8) : (readPn b = none ∧ readLg b = none ∧ readQ b = none ∧ readCt b = none) ∨ ((∃ p, readPn b = some p) ∧ readLg b = none ∧ readQ b = none ∧ readCt b = none) ∨ (readPn b = none ∧ (∃ p, readLg b = some p) ∧ readQ b = none ∧ readCt b = none) ∨ (readPn b = none ∧ readLg b = none ∧ (∃ p, readQ b = some p) ∧ readCt b = none) ∨ (readPn b = none ∧ readLg b = none ∧ readQ b = none ∧ ∃ p, readCt b = some p) := by
  have h1 : ∀ p, readPn b = some p → ∃ t, b = 80 :: t := fun p h => by
    obtain ⟨_, e⟩ := readPn_bytes h
    exact ⟨_, e.symm⟩
  have h2 : ∀ p, readLg b = some p → ∃ t, b = 76 :: t := fun p h => legF_head (readLg_bytes (s := p.1) (h := p.2) h)
  have h3 : ∀ p, readQ b = some p → ∃ t, b = 81 :: t := fun p h => (queueF_head (readQ_bytes h)).1
  have h4 : ∀ p, readCt b = some p → ∃ t, b = 67 :: t := fun p h => countF_head (readCt_bytes (n := p.1) (m := p.2) h)
  have hd : ∀ {c c' : UInt8} {t t' : List UInt8}, b = c :: t → b = c' :: t' → c = c' := fun e e' => by
    rw [e] at e'
    injection e'
  cases k1 : readPn b with
  | some p =>
    obtain ⟨t1, e1⟩ := h1 p k1
    refine .inr (.inl ⟨⟨p, rfl⟩, ?_, ?_, ?_⟩)
    · cases k2 : readLg b with
      | none => rfl
      | some q => obtain ⟨t2, e2⟩ := h2 q k2; exact absurd (hd e1 e2) (by decide)
    · cases k2 : readQ b with
      | none => rfl
      | some q => obtain ⟨t2, e2⟩ := h3 q k2; exact absurd (hd e1 e2) (by decide)
    · cases k2 : readCt b with
      | none => rfl
      | some q => obtain ⟨t2, e2⟩ := h4 q k2; exact absurd (hd e1 e2) (by decide)
  | none =>
    cases k2 : readLg b with
    | some p =>
      obtain ⟨t1, e1⟩ := h2 p k2
      refine .inr (.inr (.inl ⟨rfl, ⟨p, rfl⟩, ?_, ?_⟩))
      · cases k3 : readQ b with
        | none => rfl
        | some q => obtain ⟨t2, e2⟩ := h3 q k3; exact absurd (hd e1 e2) (by decide)
      · cases k3 : readCt b with
        | none => rfl
        | some q => obtain ⟨t2, e2⟩ := h4 q k3; exact absurd (hd e1 e2) (by decide)
    | none =>
      cases k3 : readQ b with
      | some p =>
        obtain ⟨t1, e1⟩ := h3 p k3
        refine .inr (.inr (.inr (.inl ⟨rfl, rfl, ⟨p, rfl⟩, ?_⟩)))
        cases k4 : readCt b with
        | none => rfl
        | some q => obtain ⟨t2, e2⟩ := h4 q k4; exact absurd (hd e1 e2) (by decide)
      | none =>
        cases k4 : readCt b with
        | none => exact .inl ⟨rfl, rfl, rfl, rfl⟩
        | some p => exact .inr (.inr (.inr (.inr ⟨rfl, rfl, rfl, ⟨p, rfl⟩⟩)))

/- What the readers answer. -/
theorem rdP_no {b : List UInt8} (h : readPn b = none) (v : Value) (w : World) (hv : HasE byteC w v b) (hl : b.length ≤ 20000) : Calls Tryd.prog 40 #[v] w fun e w' => e = .returned (.tuple #[.agg #[.string ⟨#[]⟩, .string ⟨#[]⟩, .slice none 0 0, .slice none 0 0, .slice none 0 0, .int .i64 0, .int .i64 0, .int .i64 0, .string ⟨#[]⟩, .slice none 0 0, .slice none 0 0, .bool false], .int .i64 4]) ∧ Below w.heap.size w w' := by
  refine (readPnr_any v b w hv hl).mono ?_
  rintro e w' ⟨⟨p, _, _, _, _, _, h1, _⟩ | ⟨_, h1⟩, h2⟩
  · rw [h] at h1; cases h1
  · exact ⟨h1, h2⟩
theorem rdP_yes {b : List UInt8} {p : PnrT} (h : readPn b = some p) (v : Value) (w : World) (hv : HasE byteC w v b) (hl : b.length ≤ 20000) : Calls Tryd.prog 40 #[v] w fun e w' => (∃ p1 n1 c1 p2 n2 c2 p3 n3 c3 p4 n4 c4 p5 n5 c5, e = .returned (.tuple #[.agg #[.string p.loc, .string p.off, .slice p1 n1 c1, .slice p2 n2 c2, .slice p3 n3 c3, .int .i64 p.tk, .int .i64 p.td, .int .i64 p.tm, .string p.recv, .slice p4 n4 c4, .slice p5 n5 c5, .bool p.queued], .int .i64 0]) ∧ PIn w' p (.slice p1 n1 c1) (.slice p2 n2 c2) (.slice p3 n3 c3) (.slice p4 n4 c4) (.slice p5 n5 c5)) ∧ Below w.heap.size w w' := by
  refine (readPnr_any v b w hv hl).mono ?_
  rintro e w' ⟨⟨q, vn, vs, vp, vr, vx, h1, h3, h4⟩ | ⟨h1, _⟩, h2⟩
  · rw [h] at h1
    injection h1 with h1
    subst h1
    obtain ⟨p1, c1, rfl⟩ := h4.n.len
    obtain ⟨p2, c2, rfl⟩ := h4.s.len
    obtain ⟨p3, c3, rfl⟩ := own_len h4.ph
    obtain ⟨p4, c4, rfl⟩ := own_len h4.rm
    obtain ⟨p5, c5, rfl⟩ := h4.x.len
    exact ⟨⟨_, _, _, _, _, _, _, _, _, _, _, _, _, _, _, h3, h4⟩, h2⟩
  · rw [h] at h1; cases h1
theorem rdL_no {b : List UInt8} (h : readLg b = none) (v : Value) (w : World) (hv : HasE byteC w v b) (hl : b.length ≤ 20000) : Calls Tryd.prog 36 #[v] w fun e w' => e = .returned (.tuple #[.agg #[.slice none 0 0, .slice none 0 0], .int .i64 4]) ∧ Below w.heap.size w w' := by
  refine (readLeg_any v b w hv hl).mono ?_
  rintro e w' ⟨⟨s, hh, _, _, h1, _⟩ | ⟨_, h1⟩, h2⟩
  · rw [h] at h1; cases h1
  · exact ⟨h1, h2⟩
theorem rdL_yes {b : List UInt8} {s : List SoldT} {hh : List HeldT} (h : readLg b = some (s, hh)) (v : Value) (w : World) (hv : HasE byteC w v b) (hl : b.length ≤ 20000) : Calls Tryd.prog 36 #[v] w fun e w' => (∃ p1 n1 c1 p2 n2 c2, e = .returned (.tuple #[.agg #[.slice p1 n1 c1, .slice p2 n2 c2], .int .i64 0]) ∧ HasE soldC w' (.slice p1 n1 c1) s ∧ HasE heldC w' (.slice p2 n2 c2) hh ∧ ∀ x ∈ hh, x.loc.size ≤ maxLen) ∧ Below w.heap.size w w' := by
  refine (readLeg_any v b w hv hl).mono ?_
  rintro e w' ⟨⟨s', h', vs, vh, h1, h3, h4, h5, h6⟩ | ⟨h1, _⟩, h2⟩
  · rw [h] at h1
    injection h1 with h1
    injection h1 with e1 e2
    subst e1 e2
    obtain ⟨p1, c1, rfl⟩ := h4.len
    obtain ⟨p2, c2, rfl⟩ := h5.len
    exact ⟨⟨_, _, _, _, _, _, h3, h4, h5, h6⟩, h2⟩
  · rw [h] at h1; cases h1
theorem rdQ_no {b : List UInt8} (h : readQ b = none) (v : Value) (w : World) (hv : HasE byteC w v b) (hl : b.length ≤ 20000) : Calls Tryd.prog 23 #[v] w fun e w' => e = .returned (.tuple #[.slice none 0 0, .int .i64 4]) ∧ Below w.heap.size w w' := by
  refine (readQueue_any v b w hv hl).mono ?_
  rintro e w' ⟨⟨l, _, h1, _⟩ | ⟨_, h1⟩, h2⟩
  · rw [h] at h1; cases h1
  · exact ⟨h1, h2⟩
theorem rdQ_yes {b : List UInt8} {l0 : List (List UInt8)} (h : readQ b = some l0) (v : Value) (w : World) (hv : HasE byteC w v b) (hl : b.length ≤ 20000) : Calls Tryd.prog 23 #[v] w fun e w' => (∃ p n c l, e = .returned (.tuple #[.slice p n c, .int .i64 0]) ∧ HasL w' (.slice p n c) l ∧ l0 = l.map toL) ∧ Below w.heap.size w w' := by
  refine (readQueue_any v b w hv hl).mono ?_
  rintro e w' ⟨⟨l, v', h1, h3, h4⟩ | ⟨h1, _⟩, h2⟩
  · rw [h] at h1
    injection h1 with h1
    obtain ⟨p, c, rfl⟩ := own_len h4.has
    exact ⟨⟨_, _, _, l, h3, h4.has, h1⟩, h2⟩
  · rw [h] at h1; cases h1
theorem rdC_no {b : List UInt8} (h : readCt b = none) (v : Value) (w : World) (hv : HasE byteC w v b) (hl : b.length ≤ 20000) : Calls Tryd.prog 26 #[v] w fun e w' => e = .returned (.tuple #[.agg #[.int .i64 0, .int .i64 0], .int .i64 4]) ∧ Below w.heap.size w w' := by
  refine (readCount_any v b w hv hl).mono ?_
  rintro e w' ⟨⟨n, m, h1, _⟩ | ⟨_, h1⟩, h2⟩
  · rw [h] at h1; cases h1
  · exact ⟨h1, h2⟩
theorem rdC_yes {b : List UInt8} {n m : Nat} (h : readCt b = some (n, m)) (v : Value) (w : World) (hv : HasE byteC w v b) (hl : b.length ≤ 20000) : Calls Tryd.prog 26 #[v] w fun e w' => e = .returned (.tuple #[.agg #[.int .i64 n, .int .i64 m], .int .i64 0]) ∧ Below w.heap.size w w' := by
  refine (readCount_any v b w hv hl).mono ?_
  rintro e w' ⟨⟨n', m', h1, h3⟩ | ⟨h1, _⟩, h2⟩
  · rw [h] at h1
    injection h1 with h1
    injection h1 with e1 e2
    subst e1 e2
    exact ⟨h3, h2⟩
  · rw [h] at h1; cases h1

/-- Bytes that are written. -/
theorem by_some {B : Nat} {b : List UInt8} {o : Option (List UInt8)} (ho : o = some b) {e : Ending} {w : World} (h : byP B o e w) : ∃ p n c, e = .returned (.tuple #[.slice p n c, .int .i64 0]) ∧ HasE byteC w (.slice p n c) b := by
  rcases h with ⟨bs, v, h1, h2, h3⟩ | ⟨h1, _⟩
  · rw [ho] at h1
    injection h1 with h1
    subst h1
    obtain ⟨p, n, c, rfl⟩ := own_form h3
    exact ⟨_, _, _, h2, h3.has⟩
  · rw [ho] at h1; cases h1

theorem nine_one {l1 l2 l3 : ByteArray} {p1 p2 p3 p4 p5 : Option Addr} {n1 n2 n3 n4 n5 c1 c2 c3 c4 c5 : Nat} {a b c : Int} {q : Bool} : ∀ v ∈ ([.string l1, .string l2, .slice p1 n1 c1, .slice p2 n2 c2, .slice p3 n3 c3, .int .i64 a, .int .i64 b, .int .i64 c, .string l3, .slice p4 n4 c4, .slice p5 n5 c5, .bool q] : List Value), v.oneCell' = true := by
  intro v hv
  simp only [List.mem_cons, List.not_mem_nil, or_false] at hv
  rcases hv with rfl | rfl | rfl | rfl | rfl | rfl | rfl | rfl | rfl | rfl | rfl | rfl <;> rfl

set_option maxHeartbeats 16000000 in
theorem only_none (p3 : Option Addr) (c3 : Nat) (b : List UInt8) (w : World) (hb : HasE byteC w (.slice p3 b.length c3) b) (hl : b.length ≤ 20000) (h1 : readPn b = none) (h2 : readLg b = none) (h3 : readQ b = none) (h4 : readCt b = none) :
    Calls Tryd.prog 12 #[.slice p3 b.length c3] w fun e w' => e = .returned (.bool true) ∧ Below w.heap.size w w' := by
  have HRP : RowKit.Hid (∀ W, HasE byteC W (.slice p3 b.length c3) b → Calls Tryd.prog 40 #[.slice p3 b.length c3] W fun e w' => e = .returned (.tuple #[.agg #[.string ⟨#[]⟩, .string ⟨#[]⟩, .slice none 0 0, .slice none 0 0, .slice none 0 0, .int .i64 0, .int .i64 0, .int .i64 0, .string ⟨#[]⟩, .slice none 0 0, .slice none 0 0, .bool false], .int .i64 4]) ∧ Below W.heap.size W w') := Lib.hid fun W k => rdP_no h1 _ W k hl
  have HRL : RowKit.Hid (∀ W, HasE byteC W (.slice p3 b.length c3) b → Calls Tryd.prog 36 #[.slice p3 b.length c3] W fun e w' => e = .returned (.tuple #[.agg #[.slice none 0 0, .slice none 0 0], .int .i64 4]) ∧ Below W.heap.size W w') := Lib.hid fun W k => rdL_no h2 _ W k hl
  have HRQ : RowKit.Hid (∀ W, HasE byteC W (.slice p3 b.length c3) b → Calls Tryd.prog 23 #[.slice p3 b.length c3] W fun e w' => e = .returned (.tuple #[.slice none 0 0, .int .i64 4]) ∧ Below W.heap.size W w') := Lib.hid fun W k => rdQ_no h3 _ W k hl
  have HRC : RowKit.Hid (∀ W, HasE byteC W (.slice p3 b.length c3) b → Calls Tryd.prog 26 #[.slice p3 b.length c3] W fun e w' => e = .returned (.tuple #[.agg #[.int .i64 0, .int .i64 0], .int .i64 4]) ∧ Below W.heap.size W w') := Lib.hid fun W k => rdC_no h4 _ W k hl
  have HAW := Lib.hid awake_any
  have HLO := Lib.hid (long_any p3 b.length c3)
  rw [decide_eq_false (show ¬ 20000 < b.length by omega)] at HLO
  have HB := Lib.hid hb
  have HCV : RowKit.Hid (∀ W, HasE byteC W (.slice p3 b.length c3) b → (convert 48 9 (.slice p3 b.length c3)).run Tryd.prog W = .ok (.string ⟨b.toArray⟩) W) := Lib.hid fun W h => conv_has h
  clear hb hl h1 h2 h3 h4
  generalize b.length = X at *
  go_enter Tryd.func12, Tryd.ntmps12
  go_wp2_with (first
    | (go_at_call 13; (with_reducible refine (HAW.out _).mono ?_); rintro e w1 ⟨rfl, hb1⟩)
    | (go_at_call 17; (with_reducible refine (HLO.out _).mono ?_); rintro e w2 ⟨rfl, rfl⟩)
    | (go_at_call 40; (with_reducible refine (HRP.out _ (HB.out.mono hb1)).mono ?_); rintro e w3 ⟨rfl, hb3⟩)
    | (refine wpList_store_blk rfl 29 (.tmp 4) (.tmp 27) rfl w3.heap.size 29 [.string ⟨#[]⟩, .string ⟨#[]⟩, .slice none 0 0, .slice none 0 0, .slice none 0 0, .int .i64 0, .int .i64 0, .int .i64 0, .string ⟨#[]⟩, .slice none 0 0, .slice none 0 0, .bool false] [.string ⟨#[]⟩, .string ⟨#[]⟩, .slice none 0 0, .slice none 0 0, .slice none 0 0, .int .i64 0, .int .i64 0, .int .i64 0, .string ⟨#[]⟩, .slice none 0 0, .slice none 0 0, .bool false] rfl rfl (Blk.new w3 29 [.string ⟨#[]⟩, .string ⟨#[]⟩, .slice none 0 0, .slice none 0 0, .slice none 0 0, .int .i64 0, .int .i64 0, .int .i64 0, .string ⟨#[]⟩, .slice none 0 0, .slice none 0 0, .bool false]) rfl info_pnr nine_one ?_; intro w4 ha4 hb4 hg4; have hb34 : Below w3.heap.size w3 w4 := ((Below.refl _ _).alloc (Nat.le_refl _) _).trans hb4; have hbP := bel_trans (bel_trans hb1 hb3) hb34)
    | (go_at_call 36; (with_reducible refine (HRL.out _ (HB.out.mono hbP)).mono ?_); rintro e w6 ⟨rfl, hb6⟩)
    | (refine wpList_store_blk rfl 90 (.tmp 8) (.tmp 50) rfl w6.heap.size 90 [.slice none 0 0, .slice none 0 0] [.slice none 0 0, .slice none 0 0] rfl rfl (Blk.new w6 90 [.slice none 0 0, .slice none 0 0]) rfl info_leg two_one ?_; intro w7 ha7 hb7 hg7; have hb67 : Below w6.heap.size w6 w7 := ((Below.refl _ _).alloc (Nat.le_refl _) _).trans hb7; have hbL := bel_trans (bel_trans hbP hb6) hb67)
    | (go_at_call 23; (with_reducible refine (HRQ.out _ (HB.out.mono hbL)).mono ?_); rintro e w9 ⟨rfl, hb9⟩; have hbQ := bel_trans hbL hb9)
    | (go_at_call 26; (with_reducible refine (HRC.out _ (HB.out.mono hbQ)).mono ?_); rintro e w11 ⟨rfl, hb11⟩; have hbR := bel_trans (bel_trans hbQ hb11) ((Below.refl _ _).alloc (Nat.le_refl _) (.cells #[.int .i64 0, .int .i64 0] 58))))
  go_ret
  exact ⟨rfl, hbR⟩

set_option maxHeartbeats 16000000 in
theorem only_pnr (p3 : Option Addr) (c3 : Nat) (b : List UInt8) (w : World) (hb : HasE byteC w (.slice p3 b.length c3) b) (hl : b.length ≤ 20000) {q : PnrT} (h1 : readPn b = some q) (h2 : readLg b = none) (h3 : readQ b = none) (h4 : readCt b = none) :
    Calls Tryd.prog 12 #[.slice p3 b.length c3] w fun e w' => e = .returned (.bool true) ∧ Below w.heap.size w w' := by
  obtain ⟨hsp, hpb⟩ := readPn_bytes h1
  have hpf : pnrF q = some b := by rw [pnrF_yes hsp, hpb]
  have HWP : RowKit.Hid (∀ v1 v2 v3 v4 v5 W, PIn W q v1 v2 v3 v4 v5 → Calls Tryd.prog 39 #[.agg #[.string q.loc, .string q.off, v1, v2, v3, .int .i64 q.tk, .int .i64 q.td, .int .i64 q.tm, .string q.recv, v4, v5, .bool q.queued]] W fun e w' => (∃ p n c, e = .returned (.tuple #[.slice p n c, .int .i64 0]) ∧ HasE byteC w' (.slice p n c) b) ∧ Below W.heap.size W w') := Lib.hid fun v1 v2 v3 v4 v5 W h => (pnr_any q v1 v2 v3 v4 v5 W h).mono fun e w' k => ⟨by_some hpf k.1, k.2⟩
  clear hsp hpb hpf
  have HRP : RowKit.Hid (∀ W, HasE byteC W (.slice p3 b.length c3) b → Calls Tryd.prog 40 #[.slice p3 b.length c3] W fun e w' => (∃ p1 n1 c1 p2 n2 c2 p3 n3 c3 p4 n4 c4 p5 n5 c5, e = .returned (.tuple #[.agg #[.string q.loc, .string q.off, .slice p1 n1 c1, .slice p2 n2 c2, .slice p3 n3 c3, .int .i64 q.tk, .int .i64 q.td, .int .i64 q.tm, .string q.recv, .slice p4 n4 c4, .slice p5 n5 c5, .bool q.queued], .int .i64 0]) ∧ PIn w' q (.slice p1 n1 c1) (.slice p2 n2 c2) (.slice p3 n3 c3) (.slice p4 n4 c4) (.slice p5 n5 c5)) ∧ Below W.heap.size W w') := Lib.hid fun W k => rdP_yes h1 _ W k hl
  have HRL : RowKit.Hid (∀ W, HasE byteC W (.slice p3 b.length c3) b → Calls Tryd.prog 36 #[.slice p3 b.length c3] W fun e w' => e = .returned (.tuple #[.agg #[.slice none 0 0, .slice none 0 0], .int .i64 4]) ∧ Below W.heap.size W w') := Lib.hid fun W k => rdL_no h2 _ W k hl
  have HRQ : RowKit.Hid (∀ W, HasE byteC W (.slice p3 b.length c3) b → Calls Tryd.prog 23 #[.slice p3 b.length c3] W fun e w' => e = .returned (.tuple #[.slice none 0 0, .int .i64 4]) ∧ Below W.heap.size W w') := Lib.hid fun W k => rdQ_no h3 _ W k hl
  have HRC : RowKit.Hid (∀ W, HasE byteC W (.slice p3 b.length c3) b → Calls Tryd.prog 26 #[.slice p3 b.length c3] W fun e w' => e = .returned (.tuple #[.agg #[.int .i64 0, .int .i64 0], .int .i64 4]) ∧ Below W.heap.size W w') := Lib.hid fun W k => rdC_no h4 _ W k hl
  have HAW := Lib.hid awake_any
  have HLO := Lib.hid (long_any p3 b.length c3)
  rw [decide_eq_false (show ¬ 20000 < b.length by omega)] at HLO
  have HB := Lib.hid hb
  have HCV : RowKit.Hid (∀ W, HasE byteC W (.slice p3 b.length c3) b → (convert 48 9 (.slice p3 b.length c3)).run Tryd.prog W = .ok (.string ⟨b.toArray⟩) W) := Lib.hid fun W h => conv_has h
  clear hb hl h1 h2 h3 h4
  generalize b.length = X at *
  go_enter Tryd.func12, Tryd.ntmps12
  go_wp2_with (first
    | (go_at_call 13; (with_reducible refine (HAW.out _).mono ?_); rintro e w1 ⟨rfl, hb1⟩)
    | (go_at_call 17; (with_reducible refine (HLO.out _).mono ?_); rintro e w2 ⟨rfl, rfl⟩)
    | (go_at_call 40; (with_reducible refine (HRP.out _ (HB.out.mono hb1)).mono ?_); rintro e w3 ⟨⟨p1, n1, c1, p2, n2, c2, p3, n3, c3, p4, n4, c4, p5, n5, c5, rfl, hq3⟩, hb3⟩)
    | (refine wpList_store_blk rfl 29 (.tmp 4) (.tmp 27) rfl w3.heap.size 29 [.string ⟨#[]⟩, .string ⟨#[]⟩, .slice none 0 0, .slice none 0 0, .slice none 0 0, .int .i64 0, .int .i64 0, .int .i64 0, .string ⟨#[]⟩, .slice none 0 0, .slice none 0 0, .bool false] [.string q.loc, .string q.off, .slice p1 n1 c1, .slice p2 n2 c2, .slice p3 n3 c3, .int .i64 q.tk, .int .i64 q.td, .int .i64 q.tm, .string q.recv, .slice p4 n4 c4, .slice p5 n5 c5, .bool q.queued] rfl rfl (Blk.new w3 29 [.string ⟨#[]⟩, .string ⟨#[]⟩, .slice none 0 0, .slice none 0 0, .slice none 0 0, .int .i64 0, .int .i64 0, .int .i64 0, .string ⟨#[]⟩, .slice none 0 0, .slice none 0 0, .bool false]) rfl info_pnr nine_one ?_; intro w4 ha4 hb4 hg4; have hb34 : Below w3.heap.size w3 w4 := ((Below.refl _ _).alloc (Nat.le_refl _) _).trans hb4; have hq4 := Lib.hid (hq3.mono hb34); have hrr := ha4.range; have hbX := bel_trans (bel_trans hb1 hb3) hb34)
    | (refine wpList_load_mid rfl 29 (.tmp 4) rfl w3.heap.size 0 rfl [.string q.loc, .string q.off, .slice p1 n1 c1, .slice p2 n2 c2, .slice p3 n3 c3, .int .i64 q.tk, .int .i64 q.td, .int .i64 q.tm, .string q.recv, .slice p4 n4 c4, .slice p5 n5 c5, .bool q.queued] _ hrr Tryd.underlying29 rfl info_pnr ?_)
    | (go_at_call 39; (with_reducible refine (HWP.out _ _ _ _ _ _ hq4.out).mono ?_); rintro e w5 ⟨⟨pa, na, ca, rfl, hy5⟩, hb5⟩; have hcy := conv_has hy5; have hbP := bel_trans hbX hb5; have hcv := HCV.out _ (HB.out.mono hbP))
    | (go_at_call 36; (with_reducible refine (HRL.out _ (HB.out.mono hbP)).mono ?_); rintro e w6 ⟨rfl, hb6⟩)
    | (refine wpList_store_blk rfl 90 (.tmp 8) (.tmp 50) rfl w6.heap.size 90 [.slice none 0 0, .slice none 0 0] [.slice none 0 0, .slice none 0 0] rfl rfl (Blk.new w6 90 [.slice none 0 0, .slice none 0 0]) rfl info_leg two_one ?_; intro w7 ha7 hb7 hg7; have hb67 : Below w6.heap.size w6 w7 := ((Below.refl _ _).alloc (Nat.le_refl _) _).trans hb7; have hbL := bel_trans (bel_trans hbP hb6) hb67)
    | (go_at_call 23; (with_reducible refine (HRQ.out _ (HB.out.mono hbL)).mono ?_); rintro e w9 ⟨rfl, hb9⟩; have hbQ := bel_trans hbL hb9)
    | (go_at_call 26; (with_reducible refine (HRC.out _ (HB.out.mono hbQ)).mono ?_); rintro e w11 ⟨rfl, hb11⟩; have hbR := bel_trans (bel_trans hbQ hb11) ((Below.refl _ _).alloc (Nat.le_refl _) (.cells #[.int .i64 0, .int .i64 0] 58))))
  go_ret
  exact ⟨rfl, hbR⟩

set_option maxHeartbeats 16000000 in
theorem only_leg (p3 : Option Addr) (c3 : Nat) (b : List UInt8) (w : World) (hb : HasE byteC w (.slice p3 b.length c3) b) (hl : b.length ≤ 20000) {s : List SoldT} {hh : List HeldT} (h1 : readPn b = none) (h2 : readLg b = some (s, hh)) (h3 : readQ b = none) (h4 : readCt b = none) :
    Calls Tryd.prog 12 #[.slice p3 b.length c3] w fun e w' => e = .returned (.bool true) ∧ Below w.heap.size w w' := by
  have hlf := readLg_bytes h2
  have HWL : RowKit.Hid (∀ W v1 v2, HasE soldC W v1 s → HasE heldC W v2 hh → (∀ x ∈ hh, x.loc.size ≤ maxLen) → Calls Tryd.prog 33 #[.agg #[v1, v2]] W fun e w' => (∃ p n c, e = .returned (.tuple #[.slice p n c, .int .i64 0]) ∧ HasE byteC w' (.slice p n c) b) ∧ Below W.heap.size W w') := Lib.hid fun W v1 v2 k1 k2 k3 => (ofLeg_any s hh v1 v2 W k1 k2 k3).mono fun e w' k => ⟨by_some hlf k.1, k.2⟩
  clear hlf
  have HRP : RowKit.Hid (∀ W, HasE byteC W (.slice p3 b.length c3) b → Calls Tryd.prog 40 #[.slice p3 b.length c3] W fun e w' => e = .returned (.tuple #[.agg #[.string ⟨#[]⟩, .string ⟨#[]⟩, .slice none 0 0, .slice none 0 0, .slice none 0 0, .int .i64 0, .int .i64 0, .int .i64 0, .string ⟨#[]⟩, .slice none 0 0, .slice none 0 0, .bool false], .int .i64 4]) ∧ Below W.heap.size W w') := Lib.hid fun W k => rdP_no h1 _ W k hl
  have HRL : RowKit.Hid (∀ W, HasE byteC W (.slice p3 b.length c3) b → Calls Tryd.prog 36 #[.slice p3 b.length c3] W fun e w' => (∃ p1 n1 c1 p2 n2 c2, e = .returned (.tuple #[.agg #[.slice p1 n1 c1, .slice p2 n2 c2], .int .i64 0]) ∧ HasE soldC w' (.slice p1 n1 c1) s ∧ HasE heldC w' (.slice p2 n2 c2) hh ∧ ∀ x ∈ hh, x.loc.size ≤ maxLen) ∧ Below W.heap.size W w') := Lib.hid fun W k => rdL_yes h2 _ W k hl
  have HRQ : RowKit.Hid (∀ W, HasE byteC W (.slice p3 b.length c3) b → Calls Tryd.prog 23 #[.slice p3 b.length c3] W fun e w' => e = .returned (.tuple #[.slice none 0 0, .int .i64 4]) ∧ Below W.heap.size W w') := Lib.hid fun W k => rdQ_no h3 _ W k hl
  have HRC : RowKit.Hid (∀ W, HasE byteC W (.slice p3 b.length c3) b → Calls Tryd.prog 26 #[.slice p3 b.length c3] W fun e w' => e = .returned (.tuple #[.agg #[.int .i64 0, .int .i64 0], .int .i64 4]) ∧ Below W.heap.size W w') := Lib.hid fun W k => rdC_no h4 _ W k hl
  have HAW := Lib.hid awake_any
  have HLO := Lib.hid (long_any p3 b.length c3)
  rw [decide_eq_false (show ¬ 20000 < b.length by omega)] at HLO
  have HB := Lib.hid hb
  have HCV : RowKit.Hid (∀ W, HasE byteC W (.slice p3 b.length c3) b → (convert 48 9 (.slice p3 b.length c3)).run Tryd.prog W = .ok (.string ⟨b.toArray⟩) W) := Lib.hid fun W h => conv_has h
  clear hb hl h1 h2 h3 h4
  generalize b.length = X at *
  go_enter Tryd.func12, Tryd.ntmps12
  go_wp2_with (first
    | (go_at_call 13; (with_reducible refine (HAW.out _).mono ?_); rintro e w1 ⟨rfl, hb1⟩)
    | (go_at_call 17; (with_reducible refine (HLO.out _).mono ?_); rintro e w2 ⟨rfl, rfl⟩)
    | (go_at_call 40; (with_reducible refine (HRP.out _ (HB.out.mono hb1)).mono ?_); rintro e w3 ⟨rfl, hb3⟩)
    | (refine wpList_store_blk rfl 29 (.tmp 4) (.tmp 27) rfl w3.heap.size 29 [.string ⟨#[]⟩, .string ⟨#[]⟩, .slice none 0 0, .slice none 0 0, .slice none 0 0, .int .i64 0, .int .i64 0, .int .i64 0, .string ⟨#[]⟩, .slice none 0 0, .slice none 0 0, .bool false] [.string ⟨#[]⟩, .string ⟨#[]⟩, .slice none 0 0, .slice none 0 0, .slice none 0 0, .int .i64 0, .int .i64 0, .int .i64 0, .string ⟨#[]⟩, .slice none 0 0, .slice none 0 0, .bool false] rfl rfl (Blk.new w3 29 [.string ⟨#[]⟩, .string ⟨#[]⟩, .slice none 0 0, .slice none 0 0, .slice none 0 0, .int .i64 0, .int .i64 0, .int .i64 0, .string ⟨#[]⟩, .slice none 0 0, .slice none 0 0, .bool false]) rfl info_pnr nine_one ?_; intro w4 ha4 hb4 hg4; have hb34 : Below w3.heap.size w3 w4 := ((Below.refl _ _).alloc (Nat.le_refl _) _).trans hb4; have hbP := bel_trans (bel_trans hb1 hb3) hb34)
    | (go_at_call 36; (with_reducible refine (HRL.out _ (HB.out.mono hbP)).mono ?_); rintro e w6 ⟨⟨p1, n1, c1, p2, n2, c2, rfl, hs6, hh6, hz6⟩, hb6⟩)
    | (refine wpList_store_blk rfl 90 (.tmp 8) (.tmp 50) rfl w6.heap.size 90 [.slice none 0 0, .slice none 0 0] [.slice p1 n1 c1, .slice p2 n2 c2] rfl rfl (Blk.new w6 90 [.slice none 0 0, .slice none 0 0]) rfl info_leg two_one ?_; intro w7 ha7 hb7 hg7; have hb67 : Below w6.heap.size w6 w7 := ((Below.refl _ _).alloc (Nat.le_refl _) _).trans hb7; have hrr := ha7.range; have hs7 := Lib.hid (hs6.mono hb67); have hh7 := Lib.hid (hh6.mono hb67); have hz7 := Lib.hid hz6; clear hz6; have hbY := bel_trans (bel_trans hbP hb6) hb67)
    | (refine wpList_load_mid rfl 90 (.tmp 8) rfl w6.heap.size 0 rfl [.slice p1 n1 c1, .slice p2 n2 c2] _ hrr Tryd.underlying90 rfl info_leg ?_)
    | (go_at_call 33; (with_reducible refine (HWL.out _ _ _ hs7.out hh7.out hz7.out).mono ?_); rintro e w8 ⟨⟨pa, na, ca, rfl, hy8⟩, hb8⟩; have hcy := conv_has hy8; have hbL := bel_trans hbY hb8; have hcv := HCV.out _ (HB.out.mono hbL))
    | (go_at_call 23; (with_reducible refine (HRQ.out _ (HB.out.mono hbL)).mono ?_); rintro e w9 ⟨rfl, hb9⟩; have hbQ := bel_trans hbL hb9)
    | (go_at_call 26; (with_reducible refine (HRC.out _ (HB.out.mono hbQ)).mono ?_); rintro e w11 ⟨rfl, hb11⟩; have hbR := bel_trans (bel_trans hbQ hb11) ((Below.refl _ _).alloc (Nat.le_refl _) (.cells #[.int .i64 0, .int .i64 0] 58))))
  go_ret
  exact ⟨rfl, hbR⟩

set_option maxHeartbeats 16000000 in
theorem only_queue (p3 : Option Addr) (c3 : Nat) (b : List UInt8) (w : World) (hb : HasE byteC w (.slice p3 b.length c3) b) (hl : b.length ≤ 20000) {l0 : List (List UInt8)} (h1 : readPn b = none) (h2 : readLg b = none) (h3 : readQ b = some l0) (h4 : readCt b = none) :
    Calls Tryd.prog 12 #[.slice p3 b.length c3] w fun e w' => e = .returned (.bool true) ∧ Below w.heap.size w w' := by
  have hqf := readQ_bytes h3
  have HWQ : RowKit.Hid (∀ W v1 (l : List ByteArray), l0 = l.map toL → HasL W v1 l → Calls Tryd.prog 18 #[v1] W fun e w' => (∃ p n c, e = .returned (.tuple #[.slice p n c, .int .i64 0]) ∧ HasE byteC w' (.slice p n c) b) ∧ Below W.heap.size W w') := Lib.hid fun W v1 l e1 k => by
    subst e1
    refine (queue_any v1 l W k fun s hs => ?_).mono fun e w' k => ⟨by_some hqf k.1, k.2⟩
    have h6 := lettersS_len ((queueF_head hqf).2 (toL s) (List.mem_map_of_mem hs))
    have e2 : s.size = (toL s).length := (size_toL s).symm
    unfold maxLen
    omega
  clear hqf
  have HRP : RowKit.Hid (∀ W, HasE byteC W (.slice p3 b.length c3) b → Calls Tryd.prog 40 #[.slice p3 b.length c3] W fun e w' => e = .returned (.tuple #[.agg #[.string ⟨#[]⟩, .string ⟨#[]⟩, .slice none 0 0, .slice none 0 0, .slice none 0 0, .int .i64 0, .int .i64 0, .int .i64 0, .string ⟨#[]⟩, .slice none 0 0, .slice none 0 0, .bool false], .int .i64 4]) ∧ Below W.heap.size W w') := Lib.hid fun W k => rdP_no h1 _ W k hl
  have HRL : RowKit.Hid (∀ W, HasE byteC W (.slice p3 b.length c3) b → Calls Tryd.prog 36 #[.slice p3 b.length c3] W fun e w' => e = .returned (.tuple #[.agg #[.slice none 0 0, .slice none 0 0], .int .i64 4]) ∧ Below W.heap.size W w') := Lib.hid fun W k => rdL_no h2 _ W k hl
  have HRQ : RowKit.Hid (∀ W, HasE byteC W (.slice p3 b.length c3) b → Calls Tryd.prog 23 #[.slice p3 b.length c3] W fun e w' => (∃ p n c l, e = .returned (.tuple #[.slice p n c, .int .i64 0]) ∧ HasL w' (.slice p n c) l ∧ l0 = l.map toL) ∧ Below W.heap.size W w') := Lib.hid fun W k => rdQ_yes h3 _ W k hl
  have HRC : RowKit.Hid (∀ W, HasE byteC W (.slice p3 b.length c3) b → Calls Tryd.prog 26 #[.slice p3 b.length c3] W fun e w' => e = .returned (.tuple #[.agg #[.int .i64 0, .int .i64 0], .int .i64 4]) ∧ Below W.heap.size W w') := Lib.hid fun W k => rdC_no h4 _ W k hl
  have HAW := Lib.hid awake_any
  have HLO := Lib.hid (long_any p3 b.length c3)
  rw [decide_eq_false (show ¬ 20000 < b.length by omega)] at HLO
  have HB := Lib.hid hb
  have HCV : RowKit.Hid (∀ W, HasE byteC W (.slice p3 b.length c3) b → (convert 48 9 (.slice p3 b.length c3)).run Tryd.prog W = .ok (.string ⟨b.toArray⟩) W) := Lib.hid fun W h => conv_has h
  clear hb hl h1 h2 h3 h4
  generalize b.length = X at *
  go_enter Tryd.func12, Tryd.ntmps12
  go_wp2_with (first
    | (go_at_call 13; (with_reducible refine (HAW.out _).mono ?_); rintro e w1 ⟨rfl, hb1⟩)
    | (go_at_call 17; (with_reducible refine (HLO.out _).mono ?_); rintro e w2 ⟨rfl, rfl⟩)
    | (go_at_call 40; (with_reducible refine (HRP.out _ (HB.out.mono hb1)).mono ?_); rintro e w3 ⟨rfl, hb3⟩)
    | (refine wpList_store_blk rfl 29 (.tmp 4) (.tmp 27) rfl w3.heap.size 29 [.string ⟨#[]⟩, .string ⟨#[]⟩, .slice none 0 0, .slice none 0 0, .slice none 0 0, .int .i64 0, .int .i64 0, .int .i64 0, .string ⟨#[]⟩, .slice none 0 0, .slice none 0 0, .bool false] [.string ⟨#[]⟩, .string ⟨#[]⟩, .slice none 0 0, .slice none 0 0, .slice none 0 0, .int .i64 0, .int .i64 0, .int .i64 0, .string ⟨#[]⟩, .slice none 0 0, .slice none 0 0, .bool false] rfl rfl (Blk.new w3 29 [.string ⟨#[]⟩, .string ⟨#[]⟩, .slice none 0 0, .slice none 0 0, .slice none 0 0, .int .i64 0, .int .i64 0, .int .i64 0, .string ⟨#[]⟩, .slice none 0 0, .slice none 0 0, .bool false]) rfl info_pnr nine_one ?_; intro w4 ha4 hb4 hg4; have hb34 : Below w3.heap.size w3 w4 := ((Below.refl _ _).alloc (Nat.le_refl _) _).trans hb4; have hbP := bel_trans (bel_trans hb1 hb3) hb34)
    | (go_at_call 36; (with_reducible refine (HRL.out _ (HB.out.mono hbP)).mono ?_); rintro e w6 ⟨rfl, hb6⟩)
    | (refine wpList_store_blk rfl 90 (.tmp 8) (.tmp 50) rfl w6.heap.size 90 [.slice none 0 0, .slice none 0 0] [.slice none 0 0, .slice none 0 0] rfl rfl (Blk.new w6 90 [.slice none 0 0, .slice none 0 0]) rfl info_leg two_one ?_; intro w7 ha7 hb7 hg7; have hb67 : Below w6.heap.size w6 w7 := ((Below.refl _ _).alloc (Nat.le_refl _) _).trans hb7; have hbL := bel_trans (bel_trans hbP hb6) hb67)
    | (go_at_call 23; (with_reducible refine (HRQ.out _ (HB.out.mono hbL)).mono ?_); rintro e w9 ⟨⟨p1, n1, c1, ql, rfl, hq9, hql⟩, hb9⟩; have HQL := Lib.hid hql; clear hql; have hq9h := Lib.hid hq9; clear hq9)
    | (go_at_call 18; (with_reducible refine (HWQ.out _ _ _ HQL.out hq9h.out).mono ?_); rintro e w10 ⟨⟨pa, na, ca, rfl, hy10⟩, hb10⟩; have hcy := conv_has hy10; have hbQ := bel_trans (bel_trans hbL hb9) hb10; have hcv := HCV.out _ (HB.out.mono hbQ))
    | (go_at_call 26; (with_reducible refine (HRC.out _ (HB.out.mono hbQ)).mono ?_); rintro e w11 ⟨rfl, hb11⟩; have hbR := bel_trans (bel_trans hbQ hb11) ((Below.refl _ _).alloc (Nat.le_refl _) (.cells #[.int .i64 0, .int .i64 0] 58))))
  go_ret
  exact ⟨rfl, hbR⟩

set_option maxHeartbeats 16000000 in
theorem only_count (p3 : Option Addr) (c3 : Nat) (b : List UInt8) (w : World) (hb : HasE byteC w (.slice p3 b.length c3) b) (hl : b.length ≤ 20000) {n m : Nat} (h1 : readPn b = none) (h2 : readLg b = none) (h3 : readQ b = none) (h4 : readCt b = some (n, m)) :
    Calls Tryd.prog 12 #[.slice p3 b.length c3] w fun e w' => e = .returned (.bool true) ∧ Below w.heap.size w w' := by
  have hcf := readCt_bytes h4
  have HWC : RowKit.Hid (∀ W, Calls Tryd.prog 21 #[.agg #[.int .i64 (n : Int), .int .i64 (m : Int)]] W fun e w' => (∃ p n c, e = .returned (.tuple #[.slice p n c, .int .i64 0]) ∧ HasE byteC w' (.slice p n c) b) ∧ Below W.heap.size W w') := Lib.hid fun W => (ofCount_any (n : Int) (m : Int) W).mono fun e w' k => ⟨by_some hcf k.1, k.2⟩
  clear hcf
  have HRP : RowKit.Hid (∀ W, HasE byteC W (.slice p3 b.length c3) b → Calls Tryd.prog 40 #[.slice p3 b.length c3] W fun e w' => e = .returned (.tuple #[.agg #[.string ⟨#[]⟩, .string ⟨#[]⟩, .slice none 0 0, .slice none 0 0, .slice none 0 0, .int .i64 0, .int .i64 0, .int .i64 0, .string ⟨#[]⟩, .slice none 0 0, .slice none 0 0, .bool false], .int .i64 4]) ∧ Below W.heap.size W w') := Lib.hid fun W k => rdP_no h1 _ W k hl
  have HRL : RowKit.Hid (∀ W, HasE byteC W (.slice p3 b.length c3) b → Calls Tryd.prog 36 #[.slice p3 b.length c3] W fun e w' => e = .returned (.tuple #[.agg #[.slice none 0 0, .slice none 0 0], .int .i64 4]) ∧ Below W.heap.size W w') := Lib.hid fun W k => rdL_no h2 _ W k hl
  have HRQ : RowKit.Hid (∀ W, HasE byteC W (.slice p3 b.length c3) b → Calls Tryd.prog 23 #[.slice p3 b.length c3] W fun e w' => e = .returned (.tuple #[.slice none 0 0, .int .i64 4]) ∧ Below W.heap.size W w') := Lib.hid fun W k => rdQ_no h3 _ W k hl
  have HRC : RowKit.Hid (∀ W, HasE byteC W (.slice p3 b.length c3) b → Calls Tryd.prog 26 #[.slice p3 b.length c3] W fun e w' => e = .returned (.tuple #[.agg #[.int .i64 (n : Int), .int .i64 (m : Int)], .int .i64 0]) ∧ Below W.heap.size W w') := Lib.hid fun W k => rdC_yes h4 _ W k hl
  have HAW := Lib.hid awake_any
  have HLO := Lib.hid (long_any p3 b.length c3)
  rw [decide_eq_false (show ¬ 20000 < b.length by omega)] at HLO
  have HB := Lib.hid hb
  have HCV : RowKit.Hid (∀ W, HasE byteC W (.slice p3 b.length c3) b → (convert 48 9 (.slice p3 b.length c3)).run Tryd.prog W = .ok (.string ⟨b.toArray⟩) W) := Lib.hid fun W h => conv_has h
  clear hb hl h1 h2 h3 h4
  generalize b.length = X at *
  go_enter Tryd.func12, Tryd.ntmps12
  go_wp2_with (first
    | (go_at_call 13; (with_reducible refine (HAW.out _).mono ?_); rintro e w1 ⟨rfl, hb1⟩)
    | (go_at_call 17; (with_reducible refine (HLO.out _).mono ?_); rintro e w2 ⟨rfl, rfl⟩)
    | (go_at_call 40; (with_reducible refine (HRP.out _ (HB.out.mono hb1)).mono ?_); rintro e w3 ⟨rfl, hb3⟩)
    | (refine wpList_store_blk rfl 29 (.tmp 4) (.tmp 27) rfl w3.heap.size 29 [.string ⟨#[]⟩, .string ⟨#[]⟩, .slice none 0 0, .slice none 0 0, .slice none 0 0, .int .i64 0, .int .i64 0, .int .i64 0, .string ⟨#[]⟩, .slice none 0 0, .slice none 0 0, .bool false] [.string ⟨#[]⟩, .string ⟨#[]⟩, .slice none 0 0, .slice none 0 0, .slice none 0 0, .int .i64 0, .int .i64 0, .int .i64 0, .string ⟨#[]⟩, .slice none 0 0, .slice none 0 0, .bool false] rfl rfl (Blk.new w3 29 [.string ⟨#[]⟩, .string ⟨#[]⟩, .slice none 0 0, .slice none 0 0, .slice none 0 0, .int .i64 0, .int .i64 0, .int .i64 0, .string ⟨#[]⟩, .slice none 0 0, .slice none 0 0, .bool false]) rfl info_pnr nine_one ?_; intro w4 ha4 hb4 hg4; have hb34 : Below w3.heap.size w3 w4 := ((Below.refl _ _).alloc (Nat.le_refl _) _).trans hb4; have hbP := bel_trans (bel_trans hb1 hb3) hb34)
    | (go_at_call 36; (with_reducible refine (HRL.out _ (HB.out.mono hbP)).mono ?_); rintro e w6 ⟨rfl, hb6⟩)
    | (refine wpList_store_blk rfl 90 (.tmp 8) (.tmp 50) rfl w6.heap.size 90 [.slice none 0 0, .slice none 0 0] [.slice none 0 0, .slice none 0 0] rfl rfl (Blk.new w6 90 [.slice none 0 0, .slice none 0 0]) rfl info_leg two_one ?_; intro w7 ha7 hb7 hg7; have hb67 : Below w6.heap.size w6 w7 := ((Below.refl _ _).alloc (Nat.le_refl _) _).trans hb7; have hbL := bel_trans (bel_trans hbP hb6) hb67)
    | (go_at_call 23; (with_reducible refine (HRQ.out _ (HB.out.mono hbL)).mono ?_); rintro e w9 ⟨rfl, hb9⟩; have hbQ := bel_trans hbL hb9)
    | (go_at_call 26; (with_reducible refine (HRC.out _ (HB.out.mono hbQ)).mono ?_); rintro e w11 ⟨rfl, hb11⟩; have hbR := bel_trans (bel_trans hbQ hb11) ((Below.refl _ _).alloc (Nat.le_refl _) (.cells #[.int .i64 (n : Int), .int .i64 (m : Int)] 58)))
    | (go_at_call 21; (with_reducible refine (HWC.out _).mono ?_); rintro e w12 ⟨⟨pa, na, ca, rfl, hy12⟩, hb12⟩; have hcy := conv_has hy12; have hbZ := bel_trans hbR hb12; have hcv := HCV.out _ (HB.out.mono hbZ)))
  go_ret
  exact ⟨rfl, hbZ⟩

theorem codecOnly_walk (vb : Value) (b : List UInt8) (w : World) (hb : Bytes w vb b) :
    Calls Tryd.prog 12 #[vb] w fun e w' => e = .returned (.bool true) ∧ Below w.heap.size w w' := by
  obtain ⟨p3, c3, rfl⟩ := HasE.len hb
  by_cases hlo : 20000 < b.length
  · have HAW := Lib.hid awake_any
    have HLO := Lib.hid (long_any p3 b.length c3)
    rw [decide_eq_true hlo] at HLO
    clear hb hlo
    go_enter Tryd.func12, Tryd.ntmps12
    go_wp2_with (first
      | (go_at_call 13; (with_reducible refine (HAW.out _).mono ?_); rintro e w1 ⟨rfl, hb1⟩)
      | (go_at_call 17; (with_reducible refine (HLO.out _).mono ?_); rintro e w2 ⟨rfl, rfl⟩))
    go_ret
    exact ⟨rfl, hb1⟩
  have hl : b.length ≤ 20000 := by omega
  rcases kind_one b with ⟨h1, h2, h3, h4⟩ | ⟨⟨q, h1⟩, h2, h3, h4⟩ | ⟨h1, ⟨⟨s, hh⟩, h2⟩, h3, h4⟩ | ⟨h1, h2, ⟨l0, h3⟩, h4⟩ | ⟨h1, h2, h3, ⟨⟨n, m⟩, h4⟩⟩
  · exact only_none p3 c3 b w hb hl h1 h2 h3 h4
  · exact only_pnr p3 c3 b w hb hl h1 h2 h3 h4
  · exact only_leg p3 c3 b w hb hl h1 h2 h3 h4
  · exact only_queue p3 c3 b w hb hl h1 h2 h3 h4
  · exact only_count p3 c3 b w hb hl h1 h2 h3 h4
end Go.Proofs.YtjahkaidinahpaaDoor
