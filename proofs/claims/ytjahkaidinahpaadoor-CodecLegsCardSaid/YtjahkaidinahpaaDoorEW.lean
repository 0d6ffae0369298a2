/- The reference's ReadQueue, ReadCount. -/
import Derived.Test.YtjahkaidinahpaaDoorEV
namespace Go.Proofs.YtjahkaidinahpaaDoor
open Go.RowKit Go.ChangeMaps
set_option linter.unusedSimpArgs false
set_option linter.unusedVariables false
set_option maxRecDepth 20000

/-- The first byte. -/
def FirstP (g : Nat) (s : ByteArray) (c : UInt8) (w : World) (e : Ending) (w' : World) : Prop :=
  ∃ (x k2 : Nat) (b2 : Bool), e = .returned (.int .i64 x) ∧ CS w' g s k2 b2 ∧ (x = c.toNat → toL s = c :: (toL s).drop k2) ∧ (x ≠ c.toNat → ∀ r, toL s ≠ c :: r) ∧ w.grownBy w' (some g)

theorem first_any (g : Nat) (s : ByteArray) (c : UInt8) (w : World) (h : CS w g s 0 false) (hl : s.size ≤ 1000000) (hc0 : c.toNat ≠ 0) :
    Calls Tryd.prog 57 #[.pointer (some ⟨g, 0, none⟩)] w fun e w' => FirstP g s c w e w' := by
  by_cases hs : 0 < s.size
  · have hd : toL s = (toL s).getD 0 0 :: (toL s).drop 1 := by
      have := drop_cons (toL s) 0 (by rw [size_toL]; exact hs)
      rwa [List.drop_zero] at this
    refine (byte_yes g s 0 w h hl hs).mono ?_
    rintro e w' ⟨rfl, h1, h2⟩
    refine ⟨_, 1, false, rfl, h1, fun hx => ?_, fun hx r hr => ?_, h2⟩
    · have : (toL s).getD 0 0 = c := UInt8.toNat_inj.1 hx
      rw [← this]; exact hd
    · rw [hr] at hx
      exact hx rfl
  · refine (byte_no g s 0 false w h hl (.inr (by omega))).mono ?_
    rintro e w' ⟨rfl, h1, h2⟩
    have hn : toL s = [] := List.length_eq_zero_iff.1 (by rw [size_toL]; omega)
    refine ⟨0, 0, true, rfl, h1, fun hx => absurd hx.symm hc0, fun _ r hr => ?_, h2⟩
    rw [hn] at hr; cases hr

theorem stP_form {o : Option (List UInt8)} {e : Ending} (h : stP o e) : ∃ (t : ByteArray) (b : Bool), e = .returned (.tuple #[.string t, .bool b]) ∧ ((∃ bs, o = some bs ∧ t = strA bs ∧ b = true) ∨ (o = none ∧ t = ⟨#[]⟩ ∧ b = false)) := by
  rcases h with ⟨bs, h1, h2⟩ | ⟨h1, h2⟩
  · exact ⟨_, _, h2, .inl ⟨bs, h1, rfl, rfl⟩⟩
  · exact ⟨_, _, h2, .inr ⟨h1, rfl, rfl⟩⟩

/-- Texts and yes, or no. -/
def rliP (B : Nat) (o : Option (List (List UInt8))) (e : Ending) (w : World) : Prop :=
  (∃ l v, o = some (l.map toL) ∧ e = .returned (.tuple #[v, .bool true]) ∧ OwnL w B v l) ∨ (o = none ∧ e = .returned (.tuple #[.slice none 0 0, .bool false]))

theorem bel_gr {w0 w w' : World} {g : Nat} (h : Below w0.heap.size w0 w) (hg : w.grownBy w' (some g)) (hlow : w0.heap.size ≤ g) : Below w0.heap.size w0 w' := h.grown hg h.size fun k hk => by injection hk with hk; omega

set_option maxHeartbeats 16000000 in
theorem refReadQueue_any (s : ByteArray) (w : World) (hl : s.size ≤ 20000) :
    Calls Tryd.prog 24 #[.string s] w fun e w' => rliP w.heap.size (readQ (toL s)) e w' ∧ Below w.heap.size w w' := by
  have HC1 : RowKit.Hid (CS (w.alloc (.cells #[.string s, .int .i64 0, .bool false] 125)) w.heap.size s 0 false) := Lib.hid ⟨Blk.new w 125 [.string s, .int .i64 0, .bool false], Nat.zero_le _⟩
  have HB1 : RowKit.Hid (Below w.heap.size w (w.alloc (.cells #[.string s, .int .i64 0, .bool false] 125))) := Lib.hid ((Below.refl _ _).alloc (Nat.le_refl _) _)
  have HFI : RowKit.Hid (Calls Tryd.prog 57 #[.pointer (some ⟨w.heap.size, 0, none⟩)] (w.alloc (.cells #[.string s, .int .i64 0, .bool false] 125)) fun e w' => FirstP w.heap.size s 81 (w.alloc (.cells #[.string s, .int .i64 0, .bool false] 125)) e w') := Lib.hid (first_any w.heap.size s 81 _ HC1.out (by omega) (by decide))
  have HNU : RowKit.Hid (∀ W k bad, CS W w.heap.size s k bad → Calls Tryd.prog 58 #[.pointer (some ⟨w.heap.size, 0, none⟩), .int .i64 40] W fun e w' => NumP w.heap.size s k 40 bad W e w') := Lib.hid fun W k bad h => num_any w.heap.size s k 40 bad W h (by omega) (by omega)
  have HLO : RowKit.Hid (∀ W k bad, CS W w.heap.size s k bad → Calls Tryd.prog 59 #[.pointer (some ⟨w.heap.size, 0, none⟩)] W fun e w' => LocP w.heap.size s k bad W e w') := Lib.hid fun W k bad h => loc_any w.heap.size s k bad W h (by omega)
  clear hl
  go_enter Tryd.func24, Tryd.ntmps24
  go_upto_region 3 with (first
    | (go_at_call 57; (with_reducible refine HFI.out.mono ?_); rintro e w2 ⟨x, k2, b2, rfl, hc2, hx1, hx2, hg2⟩; obtain ⟨d0, d1, d2, e1, e2⟩ := hc2.cells))
  have HC3 : RowKit.Hid (CS (w2.setCell ⟨w.heap.size, 2, none⟩ (.bool ((x : Int) != 81))) w.heap.size s k2 ((x : Int) != 81)) := Lib.hid (hc2.goBad _)
  have HG3 : RowKit.Hid (Below w.heap.size w (w2.setCell ⟨w.heap.size, 2, none⟩ (.bool ((x : Int) != 81)))) := Lib.hid ((bel_gr HB1.out hg2 (Nat.le_refl _)).setCell (p := ⟨w.heap.size, 2, none⟩) (Nat.le_refl _) _)
  have hz3 : w.heap.size + 1 ≤ (w2.setCell ⟨w.heap.size, 2, none⟩ (.bool ((x : Int) != 81))).heap.size := by have := hg2.size; simp [World.setCell] at this ⊢; omega
  have HX1 : RowKit.Hid (((x : Int) != 81) = false → toL s = 81 :: (toL s).drop k2) := Lib.hid fun h => hx1 (by rw [bne_eq_false_iff_eq] at h; show x = 81; omega)
  have HX2 : RowKit.Hid (((x : Int) != 81) = true → ∀ r, toL s ≠ 81 :: r) := Lib.hid fun h => hx2 (by rw [bne_iff_ne] at h; show x ≠ 81; omega)
  generalize w2.setCell ⟨w.heap.size, 2, none⟩ (.bool ((x : Int) != 81)) = w3 at *
  generalize ((x : Int) != 81) = bad1 at *
  clear hc2 hx1 hx2 hg2 d0 d1 d2 e1 e2 HFI HC1 HB1
  go_wp2_with (first
    | (go_at_call 58; (with_reducible refine (HNU.out _ _ _ HC3.out).mono ?_); rintro e w4 ⟨n, k4, b4, rfl, hn, hc4, hf4, ht4, hg4⟩))
  have HQ0 : RowKit.Hid (b4 = false → pQueue (toL s) = ((pLocs n ((toL s).drop k4)).map fun x => x.1)) := Lib.hid fun h => by
    obtain ⟨h1, h2⟩ := hf4 h
    exact pQueue_at (HX1.out h1) h2
  have HQ1 : RowKit.Hid (b4 = true → pQueue (toL s) = none) := Lib.hid fun h => by
    cases hb : bad1 with
    | true => exact pQueue_no (HX2.out hb)
    | false =>
      rcases ht4 h with h1 | h1
      · rw [hb] at h1; cases h1
      · exact pQueue_num (HX1.out hb) h1
  have HG4 := Lib.hid (bel_gr HG3.out hg4 (Nat.le_refl _))
  have hz4 : w.heap.size + 1 ≤ w4.heap.size := Nat.le_trans hz3 hg4.size
  clear hf4 ht4 HNU HX1 HX2 hg4
  go_loopg [5, 7] n (fun g0 s5 s7 wr => ∃ (i : Nat) (lst : List ByteArray) (kk : Nat) (b2 : Bool), i ≤ n ∧ g0 = n - i ∧ s7 = .int .i64 (i : Int) ∧ OwnL wr (w.heap.size + 1) s5 lst ∧ lst.length = i ∧ (∀ s ∈ lst, s.size ≤ maxLen) ∧ CS wr w.heap.size s kk b2 ∧ (b2 = false → b4 = false ∧ pLocs i ((toL s).drop k4) = some (lst.map toL, (toL s).drop kk)) ∧ (b2 = true → pQueue (toL s) = none) ∧ w.heap.size + 1 ≤ wr.heap.size ∧ Below w.heap.size w wr)
  case atStart => exact ⟨0, [], k4, b4, Nat.zero_le _, rfl, rfl, OwnL.nil _ _, rfl, (fun s h => by cases h), hc4, (fun h => ⟨h, rfl⟩), HQ1.out, hz4, HG4.out⟩
  case round =>
    obtain ⟨i, lst, kk, b2, hin, rfl, rfl, ho, hll, hsz, hc, hf, ht, hz, hbw⟩ := hrel
    have HO := Lib.hid ho
    have HLL := Lib.hid hll
    have HSZ := Lib.hid hsz
    have HF := Lib.hid hf
    have HT := Lib.hid ht
    have HC := Lib.hid hc
    have HBW := Lib.hid hbw
    obtain ⟨d0, d1, d2, e1, e2⟩ := hc.cells
    clear ho hll hsz hf ht hc hbw
    go_upto_region 6 with fail
    go_cut [30] from 21 to 37 (fun s30 wx => s30 = .bool (decide (i < n) && !b2) ∧ wr = wx)
    case first =>
      by_cases h1 : i < n
      · have h1i : (i : Int) < (n : Int) := by omega
        have HD := Lib.hid (decide_eq_true h1)
        clear h1
        cases b2
        · go_wp2
          go_meet
          exact ⟨by rw [HD.out]; rfl, rfl⟩
        · go_wp2
          go_meet
          exact ⟨by rw [HD.out]; rfl, rfl⟩
      · have h1i : ¬ (i : Int) < (n : Int) := by omega
        have HD := Lib.hid (decide_eq_false h1)
        clear h1
        go_wp2
        go_meet
        exact ⟨by rw [HD.out]; rfl, rfl⟩
    case rest =>
      obtain ⟨rfl, rfl⟩ := hcut
      cases hd : (decide (i < n) && !b2) with
      | true =>
        rw [Bool.and_eq_true] at hd
        have hlt : i < n := of_decide_eq_true hd.1
        have hb2 : b2 = false := by simpa using hd.2
        subst hb2
        have hl1 : lst.length + 1 ≤ 1000000 := by rw [HLL.out]; omega
        clear hd d0 d1 d2 e1 e2
        go_wp2_with (first
          | (go_at_call 59; (with_reducible refine (HLO.out _ _ _ HC.out).mono ?_); rintro e w5 ⟨t, k5, b5, rfl, ht6, hc5, hf5, ht5, hg5⟩; have hz5 : w.heap.size + 1 ≤ w5.heap.size := Nat.le_trans hz hg5.size; have HO5 := Lib.hid (HO.out.kept2 hg5 (Nat.lt_succ_self _)))
          | (at_builtin; refine wpList_push_str rfl _ _ rfl (w.heap.size + 1) u5 lst t rfl HO5.out rfl hl1 hz5 ?_; intro v6 w6 ho6 hb6))
        have hc6 : CS w6 w.heap.size s k5 b5 := ⟨hc5.1.keep hb6 (Nat.lt_succ_self _), hc5.2⟩
        have hz6 := Nat.le_trans hz5 hb6.size
        have hb66 : Below w.heap.size w w6 := (bel_gr HBW.out hg5 (Nat.le_refl _)).trans (below_le hb6 (Nat.le_succ _))
        have HF6 : RowKit.Hid (b5 = false → b4 = false ∧ pLocs (i + 1) ((toL s).drop k4) = some ((lst ++ [t]).map toL, (toL s).drop k5)) := Lib.hid fun h => by
          obtain ⟨_, h2⟩ := hf5 h
          obtain ⟨h3, h4⟩ := HF.out (by first | rfl | trivial)
          exact ⟨h3, by rw [pLocs_on h4 h2, List.map_append]; rfl⟩
        have HT6 : RowKit.Hid (b5 = true → pQueue (toL s) = none) := Lib.hid fun h => by
          rcases ht5 h with h1 | h1
          · cases h1
          · obtain ⟨h3, h4⟩ := HF.out (by first | rfl | trivial)
            rw [HQ0.out h3, pLocs_none (pLocs_off h4 h1) (by omega : i + 1 ≤ n)]
            rfl
        go_roundg (n - (i + 1))
        case measure => omega
        case rel => exact ⟨i + 1, lst ++ [t], k5, b5, by omega, rfl, by go_num, ho6, by rw [List.length_append, HLL.out]; rfl, (fun t' ht => by
          rcases List.mem_append.1 ht with h1 | h1
          · exact HSZ.out t' h1
          · rw [List.mem_singleton.1 h1]; unfold maxLen; omega), hc6, HF6.out, HT6.out, hz6, hb66⟩
      | false =>
        have HIN : RowKit.Hid (b2 = false → i = n) := Lib.hid fun h => by
          rw [h] at hd
          simp at hd
          omega
        have HQU := Lib.hid (refQueue_any u5 lst wr HO.out.has HSZ.out)
        have HPB : RowKit.Hid (b2 = false → pQueue (toL s) = some (lst.map toL)) := Lib.hid fun h => by
          obtain ⟨h1, h2⟩ := HF.out h
          have := HIN.out h
          rw [HQ0.out h1, ← this, h2]
          rfl
        have HOW : RowKit.Hid (∀ W, Below wr.heap.size wr W → OwnL W w.heap.size u5 lst) := Lib.hid fun W h => (HO.out.mono h).low (by omega)
        clear hd d0 d1 d2 e1 e2
        cases b2 with
        | true =>
          have HNO := Lib.hid (readQ_none (HT.out (by first | rfl | trivial)))
          go_wp2_with (first
            | (go_at_call 19; (with_reducible refine HQU.out.mono ?_); rintro e w7 ⟨hst, hb7⟩; obtain ⟨t7, b7, rfl, h7⟩ := stP_form hst; obtain ⟨d0, d1, d2, e1, e2⟩ := (HC.out.mono hb7).cells))
          go_ret2
          exact ⟨.inr ⟨HNO.out, rfl⟩, below_low HBW.out HBW.out.size hb7⟩
        | false =>
          have HPB2 := Lib.hid (HPB.out (by first | rfl | trivial))
          go_upto_region 10 with (first
            | (go_at_call 19; (with_reducible refine HQU.out.mono ?_); rintro e w7 ⟨hst, hb7⟩; obtain ⟨t7, b7, rfl, h7⟩ := stP_form hst; obtain ⟨d0, d1, d2, e1, e2⟩ := (HC.out.mono hb7).cells))
          rcases h7 with ⟨bs, h1, rfl, rfl⟩ | ⟨h1, rfl, rfl⟩
          · by_cases hbb : bs = toL s
            · have HY := Lib.hid (readQ_some HPB2.out (by rw [h1, hbb]))
              have hss : strA bs = s := by rw [hbb, strA_of]
              have hks : (s.toList == s.toList) = true := by simp
              rw [hss]
              clear h1 hbb hss hst
              go_wp2
              go_ret2
              exact ⟨.inl ⟨lst, _, HY.out, rfl, HOW.out _ hb7⟩, below_low HBW.out HBW.out.size hb7⟩
            · have HY := Lib.hid (readQ_other HPB2.out (by rw [h1]; exact fun e => hbb (by injection e with e)))
              have hks : ((strA bs).toList == s.toList) = false := by rw [beq_eq_false_iff_ne]; exact fun h => hbb (by rw [← toList_inj h, strA_toL])
              generalize strA bs = S9 at *
              clear h1 hbb hst
              go_wp2
              go_ret2
              exact ⟨.inr ⟨HY.out, rfl⟩, below_low HBW.out HBW.out.size hb7⟩
          · have HY := Lib.hid (readQ_other HPB2.out (by rw [h1]; exact fun e => by cases e))
            clear h1 hst
            go_wp2
            go_ret2
            exact ⟨.inr ⟨HY.out, rfl⟩, below_low HBW.out HBW.out.size hb7⟩

/-- A count and yes, or no. -/
def rctP (o : Option (Nat × Nat)) (e : Ending) : Prop :=
  (∃ n m : Nat, o = some (n, m) ∧ e = .returned (.tuple #[.int .i64 n, .int .i64 m, .bool true])) ∨ (o = none ∧ e = .returned (.tuple #[.int .i64 0, .int .i64 0, .bool false]))

set_option maxHeartbeats 16000000 in
theorem refReadCount_any (s : ByteArray) (w : World) (hl : s.size ≤ 20000) :
    Calls Tryd.prog 27 #[.string s] w fun e w' => rctP (readCt (toL s)) e ∧ Below w.heap.size w w' := by
  have HC1 : RowKit.Hid (CS (w.alloc (.cells #[.string s, .int .i64 0, .bool false] 125)) w.heap.size s 0 false) := Lib.hid ⟨Blk.new w 125 [.string s, .int .i64 0, .bool false], Nat.zero_le _⟩
  have HB1 : RowKit.Hid (Below w.heap.size w (w.alloc (.cells #[.string s, .int .i64 0, .bool false] 125))) := Lib.hid ((Below.refl _ _).alloc (Nat.le_refl _) _)
  have HFI : RowKit.Hid (Calls Tryd.prog 57 #[.pointer (some ⟨w.heap.size, 0, none⟩)] (w.alloc (.cells #[.string s, .int .i64 0, .bool false] 125)) fun e w' => FirstP w.heap.size s 67 (w.alloc (.cells #[.string s, .int .i64 0, .bool false] 125)) e w') := Lib.hid (first_any w.heap.size s 67 _ HC1.out (by omega) (by decide))
  have HNU1 : RowKit.Hid (∀ W k bad, CS W w.heap.size s k bad → Calls Tryd.prog 58 #[.pointer (some ⟨w.heap.size, 0, none⟩), .int .i64 308915776] W fun e w' => NumP w.heap.size s k 308915776 bad W e w') := Lib.hid fun W k bad h => num_any w.heap.size s k 308915776 bad W h (by omega) (by omega)
  have HNU2 : RowKit.Hid (∀ W k bad, CS W w.heap.size s k bad → Calls Tryd.prog 58 #[.pointer (some ⟨w.heap.size, 0, none⟩), .int .i64 527039] W fun e w' => NumP w.heap.size s k 527039 bad W e w') := Lib.hid fun W k bad h => num_any w.heap.size s k 527039 bad W h (by omega) (by omega)
  clear hl
  go_enter Tryd.func27, Tryd.ntmps27
  go_upto_region 3 with (first
    | (go_at_call 57; (with_reducible refine HFI.out.mono ?_); rintro e w2 ⟨x, k2, b2, rfl, hc2, hx1, hx2, hg2⟩; obtain ⟨d0, d1, d2, e1, e2⟩ := hc2.cells))
  have HC3 : RowKit.Hid (CS (w2.setCell ⟨w.heap.size, 2, none⟩ (.bool ((x : Int) != 67))) w.heap.size s k2 ((x : Int) != 67)) := Lib.hid (hc2.goBad _)
  have HG3 : RowKit.Hid (Below w.heap.size w (w2.setCell ⟨w.heap.size, 2, none⟩ (.bool ((x : Int) != 67)))) := Lib.hid ((bel_gr HB1.out hg2 (Nat.le_refl _)).setCell (p := ⟨w.heap.size, 2, none⟩) (Nat.le_refl _) _)
  have HX1 : RowKit.Hid (((x : Int) != 67) = false → toL s = 67 :: (toL s).drop k2) := Lib.hid fun h => hx1 (by rw [bne_eq_false_iff_eq] at h; show x = 67; omega)
  have HX2 : RowKit.Hid (((x : Int) != 67) = true → ∀ r, toL s ≠ 67 :: r) := Lib.hid fun h => hx2 (by rw [bne_iff_ne] at h; show x ≠ 67; omega)
  generalize w2.setCell ⟨w.heap.size, 2, none⟩ (.bool ((x : Int) != 67)) = w3 at *
  generalize ((x : Int) != 67) = bad1 at *
  clear hc2 hx1 hx2 hg2 d0 d1 d2 e1 e2 HFI HC1 HB1
  go_upto_region 5 with (first
    | (go_at_call 58; (with_reducible refine (HNU1.out _ _ _ HC3.out).mono ?_); rintro e w4 ⟨n, k4, b4, rfl, hn, hc4, hf4, ht4, hg4⟩)
    | (go_at_call 58; (with_reducible refine (HNU2.out _ _ _ hc4).mono ?_); rintro e w5 ⟨m, k5, b5, rfl, hm, hc5, hf5, ht5, hg5⟩))
  have HT : RowKit.Hid (b5 = true → pCount (toL s) = none) := Lib.hid fun h => by
    cases hbad : bad1 with
    | true => exact pCount_no (HX2.out hbad)
    | false =>
      have hb0 := HX1.out hbad
      cases hb4 : b4 with
      | true =>
        rcases ht4 hb4 with h1 | h1
        · rw [hbad] at h1; cases h1
        · exact pCount_one hb0 h1
      | false =>
        rcases ht5 h with h1 | h1
        · rw [hb4] at h1; cases h1
        · exact pCount_two hb0 (hf4 hb4).2 h1
  have HF : RowKit.Hid (b5 = false → pCount (toL s) = some (n, m)) := Lib.hid fun h => by
    obtain ⟨h1, h2⟩ := hf5 h
    obtain ⟨h3, h4⟩ := hf4 h1
    exact pCount_at (HX1.out h3) h4 h2
  have HBW := Lib.hid (bel_gr (bel_gr HG3.out hg4 (Nat.le_refl _)) hg5 (Nat.le_refl _))
  obtain ⟨d0, d1, d2, e1, e2⟩ := hc5.cells
  have HCC := Lib.hid hc5
  have HOF := Lib.hid (refOfCount_any (n : Int) (m : Int) w5)
  clear hn hc4 hf4 ht4 hg4 hm hc5 hf5 ht5 hg5 HNU1 HNU2 HX1 HX2 HG3 HC3 d0 d1 d2 e1 e2
  cases b5 with
  | true =>
    have HNO := Lib.hid (readCt_none (HT.out (by first | rfl | trivial)))
    go_wp2_with (first
      | (go_at_call 22; (with_reducible refine HOF.out.mono ?_); rintro e w7 ⟨hst, hb7⟩; obtain ⟨t7, b7, rfl, h7⟩ := stP_form hst; obtain ⟨d0, d1, d2, e1, e2⟩ := (HCC.out.mono hb7).cells))
    go_ret3
    exact ⟨.inr ⟨HNO.out, rfl⟩, below_low HBW.out HBW.out.size hb7⟩
  | false =>
    have HPB2 := Lib.hid (HF.out (by first | rfl | trivial))
    go_upto_region 6 with (first
      | (go_at_call 22; (with_reducible refine HOF.out.mono ?_); rintro e w7 ⟨hst, hb7⟩; obtain ⟨t7, b7, rfl, h7⟩ := stP_form hst; obtain ⟨d0, d1, d2, e1, e2⟩ := (HCC.out.mono hb7).cells))
    rcases h7 with ⟨bs, h1, rfl, rfl⟩ | ⟨h1, rfl, rfl⟩
    · by_cases hbb : bs = toL s
      · have HY := Lib.hid (readCt_some HPB2.out (by rw [h1, hbb]))
        have hss : strA bs = s := by rw [hbb, strA_of]
        have hks : (s.toList == s.toList) = true := by simp
        rw [hss]
        clear h1 hbb hss hst
        go_wp2
        go_ret3
        exact ⟨.inl ⟨n, m, HY.out, rfl⟩, below_low HBW.out HBW.out.size hb7⟩
      · have HY := Lib.hid (readCt_other HPB2.out (by rw [h1]; exact fun e => hbb (by injection e with e)))
        have hks : ((strA bs).toList == s.toList) = false := by rw [beq_eq_false_iff_ne]; exact fun h => hbb (by rw [← toList_inj h, strA_toL])
        generalize strA bs = S9 at *
        clear h1 hbb hst
        go_wp2
        go_ret3
        exact ⟨.inr ⟨HY.out, rfl⟩, below_low HBW.out HBW.out.size hb7⟩
    · have HY := Lib.hid (readCt_other HPB2.out (by rw [h1]; exact fun e => by cases e))
      clear h1 hst
      go_wp2
      go_ret3
      exact ⟨.inr ⟨HY.out, rfl⟩, below_low HBW.out HBW.out.size hb7⟩
end Go.Proofs.YtjahkaidinahpaaDoor
