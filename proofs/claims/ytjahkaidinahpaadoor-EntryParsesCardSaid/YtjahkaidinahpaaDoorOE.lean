/- Entries: the reference's text of a seat, day, digit, number; its methods told with letters (printed by gen_rparts.py). -/
import Derived.Test.YtjahkaidinahpaaDoorOD
namespace Go.Proofs.YtjahkaidinahpaaDoor.En
open Go.RowKit
set_option linter.unusedSimpArgs false
set_option linter.unusedVariables false
set_option maxRecDepth 20000

theorem rtext7_m (b : Nat) (s : ByteArray) (p : Nat) (c : CmdT) (x : ErrS) (w : World) (hs : s.size ≤ maxLen) (hp : p ≤ s.size) (hc : RS w b s p c x) :
    Calls Tryd.prog 139 #[.pointer (some ⟨b, 0, none⟩), .int .i64 7] w fun e w' => e = .returned (txV (rTx 7 (toL s) p)) ∧ RS w' b s (p + (rTx 7 (toL s) p).length) c (wantP (rOk 7 (rTx 7 (toL s) p)) x 46 p) ∧ Below b w w' := by
  show Calls Tryd.prog 139 #[.pointer (some ⟨b, 0, none⟩), .int .i64 7] w fun e w' => e = .returned (txV (seatTx (toL s) p)) ∧ RS w' b s (p + (seatTx (toL s) p).length) c (wantP (Pl.readL (seatTx (toL s) p)).isSome x 46 p) ∧ Below b w w'
  have hrl : p + (runL 2 ((toL s).drop p)).length ≤ s.size := by have := runL_le 2 ((toL s).drop p); simp at this; omega
  have HS : RowKit.Hid (∀ W, RS W b s p c x → Calls Tryd.prog 180 #[.pointer (some ⟨b, 0, none⟩), .int .i64 2] W fun e w' => e = .returned (txV (runL 2 ((toL s).drop p))) ∧ RS w' b s (p + (runL 2 ((toL s).drop p)).length) c x ∧ Below b W w') := Lib.hid fun W h => rrun_m b s p 2 c x W hs hp h
  have HT : RowKit.Hid (∀ W, RS W b s (p + (runL 2 ((toL s).drop p)).length) c x → Calls Tryd.prog 145 #[.pointer (some ⟨b, 0, none⟩), .int .i64 1] W fun e w' => e = .returned (txV (tk (toL s) 1 (p + (runL 2 ((toL s).drop p)).length))) ∧ RS w' b s (p + (runL 2 ((toL s).drop p)).length + (tk (toL s) 1 (p + (runL 2 ((toL s).drop p)).length)).length) c x ∧ Below b W w') := Lib.hid fun W h => take_m b s _ 1 c x W hs hrl (by unfold maxLen; omega) h
  have hl1 := tk_size (toL s) 1 (p + (runL 2 ((toL s).drop p)).length)
  have hl3 : p + (runL 2 ((toL s).drop p)).length + (tk (toL s) 1 (p + (runL 2 ((toL s).drop p)).length)).length ≤ s.size := by
    have h := (took_tk (l := toL s) (n := 1) (p := p + (runL 2 ((toL s).drop p)).length) (by simpa using hrl)).2.1
    simpa using h
  have hl2 : (seatTx (toL s) p).length = (runL 2 ((toL s).drop p)).length + (tk (toL s) 1 (p + (runL 2 ((toL s).drop p)).length)).length := by unfold seatTx; rw [List.length_append]
  have hcat : (⟨(runL 2 ((toL s).drop p)).toArray⟩ ++ ⟨(tk (toL s) 1 (p + (runL 2 ((toL s).drop p)).length)).toArray⟩ : ByteArray) = ⟨(seatTx (toL s) p).toArray⟩ := bytes_inj (by unfold seatTx; simp)
  have HK : RowKit.Hid (∀ W, Calls Tryd.prog 182 #[.string (⟨(runL 2 ((toL s).drop p)).toArray⟩ ++ ⟨(tk (toL s) 1 (p + (runL 2 ((toL s).drop p)).length)).toArray⟩)] W fun e w' => e = .returned (.tuple #[.agg (Pl.seatO (Pl.readL (seatTx (toL s) p))).toArray, .bool (Pl.readL (seatTx (toL s) p)).isSome]) ∧ Below W.heap.size W w') := Lib.hid fun W => by
    have h := Pl.refRead_any (⟨(runL 2 ((toL s).drop p)).toArray⟩ ++ ⟨(tk (toL s) 1 (p + (runL 2 ((toL s).drop p)).length)).toArray⟩) W (by rw [ByteArray.size_append, tx_size, tx_size]; unfold maxLen at hs ⊢; omega)
    have e : (⟨(runL 2 ((toL s).drop p)).toArray⟩ ++ ⟨(tk (toL s) 1 (p + (runL 2 ((toL s).drop p)).length)).toArray⟩ : ByteArray).data.toList = seatTx (toL s) p := by
      unfold seatTx
      simp
    rw [e] at h
    exact h
  have HW : RowKit.Hid (∀ W q, RS W b s q c x → Calls Tryd.prog 67 #[.pointer (some ⟨b, 0, none⟩), .int .i64 46, .int .i64 (p : Int)] W fun e w' => e = .returned (.tuple #[]) ∧ RS w' b s q c (wrongP x 46 p) ∧ Below b W w') := Lib.hid fun W q h => wrong_m b s q c x 46 p W h
  have k1 := hc.text
  have k2 := hc.at_
  have HC := Lib.hid hc
  rw [hl2, ← Nat.add_assoc, show txV (seatTx (toL s) p) = .string ⟨(seatTx (toL s) p).toArray⟩ from rfl, ← hcat]
  generalize Pl.readL (seatTx (toL s) p) = o at *
  generalize hr : tk (toL s) 1 (p + (runL 2 ((toL s).drop p)).length) = u at *
  generalize runL 2 ((toL s).drop p) = t at *
  have hsz : ¬ (9223372036854775807 < (⟨t.toArray⟩ : ByteArray).size + (⟨u.toArray⟩ : ByteArray).size) := by rw [tx_size, tx_size]; unfold maxLen at hs; omega
  clear hrl hl1 hl2 hl3 hr hc hcat
  generalize (Pl.seatO o).toArray = ov at *
  cases hb : o.isSome
  all_goals
    rw [hb] at HK
    clear hb
    go_enter Tryd.func139, Tryd.ntmps139
    go_wp2_with (first
      | (go_at_call 180; (with_reducible refine (HS.out _ HC.out).mono ?_); rintro e w1 ⟨rfl, hc1, hb1⟩)
      | (go_at_call 145; (with_reducible refine (HT.out _ hc1).mono ?_); rintro e w2 ⟨rfl, hc2, hb2⟩)
      | (go_at_call 182; (with_reducible refine (HK.out _).mono ?_); rintro e w3 ⟨rfl, hb3⟩; have hc3 := hc2.mono hb3; have hlt := hc2.lt)
      | (go_at_call 67; (with_reducible refine (HW.out _ _ hc3).mono ?_); rintro e w4 ⟨rfl, hc4, hb4⟩))
    go_ret
    first
      | exact ⟨rfl, hc4, bl3 (bl2 (bl3 hb1 hb2) hb3 hlt) hb4⟩
      | exact ⟨rfl, hc3, bl2 (bl3 hb1 hb2) hb3 hlt⟩

theorem rday_m (b : Nat) (s : ByteArray) (p : Nat) (c : CmdT) (x : ErrS) (w : World) (hs : s.size ≤ maxLen) (hp : p ≤ s.size) (hc : RS w b s p c x) :
    Calls Tryd.prog 141 #[.pointer (some ⟨b, 0, none⟩)] w fun e w' => e = .returned (.int .i64 (Da.optI (Da.readS (tk (toL s) 5 p)))) ∧ RS w' b s (p + (tk (toL s) 5 p).length) c (wantP (Da.readS (tk (toL s) 5 p)).isSome x 44 p) ∧ Below b w w' := by
  have HT : RowKit.Hid (∀ W, RS W b s p c x → Calls Tryd.prog 145 #[.pointer (some ⟨b, 0, none⟩), .int .i64 5] W fun e w' => e = .returned (txV (tk (toL s) 5 p)) ∧ RS w' b s (p + (tk (toL s) 5 p).length) c x ∧ Below b W w') := Lib.hid fun W h => take_m b s _ 5 c x W hs hp (by unfold maxLen; omega) h
  have HK : RowKit.Hid (∀ W, Calls Tryd.prog 183 #[txV (tk (toL s) 5 p)] W fun e w' => e = .returned (.tuple #[.int .i64 (Da.optI (Da.readS (tk (toL s) 5 p))), .bool (Da.readS (tk (toL s) 5 p)).isSome]) ∧ Below W.heap.size W w') := Lib.hid fun W => by
    have h := Da.rread_any ⟨(tk (toL s) 5 p).toArray⟩ W
    rw [tx_list] at h
    exact h
  have HW : RowKit.Hid (∀ W q, RS W b s q c x → Calls Tryd.prog 67 #[.pointer (some ⟨b, 0, none⟩), .int .i64 44, .int .i64 (p : Int)] W fun e w' => e = .returned (.tuple #[]) ∧ RS w' b s q c (wrongP x 44 p) ∧ Below b W w') := Lib.hid fun W q h => wrong_m b s q c x 44 p W h
  have k2 := hc.at_
  have HC := Lib.hid hc
  generalize tk (toL s) 5 p = t at *
  clear hc
  generalize Da.readS t = o at *
  generalize Da.optI o = z at *
  cases hb : o.isSome
  all_goals
    rw [hb] at HK
    clear hb
    go_enter Tryd.func141, Tryd.ntmps141
    go_wp2_with (first
      | (go_at_call 145; (with_reducible refine (HT.out _ HC.out).mono ?_); rintro e w1 ⟨rfl, hc1, hb1⟩)
      | (go_at_call 183; (with_reducible refine (HK.out _).mono ?_); rintro e w2 ⟨rfl, hb2⟩; have hc2 := hc1.mono hb2; have hlt := hc1.lt)
      | (go_at_call 67; (with_reducible refine (HW.out _ _ hc2).mono ?_); rintro e w3 ⟨rfl, hc3, hb3⟩))
    go_ret
    first
      | exact ⟨rfl, hc3, bl3 (bl2 hb1 hb2 hlt) hb3⟩
      | exact ⟨rfl, hc2, bl2 hb1 hb2 hlt⟩

theorem rdigit_m (b : Nat) (s : ByteArray) (p : Nat) (m : Int) (c : CmdT) (x : ErrS) (w : World) (hs : s.size ≤ maxLen) (hp : p ≤ s.size) (hc : RS w b s p c x) :
    Calls Tryd.prog 142 #[.pointer (some ⟨b, 0, none⟩), .int .i64 m] w fun e w' => e = .returned (.int .i64 (digV m (tk (toL s) 1 p))) ∧ RS w' b s (p + (tk (toL s) 1 p).length) c (wantP (digB m (tk (toL s) 1 p)) x 43 p) ∧ Below b w w' := by
  have HT : RowKit.Hid (∀ W, RS W b s p c x → Calls Tryd.prog 145 #[.pointer (some ⟨b, 0, none⟩), .int .i64 1] W fun e w' => e = .returned (txV (tk (toL s) 1 p)) ∧ RS w' b s (p + (tk (toL s) 1 p).length) c x ∧ Below b W w') := Lib.hid fun W h => take_m b s _ 1 c x W hs hp (by unfold maxLen; omega) h
  have HW : RowKit.Hid (∀ W q, RS W b s q c x → Calls Tryd.prog 67 #[.pointer (some ⟨b, 0, none⟩), .int .i64 43, .int .i64 (p : Int)] W fun e w' => e = .returned (.tuple #[]) ∧ RS w' b s q c (wrongP x 43 p) ∧ Below b W w') := Lib.hid fun W q h => wrong_m b s q c x 43 p W h
  have k2 := hc.at_
  have HC := Lib.hid hc
  have hl := tk_size (toL s) 1 p
  generalize tk (toL s) 1 p = t at *
  clear hc
  rcases one_text hl with rfl | ⟨y, rfl⟩
  · have e : digB m [] = false := by simp [digB]
    have e1 : digV m [] = 0 := by unfold digV; rw [e]; rfl
    rw [e, e1]
    clear e e1 hl
    go_enter Tryd.func142, Tryd.ntmps142
    go_wp2_with (first
      | (go_at_call 145; (with_reducible refine (HT.out _ HC.out).mono ?_); rintro e w1 ⟨rfl, hc1, hb1⟩)
      | (go_at_call 67; (with_reducible refine (HW.out _ _ hc1).mono ?_); rintro e w3 ⟨rfl, hc3, hb3⟩))
    go_ret
    exact ⟨rfl, hc3, bl3 hb1 hb3⟩
  · obtain ⟨r, hr, hr1, hr2, hr3⟩ := one_facts y
    have hdb : digB m [y] = (decide (49 ≤ y.toNat) && decide ((y.toNat : Int) - 48 ≤ m)) := by simp [digB]
    have hdv : digV m [y] = if digB m [y] then (y.toNat : Int) - 48 else 0 := rfl
    have hy := byte_hi y
    have ew : IntKind.i64.wrap ((y.toNat : Int) - 48) = (y.toNat : Int) - 48 := by rw [IntWalk.i64_in _ (by omega)]
    have hg : r[0]! = y ∨ True := .inr trivial
    simp only [txV, hr] at HT
    rw [hdv, hdb]
    clear hl hg hdv hdb
    have h0 : 0 < r.size := by omega
    have hr4 := hr3 h0
    have HR := Lib.hid hr
    clear hr
    by_cases d1 : (y.toNat : Int) ≥ 49
    · rw [decide_eq_true (show 49 ≤ y.toNat by omega), Bool.true_and]
      by_cases d2 : (y.toNat : Int) - 48 ≤ m
      · rw [decide_eq_true d2]
        simp only [if_true]
        go_enter Tryd.func142, Tryd.ntmps142
        go_wp2_with (first
          | (go_at_call 145; (with_reducible refine (HT.out _ HC.out).mono ?_); rintro e w1 ⟨rfl, hc1, hb1⟩)
          | (go_at_call 67; (with_reducible refine (HW.out _ _ hc1).mono ?_); rintro e w3 ⟨rfl, hc3, hb3⟩))
        go_ret
        exact ⟨rfl, hc1, hb1⟩
      · rw [decide_eq_false d2]
        simp only [Bool.false_eq_true, if_false]
        go_enter Tryd.func142, Tryd.ntmps142
        go_wp2_with (first
          | (go_at_call 145; (with_reducible refine (HT.out _ HC.out).mono ?_); rintro e w1 ⟨rfl, hc1, hb1⟩)
          | (go_at_call 67; (with_reducible refine (HW.out _ _ hc1).mono ?_); rintro e w3 ⟨rfl, hc3, hb3⟩))
        go_ret
        exact ⟨rfl, hc3, bl3 hb1 hb3⟩
    · rw [decide_eq_false (show ¬ 49 ≤ y.toNat by omega), Bool.false_and]
      simp only [Bool.false_eq_true, if_false]
      go_enter Tryd.func142, Tryd.ntmps142
      go_wp2_with (first
        | (go_at_call 145; (with_reducible refine (HT.out _ HC.out).mono ?_); rintro e w1 ⟨rfl, hc1, hb1⟩)
        | (go_at_call 67; (with_reducible refine (HW.out _ _ hc1).mono ?_); rintro e w3 ⟨rfl, hc3, hb3⟩))
      go_ret
      exact ⟨rfl, hc3, bl3 hb1 hb3⟩

theorem digL_num {n : Nat} (h : n ≤ 99) : numV (digL n) = n ∧ numOk (digL n) 99 = true := by
  by_cases h1 : n < 10
  · rw [digL_lt h1]
    have e : (dch n).toNat = 48 + n := by rw [dch_toNat]; omega
    have e1 : numV [dch n] = n := by simp [numV, e]
    refine ⟨e1, numOk_yes 99 (by simp) (by simp) (by simp) (by rw [e1]; omega)⟩
  · rw [digL_ge h1, digL_lt (by omega)]
    have e : (dch n).toNat = 48 + n % 10 := by rw [dch_toNat]
    have e2 : (dch (n / 10)).toNat = 48 + n / 10 := by rw [dch_toNat]; omega
    have e1 : numV ([dch (n / 10)] ++ [dch n]) = n := by simp [numV, e, e2]; omega
    refine ⟨e1, numOk_yes 99 (by simp) (by simp) (by simp [e2]; omega) (by rw [e1]; omega)⟩
theorem num_hit {m n : Nat} {t : List UInt8} (h : digL n = t) (hm : m ≤ n) (hn : n ≤ 99) : numB (m : Int) t = true ∧ (numV t : Int) = (n : Int) := by
  subst h
  obtain ⟨h1, h2⟩ := digL_num hn
  refine ⟨?_, by rw [h1]⟩
  unfold numB
  rw [h2, h1, Bool.true_and, decide_eq_true_eq]
  omega
theorem num_miss {m : Nat} {t : List UInt8} (hk : ∀ c ∈ t, kOk 2 c = true) (h : ∀ n, m ≤ n → n ≤ 99 → digL n ≠ t) : numB (m : Int) t = false := by
  cases hb : numB (m : Int) t with
  | false => rfl
  | true =>
    unfold numB at hb
    rw [Bool.and_eq_true, decide_eq_true_eq] at hb
    obtain ⟨b1, b2⟩ := num_back2 hk hb.1
    exact absurd b1 (h _ (by omega) b2)

set_option maxHeartbeats 1000000 in
theorem rnumber_m (b : Nat) (s : ByteArray) (p : Nat) (m : Nat) (c : CmdT) (x : ErrS) (w : World) (hm : m ≤ 1) (hs : s.size ≤ maxLen) (hp : p ≤ s.size) (hc : RS w b s p c x) :
    Calls Tryd.prog 143 #[.pointer (some ⟨b, 0, none⟩), .int .i64 (m : Int)] w fun e w' => e = .returned (.int .i64 (numZ (m : Int) (runL 2 ((toL s).drop p)))) ∧ RS w' b s (p + (runL 2 ((toL s).drop p)).length) c (wantP (numB (m : Int) (runL 2 ((toL s).drop p))) x 43 p) ∧ Below b w w' := by
  have HR : RowKit.Hid (∀ W, RS W b s p c x → Calls Tryd.prog 180 #[.pointer (some ⟨b, 0, none⟩), .int .i64 2] W fun e w' => e = .returned (txV (runL 2 ((toL s).drop p))) ∧ RS w' b s (p + (runL 2 ((toL s).drop p)).length) c x ∧ Below b W w') := Lib.hid fun W h => rrun_m b s p 2 c x W hs hp h
  have HW : RowKit.Hid (∀ W q, RS W b s q c x → Calls Tryd.prog 67 #[.pointer (some ⟨b, 0, none⟩), .int .i64 43, .int .i64 (p : Int)] W fun e w' => e = .returned (.tuple #[]) ∧ RS w' b s q c (wrongP x 43 p) ∧ Below b W w') := Lib.hid fun W q h => wrong_m b s q c x 43 p W h
  have HD : RowKit.Hid (∀ n W, n ≤ 99 → Calls Tryd.prog 71 #[.int .i64 (n : Nat)] W fun e w' => e = .returned (.string (digA n)) ∧ Below W.heap.size W w') := Lib.hid fun n W h => digits_any n W (by omega)
  have HK : RowKit.Hid (∀ y ∈ runL 2 ((toL s).drop p), kOk 2 y = true) := Lib.hid fun y hy => List.all_eq_true.1 (List.all_takeWhile (p := kOk 2) (l := (toL s).drop p)) y hy
  have k2 := hc.at_
  have HC := Lib.hid hc
  generalize runL 2 ((toL s).drop p) = t at *
  have HHIT : RowKit.Hid (∀ n, digL n = t → m ≤ n → n ≤ 99 → numB (m : Int) t = true ∧ (numV t : Int) = (n : Int)) := Lib.hid fun n h h1 h2 => num_hit h h1 h2
  have HMIS : RowKit.Hid ((∀ n, m ≤ n → n ≤ 99 → digL n ≠ t) → numB (m : Int) t = false) := Lib.hid fun h => num_miss HK.out h
  have HMM := Lib.hid hm
  have hu : (⟨t.toArray⟩ : ByteArray).data.toList = t := by simp
  unfold txV at HR
  generalize (⟨t.toArray⟩ : ByteArray) = u at HR hu
  have HTX : RowKit.Hid (∀ n, ((digA n).toList == u.toList) = decide (digL n = t)) := Lib.hid fun n => by
    rw [ByteArray.toList_eq, ByteArray.toList_eq, digA_list, hu]
    by_cases h : digL n = t <;> simp [h]
  clear hc hu
  go_enter Tryd.func143, Tryd.ntmps143
  go_wp2_with (first
    | (go_at_call 180; (with_reducible refine (HR.out _ HC.out).mono ?_); rintro e w1 ⟨rfl, hc1, hb1⟩))
  have HC1 := Lib.hid hc1
  have HB1 := Lib.hid hb1
  clear hc1 hb1
  go_loopw [7] (fun i wr => ∃ n : Nat, m ≤ n ∧ n ≤ 100 ∧ i = .int .i64 n ∧ (∀ j, m ≤ j → j < n → digL j ≠ t) ∧ RS wr b s (p + t.length) c x ∧ Below b w wr) (fun i _ => 100 - (intOf i).toNat)
  case atStart => exact ⟨m, Nat.le_refl _, by have := HMM.out; omega, rfl, fun j h1 h2 => by omega, HC1.out, HB1.out⟩
  case round =>
    obtain ⟨n, hn1, hn2, rfl, hno, h2, h3⟩ := hrel
    have HNO := Lib.hid hno
    have H2 := Lib.hid h2
    have H3 := Lib.hid h3
    clear hno h2 h3
    by_cases hlt : n ≤ 99
    · by_cases he : digL n = t
      · have hq : ((digA n).toList == u.toList) = true := by rw [HTX.out, decide_eq_true he]
        have HE := Lib.hid he
        clear he
        go_wp2_with (first
          | (go_at_call 71; (with_reducible refine (HD.out _ _ hlt).mono ?_); rintro e w2 ⟨rfl, hb2⟩))
        go_ret
        obtain ⟨g1, g2⟩ := HHIT.out n HE.out hn1 hlt
        refine ⟨by unfold numZ; rw [g1, g2]; rfl, ?_, bl2 H3.out hb2 H2.out.lt⟩
        rw [g1]
        exact H2.out.mono hb2
      · have hq : ((digA n).toList == u.toList) = false := by rw [HTX.out, decide_eq_false he]
        have HE := Lib.hid he
        clear he
        go_wp2_with (first
          | (go_at_call 71; (with_reducible refine (HD.out _ _ hlt).mono ?_); rintro e w2 ⟨rfl, hb2⟩))
        go_roundw
        case rel => exact ⟨n + 1, by omega, by omega, by go_num, fun j h1 h2 => by
          by_cases e : j = n
          · rw [e]; exact HE.out
          · exact HNO.out j h1 (by omega), H2.out.mono hb2, bl2 H3.out hb2 H2.out.lt⟩
        case measure => simp [intOf]; omega
    · have hn : n = 100 := by omega
      subst hn
      go_wp2_with (first
        | (go_at_call 67; (with_reducible refine (HW.out _ _ H2.out).mono ?_); rintro e w3 ⟨rfl, hc3, hb3⟩))
      go_ret
      have g1 := HMIS.out fun n h1 h2 => HNO.out n h1 (by omega)
      refine ⟨by unfold numZ; rw [g1]; rfl, ?_, bl3 H3.out hb3⟩
      rw [g1]
      exact hc3

theorem rTx_le {l : List UInt8} {p : Nat} (f : Int) (hp : p ≤ l.length) : p + (rTx f l p).length ≤ l.length := by
  have r1 := fun k => runL_le k (l.drop p)
  simp only [List.length_drop] at r1
  unfold rTx
  repeat' split
  · have := r1 3; omega
  · simp [tk]; omega
  · have := r1 1; omega
  · simp [tk]; omega
  · simp; omega
  · simp [tk]; omega
  · exact (seatTx_took hp).2.1

section
variable {b : Nat} {s : ByteArray} (hs : s.size ≤ maxLen)
include hs
theorem rtext_t (f : Int) (hf : f = 1 ∨ f = 2 ∨ f = 3 ∨ f = 4 ∨ f = 5 ∨ f = 6 ∨ f = 7) (q : Nat) (c : CmdT) (x : ErrS) (W : World) (hq : q ≤ s.size) (hc : RS W b s q c x) :
    Calls Tryd.prog 139 #[.pointer (some ⟨b, 0, none⟩), .int .i64 f] W fun e w' => ∃ t q' y, RowKit.Hid (rText f (toL s) q x = (t, q', y)) ∧ q' ≤ s.size ∧ e = .returned (txV t) ∧ RS w' b s q' c y ∧ RowKit.Hid (Below b W w') := by
  have hle := rTx_le f (l := toL s) (p := q) (by simpa using hq)
  rw [show (toL s).length = s.size by simp] at hle
  have H : Calls Tryd.prog 139 #[.pointer (some ⟨b, 0, none⟩), .int .i64 f] W fun e w' => e = .returned (txV (rTx f (toL s) q)) ∧ RS w' b s (q + (rTx f (toL s) q).length) c (wantP (rOk f (rTx f (toL s) q)) x 46 q) ∧ Below b W w' := by
    rcases hf with rfl | rfl | rfl | rfl | rfl | rfl | rfl
    · exact rtext1_m b s q c x W hs hq hc
    · exact rtext2_m b s q c x W hs hq hc
    · exact rtext3_m b s q c x W hs hq hc
    · exact rtext4_m b s q c x W hs hq hc
    · exact rtext5_m b s q c x W hs hq hc
    · exact rtext6_m b s q c x W hs hq hc
    · exact rtext7_m b s q c x W hs hq hc
  exact H.mono fun e w' h => ⟨_, _, _, Lib.hid rfl, hle, h.1, h.2.1, Lib.hid h.2.2⟩
theorem rday_t (q : Nat) (c : CmdT) (x : ErrS) (W : World) (hq : q ≤ s.size) (hc : RS W b s q c x) :
    Calls Tryd.prog 141 #[.pointer (some ⟨b, 0, none⟩)] W fun e w' => ∃ t q' y, RowKit.Hid (rDay (toL s) q x = (t, q', y)) ∧ q' ≤ s.size ∧ e = .returned (.int .i64 t) ∧ RS w' b s q' c y ∧ RowKit.Hid (Below b W w') :=
  (rday_m b s q c x W hs hq hc).mono fun e w' h => ⟨_, _, _, Lib.hid rfl, by simp [tk]; omega, h.1, h.2.1, Lib.hid h.2.2⟩
theorem rdigit_t (m : Int) (q : Nat) (c : CmdT) (x : ErrS) (W : World) (hq : q ≤ s.size) (hc : RS W b s q c x) :
    Calls Tryd.prog 142 #[.pointer (some ⟨b, 0, none⟩), .int .i64 m] W fun e w' => ∃ t q' y, RowKit.Hid (rDigit m (toL s) q x = (t, q', y)) ∧ q' ≤ s.size ∧ e = .returned (.int .i64 t) ∧ RS w' b s q' c y ∧ RowKit.Hid (Below b W w') :=
  (rdigit_m b s q m c x W hs hq hc).mono fun e w' h => ⟨_, _, _, Lib.hid rfl, by simp [tk]; omega, h.1, h.2.1, Lib.hid h.2.2⟩
theorem rnumber_t (m : Nat) (hm : m ≤ 1) (z : Int) (hz : (m : Int) = z) (q : Nat) (c : CmdT) (x : ErrS) (W : World) (hq : q ≤ s.size) (hc : RS W b s q c x) :
    Calls Tryd.prog 143 #[.pointer (some ⟨b, 0, none⟩), .int .i64 z] W fun e w' => ∃ t q' y, RowKit.Hid (rNumber z (toL s) q x = (t, q', y)) ∧ q' ≤ s.size ∧ e = .returned (.int .i64 t) ∧ RS w' b s q' c y ∧ RowKit.Hid (Below b W w') := by
  subst hz
  exact (rnumber_m b s q m c x W hm hs hq hc).mono fun e w' h => ⟨_, _, _, Lib.hid rfl, by have := runL_le 2 ((toL s).drop q); simp at this; omega, h.1, h.2.1, Lib.hid h.2.2⟩
theorem rsign_t (g : UInt8) (z : Int) (hz : (g.toNat : Int) = z) (q : Nat) (c : CmdT) (x : ErrS) (W : World) (hq : q ≤ s.size) (hc : RS W b s q c x) :
    Calls Tryd.prog 140 #[.pointer (some ⟨b, 0, none⟩), .int .u8 z] W fun e w' => ∃ q' y, RowKit.Hid (rSign g (toL s) q x = ((), q', y)) ∧ q' ≤ s.size ∧ e = .returned (.tuple #[]) ∧ RS w' b s q' c y ∧ RowKit.Hid (Below b W w') := by
  subst hz
  exact (rsign_m b s q g c x W hs hq hc).mono fun e w' ⟨h1, ⟨q', y, h2, h3, h4⟩, h5⟩ => ⟨q', y, h2, h3, h1, h4, Lib.hid h5⟩
end
end Go.Proofs.YtjahkaidinahpaaDoor.En
