/- Seats read from texts: jetwayref09.Read. -/
import Derived.Test.YtpmmjccdogjncaaDoorPlnB
namespace Go.Proofs.YtpmmjccdogjncaaDoor
open Go.RowKit
set_option linter.unusedSimpArgs false

theorem dch_of {a : UInt8} {n : Nat} (h : (a.toNat : Int) - 48 = n % 10) : dch n = a := by
  apply UInt8.toNat_inj.1
  rw [dch_toNat]
  omega

theorem dig_of {c : UInt8} (h : isD c.toNat = true) : 48 ≤ (c.toNat : Int) ∧ (c.toNat : Int) ≤ 57 := by
  unfold isD at h
  exact of_decide_eq_true h

theorem dig_mk {c : UInt8} (h : 48 ≤ (c.toNat : Int) ∧ (c.toNat : Int) ≤ 57) : isD c.toNat = true := by
  unfold isD
  exact decide_eq_true h

theorem seatT_eq {r : Int} {c : UInt8} {n : Nat} (hn : r = n) (h1 : 1 ≤ n) (h2 : n ≤ 99) (hc : isL c.toNat = true) : (seatT r c).data.toList = two n ++ [c] := by
  subst hn
  unfold seatT
  rw [if_pos ⟨by omega, by omega, hc⟩]
  show ((digA n) ++ ⟨#[c]⟩ : ByteArray).data.toList = _
  have : ((digA n) ++ ⟨#[c]⟩ : ByteArray).data.toList = (digA n).data.toList ++ [c] := by simp
  rw [this, digA_list, digL_two (by omega)]

/-- A text that is a seat's is read as it. -/
theorem read_seatT {l : List UInt8} {n : Nat} {c : UInt8} (h1 : 1 ≤ n) (h2 : n ≤ 99) (hl : l ≠ []) (h : (seatT n c).data.toList = l) : readL l = some ((n : Int), c) := by
  cases hc : isL c.toNat
  · rw [seatT_no (by rw [hc]; simp)] at h
    exact absurd h.symm hl
  · rw [seatT_eq rfl h1 h2 hc] at h
    subst h
    unfold two
    by_cases h10 : n < 10
    · rw [if_pos h10]
      have e := dch_toNat n
      show (if _ then some (((dch n).toNat : Int) - 48, c) else none) = _
      rw [if_pos ⟨dig_mk (by omega), by omega, hc⟩]
      congr 2
      omega
    · rw [if_neg h10]
      have e := dch_toNat n
      have e' := dch_toNat (n / 10)
      show (if _ then some (10 * (((dch (n / 10)).toNat : Int) - 48) + (((dch n).toNat : Int) - 48), c) else none) = _
      rw [if_pos ⟨dig_mk (by omega), by omega, dig_mk (by omega), hc⟩]
      congr 2
      omega

/-- What is read is a seat's text. -/
theorem seatT_read {l : List UInt8} {r : Int} {c : UInt8} (h : readL l = some (r, c)) : ∃ n : Nat, r = n ∧ 1 ≤ n ∧ n ≤ 99 ∧ isL c.toNat = true ∧ c = l.getD (l.length - 1) 0 ∧ (seatT n c).data.toList = l ∧ (l.length = 2 ∨ l.length = 3) := by
  rcases l with _ | ⟨a, _ | ⟨b, _ | ⟨d, _ | ⟨e, t⟩⟩⟩⟩
  · cases h
  · cases h
  · simp only [readL] at h
    split at h
    · rename_i hh
      obtain ⟨g1, g2, g3⟩ := hh
      have := dig_of g1
      injection h with h
      injection h with hr hcc
      subst hcc
      refine ⟨a.toNat - 48, by omega, by omega, by omega, g3, rfl, ?_, .inl rfl⟩
      rw [seatT_eq rfl (by omega) (by omega) g3]
      unfold two
      rw [if_pos (by omega), dch_of (a := a) (by omega)]
      rfl
    · cases h
  · simp only [readL] at h
    split at h
    · rename_i hh
      obtain ⟨g1, g2, g3, g4⟩ := hh
      have := dig_of g1
      have := dig_of g3
      injection h with h
      injection h with hr hcc
      subst hcc
      refine ⟨10 * (a.toNat - 48) + (b.toNat - 48), by omega, by omega, by omega, g4, rfl, ?_, .inr rfl⟩
      rw [seatT_eq rfl (by omega) (by omega) g4]
      unfold two
      rw [if_neg (by omega), dch_of (a := a) (by omega), dch_of (a := b) (by omega)]
      rfl
    · cases h
  · cases h

theorem read_short {l : List UInt8} (h : l.length < 2 ∨ 3 < l.length) : readL l = none := by
  cases hr : readL l with
  | none => rfl
  | some p =>
    obtain ⟨r, c⟩ := p
    obtain ⟨_, _, _, _, _, _, _, h2⟩ := seatT_read hr
    omega

theorem read_miss {l : List UInt8} (h : ∀ n : Nat, 1 ≤ n → n < 100 → (seatT n (l.getD (l.length - 1) 0)).data.toList ≠ l) : readL l = none := by
  cases hr : readL l with
  | none => rfl
  | some p =>
    obtain ⟨r, c⟩ := p
    obtain ⟨n, _, h1, h2, _, hc, h3, _⟩ := seatT_read hr
    rw [← hc] at h
    exact absurd h3 (h n h1 (by omega))

theorem str_eq_list {a b : ByteArray} (h : a.data.toList = b.data.toList) : a = b := by
  obtain ⟨⟨a⟩⟩ := a
  obtain ⟨⟨b⟩⟩ := b
  simp at h
  rw [h]

set_option maxRecDepth 20000 in
set_option maxHeartbeats 4000000 in
theorem refRead_any (s : ByteArray) (w : World) (hs : s.size ≤ maxLen) :
    Calls Tryd.prog 17 #[.string s] w fun e w' => e = .returned (.tuple #[.agg (seatO (readL s.data.toList)).toArray, .bool (readL s.data.toList).isSome]) ∧ Below w.heap.size w w' := by
  have hsm : s.size ≤ 9223372036854775807 := hs
  have HB0 : RowKit.Hid (Blk (w.alloc (.cells #[.int .i64 0, .int .u8 0] 23)) w.heap.size 23 (seatC 0 0)) := Lib.hid (Blk.new w 23 (seatC 0 0))
  have HW0 : RowKit.Hid (Below w.heap.size w (w.alloc (.cells #[.int .i64 0, .int .u8 0] 23))) := Lib.hid ((Below.refl _ _).alloc (Nat.le_refl _) _)
  have hhs : (w.alloc (.cells #[.int .i64 0, .int .u8 0] 23)).heap.size = w.heap.size + 1 := by simp
  obtain ⟨w1, e1⟩ : ∃ w1, w.alloc (.cells #[.int .i64 0, .int .u8 0] 23) = w1 := ⟨_, rfl⟩
  rw [e1] at HB0 HW0 hhs
  by_cases hsh : s.size < 2 ∨ 3 < s.size
  · have HF := Lib.hid (read_short (l := s.data.toList) (by simpa using hsh))
    rcases hsh with hsh | hsh
    all_goals
      go_enter Tryd.func17, Tryd.ntmps17
      go_wp2_with (first
        | (refine wpList_store_blk rfl 23 (.tmp 2) (.tmp 14) rfl w.heap.size 23 (seatC 0 0) (seatC 0 0) rfl rfl HB0.out rfl info_seat seatC_one ?_; intro w9 ha9 hb9 _))
      exact seat_back rfl rfl rfl ha9 rfl (by rw [HF.out]; rfl) (by rw [HF.out]; rfl) (HW0.out.trans hb9)
  · obtain ⟨q, hq⟩ : ∃ q, s.size = q + 1 := ⟨s.size - 1, by omega⟩
    have hqs : q < s.size := by omega
    have hgl := get_list s q hqs
    have hq1 : 1 ≤ q := by omega
    have hq2 : q ≤ 2 := by omega
    have hlen : s.data.toList.length = s.size := by simp
    have HMISS : RowKit.Hid ((∀ n : Nat, 1 ≤ n → n < 100 → (seatT n (s.data.toList.getD q 0)).data.toList ≠ s.data.toList) → readL s.data.toList = none) := Lib.hid fun h => read_miss (by rw [show s.data.toList.length - 1 = q by omega]; exact h)
    have HHIT : RowKit.Hid (∀ n : Nat, 1 ≤ n → n ≤ 99 → seatT n (s.data.toList.getD q 0) = s → readL s.data.toList = some ((n : Int), s.data.toList.getD q 0)) := Lib.hid fun n h1 h2 h => read_seatT h1 h2 (by intro e; rw [e] at hlen; simp at hlen; omega) (by rw [h])
    clear hlen hsh
    generalize s.data.toList.getD q 0 = x at *
    go_enter Tryd.func17, Tryd.ntmps17
    go_wp2
    go_loopg [4] 100 (fun g i wr => ∃ k : Nat, 1 ≤ k ∧ k ≤ 100 ∧ g = 101 - k ∧ i = .int .i64 k ∧ Below w1.heap.size w1 wr ∧ ∀ n : Nat, 1 ≤ n → n < k → (seatT n x).data.toList ≠ s.data.toList)
    case atStart => exact ⟨1, by omega, by omega, rfl, rfl, Below.refl _ _, fun n h1 h2 => absurd h2 (by omega)⟩
    case round =>
      obtain ⟨k, hk1, hk2, rfl, rfl, hb, hmiss⟩ := hrel
      have HM := Lib.hid hmiss
      clear hmiss
      by_cases hlt : k < 100
      · have hki : (k : Int) ≤ 99 := by omega
        have HT : RowKit.Hid (∀ W, Calls Tryd.prog 18 #[.agg (seatC k x).toArray] W fun e w' => e = .returned (.string (seatT k x)) ∧ Below W.heap.size W w') := Lib.hid fun W => refText_any k x W
        by_cases heq : seatT k x = s
        · have HF := Lib.hid (HHIT.out k hk1 (by omega) heq)
          rw [heq] at HT
          go_wp2_with (first
            | (refine wpList_store_blk rfl 23 (.tmp 5) (.tmp 25) rfl wr.heap.size 23 (seatC 0 0) (seatC k x) rfl rfl (Blk.new wr 23 (seatC 0 0)) rfl info_seat seatC_one ?_; intro w8 ha8 hb8 _; have hb18 := hb.trans ((((Below.refl _ _).alloc (Nat.le_refl _) _).trans hb8).mono hb.size))
            | (refine wpList_load_mid rfl 23 (.tmp 5) rfl wr.heap.size 0 rfl (seatC k x) _ ha8.range Tryd.underlying23 rfl info_seat ?_)
            | (go_at_call 18; (with_reducible refine (HT.out _).mono ?_); rintro e w3 ⟨rfl, hb3⟩; have ha3 := ha8.mono hb3; have hb13 := bel_trans hb18 hb3; have HB3 := HB0.out.mono hb13)
            | (refine wpList_load_mid rfl 23 (.tmp 5) rfl wr.heap.size 0 rfl (seatC k x) _ ha3.range Tryd.underlying23 rfl info_seat ?_)
            | (refine wpList_store_blk rfl 23 (.tmp 2) (.tmp 30) rfl w.heap.size 23 (seatC 0 0) (seatC k x) rfl rfl HB3 rfl info_seat seatC_one ?_; intro w9 ha9 hb9 _))
          exact seat_back rfl rfl rfl ha9 rfl (by rw [HF.out]; rfl) (by rw [HF.out]; rfl) ((bel_trans HW0.out hb13).trans hb9)
        · have hqb : ((seatT k x).toList == s.toList) = false := by rw [beq_eq_false_iff_ne]; exact fun h => heq (toList_inj h)
          have HN : RowKit.Hid (∀ n : Nat, 1 ≤ n → n < k + 1 → (seatT n x).data.toList ≠ s.data.toList) := Lib.hid fun n h1 h2 => by
            rcases Nat.lt_or_ge n k with h | h
            · exact HM.out n h1 h
            · rw [show n = k by omega]; exact fun e => heq (str_eq_list e)
          clear heq
          generalize seatT k x = T at *
          go_wp2_with (first
            | (refine wpList_store_blk rfl 23 (.tmp 5) (.tmp 25) rfl wr.heap.size 23 (seatC 0 0) (seatC k x) rfl rfl (Blk.new wr 23 (seatC 0 0)) rfl info_seat seatC_one ?_; intro w8 ha8 hb8 _; have hb18 := hb.trans ((((Below.refl _ _).alloc (Nat.le_refl _) _).trans hb8).mono hb.size))
            | (refine wpList_load_mid rfl 23 (.tmp 5) rfl wr.heap.size 0 rfl (seatC k x) _ ha8.range Tryd.underlying23 rfl info_seat ?_)
            | (go_at_call 18; (with_reducible refine (HT.out _).mono ?_); rintro e w3 ⟨rfl, hb3⟩; have ha3 := ha8.mono hb3; have hb13 := bel_trans hb18 hb3; have HB3 := HB0.out.mono hb13))
          go_roundg (101 - (k + 1))
          case measure => omega
          case rel => exact ⟨k + 1, by omega, by omega, rfl, by go_num, hb13, HN.out⟩
      · have hke : k = 100 := by omega
        subst hke
        have HF := Lib.hid (HMISS.out HM.out)
        have HBr := Lib.hid (HB0.out.mono hb)
        go_wp2_with (first
          | (refine wpList_store_blk rfl 23 (.tmp 2) (.tmp 31) rfl w.heap.size 23 (seatC 0 0) (seatC 0 0) rfl rfl HBr.out rfl info_seat seatC_one ?_; intro w9 ha9 hb9 _))
        exact seat_back rfl rfl rfl ha9 rfl (by rw [HF.out]; rfl) (by rw [HF.out]; rfl) ((bel_trans HW0.out hb).trans hb9)
end Go.Proofs.YtpmmjccdogjncaaDoor
