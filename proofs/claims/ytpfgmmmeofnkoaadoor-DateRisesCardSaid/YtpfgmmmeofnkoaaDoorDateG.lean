/- The contract of the reference's Read. -/
import Derived.Test.YtpfgmmmeofnkoaaDoorDateF
namespace Go.Proofs.YtpfgmmmeofnkoaaDoor
open Go.RowKit

theorem dtxt_at {m k : Nat} (hm : m < 12) (hk1 : 1 ≤ k) (hk2 : k ≤ lenN m) : dtxt (startN m + (k - 1)) = two k ++ monL m := by
  obtain ⟨f1, f2, f3⟩ := mon_facts m hm (k - 1) (by omega)
  unfold dtxt
  rw [f2, f3, show k - 1 + 1 = k by omega]
theorem dtxt_len (d : Nat) : (dtxt d).length = 5 := by
  unfold dtxt
  rw [List.length_append]
  have : (monL (monOf d)).length = 3 := by unfold monL; split <;> rfl
  rw [this]; rfl
theorem read_none {l : List UInt8} (h : ∀ d, d < 366 → dtxt d ≠ l) : readS l = none := by
  cases hr : readS l with
  | none => rfl
  | some d => exact absurd (read_only hr).2 (h d (read_only hr).1)
theorem read_some {l : List UInt8} {d : Nat} (hd : d < 366) (h : dtxt d = l) : readS l = some d := by rw [← h]; exact (day_facts d hd).2.2.2
theorem take_drop_eq {l a b : List UInt8} (ha : a.length = 2) : (a ++ b = l) ↔ (l.take 2 = a ∧ l.drop 2 = b) := by
  constructor
  · intro h; subst h; rw [← ha]; simp
  · intro ⟨h1, h2⟩; rw [← h1, ← h2, List.take_append_drop]

set_option maxHeartbeats 4000000 in
theorem rread_any (s : ByteArray) (w : World) :
    Calls Tryd.prog 16 #[.string s] w fun e w' => e = .returned (.tuple #[.int .i64 (optI (readS s.data.toList)), .bool (readS s.data.toList).isSome]) ∧ Below w.heap.size w w' := by
  have hlen : s.data.toList.length = s.size := by simp
  have h1 : s.size = 5 → (s.extract 2 s.size).data.toList = s.data.toList.drop 2 := by
    intro _
    simp
    exact List.take_of_length_le (by simp)
  have h2 : (s.extract 0 2).data.toList = s.data.toList.take 2 := by simp
  have H1 := Lib.hid h1
  have H2 := Lib.hid h2
  have HL := Lib.hid hlen
  clear h1 h2 hlen
  go_enter Tryd.func16, Tryd.ntmps16
  go_wp2
  go_loopw [4, 5] (fun n i wr => ∃ m : Nat, m ≤ 12 ∧ Below w.heap.size w wr ∧ i = .int .i64 m ∧ n = .int .i64 (startN m) ∧ ∀ d, d < startN m → dtxt d ≠ s.data.toList) (fun _ i _ => 12 - (intOf i).toNat)
  case atStart => exact ⟨0, by omega, Below.refl _ _, rfl, rfl, fun d hd => absurd hd (Nat.not_lt_zero d)⟩
  case round =>
    obtain ⟨m, hm, hb, rfl, rfl, hno⟩ := hrel
    have HNO := Lib.hid hno
    clear hno
    by_cases hm12 : m < 12
    · obtain ⟨l1, l2, l3, l4⟩ := len_facts m hm12
      obtain ⟨wo, rfl⟩ : ∃ wo : World, wo = wr := ⟨_, rfl⟩
      go_wp2_with (go_at_call 23; refine (month_any m _).mono ?_; rintro e w1 ⟨rfl, rfl⟩)
      go_loopw [4, 8] (fun n i wr => ∃ k : Nat, 1 ≤ k ∧ k ≤ lenN m + 1 ∧ Below w.heap.size w wr ∧ i = .int .i64 k ∧ n = .int .i64 ((startN m + (k - 1) : Nat) : Int) ∧ ∀ d, d < startN m + (k - 1) → dtxt d ≠ s.data.toList) (fun _ i _ => lenN m + 1 - (intOf i).toNat)
      case atStart => exact ⟨1, by omega, by omega, hb, rfl, rfl, HNO.out⟩
      case round =>
        obtain ⟨k, hk1, hk2, hbr, rfl, rfl, hno⟩ := hrel
        have HN2 := Lib.hid hno
        clear hno
        by_cases hlt : k ≤ lenN m
        · have hdt := dtxt_at hm12 hk1 hlt
          have hx : startN m + (k - 1) + 1 = startN m + (k + 1 - 1) := by omega
          have hx366 : startN m + (k - 1) < 366 := by omega
          have HX := Lib.hid hx
          have HD := Lib.hid hdt
          clear hx hdt
          generalize startN m + (k - 1) = x at HX HD HN2 hx366 ⊢
          by_cases h5 : s.size = 5
          · have g5 : ((s.size : Int) == 5) = true := by rw [h5]; rfl
            have g6 : (2 : Int) ≤ (s.size : Int) := by omega
            have g7 : 2 ≤ s.size := by omega
            have H5 := Lib.hid h5
            clear h5
            by_cases hn : (s.extract 2 s.size).data.toList = monL m
            · have hq : ((s.extract 2 s.size).toList == (monA m).toList) = true := by
                rw [ByteArray.toList_eq, ByteArray.toList_eq, hn, monA_list]; simp
              have HN := Lib.hid hn
              clear hn
              have e1 : ((k : Int)).toNat = k := by omega
              have c1 : ∀ W : World, Calls Tryd.prog 24 #[.int .i64 (k : Int)] W fun e w' => e = .returned (.string (twoA k)) ∧ Below W.heap.size W w' := fun W => by
                have h0 := rtwo_any (k : Int) W (by omega) (by omega)
                rw [e1] at h0; exact h0
              have C1 := Lib.hid c1
              clear c1 e1
              by_cases ht : (s.extract 0 2).data.toList = two k
              · have hq2 : ((s.extract 0 2).toList == (twoA k).toList) = true := by
                  rw [ByteArray.toList_eq, ByteArray.toList_eq, ht, twoA_list]; simp
                have hr : readS s.data.toList = some x := read_some hx366 (by rw [HD.out]; exact (take_drop_eq rfl).2 ⟨by rw [← H2.out]; exact ht, by rw [← H1.out H5.out]; exact HN.out⟩)
                have HR := Lib.hid hr
                clear hr ht
                go_wp2_with fail
                go_region_held3 (fun _ => True) (trivial) (first | (go_at_call 24; (with_reducible refine (C1.out _).mono ?_); rintro e w1 ⟨rfl, hb1⟩))
                all_goals go_wp2
                all_goals go_ret2
                all_goals exact ⟨by rw [HR.out]; rfl, (hbr.drew).trans (hb1.mono hbr.size)⟩
              · have hq2 : ((s.extract 0 2).toList == (twoA k).toList) = false := by
                  rw [ByteArray.toList_eq, ByteArray.toList_eq, beq_eq_false_iff_ne, twoA_list]; exact ht
                have hr : dtxt x ≠ s.data.toList := by rw [HD.out]; exact fun h => ht (by rw [H2.out]; exact ((take_drop_eq rfl).1 h).1)
                have HR := Lib.hid hr
                clear hr ht
                go_wp2_with fail
                go_region_held3 (fun _ => True) (trivial) (first | (go_at_call 24; (with_reducible refine (C1.out _).mono ?_); rintro e w1 ⟨rfl, hb1⟩))
                all_goals go_wp2
                all_goals go_roundw
                case rel => exact ⟨k + 1, by omega, by omega, (hbr.drew).trans (hb1.mono hbr.size), by go_num, by rw [← HX.out]; go_num, fun d hd => by (have hd2 : d < x + 1 := (by rw [HX.out]; exact hd)); rcases Nat.lt_or_ge d x with h | h; exact HN2.out d h; rw [show d = x by omega]; exact HR.out⟩
                case measure => simp [intOf]; omega
            · have hq : ((s.extract 2 s.size).toList == (monA m).toList) = false := by
                rw [ByteArray.toList_eq, ByteArray.toList_eq, beq_eq_false_iff_ne, monA_list]; exact hn
              have hr : dtxt x ≠ s.data.toList := by rw [HD.out]; exact fun h => hn (by rw [H1.out H5.out]; exact ((take_drop_eq rfl).1 h).2)
              have HR := Lib.hid hr
              clear hr hn
              go_wp2_with fail
              go_quiet (fail)
              go_wp2
              go_roundw
              case rel => exact ⟨k + 1, by omega, by omega, below_drewN hbr _, by go_num, by rw [← HX.out]; go_num, fun d hd => by (have hd2 : d < x + 1 := (by rw [HX.out]; exact hd)); rcases Nat.lt_or_ge d x with h | h; exact HN2.out d h; rw [show d = x by omega]; exact HR.out⟩
              case measure => simp [intOf]; omega
          · have g5 : ((s.size : Int) == 5) = false := by rw [beq_eq_false_iff_ne]; omega
            have hr : dtxt x ≠ s.data.toList := fun h => h5 (by rw [← HL.out, ← h]; exact dtxt_len x)
            have HR := Lib.hid hr
            clear hr h5
            go_wp2_with fail
            go_quiet (fail)
            go_wp2
            go_roundw
            case rel => exact ⟨k + 1, by omega, by omega, below_drewN hbr _, by go_num, by rw [← HX.out]; go_num, fun d hd => by (have hd2 : d < x + 1 := (by rw [HX.out]; exact hd)); rcases Nat.lt_or_ge d x with h | h; exact HN2.out d h; rw [show d = x by omega]; exact HR.out⟩
            case measure => simp [intOf]; omega
        · have hx : startN m + (k - 1) = startN (m + 1) := by rw [start_succ]; omega
          rw [hx] at HN2 ⊢
          clear hx
          go_wp2
          go_roundw
          case rel => exact ⟨m + 1, by omega, hbr, by go_num, rfl, HN2.out⟩
          case measure => simp [intOf]; omega
    · have hr := read_none (l := s.data.toList) (fun d hd => HNO.out d (by rw [show m = 12 by omega, start_12]; exact hd))
      have HR := Lib.hid hr
      clear hr
      go_wp2
      go_ret2
      exact ⟨by rw [HR.out]; rfl, hb⟩
end Go.Proofs.YtpfgmmmeofnkoaaDoor
