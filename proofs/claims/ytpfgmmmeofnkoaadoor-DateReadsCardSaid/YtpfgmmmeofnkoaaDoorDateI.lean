/- The contract of the reference's ReadClock. -/
import Derived.Test.YtpfgmmmeofnkoaaDoorDateH
namespace Go.Proofs.YtpfgmmmeofnkoaaDoor
open Go.RowKit

theorem ctxt_at {h m : Nat} (hm : m < 60) : ctxt (h * 60 + m) = two h ++ two m := by
  unfold ctxt
  rw [show (h * 60 + m) / 60 = h by omega, show (h * 60 + m) % 60 = m by omega]
theorem ctxt_len (t : Nat) : (ctxt t).length = 4 := rfl
theorem readC_none {l : List UInt8} (h : ∀ t, t < 1440 → ctxt t ≠ l) : readC l = none := by
  cases hr : readC l with
  | none => rfl
  | some d => exact absurd (readC_only hr).2 (h d (readC_only hr).1)
theorem readC_some {l : List UInt8} {t : Nat} (hd : t < 1440) (h : ctxt t = l) : readC l = some t := by rw [← h]; exact clock_facts t hd
theorem skip_hour {l : List UInt8} {h : Nat} (hno : ∀ t, t < h * 60 → ctxt t ≠ l) (hh : l.length ≠ 4 ∨ l.take 2 ≠ two h) : ∀ t, t < (h + 1) * 60 → ctxt t ≠ l := by
  intro t ht
  rcases Nat.lt_or_ge t (h * 60) with h1 | h1
  · exact hno t h1
  · intro he
    rcases hh with hh | hh
    · exact hh (by rw [← he]; rfl)
    · have : ctxt t = two h ++ two (t - h * 60) := by
        rw [show t = h * 60 + (t - h * 60) by omega, ctxt_at (by omega), show h * 60 + (t - h * 60) - h * 60 = t - h * 60 by omega]
      rw [this] at he
      exact hh ((take_drop_eq rfl).1 he).1

set_option maxHeartbeats 4000000 in
theorem rreadClock_any (s : ByteArray) (w : World) :
    Calls Tryd.prog 18 #[.string s] w fun e w' => e = .returned (.tuple #[.int .i64 (optI (readC s.data.toList)), .bool (readC s.data.toList).isSome]) ∧ Below w.heap.size w w' := by
  have hlen : s.data.toList.length = s.size := by simp
  have h1 : s.size = 4 → (s.extract 2 s.size).data.toList = s.data.toList.drop 2 := by
    intro _
    simp
    exact List.take_of_length_le (by simp)
  have h2 : (s.extract 0 2).data.toList = s.data.toList.take 2 := by simp
  have H1 := Lib.hid h1
  have H2 := Lib.hid h2
  have HL := Lib.hid hlen
  clear h1 h2 hlen
  go_enter Tryd.func18, Tryd.ntmps18
  go_wp2
  go_loopw [4] (fun i wr => ∃ h : Nat, h ≤ 24 ∧ Below w.heap.size w wr ∧ i = .int .i64 h ∧ ∀ t, t < h * 60 → ctxt t ≠ s.data.toList) (fun i _ => 24 - (intOf i).toNat)
  case atStart => exact ⟨0, by omega, Below.refl _ _, rfl, fun d hd => absurd hd (by omega)⟩
  case round =>
    obtain ⟨h, hh, hb, rfl, hno⟩ := hrel
    have HNO := Lib.hid hno
    clear hno
    by_cases hh24 : h < 24
    · obtain ⟨wo, rfl⟩ : ∃ wo : World, wo = wr := ⟨_, rfl⟩
      by_cases h4 : s.size = 4
      · have g4 : ((s.size : Int) != 4) = false := by rw [h4]; rfl
        have g5 : (2 : Int) ≤ (s.size : Int) := by omega
        have g6 : 2 ≤ s.size := by omega
        have H4 := Lib.hid h4
        clear h4
        have e1 : ((h : Int)).toNat = h := by omega
        have c1 : ∀ W : World, Calls Tryd.prog 24 #[.int .i64 (h : Int)] W fun e w' => e = .returned (.string (twoA h)) ∧ Below W.heap.size W w' := fun W => by
          have h0 := rtwo_any (h : Int) W (by omega) (by omega)
          rw [e1] at h0; exact h0
        have C1 := Lib.hid c1
        clear c1 e1
        by_cases ht : (s.extract 0 2).data.toList = two h
        · have hq2 : ((s.extract 0 2).toList == (twoA h).toList) = true := by
            rw [ByteArray.toList_eq, ByteArray.toList_eq, ht, twoA_list]; simp
          have HT := Lib.hid ht
          clear ht
          go_wp2_with fail
          go_region_held3 (fun _ => True) (trivial) (first | (go_at_call 24; (with_reducible refine (C1.out _).mono ?_); rintro e w1 ⟨rfl, hb1⟩))
          have hb2 : Below w.heap.size w w1 := (hb.drew).trans (hb1.mono hb.size)
          clear hb1
          go_wp2
          go_loopw [5] (fun i wr => ∃ m : Nat, m ≤ 60 ∧ Below w.heap.size w wr ∧ i = .int .i64 m ∧ ∀ t, t < h * 60 + m → ctxt t ≠ s.data.toList) (fun i _ => 60 - (intOf i).toNat)
          case atStart => exact ⟨0, by omega, hb2, rfl, HNO.out⟩
          case round =>
            obtain ⟨m, hm, hbr, rfl, hno⟩ := hrel
            have HN2 := Lib.hid hno
            clear hno
            by_cases hm60 : m < 60
            · have e2 : ((m : Int)).toNat = m := by omega
              have c2 : ∀ W : World, Calls Tryd.prog 24 #[.int .i64 (m : Int)] W fun e w' => e = .returned (.string (twoA m)) ∧ Below W.heap.size W w' := fun W => by
                have h0 := rtwo_any (m : Int) W (by omega) (by omega)
                rw [e2] at h0; exact h0
              have C2 := Lib.hid c2
              clear c2 e2
              by_cases hd : (s.extract 2 s.size).data.toList = two m
              · have hq3 : ((s.extract 2 s.size).toList == (twoA m).toList) = true := by
                  rw [ByteArray.toList_eq, ByteArray.toList_eq, hd, twoA_list]; simp
                have hr : readC s.data.toList = some (h * 60 + m) := readC_some (by omega) (by rw [ctxt_at hm60]; exact (take_drop_eq rfl).2 ⟨by rw [← H2.out]; exact HT.out, by rw [← H1.out H4.out]; exact hd⟩)
                have HR := Lib.hid hr
                clear hr hd
                go_wp2_with fail
                go_region_held3 (fun _ => True) (trivial) (first | (go_at_call 24; (with_reducible refine (C2.out _).mono ?_); rintro e w2 ⟨rfl, hb1⟩))
                go_wp2
                go_ret2
                exact ⟨by rw [HR.out]; rfl, (hbr.drew).trans (hb1.mono hbr.size)⟩
              · have hq3 : ((s.extract 2 s.size).toList == (twoA m).toList) = false := by
                  rw [ByteArray.toList_eq, ByteArray.toList_eq, beq_eq_false_iff_ne, twoA_list]; exact hd
                have hr : ctxt (h * 60 + m) ≠ s.data.toList := by rw [ctxt_at hm60]; exact fun he => hd (by rw [H1.out H4.out]; exact ((take_drop_eq rfl).1 he).2)
                have HR := Lib.hid hr
                clear hr hd
                go_wp2_with fail
                go_region_held3 (fun _ => True) (trivial) (first | (go_at_call 24; (with_reducible refine (C2.out _).mono ?_); rintro e w2 ⟨rfl, hb1⟩))
                go_wp2
                go_roundw
                case rel => exact ⟨m + 1, by omega, (hbr.drew).trans (hb1.mono hbr.size), by go_num, fun t ht => by rcases Nat.lt_or_ge t (h * 60 + m) with hlo | hlo; exact HN2.out t hlo; rw [show t = h * 60 + m by omega]; exact HR.out⟩
                case measure => simp [intOf]; omega
            · go_wp2
              go_roundw
              case rel => exact ⟨h + 1, by omega, hbr, by go_num, fun t ht => HN2.out t (by omega)⟩
              case measure => simp [intOf]; omega
        · have hq2 : ((s.extract 0 2).toList == (twoA h).toList) = false := by
            rw [ByteArray.toList_eq, ByteArray.toList_eq, beq_eq_false_iff_ne, twoA_list]; exact ht
          have hs := skip_hour HNO.out (.inr (by rw [← H2.out]; exact ht))
          have HS := Lib.hid hs
          clear hs ht
          go_wp2_with fail
          go_region_held3 (fun _ => True) (trivial) (first | (go_at_call 24; (with_reducible refine (C1.out _).mono ?_); rintro e w1 ⟨rfl, hb1⟩))
          go_wp2
          go_roundw
          case rel => exact ⟨h + 1, by omega, (hb.drew).trans (hb1.mono hb.size), by go_num, HS.out⟩
          case measure => simp [intOf]; omega
      · have g4 : ((s.size : Int) != 4) = true := by rw [bne_iff_ne]; omega
        have hs := skip_hour HNO.out (.inl (by rw [HL.out]; exact h4))
        have HS := Lib.hid hs
        clear hs h4
        go_wp2_with fail
        go_quiet (fail)
        go_wp2
        go_roundw
        case rel => exact ⟨h + 1, by omega, below_drewN hb _, by go_num, HS.out⟩
        case measure => simp [intOf]; omega
    · have hr := readC_none (l := s.data.toList) (fun t ht => HNO.out t (by omega))
      have HR := Lib.hid hr
      clear hr
      go_wp2
      go_ret2
      exact ⟨by rw [HR.out]; rfl, hb⟩
end Go.Proofs.YtpfgmmmeofnkoaaDoor
