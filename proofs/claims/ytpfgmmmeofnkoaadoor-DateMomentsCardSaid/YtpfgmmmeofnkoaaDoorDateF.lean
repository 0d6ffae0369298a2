/- The contract of date.Read. -/
import Derived.Test.YtpfgmmmeofnkoaaDoorDateE
namespace Go.Proofs.YtpfgmmmeofnkoaaDoor
open Go.RowKit

theorem lens_i0 (w : World) : (Instr.index 41 (.agg lensV) (.int .i64 0)).run Tryd.prog w = .ok (.int .i64 31) w := by kernel_rfl
theorem lens_i1 (w : World) : (Instr.index 41 (.agg lensV) (.int .i64 1)).run Tryd.prog w = .ok (.int .i64 29) w := by kernel_rfl
theorem lens_i2 (w : World) : (Instr.index 41 (.agg lensV) (.int .i64 2)).run Tryd.prog w = .ok (.int .i64 31) w := by kernel_rfl
theorem lens_i3 (w : World) : (Instr.index 41 (.agg lensV) (.int .i64 3)).run Tryd.prog w = .ok (.int .i64 30) w := by kernel_rfl
theorem lens_i4 (w : World) : (Instr.index 41 (.agg lensV) (.int .i64 4)).run Tryd.prog w = .ok (.int .i64 31) w := by kernel_rfl
theorem lens_i5 (w : World) : (Instr.index 41 (.agg lensV) (.int .i64 5)).run Tryd.prog w = .ok (.int .i64 30) w := by kernel_rfl
theorem lens_i6 (w : World) : (Instr.index 41 (.agg lensV) (.int .i64 6)).run Tryd.prog w = .ok (.int .i64 31) w := by kernel_rfl
theorem lens_i7 (w : World) : (Instr.index 41 (.agg lensV) (.int .i64 7)).run Tryd.prog w = .ok (.int .i64 31) w := by kernel_rfl
theorem lens_i8 (w : World) : (Instr.index 41 (.agg lensV) (.int .i64 8)).run Tryd.prog w = .ok (.int .i64 30) w := by kernel_rfl
theorem lens_i9 (w : World) : (Instr.index 41 (.agg lensV) (.int .i64 9)).run Tryd.prog w = .ok (.int .i64 31) w := by kernel_rfl
theorem lens_i10 (w : World) : (Instr.index 41 (.agg lensV) (.int .i64 10)).run Tryd.prog w = .ok (.int .i64 30) w := by kernel_rfl
theorem lens_i11 (w : World) : (Instr.index 41 (.agg lensV) (.int .i64 11)).run Tryd.prog w = .ok (.int .i64 31) w := by kernel_rfl
theorem lens_index (m : Nat) (hm : m < 12) (w : World) : (Instr.index 41 (.agg lensV) (.int .i64 m)).run Tryd.prog w = .ok (.int .i64 (lenN m)) w := by
  match m, hm with
  | 0, _ => exact lens_i0 w
  | 1, _ => exact lens_i1 w
  | 2, _ => exact lens_i2 w
  | 3, _ => exact lens_i3 w
  | 4, _ => exact lens_i4 w
  | 5, _ => exact lens_i5 w
  | 6, _ => exact lens_i6 w
  | 7, _ => exact lens_i7 w
  | 8, _ => exact lens_i8 w
  | 9, _ => exact lens_i9 w
  | 10, _ => exact lens_i10 w
  | 11, _ => exact lens_i11 w

theorem monFind_hit {m : Nat} {l : List UInt8} (hm : m < 12) (h : l = monL m) : monFind (12 - m) m l = some m := by
  rw [show 12 - m = (12 - (m + 1)) + 1 by omega, monFind, if_pos h]
theorem monFind_miss {m : Nat} {l : List UInt8} (hm : m < 12) (h : ¬ l = monL m) : monFind (12 - m) m l = monFind (12 - (m + 1)) (m + 1) l := by
  rw [show 12 - m = (12 - (m + 1)) + 1 by omega, monFind, if_neg h]
def optI (o : Option Nat) : Int := match o with
  | some d => (d : Int)
  | none => 0

set_option maxHeartbeats 4000000 in
theorem read_any (s : ByteArray) (w : World) (ht : LenTab w) :
    Calls Tryd.prog 15 #[.string s] w fun e w' => e = .returned (.tuple #[.int .i64 (optI (readS s.data.toList)), .bool (readS s.data.toList).isSome]) ∧ Below w.heap.size w w' := by
  have hlen : s.data.toList.length = s.size := by simp
  by_cases h5 : s.size = 5
  · have hne : ((s.size : Int) != 5) = false := by rw [h5]; rfl
    have e : readS s.data.toList = readM (monFind 12 0 (s.extract 2 s.size).data.toList) (numS (s.extract 0 2).data.toList) := by
      have h1 : (s.extract 2 s.size).data.toList = s.data.toList.drop 2 := by
        simp
        exact List.take_of_length_le (by simp)
      have h2 : (s.extract 0 2).data.toList = s.data.toList.take 2 := by simp
      rw [h1, h2]
      unfold readS
      rw [if_pos (by rw [hlen, h5])]
    have hnum := fun W => number_any (s.extract 0 2) W
    have hz : (s.extract 2 s.size).size = s.size - 2 := by simp
    rw [e]
    clear e
    have hn100 : numS (s.extract 0 2).data.toList ≤ 3000 ∧ -1 ≤ numS (s.extract 0 2).data.toList := by
      generalize (s.extract 0 2).data.toList = l
      unfold numS
      split
      · next a b =>
        have := byte_hi a; have := byte_hi b
        split
        · next hd =>
          simp only [isD, Bool.and_eq_true, decide_eq_true_eq] at hd
          omega
        · omega
      · omega
    generalize numS (s.extract 0 2).data.toList = x at hnum hn100 ⊢
    obtain ⟨hx1, hx2⟩ := hn100
    have g5 : (2 : Int) ≤ (s.size : Int) := by omega
    have g6 : 2 ≤ s.size := by omega
    have hgf : ∀ w1 : World, Below w.heap.size w w1 → ∃ tt fr, w1.heap[0]? = some (.cells lensV tt fr) := fun w1 hb => ht.keep hb
    have H5 := Lib.hid h5
    have HL := Lib.hid hlen
    have HN := Lib.hid hnum
    have HZ := Lib.hid hz
    have HG := Lib.hid hgf
    clear h5 hlen hnum hz hgf ht
    go_enter Tryd.func15, Tryd.ntmps15
    go_wp2_with (first
      | (go_at_call 25; refine (HN.out _).mono ?_; rintro e w1 ⟨rfl, hb⟩; obtain ⟨tt, fr, hg1⟩ := HG.out w1 hb)
      | (refine wpList_load_row rfl 41 _ rfl 0 rfl tt _ fr _ hg1 Tryd.underlying41 rfl (by kernel_rfl) ?_))
    go_loopw [5, 15] (fun y i wr => ∃ m : Nat, m ≤ 12 ∧ Below w.heap.size w wr ∧ i = .int .i64 m ∧ y = .int .i64 (startN m) ∧ monFind 12 0 (s.extract 2 s.size).data.toList = monFind (12 - m) m (s.extract 2 s.size).data.toList) (fun _ i _ => 12 - (intOf i).toNat)
    case atStart => exact ⟨0, by omega, hb, rfl, rfl, rfl⟩
    case round =>
      obtain ⟨m, hm, hbr, rfl, rfl, hf⟩ := hrel
      have HF := Lib.hid hf
      clear hf
      by_cases hm12 : m < 12
      · obtain ⟨l1, l2, l3, l4⟩ := len_facts m hm12
        have hix := lens_index m hm12
        have hcut := months_cut m hm12
        unfold months at hcut
        have q2 : IntKind.i64.wrap (3 * (m : Int)) = 3 * (m : Int) := IntWalk.i64_in _ (by omega)
        have q3 : IntKind.i64.wrap (3 * (m : Int) + 3) = 3 * (m : Int) + 3 := IntWalk.i64_in _ (by omega)
        have q4 : (3 * (m : Int)).toNat = 3 * m := by omega
        have q5 : (3 * (m : Int) + 3).toNat = 3 * m + 3 := by omega
        have q6 : (0 : Int) ≤ 3 * (m : Int) := by omega
        have q7 : 3 * (m : Int) + 3 ≤ 36 := by omega
        by_cases hl : (s.extract 2 s.size).data.toList = monL m
        · have hq : ((s.extract 2 s.size).toList == (monA m).toList) = true := by
            rw [ByteArray.toList_eq, ByteArray.toList_eq, hl, monA_list]; simp
          have hr : readM (monFind 12 0 (s.extract 2 s.size).data.toList) x = if 1 ≤ x ∧ x ≤ lenN m then some (startN m + x.toNat - 1) else none := by rw [HF.out, monFind_hit hm12 hl]; rfl
          have HR := Lib.hid hr
          clear hl hr
          by_cases hx3 : x < 1
          · go_wp2_with fail
            go_quiet (fail)
            clear q2 q3 q4 q5 q6 q7
            go_wp2
            go_ret2
            exact ⟨by rw [HR.out, if_neg (by omega)]; rfl, below_drewN hbr _⟩
          · by_cases hx4 : (lenN m : Int) < x
            · go_wp2_with fail
              go_quiet (fail)
              clear q2 q3 q4 q5 q6 q7
              go_wp2
              go_ret2
              exact ⟨by rw [HR.out, if_neg (by omega)]; rfl, below_drewN hbr _⟩
            · go_wp2_with fail
              go_quiet (fail)
              clear q2 q3 q4 q5 q6 q7
              go_wp2
              go_ret2
              refine ⟨?_, below_drewN hbr _⟩
              rw [HR.out, if_pos (by omega)]
              have e : (startN m : Int) + x - 1 = ((startN m + x.toNat - 1 : Nat) : Int) := by omega
              show Ending.returned (.tuple #[.int .i64 ((startN m : Int) + x - 1), .bool true]) = .returned (.tuple #[.int .i64 ((startN m + x.toNat - 1 : Nat) : Int), .bool true])
              rw [e]
        · have hq : ((s.extract 2 s.size).toList == (monA m).toList) = false := by
            rw [ByteArray.toList_eq, ByteArray.toList_eq, beq_eq_false_iff_ne, monA_list]; exact hl
          have hr := monFind_miss hm12 hl
          have HR := Lib.hid hr
          clear hl hr
          go_wp2_with fail
          go_quiet (fail)
          clear q2 q3 q4 q5 q6 q7
          go_wp2
          go_roundw
          case rel => exact ⟨m + 1, by omega, below_drewN hbr _, by go_num, by rw [start_succ]; go_num, by rw [HF.out, HR.out]⟩
          case measure => simp [intOf]; omega
      · have hr : readM (monFind 12 0 (s.extract 2 s.size).data.toList) x = none := by rw [HF.out, show m = 12 by omega]; rfl
        have HR := Lib.hid hr
        clear hr
        go_wp2
        go_ret2
        exact ⟨by rw [HR.out]; rfl, hbr⟩
  · have hne : ((s.size : Int) != 5) = true := by rw [bne_iff_ne]; omega
    have e : readS s.data.toList = none := by unfold readS; rw [if_neg (by rw [hlen]; exact h5)]
    have E := Lib.hid e
    clear e h5 hlen
    go_enter Tryd.func15, Tryd.ntmps15
    go_wp2
    go_ret2
    exact ⟨by rw [E.out]; rfl, Below.refl _ _⟩
end Go.Proofs.YtpfgmmmeofnkoaaDoor
