/- The reference's Put and Remove. -/
import Derived.Test.YtpfgmmmeofnkoaaQOpen
import Derived.Laws.AppendOwnNone
namespace Go.Proofs.Ytpfgmmmeofnkoaa
open Go.RowKit

/-- l without the one at the place k. -/
def cutL (l : List ByteArray) (k : Nat) : List ByteArray := l.take k ++ l.drop (k + 1)

def remE (l : List ByteArray) (s : ByteArray) : Int := if atL l s < 0 then 9 else 0

def remL (l : List ByteArray) (s : ByteArray) : List ByteArray := if atL l s < 0 then [] else cutL l (atL l s).toNat

theorem atL_range : ∀ (l : List ByteArray) (s : ByteArray), atL l s = -1 ∨ (0 ≤ atL l s ∧ atL l s < (l.length : Int))
  | [], _ => .inl rfl
  | a :: t, s => by
    have h := atL_range t s
    rw [atL]
    split
    · right; simp only [List.length_cons]; omega
    · split
      · exact .inl rfl
      · right; simp only [List.length_cons]; omega

/-- What has been gathered of l but for the place k, by the first j. -/
def gathL (l : List ByteArray) (k j : Nat) : List ByteArray := (l.take (min j k)) ++ ((l.take j).drop (k + 1))

theorem gathL_zero (l : List ByteArray) (k : Nat) : gathL l k 0 = [] := by simp [gathL]

theorem gathL_end (l : List ByteArray) {k : Nat} (h : k < l.length) : gathL l k l.length = cutL l k := by
  unfold gathL cutL
  rw [Nat.min_eq_right (by omega), List.take_length]

theorem gathL_same (l : List ByteArray) {k : Nat} (h : k < l.length) : gathL l k (k + 1) = gathL l k k := by
  unfold gathL
  rw [Nat.min_eq_right (by omega), Nat.min_self, List.drop_eq_nil_of_le (by simp; omega), List.drop_eq_nil_of_le (by simp; omega)]

theorem gathL_step (l : List ByteArray) {k j : Nat} (hj : j < l.length) (hne : j ≠ k) : gathL l k (j + 1) = gathL l k j ++ [l.getD j ByteArray.empty] := by
  have e : l.getD j ByteArray.empty = l[j] := by simp [List.getD, hj]
  unfold gathL
  rcases Nat.lt_or_gt_of_ne hne with h | h
  · rw [Nat.min_eq_left (by omega), Nat.min_eq_left (by omega), List.drop_eq_nil_of_le (by simp; omega), List.drop_eq_nil_of_le (by simp; omega), List.take_succ_eq_append_getElem hj, e]
    simp
  · rw [Nat.min_eq_right (by omega), Nat.min_eq_right (by omega), List.take_succ_eq_append_getElem hj, e, List.drop_append_of_le_length (by simp; omega), List.append_assoc]

theorem gathL_len (l : List ByteArray) (k j : Nat) : (gathL l k j).length ≤ l.length + l.length := by
  simp [gathL]; omega

set_option maxHeartbeats 8000000 in
theorem rremove_any (l : List ByteArray) (v : Value) (s : ByteArray) (w : World) (hv : HasL w v l) (hl : l.length ≤ 100000) :
    Calls Try.prog 20 #[v, .string s] w fun e w' => ∃ v', e = .returned (.tuple #[v', .int .i64 (remE l s)]) ∧ OwnL w' w.heap.size v' (remL l s) ∧ Below w.heap.size w w' := by
  have CA := at_any l v s w hv (by omega)
  rcases atL_range l s with h0 | ⟨h0, h1⟩
  · have e1 : remE l s = 9 := by rw [remE, if_pos (by omega)]
    have e2 : remL l s = [] := by rw [remL, if_pos (by omega)]
    rw [e1, e2]
    rw [h0] at CA
    have HA := Lib.hid CA
    clear CA e1 e2 h0 hv
    go_enter Try.func20, Try.ntmps20
    go_wp2_with (go_at_call 28; (with_reducible refine HA.out.mono ?_); rintro e w1 ⟨rfl, rfl⟩)
    go_ret2
    exact ⟨_, rfl, OwnL.nil _ _, Below.refl _ _⟩
  · obtain ⟨k, hk⟩ := Int.eq_ofNat_of_zero_le h0
    rw [hk] at h1 CA
    have hkl : k < l.length := by omega
    have e1 : remE l s = 0 := by rw [remE, if_neg (by omega)]
    have e2 : remL l s = cutL l k := by rw [remL, if_neg (by omega), hk]; rfl
    rw [e1, e2, ← gathL_end l hkl]
    rcases hv with ⟨_, _, _, rfl, _⟩ | ⟨b, off, c, rfl, a1, a2, a3⟩
    · simp at hkl
    have H3 := Lib.hid a3
    have HA := Lib.hid CA
    obtain ⟨i0, hi, hz0, hz1, hz2⟩ := str_info
    have HI := Lib.hid hz0
    have HG := Lib.hid (fun j => gathL_len l k j)
    have HS := Lib.hid (fun j (hj : j < l.length) hne => gathL_step l (k := k) (j := j) hj hne)
    have HE := Lib.hid (gathL_same l hkl)
    have HZ := Lib.hid (gathL_zero l k)
    have h1k : (0 : Int) ≤ (k : Int) := by omega
    clear CA e1 e2 a3 h0 h1 hk
    generalize l.length = n at *
    go_enter Try.func20, Try.ntmps20
    go_wp2_with (go_at_call 28; (with_reducible refine HA.out.mono ?_); rintro e w1 ⟨rfl, rfl⟩)
    go_loopw [7, 8] (fun q i wr => ∃ j : Nat, j ≤ n ∧ Below w.heap.size w wr ∧ i = .int .i64 j ∧ OwnL wr w.heap.size q (gathL l k j)) (fun _ i _ => n - (intOf i).toNat)
    case atStart => exact ⟨0, Nat.zero_le _, Below.refl _ _, rfl, by rw [HZ.out]; exact OwnL.nil _ _⟩
    case round =>
      obtain ⟨j, hj, hb, rfl, hq⟩ := hrel
      have HQ := Lib.hid hq
      clear hq
      by_cases hlt : j < n
      · have hji : (j : Int) < (n : Int) := by omega
        have hj0 : (0 : Int) ≤ (j : Int) := by omega
        by_cases hjk : j = k
        · have hq : ((j : Int) != (k : Int)) = false := by rw [hjk]; simp
          have hq2 : ((j : Int) == (k : Int)) = true := by rw [hjk]; simp
          have HW : RowKit.Hid (gathL l k (j + 1) = gathL l k j) := Lib.hid (by rw [hjk]; exact HE.out)
          clear hjk
          go_wp2
          go_roundw
          case rel => exact ⟨j + 1, by omega, hb, by go_num, by rw [HW.out]; exact HQ.out⟩
          case measure => simp [intOf]; omega
        · have hq : ((j : Int) != (k : Int)) = true := by rw [bne_iff_ne]; omega
          have hq2 : ((j : Int) == (k : Int)) = false := by rw [beq_eq_false_iff_ne]; omega
          have c1 := cell_bel hb (H3.out j hlt)
          have HW := Lib.hid (HS.out j hlt hjk)
          have hgl := HG.out j
          clear hjk
          generalize l.getD j ByteArray.empty = x at c1 HW
          have hown := HQ.out
          unfold OwnL at hown
          have hbs := hb.size
          generalize gathL l k j = gj at *
          go_wp2_with (at_builtin; refine wpList_push rfl _ _ 22 rfl w.heap.size 9 i0 (.string ⟨#[]⟩) 16 Try.underlying22 hi hz0 hz1 hz2 rfl _ _ _ rfl hown _ rfl rfl (by unfold maxLen; omega) (by omega) hbs ?_; intro v' w4 hown' hb' _)
          go_roundw
          case rel =>
            refine ⟨j + 1, by omega, hb.trans hb', by go_num, ?_⟩
            rw [HW.out]
            unfold OwnL
            have e1 : (gj ++ [x]).length = gj.length + 1 := by simp
            have e2 : strV (gj ++ [x]) = strV gj ++ [.string x] := by simp [strV]
            rw [e1, e2]
            exact hown'
          case measure => simp [intOf]; omega
      · have hjn : j = n := by omega
        subst hjn
        go_wp2
        go_ret2
        exact ⟨_, rfl, HQ.out, hb⟩
end Go.Proofs.Ytpfgmmmeofnkoaa
