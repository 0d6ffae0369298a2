/- pages, Pages, the reference's Pages; Few. -/
import Derived.Test.YtpmmjccdogjncaaDoorScrD
namespace Go.Proofs.YtpmmjccdogjncaaDoor
open Go.RowKit

/-- How many pages so many rows take. -/
def pagesN (n : Nat) : Nat := max 1 ((n + 22) / 23)

theorem pages_any (n : Nat) (p : Option Addr) (c : Nat) (w : World) (hn : n ≤ 1000000) :
    Calls Tryd.prog 63 #[.slice p n c] w fun e w' => e = .returned (.int .i64 (pagesN n)) ∧ w = w' := by
  have h1 : (n : Int) ≤ 1000000 := by omega
  have h2 : (0 : Int) ≤ (n : Int) := by omega
  go_enter Tryd.func63, Tryd.ntmps63
  go_wp2
  all_goals (
    go_ret
    exact ⟨ret_int (by unfold pagesN; omega), rfl⟩)

theorem rpages_some (n k : Nat) : (1 ≤ k ∧ (k = 1 ∨ 23 * (k - 1) < n) ∧ n ≤ 23 * k) → k = pagesN n := by
  unfold pagesN; omega

theorem linesS_len (l : List ByteArray) (h : ∀ s ∈ l, s.size ≤ 30000) : (linesS l).length ≤ 187600 := linesN_len l h 400

theorem Pages_any (l : List ByteArray) (v : Value) (w : World) (hv : HasL w v l) (hz : ∀ s ∈ l, s.size ≤ 30000) :
    Calls Tryd.prog 45 #[v] w fun e w' => e = .returned (.int .i64 (pagesN (linesS l).length)) ∧ Below w.heap.size w w' := by
  have hlen := linesS_len l hz
  have HLI := Lib.hid (lines_any l v w hv hz)
  clear hz hv
  go_enter Tryd.func45, Tryd.ntmps45
  go_wp2_with (first
    | (go_at_call 42; (with_reducible refine HLI.out.mono ?_); rintro e w1 ⟨v1, rfl, ho1, hb1⟩; obtain ⟨p1, c1, rfl⟩ := own_len ho1.has; have HP := Lib.hid (pages_any (linesS l).length p1 c1 w1 (by omega)))
    | (go_at_call 63; refine HP.out.mono ?_; rintro e w2 ⟨rfl, rfl⟩))
  go_ret
  exact ⟨rfl, hb1⟩

set_option maxHeartbeats 4000000 in
theorem rPages_any (l : List ByteArray) (v : Value) (w : World) (hv : HasL w v l) (hz : ∀ s ∈ l, s.size ≤ 30000) :
    Calls Tryd.prog 46 #[v] w fun e w' => e = .returned (.int .i64 (pagesN (linesS l).length)) ∧ Below w.heap.size w w' := by
  have hlen := linesS_len l hz
  have HLI : RowKit.Hid (∀ W, Below w.heap.size w W → _) := Lib.hid fun W h => rlines_any l v W (hv.mono h) hz
  have HRS := Lib.hid (fun k => rpages_some (linesS l).length k)
  clear hz hv
  go_enter Tryd.func46, Tryd.ntmps46
  go_wp2_with fail
  generalize hN : (linesS l).length = N at *
  have HN := Lib.hid hN
  clear hN
  go_loopg [3] N (fun g i wr => ∃ k : Nat, 1 ≤ k ∧ k ≤ N + 1 ∧ (k = 1 ∨ 23 * (k - 1) < N) ∧ g = N + 1 - k ∧ i = .int .i64 k ∧ Below w.heap.size w wr)
  case atStart => exact ⟨1, by omega, by omega, .inl rfl, by omega, rfl, Below.refl _ _⟩
  case round =>
    obtain ⟨k, hk1, hk2, hk3, rfl, rfl, hb⟩ := hrel
    have HC := Lib.hid (HLI.out _ hb)
    by_cases h : k * 23 < N
    · have hi : (k : Int) * 23 < (N : Int) := by omega
      go_wp2_with (first
        | (go_at_call 44; (with_reducible refine HC.out.mono ?_); rintro e w1 ⟨v1, rfl, ho1, hb1⟩; obtain ⟨p1, c1, rfl⟩ := own_len ho1.has; rw [HN.out]))
      go_roundg (N + 1 - (k + 1))
      case measure => omega
      case rel => exact ⟨k + 1, by omega, by omega, .inr (by omega), by omega, by go_num, hb.trans (hb1.mono hb.size)⟩
    · have hi : ¬ (k : Int) * 23 < (N : Int) := by omega
      have HR := Lib.hid (HRS.out k ⟨hk1, hk3, by omega⟩)
      go_wp2_with (first
        | (go_at_call 44; (with_reducible refine HC.out.mono ?_); rintro e w1 ⟨v1, rfl, ho1, hb1⟩; obtain ⟨p1, c1, rfl⟩ := own_len ho1.has; rw [HN.out]))
      go_ret
      exact ⟨ret_int (by rw [HN.out, ← HR.out]), hb.trans (hb1.mono hb.size)⟩

/-- The bytes of all texts together. -/
def sumS (l : List ByteArray) : Nat := (l.map (·.size)).sum

theorem sumS_step (l : List ByteArray) {k : Nat} (h : k < l.length) : sumS (l.take (k + 1)) = sumS (l.take k) + (l.getD k ByteArray.empty).size := by
  unfold sumS
  rw [List.take_succ_eq_append_getElem h, List.map_append, List.sum_append]
  simp only [List.map_cons, List.map_nil, List.sum_cons, List.sum_nil, List.getD, List.getElem?_eq_getElem h, Option.getD_some, Nat.add_zero]

theorem sumS_take (l : List ByteArray) (k : Nat) : sumS (l.take k) ≤ sumS l := by
  have : sumS l = sumS (l.take k) + sumS (l.drop k) := by
    unfold sumS
    rw [← List.sum_append, ← List.map_append, List.take_append_drop]
  omega

theorem sumS_mem {l : List ByteArray} {s : ByteArray} (h : s ∈ l) : s.size ≤ sumS l := by
  induction l with
  | nil => cases h
  | cons a t ih =>
    unfold sumS at *
    simp only [List.map_cons, List.sum_cons]
    rcases List.mem_cons.1 h with rfl | h
    · omega
    · have := ih h
      omega

/-- Few: are lines few and short? -/
def fewS (l : List ByteArray) : Bool := decide (l.length + sumS l < 30000)

set_option maxHeartbeats 4000000 in
theorem Few_any (l : List ByteArray) (v : Value) (w : World) (hv : HasL w v l) (hm : l.length ≤ maxLen) (hsz : ∀ s ∈ l, s.size ≤ maxLen) :
    Calls Tryd.prog 41 #[v] w fun e w' => e = .returned (.bool (fewS l)) ∧ w = w' := by
  obtain ⟨p, c, rfl⟩ := own_len hv
  have HLE : RowKit.Hid (∀ k, k < l.length → ∃ b off, p = some ⟨b, off, none⟩ ∧ w.cell? ⟨b, off + k, none⟩ = some (.string (l.getD k ByteArray.empty)) ∧ (l.getD k ByteArray.empty).size ≤ 9223372036854775807) := Lib.hid fun k hk => by
    rcases hv with ⟨_, _, _, rfl, _⟩ | ⟨b, off, c, e, _, _, h3⟩
    · simp at hk
    · injection e with e1 e2 e3
      refine ⟨b, off, e1, h3 k hk, ?_⟩
      have e : l.getD k ByteArray.empty = l[k] := by simp [List.getD, hk]
      rw [e]
      have := hsz _ (List.getElem_mem hk)
      unfold maxLen at this
      omega
  have HST := Lib.hid (fun k => sumS_step l (k := k))
  have HTK := Lib.hid (sumS_take l)
  have HRT : RowKit.Hid (l.length + sumS l < 30000 → fewS l = true) := Lib.hid fun h => by unfold fewS; rw [decide_eq_true h]
  have HRF : RowKit.Hid (30000 ≤ l.length + sumS l → fewS l = false) := Lib.hid fun h => by unfold fewS; rw [decide_eq_false (by omega)]
  have HALL : RowKit.Hid (sumS (l.take l.length) = sumS l) := Lib.hid (by rw [List.take_length])
  have H0 : RowKit.Hid (sumS (l.take 0) = 0) := Lib.hid rfl
  unfold maxLen at hm
  clear hv hsz
  generalize l.length = n at *
  go_enter Tryd.func41, Tryd.ntmps41
  go_upto_region 1 with fail
  go_cut [3] from 5 (fun s3 wx => s3 = .int .i64 ((min n 30000 : Nat) : Int) ∧ w = wx)
  case first =>
    by_cases h : n ≤ 30000
    · have e : min n 30000 = n := by omega
      have E := Lib.hid e
      have hi : (n : Int) ≤ 30000 := by omega
      clear e h
      go_wp2_with fail
      all_goals (
        go_meet
        exact ⟨by rw [E.out], rfl⟩)
    · have e : min n 30000 = 30000 := by omega
      have E := Lib.hid e
      have hi : ¬ (n : Int) ≤ 30000 := by omega
      clear e h
      go_wp2_with fail
      all_goals (
        go_meet
        exact ⟨by (first | (rw [E.out]; done) | (rw [E.out]; rfl)), rfl⟩)
  case rest =>
    obtain ⟨rfl, rfl⟩ := hcut
    obtain ⟨m0, hm0⟩ : ∃ m0, m0 = min n 30000 := ⟨_, rfl⟩
    rw [← hm0]
    go_wp2_with fail
    go_loopg [3, 4] n (fun g t i wr => ∃ k m : Nat, k ≤ n ∧ g = n - k ∧ i = .int .i64 k ∧ t = .int .i64 m ∧ w = wr ∧ m ≤ 60000 ∧ (m < 30000 → m = n + sumS (l.take k)) ∧ (30000 ≤ m → 30000 ≤ n + sumS l))
    case atStart => exact ⟨0, m0, Nat.zero_le _, rfl, rfl, rfl, rfl, by omega, fun h => by rw [H0.out]; omega, fun h => by omega⟩
    case round =>
      obtain ⟨k, m, hk, rfl, rfl, rfl, rfl, hm6, hlo, hhi⟩ := hrel
      have HLO := Lib.hid hlo
      have HHI := Lib.hid hhi
      clear hlo hhi hm0
      by_cases hm3 : m < 30000
      · have hm3i : (m : Int) < 30000 := by omega
        by_cases hlt : k < n
        · have hki : (k : Int) < (n : Int) := by omega
          have hk0 : (0 : Int) ≤ (k : Int) := by omega
          obtain ⟨b, off, rfl, c1, z1⟩ := HLE.out k hlt
          have hst := HST.out k hlt
          have htk := HTK.out (k + 1)
          have hmm := HLO.out hm3
          generalize l.getD k ByteArray.empty = s at *
          by_cases hs : s.size ≤ 30000
          · have hsi : (s.size : Int) ≤ 30000 := by omega
            have HZ := Lib.hid hst
            have HZ2 := Lib.hid htk
            have HZ3 := Lib.hid hmm
            clear hst htk hmm
            go_wp2
            all_goals (
              go_roundg (n - (k + 1))
              case measure => omega
              case rel => exact ⟨k + 1, m + s.size, by omega, rfl, by go_num, by go_num, rfl, by omega, fun h => by rw [HZ.out]; have := HZ3.out; omega, fun h => by have := HZ.out; have := HZ2.out; have := HZ3.out; omega⟩)
          · have hsi : ¬ (s.size : Int) ≤ 30000 := by omega
            have HB : RowKit.Hid (30000 ≤ n + sumS l) := Lib.hid (by omega)
            clear hst htk hmm hs
            go_wp2
            all_goals (
              go_roundg (n - (k + 1))
              case measure => omega
              case rel => exact ⟨k + 1, m + 30000, by omega, rfl, by go_num, by go_num, rfl, by omega, fun h => by omega, fun _ => HB.out⟩)
        · have hkn : k = n := by omega
          subst hkn
          have HF : RowKit.Hid (fewS l = true) := Lib.hid (HRT.out (by have := HLO.out hm3; rw [HALL.out] at this; omega))
          go_wp2
          go_ret
          exact ⟨ret_bool (by rw [HF.out]), rfl⟩
      · have hm3i : ¬ (m : Int) < 30000 := by omega
        have HF : RowKit.Hid (fewS l = false) := Lib.hid (HRF.out (HHI.out (by omega)))
        by_cases hlt : k < n
        · have hki : (k : Int) < (n : Int) := by omega
          go_wp2
          go_ret
          exact ⟨ret_bool (by rw [HF.out]), rfl⟩
        · have hki : ¬ (k : Int) < (n : Int) := by omega
          go_wp2
          go_ret
          exact ⟨ret_bool (by rw [HF.out]), rfl⟩
end Go.Proofs.YtpmmjccdogjncaaDoor
