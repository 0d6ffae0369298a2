/- plain. -/
import Derived.Test.YtpmmjccdogjncaaDoorScrQ
namespace Go.Proofs.YtpmmjccdogjncaaDoor
open Go.RowKit

def okByte (x : UInt8) : Bool := decide (32 ≤ (x.toNat : Int) ∧ (x.toNat : Int) ≤ 126)

/-- Can a text be shown as it is, in a row? -/
def goodS (s : ByteArray) : Bool := decide (s.size ≤ 64) && (decide (s.size = 0) || s.data.toList.getD (s.size - 1) 0 != 32) && s.data.toList.all okByte

def plainB (l : List ByteArray) : Bool := l.all fun s => decide (l.length ≤ 400) && goodS s

theorem all_step {α : Type} (P : α → Bool) (l : List α) (d : α) {k : Nat} (h : k < l.length) (hl : (l.take k).all P = true) (hp : P (l.getD k d) = true) : (l.take (k + 1)).all P = true := by
  rw [List.take_succ_eq_append_getElem h, List.all_append, hl]
  simp [List.getD, h] at hp
  simp [hp]
theorem all_bad {α : Type} (P : α → Bool) (l : List α) (d : α) {k : Nat} (h : k < l.length) (hp : P (l.getD k d) = false) : l.all P = false := by
  rw [List.all_eq_false]
  refine ⟨l.getD k d, ?_, by rw [hp]; decide⟩
  simp [List.getD, h]

set_option maxRecDepth 20000 in
set_option maxHeartbeats 8000000 in
theorem plain_any (l : List ByteArray) (v : Value) (w : World) (hv : HasL w v l) (hm : l.length ≤ maxLen) (hsz : ∀ s ∈ l, s.size ≤ maxLen) :
    Calls Tryd.prog 52 #[v] w fun e w' => e = .returned (.bool (plainB l)) ∧ Below w.heap.size w w' := by
  obtain ⟨p, c, rfl⟩ := own_len hv
  have HLE : RowKit.Hid (∀ k, k < l.length → ∃ b off, p = some ⟨b, off, none⟩ ∧ w.cell? ⟨b, off + k, none⟩ = some (.string (l.getD k ByteArray.empty)) ∧ (l.getD k ByteArray.empty).size ≤ 9223372036854775807) := Lib.hid fun k hk => by
    rcases hv with ⟨_, _, _, rfl, _⟩ | ⟨b, off, c, e, _, _, h3⟩
    · simp at hk
    · injection e with e1 e2 e3
      refine ⟨b, off, e1, h3 k hk, ?_⟩
      have e : l.getD k ByteArray.empty = l[k] := by simp [List.getD, hk]
      rw [e]
      have := hsz _ (List.getElem_mem hk)
      unfold maxLen at this
      omega
  have HBAD : RowKit.Hid (∀ k, k < l.length → (decide (l.length ≤ 400) && goodS (l.getD k ByteArray.empty)) = false → plainB l = false) := Lib.hid fun k hk h => all_bad (fun s => decide (l.length ≤ 400) && goodS s) l ByteArray.empty hk h
  have HSTEP : RowKit.Hid (∀ k, k < l.length → (l.take k).all (fun s => decide (l.length ≤ 400) && goodS s) = true → (decide (l.length ≤ 400) && goodS (l.getD k ByteArray.empty)) = true → (l.take (k + 1)).all (fun s => decide (l.length ≤ 400) && goodS s) = true) := Lib.hid fun k hk h1 h2 => all_step _ l ByteArray.empty hk h1 h2
  have HEND : RowKit.Hid ((l.take l.length).all (fun s => decide (l.length ≤ 400) && goodS s) = plainB l) := Lib.hid (by rw [List.take_length]; rfl)
  unfold maxLen at hm
  clear hv hsz
  generalize l.length = n at *
  go_enter Tryd.func52, Tryd.ntmps52
  go_wp2_with fail
  go_loopg [3] n (fun g i wr => ∃ k : Nat, k ≤ n ∧ g = n - k ∧ i = .int .i64 k ∧ Below w.heap.size w wr ∧ (l.take k).all (fun s => decide (n ≤ 400) && goodS s) = true)
  case atStart => exact ⟨0, Nat.zero_le _, rfl, rfl, Below.refl _ _, rfl⟩
  case round =>
    obtain ⟨k, hk, rfl, rfl, hb, hall⟩ := hrel
    have HALL := Lib.hid hall
    clear hall
    by_cases hlt : k < n
    · obtain ⟨b, off, rfl, c0, z1⟩ := HLE.out k hlt
      have c1 := cell_bel hb c0
      have hki : (k : Int) < (n : Int) := by omega
      have hk0 : (0 : Int) ≤ (k : Int) := by omega
      have hbad := HBAD.out k hlt
      have hstep := HSTEP.out k hlt HALL.out
      generalize l.getD k ByteArray.empty = s at *
      have HB := Lib.hid hbad
      have HS := Lib.hid hstep
      clear c0 hbad hstep
      by_cases h1 : 64 < s.size
      · have g1 : decide ((64 : Int) < (s.size : Int)) = true := decide_eq_true (by omega)
        have HF : RowKit.Hid (plainB l = false) := Lib.hid (HB.out (by unfold goodS; rw [decide_eq_false (p := s.size ≤ 64) (by omega)]; simp))
        clear h1
        go_wp2_with fail
        go_quiet (fail)
        go_wp2
        go_ret
        exact ⟨ret_bool (by rw [HF.out]), below_drewN hb _⟩
      have g1 : decide ((64 : Int) < (s.size : Int)) = false := decide_eq_false (by omega)
      by_cases h2 : 400 < n
      · have g2 : decide ((400 : Int) < (n : Int)) = true := decide_eq_true (by omega)
        have HF : RowKit.Hid (plainB l = false) := Lib.hid (HB.out (by rw [decide_eq_false (p := n ≤ 400) (by omega)]; simp))
        clear h1 h2
        go_wp2_with fail
        go_quiet (fail)
        go_wp2
        go_ret
        exact ⟨ret_bool (by rw [HF.out]), below_drewN hb _⟩
      have g2 : decide ((400 : Int) < (n : Int)) = false := decide_eq_false (by omega)
      have HAS : RowKit.Hid (∀ j, j < s.size → (s.data.toList.take j).all okByte = true → okByte (s.data.toList.getD j 0) = true → (s.data.toList.take (j + 1)).all okByte = true) := Lib.hid fun j hj a b => all_step okByte s.data.toList 0 (by simpa using hj) a b
      have HAB : RowKit.Hid (∀ j, j < s.size → okByte (s.data.toList.getD j 0) = false → s.data.toList.all okByte = false) := Lib.hid fun j hj a => all_bad okByte s.data.toList 0 (by simpa using hj) a
      have e1 : decide (s.size ≤ 64) = true := decide_eq_true (by omega)
      have e2 : decide (n ≤ 400) = true := decide_eq_true (by omega)
      by_cases h3 : s.size = 0
      · have g3 : decide ((0 : Int) < (s.size : Int)) = false := decide_eq_false (by omega)
        have HGOOD : RowKit.Hid (s.data.toList.all okByte = true → (decide (n ≤ 400) && goodS s) = true) := Lib.hid fun a => by unfold goodS; rw [a, e1, e2, decide_eq_true h3]; rfl
        clear h1 h2 e1 e2
        go_wp2_with fail
        go_quiet (fail)
        have c2 : (wr.drewN nq).cell? ⟨b, off + k, none⟩ = some (.string s) := c1
        have hb2 : Below w.heap.size w (wr.drewN nq) := below_drewN hb _
        generalize wr.drewN nq = wq at *
        go_wp2_with fail
        go_loopg [4] s.size (fun g i wr => ∃ j : Nat, j ≤ s.size ∧ g = s.size - j ∧ i = .int .i64 j ∧ wq = wr ∧ (s.data.toList.take j).all okByte = true)
        case atStart => exact ⟨0, Nat.zero_le _, rfl, rfl, rfl, rfl⟩
        case round =>
          obtain ⟨j, hj, rfl, rfl, rfl, hal⟩ := hrel
          have HAL := Lib.hid hal
          clear hal
          by_cases hjl : j < s.size
          · omega
          · have hje : j = s.size := by omega
            subst hje
            have HN := Lib.hid (HS.out (HGOOD.out (by have := HAL.out; rwa [List.take_of_length_le (by simp)] at this)))
            go_wp2
            go_roundg (n - (k + 1))
            case measure => omega
            case rel => exact ⟨k + 1, by omega, rfl, by go_num, hb2, HN.out⟩
      · obtain ⟨q, hq⟩ : ∃ q, s.size = q + 1 := ⟨s.size - 1, by omega⟩
        have hqs : q < s.size := by omega
        have hgl0 := get_list s q hqs
        have g1q : decide ((64 : Int) < (q : Int) + 1) = false := decide_eq_false (by omega)
        have g3q : decide ((0 : Int) < (q : Int) + 1) = true := decide_eq_true (by omega)
        have g4q : (0 : Int) < (q : Int) + 1 := by omega
        have g5q : ¬ (64 : Int) < (q : Int) + 1 := by omega
        have hx1 := byte_hi (s.data.toList.getD q 0)
        have hlast : goodS s = (decide (s.size ≤ 64) && (decide (s.size = 0) || s.data.toList.getD q 0 != 32) && s.data.toList.all okByte) := by
          unfold goodS
          rw [show s.size - 1 = q by omega]
        generalize s.data.toList.getD q 0 = x at *
        by_cases hx : x = 32
        · have HF : RowKit.Hid (plainB l = false) := Lib.hid (HB.out (by rw [hlast, hx, decide_eq_false h3]; simp))
          have hxb : ((x.toNat : Int) == 32) = true := by rw [hx]; rfl
          clear h1 h2 h3 e1 e2 HAS HAB hlast hx
          go_wp2_with fail
          go_quiet (fail)
          go_wp2
          go_ret
          exact ⟨ret_bool (by rw [HF.out]), below_drewN hb _⟩
        · have hxb : ((x.toNat : Int) == 32) = false := by
            rw [beq_eq_false_iff_ne]
            intro e
            apply hx
            apply UInt8.toNat_inj.1
            show x.toNat = 32
            omega
          have HGOOD : RowKit.Hid (s.data.toList.all okByte = true → (decide (n ≤ 400) && goodS s) = true) := Lib.hid fun a => by
            have e3 : (x != 32) = true := by rw [bne_iff_ne]; exact hx
            rw [hlast, a, e1, e2, e3]; simp
          have HQ := Lib.hid hq
          clear h1 h2 h3 e1 e2 hlast hx
          go_wp2_with fail
          go_quiet (fail)
          have c2 : (wr.drewN nq).cell? ⟨b, off + k, none⟩ = some (.string s) := c1
          have hb2 : Below w.heap.size w (wr.drewN nq) := below_drewN hb _
          generalize wr.drewN nq = wq at *
          clear hq hqs hgl0 g1q g3q g4q g5q
          go_wp2_with fail
          go_loopg [4] s.size (fun g i wr => ∃ j : Nat, j ≤ s.size ∧ g = s.size - j ∧ i = .int .i64 j ∧ wq = wr ∧ (s.data.toList.take j).all okByte = true)
          case atStart => exact ⟨0, Nat.zero_le _, rfl, rfl, rfl, rfl⟩
          case round =>
            obtain ⟨j, hj, rfl, rfl, rfl, hal⟩ := hrel
            have HAL := Lib.hid hal
            clear hal
            by_cases hjl : j < s.size
            · have hji : (j : Int) < (s.size : Int) := by omega
              have hj0 : (0 : Int) ≤ (j : Int) := by omega
              have hgl := get_list s j hjl
              have hst := HAS.out j hjl HAL.out
              have hbd := HAB.out j hjl
              generalize s.data.toList.getD j 0 = y at *
              have hy0 : (0 : Int) ≤ (y.toNat : Int) := by omega
              have hy1 := byte_hi y
              by_cases hy : 32 ≤ (y.toNat : Int)
              · by_cases hy2 : (y.toNat : Int) ≤ 126
                · have HN := Lib.hid (hst (by unfold okByte; exact decide_eq_true ⟨hy, hy2⟩))
                  clear hst hbd
                  go_wp2
                  go_roundg (s.size - (j + 1))
                  case measure => omega
                  case rel => exact ⟨j + 1, by omega, rfl, by go_num, rfl, HN.out⟩
                · have HF : RowKit.Hid (plainB l = false) := Lib.hid (HB.out (by unfold goodS; rw [hbd (by unfold okByte; exact decide_eq_false (by omega))]; simp))
                  clear hst hbd
                  go_wp2
                  go_ret
                  exact ⟨ret_bool (by rw [HF.out]), hb2⟩
              · have HF : RowKit.Hid (plainB l = false) := Lib.hid (HB.out (by unfold goodS; rw [hbd (by unfold okByte; exact decide_eq_false (by omega))]; simp))
                clear hst hbd
                go_wp2
                go_ret
                exact ⟨ret_bool (by rw [HF.out]), hb2⟩
            · have hje : j = s.size := by omega
              subst hje
              have HN := Lib.hid (HS.out (HGOOD.out (by have := HAL.out; rwa [List.take_of_length_le (by simp)] at this)))
              go_wp2
              go_roundg (n - (k + 1))
              case measure => omega
              case rel => exact ⟨k + 1, by omega, rfl, by go_num, hb2, HN.out⟩
    · have hkn : k = n := by omega
      subst hkn
      have HF : RowKit.Hid (plainB l = true) := Lib.hid (by rw [← HEND.out]; exact HALL.out)
      go_wp2
      go_ret
      exact ⟨ret_bool (by rw [HF.out]), hb⟩
end Go.Proofs.YtpmmjccdogjncaaDoor
