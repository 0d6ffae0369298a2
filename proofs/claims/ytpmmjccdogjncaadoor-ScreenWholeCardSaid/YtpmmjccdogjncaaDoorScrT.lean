/- The law ScreenUnlike: the walk. -/
import Derived.Test.YtpmmjccdogjncaaDoorScrS
namespace Go.Proofs.YtpmmjccdogjncaaDoor
open Go.RowKit Go.ChangeShapes Go.WideShapes Go.ChangeAt

set_option maxRecDepth 20000 in
set_option maxHeartbeats 16000000 in
theorem screenUnlike_walk (va : Value) (a : List ByteArray) (vb : Value) (b : List ByteArray) (w : World) (ha : Texts w va a) (hb : Texts w vb b) :
    Calls Tryd.prog 13 #[va, vb] w fun e w' => e = .returned (.bool true) ∧ Below w.heap.size w w' := by
  obtain ⟨hva, hma, hza⟩ := ha
  obtain ⟨hvb, hmb, hzb⟩ := hb
  have HA : RowKit.Hid (∀ W, Calls Tryd.prog 40 #[] W fun e w' => e = .returned (.bool true) ∧ Below W.heap.size W w') := Lib.hid fun W => awakeS_any W
  obtain ⟨pa, ca, rfl⟩ := own_len hva
  obtain ⟨pb, cb, rfl⟩ := own_len hvb
  have HVA := Lib.hid hva
  have HVB := Lib.hid hvb
  have CFA : ∀ W, HasL W (.slice pa a.length ca) a → Calls Tryd.prog 41 #[.slice pa a.length ca] W fun e w' => e = .returned (.bool (fewS a)) ∧ W = w' := fun W h => Few_any a _ W h hma hza
  have CFB : ∀ W, HasL W (.slice pb b.length cb) b → Calls Tryd.prog 41 #[.slice pb b.length cb] W fun e w' => e = .returned (.bool (fewS b)) ∧ W = w' := fun W h => Few_any b _ W h hmb hzb
  have CPA : ∀ W, HasL W (.slice pa a.length ca) a → Calls Tryd.prog 52 #[.slice pa a.length ca] W fun e w' => e = .returned (.bool (plainB a)) ∧ Below W.heap.size W w' := fun W h => plain_any a _ W h hma hza
  have CPB : ∀ W, HasL W (.slice pb b.length cb) b → Calls Tryd.prog 52 #[.slice pb b.length cb] W fun e w' => e = .returned (.bool (plainB b)) ∧ Below W.heap.size W w' := fun W h => plain_any b _ W h hmb hzb
  clear hva hvb hza hzb
  cases hfa : fewS a
  · rw [hfa] at CFA
    have HFA := Lib.hid CFA
    clear CFA CFB CPA CPB hfa
    go_enter Tryd.func13, Tryd.ntmps13
    go_wp2_with (first
      | (go_at_call 40; (with_reducible refine (HA.out _).mono ?_); rintro e w1 ⟨rfl, hb1⟩)
      | (go_at_call 41; (with_reducible refine (HFA.out _ (HVA.out.mono hb1)).mono ?_); rintro e w2 ⟨rfl, rfl⟩))
    go_ret
    exact ⟨rfl, hb1⟩
  rw [hfa] at CFA
  have HFA := Lib.hid CFA
  clear CFA
  cases hfb : fewS b
  · rw [hfb] at CFB
    have HFB := Lib.hid CFB
    clear CFB CPA CPB hfb hfa
    go_enter Tryd.func13, Tryd.ntmps13
    go_wp2_with (first
      | (go_at_call 40; (with_reducible refine (HA.out _).mono ?_); rintro e w1 ⟨rfl, hb1⟩)
      | (go_at_call 41; (with_reducible refine (HFA.out _ (HVA.out.mono hb1)).mono ?_); rintro e w2 ⟨rfl, rfl⟩)
      | (go_at_call 41; (with_reducible refine (HFB.out _ (HVB.out.mono hb1)).mono ?_); rintro e w3 ⟨rfl, rfl⟩))
    go_ret
    exact ⟨rfl, hb1⟩
  rw [hfb] at CFB
  have HFB := Lib.hid CFB
  clear CFB
  by_cases hl : a.length = b.length
  · have hn : ((a.length : Int) != (b.length : Int)) = false := by rw [hl]; simp
    have HLEN := Lib.hid hl
    clear hl
    cases hpa : plainB a
    · rw [hpa] at CPA
      have HPA := Lib.hid CPA
      clear CPA CPB hpa hfa hfb
      go_enter Tryd.func13, Tryd.ntmps13
      go_wp2_with (first
        | (go_at_call 40; (with_reducible refine (HA.out _).mono ?_); rintro e w1 ⟨rfl, hb1⟩)
        | (go_at_call 41; (with_reducible refine (HFA.out _ (HVA.out.mono hb1)).mono ?_); rintro e w2 ⟨rfl, rfl⟩)
        | (go_at_call 41; (with_reducible refine (HFB.out _ (HVB.out.mono hb1)).mono ?_); rintro e w3 ⟨rfl, rfl⟩)
        | (go_at_call 52; (with_reducible refine (HPA.out _ (HVA.out.mono hb1)).mono ?_); rintro e w4 ⟨rfl, hb4⟩))
      go_ret
      exact ⟨rfl, bel_trans hb1 hb4⟩
    rw [hpa] at CPA
    have HPA := Lib.hid CPA
    clear CPA
    cases hpb : plainB b
    · rw [hpb] at CPB
      have HPB := Lib.hid CPB
      clear CPB hpa hpb hfa hfb
      go_enter Tryd.func13, Tryd.ntmps13
      go_wp2_with (first
        | (go_at_call 40; (with_reducible refine (HA.out _).mono ?_); rintro e w1 ⟨rfl, hb1⟩)
        | (go_at_call 41; (with_reducible refine (HFA.out _ (HVA.out.mono hb1)).mono ?_); rintro e w2 ⟨rfl, rfl⟩)
        | (go_at_call 41; (with_reducible refine (HFB.out _ (HVB.out.mono hb1)).mono ?_); rintro e w3 ⟨rfl, rfl⟩)
        | (go_at_call 52; (with_reducible refine (HPA.out _ (HVA.out.mono hb1)).mono ?_); rintro e w4 ⟨rfl, hb4⟩; have hb14 := bel_trans hb1 hb4)
        | (go_at_call 52; (with_reducible refine (HPB.out _ (HVB.out.mono hb14)).mono ?_); rintro e w5 ⟨rfl, hb5⟩))
      go_ret
      exact ⟨rfl, bel_trans hb14 hb5⟩
    rw [hpb] at CPB
    have HPB := Lib.hid CPB
    clear CPB
    have hua := few_pages hfa
    obtain ⟨_, _, hza⟩ := few_sizes hfa
    obtain ⟨_, _, hzb⟩ := few_sizes hfb
    have hpp : (linesS b).length = (linesS a).length := by rw [plain_lines hpa, plain_lines hpb, List.length_map, List.length_map, HLEN.out]
    have hub : pagesN (linesS b).length < 100 := by rw [hpp]; exact hua
    have HUN : RowKit.Hid ((∀ j, j < pagesN (linesS a).length → pageL (linesS a) j = pageL (linesS b) j) → a = b) := Lib.hid fun h => unlike hpa hpb HLEN.out h
    have HGA : RowKit.Hid (∀ W, HasL W (.slice pa a.length ca) a → Calls Tryd.prog 45 #[.slice pa a.length ca] W fun e w' => e = .returned (.int .i64 (pagesN (linesS a).length)) ∧ Below W.heap.size W w') := Lib.hid fun W h => Pages_any a _ W h hza
    have HGB : RowKit.Hid (∀ W, HasL W (.slice pb b.length cb) b → Calls Tryd.prog 45 #[.slice pb b.length cb] W fun e w' => e = .returned (.int .i64 (pagesN (linesS a).length)) ∧ Below W.heap.size W w') := Lib.hid fun W h => by
      have := Pages_any b _ W h hzb
      rwa [hpp] at this
    have hpk : ∀ j : Nat, j < pagesN (linesS a).length → pgN (j : Int) (pagesN (linesS a).length) = j := by
      intro j hj; unfold pgN
      rw [if_neg (by omega), if_neg (by omega)]; omega
    have HRA : RowKit.Hid (∀ j : Nat, j < pagesN (linesS a).length → ∀ W, HasL W (.slice pa a.length ca) a → Calls Tryd.prog 48 #[.int .i64 (j : Int), .slice pa a.length ca] W fun e w' => e = .returned (.agg (byteV (pageL (linesS a) j)).toArray) ∧ Below W.heap.size W w') := Lib.hid fun j hj W h => by
      have := Render_any (j : Int) a _ W h hza hua
      rw [hpk j hj] at this
      exact this
    have HRB : RowKit.Hid (∀ j : Nat, j < pagesN (linesS a).length → ∀ W, HasL W (.slice pb b.length cb) b → Calls Tryd.prog 48 #[.int .i64 (j : Int), .slice pb b.length cb] W fun e w' => e = .returned (.agg (byteV (pageL (linesS b) j)).toArray) ∧ Below W.heap.size W w') := Lib.hid fun j hj W h => by
      have := Render_any (j : Int) b _ W h hzb hub
      rw [hpp, hpk j hj] at this
      exact this
    have HST : RowKit.Hid (∀ W, HasL W (.slice pa a.length ca) a → HasL W (.slice pb b.length cb) b → Calls Tryd.prog 43 #[.slice pa a.length ca, .slice pb b.length cb] W fun e w' => e = .returned (.bool (decide (a = b))) ∧ Below W.heap.size W w') := Lib.hid fun W h1 h2 => same_any a b _ _ W h1 h2 (by have := (few_sizes hfa).1; omega) (by have := (few_sizes hfb).1; omega)
    have HEQ : RowKit.Hid (∀ j w, (Op.equalIn 10000 73 (.agg (byteV (pageL (linesS a) j)).toArray) (.agg (byteV (pageL (linesS b) j)).toArray)).run Tryd.prog w = .ok (decide (pageL (linesS a) j = pageL (linesS b) j)) w) := Lib.hid fun j w => eql_scr _ _ (pageL_len _ _) (pageL_len _ _) w
    have HLL : RowKit.Hid (a = b → ∀ j, pageL (linesS a) j = pageL (linesS b) j) := Lib.hid fun e j => by rw [e]
    have hgd := guard_scr
    have hNN : (((pagesN (linesS a).length : Nat) : Int) == ((pagesN (linesS a).length : Nat) : Int)) = true := by simp
    clear hpa hpb hfa hfb hpk hza hzb hpp hub
    generalize pagesN (linesS a).length = N at *
    go_enter Tryd.func13, Tryd.ntmps13
    go_wp2_with (first
      | (go_at_call 40; (with_reducible refine (HA.out _).mono ?_); rintro e w1 ⟨rfl, hb1⟩)
      | (go_at_call 41; (with_reducible refine (HFA.out _ (HVA.out.mono hb1)).mono ?_); rintro e w2 ⟨rfl, rfl⟩)
      | (go_at_call 41; (with_reducible refine (HFB.out _ (HVB.out.mono hb1)).mono ?_); rintro e w3 ⟨rfl, rfl⟩)
      | (go_at_call 52; (with_reducible refine (HPA.out _ (HVA.out.mono hb1)).mono ?_); rintro e w4 ⟨rfl, hb4⟩; have hb14 := bel_trans hb1 hb4)
      | (go_at_call 52; (with_reducible refine (HPB.out _ (HVB.out.mono hb14)).mono ?_); rintro e w5 ⟨rfl, hb5⟩; have hb15 := bel_trans hb14 hb5)
      | (go_at_call 45; (with_reducible refine (HGA.out _ (HVA.out.mono hb15)).mono ?_); rintro e w6 ⟨rfl, hb6⟩; have hb16 := bel_trans hb15 hb6)
      | (go_at_call 45; (with_reducible refine (HGB.out _ (HVB.out.mono hb16)).mono ?_); rintro e w7 ⟨rfl, hb7⟩; have hb17 := bel_trans hb16 hb7))
    go_loopg [5, 6] N (fun g q i wr => ∃ (k : Nat) (r : Bool), k ≤ N ∧ g = N - k ∧ i = .int .i64 k ∧ q = .bool r ∧ Below w.heap.size w wr ∧ (r = true → ∀ j, j < k → pageL (linesS a) j = pageL (linesS b) j) ∧ (r = false → a ≠ b))
    case atStart => exact ⟨0, true, Nat.zero_le _, rfl, rfl, rfl, hb17, fun _ j hj => absurd hj (Nat.not_lt_zero _), fun h => by cases h⟩
    case round =>
      obtain ⟨k, r, hk, rfl, rfl, rfl, hb, hyes, hno⟩ := hrel
      have HY := Lib.hid hyes
      have HNO := Lib.hid hno
      clear hyes hno
      cases r
      · have HAB : RowKit.Hid (decide (a = b) = false) := Lib.hid (decide_eq_false (HNO.out rfl))
        have HSB : RowKit.Hid (∀ W, HasL W (.slice pa a.length ca) a → HasL W (.slice pb b.length cb) b → Calls Tryd.prog 43 #[.slice pa a.length ca, .slice pb b.length cb] W fun e w' => e = .returned (.bool false) ∧ Below W.heap.size W w') := Lib.hid fun W h1 h2 => by
          have := HST.out W h1 h2
          rwa [HAB.out] at this
        go_wp2_with (first
          | (go_at_call 45; (with_reducible refine (HGA.out _ (HVA.out.mono hb)).mono ?_); rintro e w8 ⟨rfl, hb8⟩; have hb18 := bel_trans hb hb8)
          | (go_at_call 43; (with_reducible refine (HSB.out _ (HVA.out.mono hb18) (HVB.out.mono hb18)).mono ?_); rintro e w9 ⟨rfl, hb9⟩))
        all_goals (
          go_ret
          exact ⟨rfl, bel_trans hb18 hb9⟩)
      · by_cases hlt : k < N
        · have hki : (k : Int) < (N : Int) := by omega
          have hq := HEQ.out k
          by_cases he : pageL (linesS a) k = pageL (linesS b) k
          · have HE := Lib.hid he
            rw [decide_eq_true he] at hq
            have HRA1 := Lib.hid (HRA.out k hlt)
            have HRB1 := Lib.hid (HRB.out k hlt)
            generalize byteV (pageL (linesS a) k) = ua at *
            generalize byteV (pageL (linesS b) k) = ub at *
            clear he
            go_wp2_with (first
              | (go_at_call 45; (with_reducible refine (HGA.out _ (HVA.out.mono hb)).mono ?_); rintro e w8 ⟨rfl, hb8⟩; have hb18 := bel_trans hb hb8)
              | (go_at_call 48; (with_reducible refine (HRA1.out _ (HVA.out.mono hb18)).mono ?_); rintro e w9 ⟨rfl, hb9⟩; have hb19 := bel_trans hb18 hb9)
              | (go_at_call 48; (with_reducible refine (HRB1.out _ (HVB.out.mono hb19)).mono ?_); rintro e w10 ⟨rfl, hb10⟩; have hb20 := bel_trans hb19 hb10))
            go_roundg (N - (k + 1))
            case measure => omega
            case rel => exact ⟨k + 1, true, by omega, rfl, by go_num, rfl, hb20, fun _ j hj => by (rcases Nat.lt_or_ge j k with h | h); exact HY.out (by first | rfl | trivial) j h; rw [show j = k by omega]; exact HE.out, fun h => by cases h⟩
          · have HE := Lib.hid he
            rw [decide_eq_false he] at hq
            have HRA1 := Lib.hid (HRA.out k hlt)
            have HRB1 := Lib.hid (HRB.out k hlt)
            generalize byteV (pageL (linesS a) k) = ua at *
            generalize byteV (pageL (linesS b) k) = ub at *
            clear he
            go_wp2_with (first
              | (go_at_call 45; (with_reducible refine (HGA.out _ (HVA.out.mono hb)).mono ?_); rintro e w8 ⟨rfl, hb8⟩; have hb18 := bel_trans hb hb8)
              | (go_at_call 48; (with_reducible refine (HRA1.out _ (HVA.out.mono hb18)).mono ?_); rintro e w9 ⟨rfl, hb9⟩; have hb19 := bel_trans hb18 hb9)
              | (go_at_call 48; (with_reducible refine (HRB1.out _ (HVB.out.mono hb19)).mono ?_); rintro e w10 ⟨rfl, hb10⟩; have hb20 := bel_trans hb19 hb10))
            go_roundg (N - (k + 1))
            case measure => omega
            case rel => exact ⟨k + 1, false, by omega, rfl, by go_num, rfl, hb20, (fun h => by cases h), fun _ e => HE.out (HLL.out e k)⟩
        · have hkN : k = N := by omega
          subst hkN
          have HAB : RowKit.Hid (decide (a = b) = true) := Lib.hid (decide_eq_true (HUN.out (HY.out (by first | rfl | trivial))))
          have HSB : RowKit.Hid (∀ W, HasL W (.slice pa a.length ca) a → HasL W (.slice pb b.length cb) b → Calls Tryd.prog 43 #[.slice pa a.length ca, .slice pb b.length cb] W fun e w' => e = .returned (.bool true) ∧ Below W.heap.size W w') := Lib.hid fun W h1 h2 => by
            have := HST.out W h1 h2
            rwa [HAB.out] at this
          go_wp2_with (first
            | (go_at_call 45; (with_reducible refine (HGA.out _ (HVA.out.mono hb)).mono ?_); rintro e w8 ⟨rfl, hb8⟩; have hb18 := bel_trans hb hb8)
            | (go_at_call 43; (with_reducible refine (HSB.out _ (HVA.out.mono hb18) (HVB.out.mono hb18)).mono ?_); rintro e w9 ⟨rfl, hb9⟩))
          go_ret
          exact ⟨rfl, bel_trans hb18 hb9⟩
  · have hn : ((a.length : Int) != (b.length : Int)) = true := by rw [bne_iff_ne]; omega
    clear CPA CPB hfa hfb
    go_enter Tryd.func13, Tryd.ntmps13
    go_wp2_with (first
      | (go_at_call 40; (with_reducible refine (HA.out _).mono ?_); rintro e w1 ⟨rfl, hb1⟩)
      | (go_at_call 41; (with_reducible refine (HFA.out _ (HVA.out.mono hb1)).mono ?_); rintro e w2 ⟨rfl, rfl⟩)
      | (go_at_call 41; (with_reducible refine (HFB.out _ (HVB.out.mono hb1)).mono ?_); rintro e w3 ⟨rfl, rfl⟩))
    go_ret
    exact ⟨rfl, hb1⟩
end Go.Proofs.YtpmmjccdogjncaaDoor
