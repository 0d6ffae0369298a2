/- The law ScreenTexts: the walk. -/
import Derived.Test.YtpmmjccdogjncaaDoorScrO
namespace Go.Proofs.YtpmmjccdogjncaaDoor
open Go.RowKit Go.ChangeShapes Go.WideShapes Go.ChangeAt
set_option linter.unusedSimpArgs false

theorem range_below {w w' : World} {b o : Nat} {cs : List Value} (h : w.rangeAt b o cs) (hb : Below w.heap.size w w') : w'.rangeAt b o cs := fun j v hj => cell_bel hb (h j v hj)

theorem held_range {w1 W W' : World} {b o : Nat} {cs : List Value} (h : W.rangeAt b o cs ∧ Below w1.heap.size w1 W) (hb : Below W.heap.size W W') : W'.rangeAt b o cs ∧ Below w1.heap.size w1 W' :=
  ⟨range_below h.1 hb, h.2.trans (hb.mono h.2.size)⟩

set_option maxRecDepth 20000 in
set_option maxHeartbeats 8000000 in
theorem screenTexts_walk (v : Value) (l : List ByteArray) (fill : Int) (_hf : (Lit.int .u8 fill).wf = true) (w : World) (h : Texts w v l) :
    Calls Tryd.prog 11 #[v, .int .u8 fill] w fun e w' => e = .returned (.bool true) ∧ Below w.heap.size w w' := by
  obtain ⟨hv, hm, hsz⟩ := h
  have HA : RowKit.Hid (∀ W, Calls Tryd.prog 40 #[] W fun e w' => e = .returned (.bool true) ∧ Below W.heap.size W w') := Lib.hid fun W => awakeS_any W
  have hf2 : 0 ≤ fill ∧ fill ≤ 255 := by
    have e1 : IntKind.u8.min = 0 := by decide
    have e2 : IntKind.u8.max = 255 := by decide
    simp [Lit.wf] at _hf
    omega
  obtain ⟨x, hx⟩ : ∃ x : UInt8, (x.toNat : Int) = fill := ⟨UInt8.ofNat fill.toNat, by rw [UInt8.toNat_ofNat']; omega⟩
  subst hx
  clear hf2
  obtain ⟨p, c, rfl⟩ := own_len hv
  have HV := Lib.hid hv
  have HLE : RowKit.Hid (∀ (W : World), HasL W (.slice p l.length c) l → ∀ k, k < l.length → ∃ b off, p = some ⟨b, off, none⟩ ∧ W.cell? ⟨b, off + k, none⟩ = some (.string (l.getD k ByteArray.empty))) := Lib.hid fun W h k hk => by
    rcases h with ⟨_, _, _, rfl, _⟩ | ⟨b, off, c, e, _, _, h3⟩
    · simp at hk
    · injection e with e1 e2 e3
      exact ⟨b, off, e1, h3 k hk⟩
  have HSZ : RowKit.Hid (∀ k, k < l.length → (l.getD k ByteArray.empty).size ≤ 9223372036854775807) := Lib.hid fun k hk => by
    have e : l.getD k ByteArray.empty = l[k] := by simp [List.getD, hk]
    rw [e]
    have := hsz _ (List.getElem_mem hk)
    unfold maxLen at this
    omega
  unfold maxLen at hm
  clear hv hsz
  generalize l.length = n at *
  by_cases h1 : 100 < n
  · have g1 : (100 : Int) < (n : Int) := by omega
    clear h1
    go_enter Tryd.func11, Tryd.ntmps11
    go_wp2_with (first
      | (go_at_call 40; (with_reducible refine (HA.out _).mono ?_); rintro e w1 ⟨rfl, hb1⟩))
    go_ret
    exact ⟨rfl, hb1⟩
  have g1 : ¬ (100 : Int) < (n : Int) := by omega
  go_enter Tryd.func11, Tryd.ntmps11
  go_wp2_with (first
    | (go_at_call 40; (with_reducible refine (HA.out _).mono ?_); rintro e w1 ⟨rfl, hb1⟩)
    | (refine wpList_alloc_scr rfl rfl ?_; intro w2 ha2 hb2 hz2))
  have HA2 := Lib.hid ha2
  have hx0 : (0 : Int) ≤ (x.toNat : Int) := by omega
  have hx1 := byte_hi x
  clear ha2 HA
  have HVV := Lib.hid (HV.out.mono hb1)
  go_loopg [6] 24 (fun g i wr => ∃ (k : Nat) (cur : List UInt8), k ≤ 24 ∧ g = 24 - k ∧ i = .int .i64 k ∧ Below w1.heap.size w1 wr ∧ Arr wr w1.heap.size 73 cur ∧ cur.length = 1536)
  case atStart => exact ⟨0, _, Nat.zero_le _, rfl, rfl, hb2, HA2.out, List.length_replicate ..⟩
  case round =>
    obtain ⟨i, cur, hi, rfl, rfl, hb, hc, hcl⟩ := hrel
    have HC := Lib.hid hc
    clear hc
    by_cases hlt : i < 24
    · have hii : (i : Int) < 24 := by omega
      have hi0 : (0 : Int) ≤ (i : Int) := by omega
      go_wp2_with fail
      go_loopg [7] 64 (fun g j wr => ∃ (k : Nat) (cur : List UInt8), k ≤ 64 ∧ g = 64 - k ∧ j = .int .i64 k ∧ Below w1.heap.size w1 wr ∧ Arr wr w1.heap.size 73 cur ∧ cur.length = 1536)
      case atStart => exact ⟨0, cur, Nat.zero_le _, rfl, rfl, hb, HC.out, hcl⟩
      case round =>
        obtain ⟨k, cur2, hk, rfl, rfl, hb3, hc2, hcl2⟩ := hrel
        by_cases hk6 : k < 64
        · have hki : (k : Int) < 64 := by omega
          have hk0 : (0 : Int) ≤ (k : Int) := by omega
          have c1 := hc2.cell (j := i * 64 + k) (by omega)
          have f1 := hc2.frozen (i * 64 + k)
          have HC2 := Lib.hid hc2
          generalize cur2.getD (i * 64 + k) 0 = y at c1
          clear hc2
          by_cases hin : i < n
          · have hini : (i : Int) < (n : Int) := by omega
            obtain ⟨b5, off5, rfl, c50⟩ := HLE.out _ HVV.out i hin
            have c5 := cell_bel hb3 c50
            have hne : b5 ≠ w1.heap.size := by
              intro e
              have := World.block_lt_of_cell? w1 _ c50
              simp only at this
              omega
            have z5 := HSZ.out i hin
            generalize l.getD i ByteArray.empty = t at *
            clear c50
            by_cases hkt : k < t.size
            · have hkti : (k : Int) < (t.size : Int) := by omega
              have hgl := get_list t k hkt
              generalize t.data.toList.getD k 0 = y2 at *
              have hy0 : (0 : Int) ≤ (y2.toNat : Int) := by omega
              have hy1 := byte_hi y2
              go_wp2
              go_region
              all_goals (
                go_wp2
                go_roundg (64 - (k + 1))
                case measure => omega
                case rel => exact ⟨k + 1, (cur2.set (i * 64 + k) x).set (i * 64 + k) y2, by omega, rfl, by go_num, ((hb3.setCell (p := ⟨w1.heap.size, i * 64 + k, none⟩) (Nat.le_refl _) _).drew).setCell (p := ⟨w1.heap.size, i * 64 + k, none⟩) (Nat.le_refl _) _, (HC2.out.set (i * 64 + k) x).set (i * 64 + k) y2, by simp [hcl2]⟩)
            · have hkti : ¬ (k : Int) < (t.size : Int) := by omega
              go_wp2
              go_roundg (64 - (k + 1))
              case measure => omega
              case rel => exact ⟨k + 1, cur2.set (i * 64 + k) x, by omega, rfl, by go_num, hb3.setCell (p := ⟨w1.heap.size, i * 64 + k, none⟩) (Nat.le_refl _) _, HC2.out.set (i * 64 + k) x, by simp [hcl2]⟩
          · have hini : ¬ (i : Int) < (n : Int) := by omega
            go_wp2
            go_roundg (64 - (k + 1))
            case measure => omega
            case rel => exact ⟨k + 1, cur2.set (i * 64 + k) x, by omega, rfl, by go_num, hb3.setCell (p := ⟨w1.heap.size, i * 64 + k, none⟩) (Nat.le_refl _) _, HC2.out.set (i * 64 + k) x, by simp [hcl2]⟩
        · have hk64 : k = 64 := by omega
          subst hk64
          have HC2 := Lib.hid hc2
          clear hc2
          go_wp2
          go_roundg (24 - (i + 1))
          case measure => omega
          case rel => exact ⟨i + 1, cur2, by omega, rfl, by go_num, hb3, HC2.out, hcl2⟩
    · have hi24 : i = 24 := by omega
      subst hi24
      have hra := HC.out.range
      have HT1 : RowKit.Hid (∀ W, Calls Tryd.prog 50 #[.agg (byteV cur).toArray] W fun e w' => e = .returned (.string (textS cur)) ∧ Below W.heap.size W w') := Lib.hid fun W => Text_any cur W hcl
      have HT2 : RowKit.Hid (∀ W, Calls Tryd.prog 51 #[.agg (byteV cur).toArray] W fun e w' => e = .returned (.string (textS cur)) ∧ Below W.heap.size W w') := Lib.hid fun W => rText_any cur W hcl
      have hu := Tryd.underlying73
      have hsz : (Tryd.prog.info? 73).map (·.size) = some (byteV cur).length := by rw [byteV_len, hcl]; exact info_screen
      generalize textS cur = T at *
      generalize byteV cur = cs at *
      have heq : (T.toList == T.toList) = true := by simp
      go_wp2_with fail
      refine wp_region_noPanic ?_
      refine wp_region_held_drew (S := fun W => W.rangeAt w1.heap.size 0 cs ∧ Below w1.heap.size w1 W) (by kernel_rfl) ⟨hra, hb.drew⟩ (fun hHeld => ?_)
      refine wpAnyH_take (i := 0) (oi := _) (v := _) rfl (by kernel_rfl) (by kernel_rfl) (by kernel_rfl) (fun _ _ _ h => h) (yieldsIf_load_mid (by rfl) 73 (.tmp 5) rfl w1.heap.size 0 rfl cs _ (fun _ h => h.1) hu rfl hsz) (by assumption) ?_
      try simp only [Act.put, List.getElem_toArray, List.getElem_cons_succ, List.getElem_cons_zero, List.setIfInBounds_toArray, List.set_cons_zero, List.set_cons_succ]
      refine wpAnyH_take (i := 2) (oi := _) (v := _) rfl (by kernel_rfl) (by kernel_rfl) (by kernel_rfl) (fun _ _ _ h => h) (yieldsIf_load_mid (by rfl) 73 (.tmp 5) rfl w1.heap.size 0 rfl cs _ (fun _ h => h.1) hu rfl hsz) (by assumption) ?_
      try simp only [Act.put, List.getElem_toArray, List.getElem_cons_succ, List.getElem_cons_zero, List.setIfInBounds_toArray, List.set_cons_zero, List.set_cons_succ]
      refine wpAnyH_ready (rs := [1]) (by kernel_rfl) (by simp) ?_
      refine AllReadyH.cons (o := _) rfl (fun K hK => ?_) AllReadyH.nil
      go_simp
      go_at_call 50
      (with_reducible refine (HT1.out _).mono ?_)
      rintro e w5 ⟨rfl, hb5⟩
      go_simp
      refine hK.out _ _ (held_range hHeld hb5) (fun hHeld => ?_)
      clear hK K
      try simp only [Act.put, List.getElem_toArray, List.getElem_cons_succ, List.getElem_cons_zero, List.setIfInBounds_toArray, List.set_cons_zero, List.set_cons_succ]
      refine wpAnyH_ready (rs := [3]) (by kernel_rfl) (by simp) ?_
      refine AllReadyH.cons (o := _) rfl (fun K hK => ?_) AllReadyH.nil
      go_simp
      go_at_call 51
      (with_reducible refine (HT2.out _).mono ?_)
      rintro e w6 ⟨rfl, hb6⟩
      go_simp
      refine hK.out _ _ (held_range hHeld hb6) (fun hHeld => ?_)
      clear hK K
      try simp only [Act.put, List.getElem_toArray, List.getElem_cons_succ, List.getElem_cons_zero, List.setIfInBounds_toArray, List.set_cons_zero, List.set_cons_succ]
      refine wpAnyH_take (i := 4) (oi := _) (v := ?_) rfl (by kernel_rfl) (by kernel_rfl) (by kernel_rfl) (fun _ _ _ h => h) (Or.inl ⟨by rfl, ?_⟩) (by assumption) ?_
      rotate_left
      · intro w hSw
        (try dsimp only at hSw)
        go_simp
        (try with_reducible rfl)
      try simp only [Act.put, List.getElem_toArray, List.getElem_cons_succ, List.getElem_cons_zero, List.setIfInBounds_toArray, List.set_cons_zero, List.set_cons_succ]
      refine wpAnyH_take (i := 5) (oi := _) (v := ?_) rfl (by kernel_rfl) (by kernel_rfl) (by kernel_rfl) (fun _ _ _ h => h) (Or.inl ⟨by rfl, ?_⟩) (by assumption) ?_
      rotate_left
      · intro w hSw
        (try dsimp only at hSw)
        go_simp
        (try with_reducible rfl)
      try simp only [Act.put, List.getElem_toArray, List.getElem_cons_succ, List.getElem_cons_zero, List.setIfInBounds_toArray, List.set_cons_zero, List.set_cons_succ]
      refine wpAnyH_done (by kernel_rfl) ?_ _
      refine NoPanic.normal ?_
      go_wp2
      go_ret
      exact ⟨rfl, hb1.trans (hHeld.2.mono hb1.size)⟩
end Go.Proofs.YtpmmjccdogjncaaDoor
