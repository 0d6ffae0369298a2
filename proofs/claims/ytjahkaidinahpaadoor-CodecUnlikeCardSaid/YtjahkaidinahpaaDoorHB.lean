/- Places of a PNR but those of a passenger in a segment (the reference). -/
import Derived.Test.YtjahkaidinahpaaDoorHA
namespace Go.Proofs.YtjahkaidinahpaaDoor
open Go.RowKit Go.ChangeMaps
set_option linter.unusedSimpArgs false
set_option linter.unusedVariables false
set_option maxRecDepth 20000

set_option maxHeartbeats 16000000 in
theorem places_any (v : Value) (l : List PlaceT) (seg pax : Int) (w : World) (h : HasE placeC w v l) (hl : l.length ≤ 1000) :
    Calls Tryd.prog 106 #[v, .int .i64 seg, .int .i64 pax] w fun e w' => (∃ (v' : Value) (r : List PlaceT), e = .returned v' ∧ w'.ownsRow w.heap.size 162 4 v' r.length (r.flatMap placeC) ∧ r.length ≤ l.length ∧ ∀ x ∈ r, x ∈ l) ∧ Below w.heap.size w w' := by
  obtain ⟨p, c0, rfl⟩ := h.len
  have HH := Lib.hid h
  generalize hM : l.length = M at *
  have HM := Lib.hid hM
  clear h hM
  go_enter Tryd.func106, Tryd.ntmps106
  go_wp2
  go_loopg [7, 8] M (fun g0 s7 s8 wr => ∃ (i : Nat) (r : List PlaceT) (p3 : Option Addr) (n3 c3 : Nat), i ≤ M ∧ g0 = M - i ∧ s8 = .int .i64 (i : Int) ∧ s7 = .slice p3 n3 c3 ∧ wr.ownsRow w.heap.size 162 4 (.slice p3 n3 c3) r.length (r.flatMap placeC) ∧ r.length ≤ i ∧ (∀ x ∈ r, x ∈ l) ∧ Below w.heap.size w wr)
  case atStart => exact ⟨0, [], none, 0, 0, Nat.zero_le _, rfl, rfl, rfl, World.ownsRow_nil _ _ _ _, Nat.le_refl _, (fun x hx => by cases hx), Below.refl _ _⟩
  case round =>
    obtain ⟨i, r, p3, n3, c3, hiM, rfl, rfl, rfl, hown, hrl, hmem, hbw⟩ := hrel
    have HOWN := Lib.hid hown
    have HMEM := Lib.hid hmem
    clear hown hmem
    by_cases hlt : i < M
    · have hii : (i : Int) < (M : Int) := by omega
      have hi0 : (0 : Int) ≤ (i : Int) := by omega
      have hiM2 : i < l.length := by rw [HM.out]; exact hlt
      obtain ⟨bb, off2, rfl, hr, hc0, hc1, hc2, hc3⟩ := place_at (HH.out.mono hbw) hiM2
      have HXM := Lib.hid (List.mem_of_getElem? (getD_at pl0 hiM2))
      clear hiM2
      generalize l.getD i pl0 = x at *
      obtain ⟨sg, pa, row, c⟩ := x
      simp only at hc0 hc1 hc2 hc3
      by_cases k1 : sg = seg
      rotate_left
      · obtain ⟨i0, hi0, hz0, hsz0, hby0⟩ := place_tinfo
        have hm1 : r.length + 1 ≤ maxLen := by unfold maxLen; omega
        have hm2 : (r.length + 1) * 32 ≤ 140737488355328 := by omega
        have hBs := hbw.size
        go_wp2_with (first
          | (refine wpList_load_mid rfl 162 _ rfl bb (off2 + i * 4) rfl [.int .i64 sg, .int .i64 pa, .int .i64 row, .int .u8 c.toNat] _ hr Tryd.underlying162 rfl info_place ?_)
          | (at_builtin; refine wpList_pushC rfl _ _ 27 rfl w.heap.size 162 i0 _ 4 32 Tryd.underlying27 hi0 hz0 hsz0 hby0 rfl (by decide) _ r.length _ rfl HOWN.out (placeC ⟨sg, pa, row, c⟩) rfl rfl (placeC_one _) hm1 hm2 hBs ?_; intro v4 w4 ho4 hb4 hg4; obtain ⟨p4, n4, c4, rfl⟩ := own_slice ho4))
        go_roundg (M - (i + 1))
        case measure => omega
        case rel => exact ⟨i + 1, r ++ [⟨sg, pa, row, c⟩], _, _, _, by omega, rfl, by go_num, rfl, by rw [List.length_append, List.flatMap_append, show ([⟨sg, pa, row, c⟩] : List PlaceT).flatMap placeC = placeC ⟨sg, pa, row, c⟩ by simp]; exact ho4, by rw [List.length_append, List.length_singleton]; omega, (fun t ht => by
          rcases List.mem_append.1 ht with h1 | h1
          · exact HMEM.out t h1
          · rw [List.mem_singleton.1 h1]; exact HXM.out), hbw.trans hb4⟩
      subst k1
      by_cases k2 : pax = 0
      · go_wp2
        go_roundg (M - (i + 1))
        case measure => omega
        case rel => exact ⟨i + 1, r, _, _, _, by omega, rfl, by go_num, rfl, HOWN.out, by omega, HMEM.out, hbw⟩
      by_cases k3 : pa = pax
      · go_wp2
        go_roundg (M - (i + 1))
        case measure => omega
        case rel => exact ⟨i + 1, r, _, _, _, by omega, rfl, by go_num, rfl, HOWN.out, by omega, HMEM.out, hbw⟩
      have k4 : (pax != 0) = true := by simp [k2]
      have k5 : (pa != pax) = true := by simp [k3]
      obtain ⟨i0, hi0, hz0, hsz0, hby0⟩ := place_tinfo
      have hm1 : r.length + 1 ≤ maxLen := by unfold maxLen; omega
      have hm2 : (r.length + 1) * 32 ≤ 140737488355328 := by omega
      have hBs := hbw.size
      go_wp2_with (first
        | (refine wpList_load_mid rfl 162 _ rfl bb (off2 + i * 4) rfl [.int .i64 sg, .int .i64 pa, .int .i64 row, .int .u8 c.toNat] _ hr Tryd.underlying162 rfl info_place ?_)
        | (at_builtin; refine wpList_pushC rfl _ _ 27 rfl w.heap.size 162 i0 _ 4 32 Tryd.underlying27 hi0 hz0 hsz0 hby0 rfl (by decide) _ r.length _ rfl HOWN.out (placeC ⟨sg, pa, row, c⟩) rfl rfl (placeC_one _) hm1 hm2 hBs ?_; intro v4 w4 ho4 hb4 hg4; obtain ⟨p4, n4, c4, rfl⟩ := own_slice ho4))
      go_roundg (M - (i + 1))
      case measure => omega
      case rel => exact ⟨i + 1, r ++ [⟨sg, pa, row, c⟩], _, _, _, by omega, rfl, by go_num, rfl, by rw [List.length_append, List.flatMap_append, show ([⟨sg, pa, row, c⟩] : List PlaceT).flatMap placeC = placeC ⟨sg, pa, row, c⟩ by simp]; exact ho4, by rw [List.length_append, List.length_singleton]; omega, (fun t ht => by
        rcases List.mem_append.1 ht with h1 | h1
        · exact HMEM.out t h1
        · rw [List.mem_singleton.1 h1]; exact HXM.out), hbw.trans hb4⟩
    · have hie : i = M := by omega
      subst hie
      have hii : ¬ (i : Int) < (i : Int) := by omega
      go_wp2
      go_ret
      exact ⟨⟨_, rfl, r, HOWN.out, hrl, HMEM.out⟩, hbw⟩
end Go.Proofs.YtjahkaidinahpaaDoor
