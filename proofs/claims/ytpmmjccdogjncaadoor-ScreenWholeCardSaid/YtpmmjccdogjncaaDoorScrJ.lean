/- awake of the screen's laws. -/
import Derived.Test.YtpmmjccdogjncaaDoorScrI
namespace Go.Proofs.YtpmmjccdogjncaaDoor
open Go.RowKit

def okA : ByteArray := ⟨#[79, 75]⟩
def aA : ByteArray := ⟨#[65]⟩

theorem has_new1 (s : ByteArray) (w : World) : HasL (w.alloc (.cells #[.string s] 9)) (.slice (some ⟨w.heap.size, 0, none⟩) 1 1) [s] :=
  .inr ⟨_, 0, 1, rfl, by simp, by decide, fun j hj => by
    obtain rfl : j = 0 := by simpa using hj
    simp⟩
theorem has_new2 (s t : ByteArray) (w : World) : HasL (w.alloc (.cells #[.string s, .string t] 9)) (.slice (some ⟨w.heap.size, 0, none⟩) 2 2) [s, t] :=
  .inr ⟨_, 0, 2, rfl, by simp, by decide, fun j hj => by
    have hj : j < 2 := by simpa using hj
    match j, hj with
    | 0, _ => simp
    | 1, _ => simp⟩

theorem okText : textS (pageL (linesS [okA]) (pgN 0 (pagesN (linesS [okA]).length))) = ⟨#[79, 75, 10]⟩ := by decide +kernel
theorem okCell : (pageL (linesS [okA]) (pgN 0 (pagesN (linesS [okA]).length))).getD 1535 0 = 32 := by decide +kernel
theorem okPages : pagesN (linesS [okA]).length = 1 := by decide +kernel
theorem aPages : pagesN (linesS [aA]).length = 1 := by decide +kernel
theorem aLines : (linesS [aA, ⟨#[]⟩]).length = 2 := by decide +kernel

theorem pageL_len (rows : List ByteArray) (pg : Nat) : (pageL rows pg).length = 1536 := by
  unfold pageL
  rw [List.length_flatMap]
  simp [rowL_len]
  decide

set_option maxRecDepth 20000 in
set_option maxHeartbeats 8000000 in
theorem awakeS_any (w : World) :
    Calls Tryd.prog 40 #[] w fun e w' => e = .returned (.bool true) ∧ Below w.heap.size w w' := by
  obtain ⟨L, hL⟩ : ∃ L, L = pageL (linesS [okA]) (pgN 0 (pagesN (linesS [okA]).length)) := ⟨_, rfl⟩
  have hLl : L.length = 1536 := by rw [hL]; exact pageL_len _ _
  have hLt : textS L = ⟨#[79, 75, 10]⟩ := by rw [hL]; exact okText
  have hLc : L.getD 1535 0 = 32 := by rw [hL]; exact okCell
  have HRN : RowKit.Hid (∀ (W : World) v, HasL W v [okA] → Calls Tryd.prog 48 #[.int .i64 0, v] W fun e w' => e = .returned (.agg (byteV L).toArray) ∧ Below W.heap.size W w') := Lib.hid fun W v h => by
    have := Render_any 0 [okA] v W h (by intro s hs; simp at hs; subst hs; decide) (by rw [okPages]; omega)
    rw [← hL] at this
    exact this
  have HTX : RowKit.Hid (∀ (W : World), Calls Tryd.prog 50 #[.agg (byteV L).toArray] W fun e w' => e = .returned (.string ⟨#[79, 75, 10]⟩) ∧ Below W.heap.size W w') := Lib.hid fun W => by
    have := Text_any L W hLl
    rw [hLt] at this
    exact this
  have HPA : RowKit.Hid (∀ (W : World) v, HasL W v [aA] → Calls Tryd.prog 45 #[v] W fun e w' => e = .returned (.int .i64 1) ∧ Below W.heap.size W w') := Lib.hid fun W v h => by
    have := Pages_any [aA] v W h (by intro s hs; simp at hs; subst hs; decide)
    rw [aPages] at this
    exact this
  have HLN : RowKit.Hid (∀ (W : World) v, HasL W v [aA, ⟨#[]⟩] → Calls Tryd.prog 42 #[v] W fun e w' => ∃ p c, e = .returned (.slice p 2 c) ∧ Below W.heap.size W w') := Lib.hid fun W v h => by
    refine (lines_any [aA, ⟨#[]⟩] v W h (by intro s hs; simp at hs; rcases hs with rfl | rfl <;> decide)).mono ?_
    rintro e w' ⟨v', rfl, ho, hb⟩
    obtain ⟨p, c, e1⟩ := own_len ho.has
    rw [aLines] at e1
    exact ⟨p, c, by rw [e1], hb⟩
  have HI : RowKit.Hid ((Tryd.prog.info? 73).map (·.size) = some L.length) := Lib.hid (by rw [hLl]; exact info_screen)
  have HI2 : RowKit.Hid ((Tryd.prog.info? 73).map (·.size) = some (byteV L).length) := Lib.hid (by rw [byteV_len, hLl]; exact info_screen)
  have HLL := Lib.hid hLl
  have HLC : RowKit.Hid (∀ (W : World) b, Arr W b 73 L → W.cell? ⟨b, 1535, none⟩ = some (.int .u8 32)) := Lib.hid fun W b h => by
    have := h.cell (j := 1535) (by omega)
    rw [this, hLc]; rfl
  have HCL : RowKit.Hid (L.length = (List.replicate 1536 (0 : UInt8)).length) := Lib.hid (by rw [hLl, List.length_replicate])
  clear hL hLl hLt hLc
  go_enter Tryd.func40, Tryd.ntmps40
  go_wp2_with (first
    | (go_at_call 48; refine (HRN.out _ _ (has_new1 okA _)).mono ?_; rintro e w1 ⟨rfl, hb1⟩)
    | (refine wpList_alloc_scr rfl rfl ?_; intro w2 ha2 hb2 hz2)
    | (refine wpList_store_arr rfl 73 (.tmp 1) (.tmp 3) rfl w1.heap.size 73 (List.replicate 1536 0) L rfl rfl ha2 HCL.out HI.out ?_; intro w3 ha3 hb3)
    | (refine wpList_load_mid rfl 73 (.tmp 1) rfl w1.heap.size 0 rfl (byteV L) _ ha3.range Tryd.underlying73 rfl HI2.out ?_)
    | (go_at_call 50; (with_reducible refine (HTX.out _).mono ?_); rintro e w4 ⟨rfl, hb4⟩)
    | (go_at_call 45; refine (HPA.out _ _ (has_new1 aA _)).mono ?_; rintro e w5 ⟨rfl, hb5⟩)
    | (go_at_call 42; refine (HLN.out _ _ (has_new2 aA ⟨#[]⟩ _)).mono ?_; rintro e w6 ⟨p6, c6, rfl, hb6⟩; have hb7 := bel_trans ((Below.refl _ w3).trans hb4) (((Below.refl _ w4).alloc (Nat.le_refl _) _).trans (hb5.mono (by simp))); have hb8 := bel_trans hb7 (((Below.refl _ w5).alloc (Nat.le_refl _) _).trans (hb6.mono (by simp))); have hcell := HLC.out w6 w1.heap.size (ha3.mono hb8)))
  go_ret
  have hA : Below w.heap.size w w1 := ((Below.refl _ w).alloc (Nat.le_refl _) _).trans (hb1.mono (by simp))
  have hB := (bel_trans hA hb2).trans (hb3.mono hA.size)
  exact ⟨rfl, bel_trans hB hb8⟩
end Go.Proofs.YtpmmjccdogjncaaDoor
