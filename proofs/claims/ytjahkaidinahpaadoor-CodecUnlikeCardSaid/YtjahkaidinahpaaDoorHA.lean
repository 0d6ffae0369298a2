/- Lists of a PNR, copied (the reference). -/
import Derived.Test.YtjahkaidinahpaaDoorGT
import Derived.Test.YtjahkaidinahpaaDoorGI
namespace Go.Proofs.YtjahkaidinahpaaDoor
open Go.RowKit Go.ChangeMaps
set_option linter.unusedSimpArgs false
set_option linter.unusedVariables false
set_option maxRecDepth 20000

set_option maxHeartbeats 8000000 in
theorem copySegs_any (v : Value) (l : List SegT) (w : World) (h : HasE segC w v l) (hl : l.length ≤ 1000) :
    Calls Tryd.prog 105 #[v] w fun e w' => (∃ v', e = .returned v' ∧ w'.ownsRow w.heap.size 37 5 v' l.length (l.flatMap segC)) ∧ Below w.heap.size w w' := by
  obtain ⟨p, c, rfl⟩ := h.len
  have HH := Lib.hid h
  obtain ⟨i0, hi0, hz0, hsz0, hby0⟩ := seg_tinfo
  have hm1 : ([] : List SegT).length + l.length ≤ maxLen := by simp; unfold maxLen; omega
  have hm2 : (([] : List SegT).length + l.length) * 40 ≤ 140737488355328 := by simp; omega
  clear h hl
  go_enter Tryd.func105, Tryd.ntmps105
  go_wp2_with (first
    | (refine wpList_append_big segC_len segC_one (by decide) rfl (.tmp 4) (.tmp 5) 23 rfl w.heap.size 37 i0 _ 40 Tryd.underlying23 hi0 hz0 hsz0 hby0 rfl (.slice none 0 0) [] rfl (World.ownsRow_nil _ _ _ _) _ l rfl HH.out hm1 hm2 (Nat.le_refl _) ?_; intro v' w1 ho hg hb))
  go_ret
  exact ⟨⟨v', rfl, ho⟩, hb⟩

set_option maxHeartbeats 8000000 in
theorem copyNames_any (v : Value) (l : List NameT) (w : World) (h : HasE nameC w v l) (hl : l.length ≤ 1000) :
    Calls Tryd.prog 168 #[v] w fun e w' => (∃ v', e = .returned v' ∧ w'.ownsRow w.heap.size 31 2 v' l.length (l.flatMap nameC)) ∧ Below w.heap.size w w' := by
  obtain ⟨p, c, rfl⟩ := h.len
  have HH := Lib.hid h
  obtain ⟨i0, hi0, hz0, hsz0, hby0⟩ := name_tinfo
  have hm1 : ([] : List NameT).length + l.length ≤ maxLen := by simp; unfold maxLen; omega
  have hm2 : (([] : List NameT).length + l.length) * 32 ≤ 140737488355328 := by simp; omega
  clear h hl
  go_enter Tryd.func168, Tryd.ntmps168
  go_wp2_with (first
    | (refine wpList_append_big nameC_len nameC_one (by decide) rfl (.tmp 4) (.tmp 5) 22 rfl w.heap.size 31 i0 _ 32 Tryd.underlying22 hi0 hz0 hsz0 hby0 rfl (.slice none 0 0) [] rfl (World.ownsRow_nil _ _ _ _) _ l rfl HH.out hm1 hm2 (Nat.le_refl _) ?_; intro v' w1 ho hg hb))
  go_ret
  exact ⟨⟨v', rfl, ho⟩, hb⟩

def txtC (s : ByteArray) : List Value := [.string s]
theorem txtC_len (s : ByteArray) : (txtC s).length = 1 := rfl
theorem txtC_one (s : ByteArray) : ∀ v ∈ txtC s, v.oneCell' = true := by
  intro v hv
  simp [txtC] at hv
  subst hv
  rfl
theorem flat_txt : ∀ (l : List ByteArray), l.flatMap txtC = strV l
  | [] => rfl
  | b :: l => by rw [List.flatMap_cons, flat_txt l]; rfl

theorem texts_has {w : World} {v : Value} {l : List ByteArray} (h : HasL w v l) : HasE txtC w v l := by
  rcases h with h | ⟨b, off, c, h1, h2, h3, h4⟩
  · exact .inl h
  · refine .inr ⟨b, off, c, h1, h2, h3, fun j u hj => ?_⟩
    rw [flat_txt] at hj
    have hjl : j < l.length := by
      rcases Nat.lt_or_ge j l.length with h | h
      · exact h
      · rw [List.getElem?_eq_none (by rw [strV_len]; exact h)] at hj; cases hj
    rw [h4 j hjl]
    unfold strV at hj
    rw [List.getElem?_map, List.getElem?_eq_getElem hjl] at hj
    rw [List.getD_eq_getElem?_getD, List.getElem?_eq_getElem hjl]
    exact hj

set_option maxHeartbeats 8000000 in
theorem copyTexts_any (v : Value) (l : List ByteArray) (w : World) (h : HasL w v l) (hl : l.length ≤ 1000) :
    Calls Tryd.prog 169 #[v] w fun e w' => (∃ v', e = .returned v' ∧ OwnL w' w.heap.size v' l) ∧ Below w.heap.size w w' := by
  have h := texts_has h
  obtain ⟨p, c, rfl⟩ := h.len
  have HH := Lib.hid h
  obtain ⟨i0, hi0, hz0, hsz0, hby0⟩ := str_tinfo
  have hm1 : ([] : List ByteArray).length + l.length ≤ maxLen := by simp; unfold maxLen; omega
  have hm2 : (([] : List ByteArray).length + l.length) * 16 ≤ 140737488355328 := by simp; omega
  clear h hl
  go_enter Tryd.func169, Tryd.ntmps169
  go_wp2_with (first
    | (refine wpList_append_big txtC_len txtC_one (by decide) rfl (.tmp 4) (.tmp 5) 24 rfl w.heap.size 9 i0 _ 16 Tryd.underlying24 hi0 hz0 hsz0 hby0 rfl (.slice none 0 0) [] rfl (World.ownsRow_nil _ _ _ _) _ l rfl HH.out hm1 hm2 (Nat.le_refl _) ?_; intro v' w1 ho hg hb))
  go_ret
  refine ⟨⟨v', rfl, ?_⟩, hb⟩
  rw [List.nil_append, flat_txt] at ho
  exact ho
end Go.Proofs.YtjahkaidinahpaaDoor
