/- The law ScreenUnlike: the walk. -/
import Derived.Test.YtpmmjccdogjncaaDoorScrR
namespace Go.Proofs.YtpmmjccdogjncaaDoor
open Go.RowKit Go.ChangeShapes Go.WideShapes Go.ChangeAt

theorem good_map {b : List UInt8} (h : b.all okByte = true) : b.map rowC = b := by
  induction b with
  | nil => rfl
  | cons x t ih =>
    simp only [List.all_cons, Bool.and_eq_true] at h
    rw [List.map_cons, ih h.2]
    congr 1
    have := h.1
    unfold okByte at this
    rw [decide_eq_true_eq] at this
    rw [rowC, if_pos this]

theorem trim_blanks (b : List UInt8) : ∀ m, trimL (b ++ List.replicate m 32) = trimL b
  | 0 => by simp
  | m + 1 => by
    rw [List.replicate_succ', ← List.append_assoc, trimL_snoc, if_pos (by decide), trim_blanks b m]

theorem good_trim {s : ByteArray} (h : goodS s = true) : trimL (rowL s.data.toList) = s.data.toList ∧ s.size ≤ 64 := by
  unfold goodS at h
  simp only [Bool.and_eq_true, decide_eq_true_eq, Bool.or_eq_true] at h
  obtain ⟨⟨h1, h2⟩, h3⟩ := h
  have hl : s.data.toList.length = s.size := by simp
  refine ⟨?_, h1⟩
  rw [rowL_fill _ (by omega), trim_blanks, good_map h3]
  rcases h2 with h2 | h2
  · rw [List.length_eq_zero_iff.1 (by omega : s.data.toList.length = 0)]; rfl
  · by_cases h0 : s.size = 0
    · rw [List.length_eq_zero_iff.1 (by omega : s.data.toList.length = 0)]; rfl
    · have := trim_stop s.data.toList (k := s.size - 1) (by omega) (by simpa using h2)
      rw [List.take_of_length_le (by omega)] at this
      exact this

theorem chunks_one {b : List UInt8} (h : b.length ≤ 64) : chunks b = [strOf (rowL b)] := by
  have e : rowsN b.length = 1 := by unfold rowsN; split <;> omega
  unfold chunks
  rw [e]
  simp [rowAt, List.take_of_length_le h]

theorem plain_parts {l : List ByteArray} (h : plainB l = true) : l.length ≤ 400 ∧ ∀ s ∈ l, goodS s = true := by
  unfold plainB at h
  rw [List.all_eq_true] at h
  refine ⟨?_, fun s hs => ?_⟩
  · cases l with
    | nil => simp
    | cons x t =>
      have := h x (by simp)
      simp only [Bool.and_eq_true, decide_eq_true_eq] at this
      exact this.1
  · have := h s hs
    simp only [Bool.and_eq_true] at this
    exact this.2

theorem flat_single {α β : Type} {f : α → List β} {g : α → β} : ∀ (l : List α), (∀ s ∈ l, f s = [g s]) → l.flatMap f = l.map g
  | [], _ => rfl
  | x :: t, h => by
    rw [List.flatMap_cons, h x (by simp), flat_single t (fun s hs => h s (by simp [hs]))]
    rfl

theorem getD_mem {l : List ByteArray} {i : Nat} (h : i < l.length) : l.getD i ByteArray.empty ∈ l := by
  have e : l.getD i ByteArray.empty = l[i] := by simp [List.getD, h]
  rw [e]; exact List.getElem_mem h

theorem plain_lines {l : List ByteArray} (h : plainB l = true) : linesS l = l.map fun s => strOf (rowL s.data.toList) := by
  obtain ⟨h1, h2⟩ := plain_parts h
  unfold linesS linesN
  rw [List.take_of_length_le h1]
  refine flat_single l fun s hs => ?_
  have hz := (good_trim (h2 s hs)).2
  exact chunks_one (by simpa using hz)

theorem unlike {a b : List ByteArray} (ha : plainB a = true) (hb : plainB b = true) (hl : a.length = b.length) (h : ∀ j, j < pagesN (linesS a).length → pageL (linesS a) j = pageL (linesS b) j) : a = b := by
  apply list_eq hl
  intro i hi
  have la : (linesS a).length = a.length := by rw [plain_lines ha, List.length_map]
  have lb : (linesS b).length = b.length := by rw [plain_lines hb, List.length_map]
  have hj : i / 23 < pagesN (linesS a).length := by rw [la]; unfold pagesN; omega
  have e := h _ hj
  have hr : i % 23 < 24 := by omega
  have e1 := rowK_page (linesS a) (i / 23) hr
  have e2 := rowK_page (linesS b) (i / 23) hr
  rw [e, e2] at e1
  have hc : ∀ l : List ByteArray, plainB l = true → (hi : i < l.length) → rowL (cellK (linesS l) (i / 23) (i % 23)).data.toList = rowL (l.getD i ByteArray.empty).data.toList := by
    intro l hp hi
    have hll : (linesS l).length = l.length := by rw [plain_lines hp, List.length_map]
    unfold cellK
    rw [if_pos (by omega), if_pos (by rw [hll]; omega), show i / 23 * 23 + i % 23 = i by omega, plain_lines hp]
    have e : (l.map fun s => strOf (rowL s.data.toList)).getD i ByteArray.empty = strOf (rowL (l.getD i ByteArray.empty).data.toList) := by
      simp [List.getD, hi]
    rw [e, show ∀ m, (strOf m).data.toList = m from fun m => by simp [strOf], rowL_twice]
  rw [hc b hb (by omega), hc a ha hi] at e1
  have ga := good_trim ((plain_parts ha).2 _ (getD_mem hi))
  have gb := good_trim ((plain_parts hb).2 _ (getD_mem (show i < b.length by omega)))
  apply bytes_inj
  rw [← ga.1, ← gb.1, e1]
end Go.Proofs.YtpmmjccdogjncaaDoor
