/- The law ScreenWhole: the plain law. -/
import Derived.Test.YtpmmjccdogjncaaDoorScrT
namespace Go.Proofs.YtpmmjccdogjncaaDoor
open Go.RowKit

theorem getD_app_l {α : Type} (l m : List α) (d : α) {i : Nat} (h : i < l.length) : (l ++ m).getD i d = l.getD i d := by
  rw [List.getD_eq_getElem?_getD, List.getElem?_append_left h, List.getD_eq_getElem?_getD]
theorem getD_app_r {α : Type} (l m : List α) (d : α) {i : Nat} (h : l.length ≤ i) : (l ++ m).getD i d = m.getD (i - l.length) d := by
  rw [List.getD_eq_getElem?_getD, List.getElem?_append_right h, List.getD_eq_getElem?_getD]

/-- The first 23 rows of each of the first k pages. -/
def gotL (rows : List ByteArray) (k : Nat) : List ByteArray := (List.range k).flatMap fun j => (pageR rows j 24).take 23

theorem gotL_step (rows : List ByteArray) (k : Nat) : gotL rows (k + 1) = gotL rows k ++ (pageR rows k 24).take 23 := by
  unfold gotL
  rw [List.range_succ, List.flatMap_append]
  simp

theorem gotL_len (rows : List ByteArray) : ∀ k, (gotL rows k).length = 23 * k
  | 0 => rfl
  | k + 1 => by
    rw [gotL_step, List.length_append, gotL_len rows k, List.length_take, pageR_len]
    omega

theorem pageR_get (rows : List ByteArray) (pg : Nat) {i : Nat} (h : i < 24) : (pageR rows pg 24).getD i ByteArray.empty = strOf (rowL (cellK rows pg i).data.toList) := by
  simp [pageR, List.getD, h]

theorem gotL_get (rows : List ByteArray) : ∀ k i, i < 23 * k → (gotL rows k).getD i ByteArray.empty = strOf (rowL (cellK rows (i / 23) (i % 23)).data.toList)
  | 0, i, h => by omega
  | k + 1, i, h => by
    rw [gotL_step]
    by_cases hi : i < 23 * k
    · rw [getD_app_l _ _ _ (by rw [gotL_len]; exact hi)]
      exact gotL_get rows k i hi
    · have e1 : i / 23 = k := by omega
      have e2 : i % 23 = i - 23 * k := by omega
      rw [getD_app_r _ _ _ (by rw [gotL_len]; omega), gotL_len, e1, e2]
      have e3 : ((pageR rows k 24).take 23).getD (i - 23 * k) ByteArray.empty = (pageR rows k 24).getD (i - 23 * k) ByteArray.empty := by
        rw [List.getD_eq_getElem?_getD, List.getElem?_take_of_lt (by omega), List.getD_eq_getElem?_getD]
      rw [e3, pageR_get _ _ (by omega)]

/-- Within the rows it is the row; behind them it is a row of blanks. -/
theorem gotL_row {rows : List ByteArray} (hr : ∀ s ∈ rows, strOf (rowL s.data.toList) = s) {k i : Nat} (hk : i < 23 * k) (hi : i < rows.length) : (gotL rows k).getD i ByteArray.empty = rows.getD i ByteArray.empty := by
  rw [gotL_get rows k i hk]
  unfold cellK
  rw [if_pos (by omega), if_pos (by omega), show i / 23 * 23 + i % 23 = i by omega]
  exact hr _ (getD_mem hi)

theorem gotL_blank {rows : List ByteArray} {k i : Nat} (hk : i < 23 * k) (hi : rows.length ≤ i) : (gotL rows k).getD i ByteArray.empty = strOf (rowL []) := by
  rw [gotL_get rows k i hk]
  unfold cellK
  rw [if_pos (by omega), if_neg (by omega)]

theorem gotL_take {rows : List ByteArray} (hr : ∀ s ∈ rows, strOf (rowL s.data.toList) = s) {k : Nat} (hk : rows.length ≤ 23 * k) : (gotL rows k).take rows.length = rows := by
  apply list_eq
  · rw [List.length_take, gotL_len]; omega
  · intro j hj
    rw [List.length_take, gotL_len] at hj
    rw [List.getD_eq_getElem?_getD, List.getElem?_take_of_lt (by omega), ← List.getD_eq_getElem?_getD]
    exact gotL_row hr (by omega) (by omega)

theorem two_len (n : Nat) : 1 ≤ (two n).length := by unfold two; split <;> simp

theorem two_apart : ∀ n m : Fin 100, (rowC ((two n.val ++ [47]).getD 0 0) = rowC ((two m.val ++ [47]).getD 0 0) ∧ rowC ((two n.val ++ [47]).getD 1 0) = rowC ((two m.val ++ [47]).getD 1 0)) → n = m := by decide +kernel

theorem page_byte {n N : Nat} (hn : n < 100) {j : Nat} (hj : j < 2) :
    (rowL ((⟨#[80, 65, 71, 69, 32]⟩ : ByteArray) ++ digA n ++ ⟨#[47]⟩ ++ digA N).data.toList).getD (5 + j) 0 = rowC ((two n ++ [47]).getD j 0) := by
  have e : ((⟨#[80, 65, 71, 69, 32]⟩ : ByteArray) ++ digA n ++ ⟨#[47]⟩ ++ digA N).data.toList = [80, 65, 71, 69, 32] ++ ((two n ++ [47]) ++ digL N) := by
    rw [← digL_two hn, ← digA_list n, ← digA_list N]
    simp
  have hl := two_len n
  rw [rowL_get _ (by omega), e, if_pos (by simp; omega)]
  congr 1
  rw [getD_app_r _ _ _ (by simp), show 5 + j - ([80, 65, 71, 69, 32] : List UInt8).length = j by simp, getD_app_l _ _ _ (by simp; omega)]

/-- Two pages of several are unlike: their numbers are. -/
theorem pages_apart {rows : List ByteArray} {i j : Nat} (hn : 1 < pagesN rows.length) (hi : i + 1 < 100) (hj : j + 1 < 100) (h : pageL rows i = pageL rows j) : i = j := by
  have e1 := rowK_page rows i (i := 23) (by omega)
  have e2 := rowK_page rows j (i := 23) (by omega)
  rw [h, e2] at e1
  unfold cellK at e1
  simp only [Nat.lt_irrefl, if_false, if_pos hn] at e1
  have a0 := page_byte (N := pagesN rows.length) hi (j := 0) (by omega)
  have a1 := page_byte (N := pagesN rows.length) hi (j := 1) (by omega)
  have b0 := page_byte (N := pagesN rows.length) hj (j := 0) (by omega)
  have b1 := page_byte (N := pagesN rows.length) hj (j := 1) (by omega)
  rw [← e1] at a0 a1
  have := two_apart ⟨i + 1, hi⟩ ⟨j + 1, hj⟩ ⟨by rw [← a0, ← b0], by rw [← a1, ← b1]⟩
  have := congrArg Fin.val this
  simp at this
  exact this
end Go.Proofs.YtpmmjccdogjncaaDoor
