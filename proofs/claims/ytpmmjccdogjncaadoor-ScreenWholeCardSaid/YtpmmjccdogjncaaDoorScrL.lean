/- Rows; the reference's Render. -/
import Derived.Test.YtpmmjccdogjncaaDoorScrK
namespace Go.Proofs.YtpmmjccdogjncaaDoor
open Go.RowKit

theorem rowC_twice (x : UInt8) : rowC (rowC x) = rowC x := by
  unfold rowC
  by_cases h : 32 ≤ (x.toNat : Int) ∧ (x.toNat : Int) ≤ 126
  · simp only [if_pos h]
  · simp only [if_neg h]
    rfl

theorem rowL_twice (l : List UInt8) : rowL (rowL l) = rowL l := by
  apply list_eq8
  · rw [rowL_len, rowL_len]
  · intro j hj
    rw [rowL_len] at hj
    rw [rowL_get _ hj, rowL_len, if_pos hj, rowL_get _ hj, rowC_twice]

theorem linesS_row (l : List ByteArray) : ∀ s ∈ linesS l, strOf (rowL s.data.toList) = s := by
  intro s hs
  unfold linesS linesN chunks at hs
  simp only [List.mem_flatMap, List.mem_map] at hs
  obtain ⟨_, _, i, _, rfl⟩ := hs
  unfold rowAt
  show strOf (rowL (strOf (rowL _)).data.toList) = _
  rw [show ∀ m, (strOf m).data.toList = m from fun m => by simp [strOf], rowL_twice]

/-- The rows of a page. -/
def pageR (rows : List ByteArray) (pg : Nat) (k : Nat) : List ByteArray := (List.range k).map fun i => strOf (rowL (cellK rows pg i).data.toList)

theorem pageR_zero (rows : List ByteArray) (pg : Nat) : pageR rows pg 0 = [] := rfl
theorem pageR_step (rows : List ByteArray) (pg k : Nat) : pageR rows pg (k + 1) = pageR rows pg k ++ [strOf (rowL (cellK rows pg k).data.toList)] := by
  unfold pageR; rw [List.range_succ, List.map_append]; rfl
theorem pageR_len (rows : List ByteArray) (pg k : Nat) : (pageR rows pg k).length = k := by simp [pageR]

theorem flat64_drop {f : Nat → List UInt8} (hf : ∀ i, (f i).length = 64) : ∀ (n i : Nat), i < n → (((List.range n).flatMap f).drop (64 * i)).take 64 = f i
  | 0, i, h => absurd h (Nat.not_lt_zero _)
  | n + 1, i, h => by
    have hl : ∀ m, ((List.range m).flatMap f).length = 64 * m := by
      intro m
      rw [List.length_flatMap]
      simp only [hf]
      rw [List.map_const', List.sum_replicate_nat]
      simp
      omega
    rw [List.range_succ, List.flatMap_append]
    have e1 : ([n] : List Nat).flatMap f = f n := by simp
    rw [e1]
    by_cases e : i = n
    · subst e
      rw [List.drop_append_of_le_length (by rw [hl]; exact Nat.le_refl _), List.drop_eq_nil_of_le (by rw [hl]; exact Nat.le_refl _), List.nil_append, List.take_of_length_le (by rw [hf]; exact Nat.le_refl _)]
    · rw [List.drop_append_of_le_length (by rw [hl]; omega), List.take_append_of_le_length (by rw [List.length_drop, hl]; omega)]
      exact flat64_drop hf n i (by omega)

theorem rowK_page (rows : List ByteArray) (pg : Nat) {i : Nat} (h : i < 24) : rowK (pageL rows pg) i = rowL (cellK rows pg i).data.toList :=
  flat64_drop (fun _ => rowL_len _) 24 i h

/-- The rows of a screen as texts. -/
def scrR (l : List UInt8) (k : Nat) : List ByteArray := (List.range k).map fun i => strOf (rowK l i)
theorem scrR_step (l : List UInt8) (k : Nat) : scrR l (k + 1) = scrR l k ++ [strOf (rowK l k)] := by
  unfold scrR; rw [List.range_succ, List.map_append]; rfl
theorem scrR_len (l : List UInt8) (k : Nat) : (scrR l k).length = k := by simp [scrR]
theorem scrR_page (rows : List ByteArray) (pg : Nat) : scrR (pageL rows pg) 24 = pageR rows pg 24 := by
  unfold scrR pageR
  apply List.map_congr_left
  intro i hi
  rw [rowK_page rows pg (List.mem_range.1 hi)]

/-- 'string(b)' of a part of a block. -/
theorem string_conv_at (l : List UInt8) (w : World) (b off n cap : Nat) (hn : l.length = n) (hc : ∀ j, j < n → w.cell? ⟨b, off + j, none⟩ = some (.int .u8 ((l.getD j 0).toNat : Int))) :
    (convert 82 9 (.slice (some ⟨b, off, none⟩) n cap)).run Tryd.prog w = .ok (.string ⟨l.toArray⟩) w := by
  subst hn
  refine run_convert_bytes_back (P := Tryd.prog) w 82 9 5 ⟨b, off, none⟩ cap l Tryd.underlying82 Tryd.underlying5 Tryd.underlying9 fun j hj => ?_
  have := hc j hj
  simp [List.getD, hj] at this
  rw [Addr.add_lit]
  exact this

set_option maxRecDepth 20000 in
set_option maxHeartbeats 4000000 in
theorem Rows_any (l : List UInt8) (w : World) (hl : l.length = 1536) :
    Calls Tryd.prog 47 #[.agg (byteV l).toArray] w fun e w' => ∃ v', e = .returned v' ∧ OwnL w' (w.heap.size + 1) v' (scrR l 24) ∧ Below w.heap.size w w' := by
  have ha : Arr (w.alloc (.cells (byteV l).toArray 73)) w.heap.size 73 l := heap_alloc_new w _
  have HA := Lib.hid ha
  have HST := Lib.hid (scrR_step l)
  have H0 : RowKit.Hid (scrR l 0 = []) := Lib.hid rfl
  have HLN := Lib.hid (scrR_len l)
  obtain ⟨i0, hi, hz0, hz1, hz2⟩ := str_info
  clear ha
  go_enter Tryd.func47, Tryd.ntmps47
  go_wp2_with fail
  go_loopg [3, 4] 24 (fun g t i wr => ∃ k : Nat, k ≤ 24 ∧ g = 24 - k ∧ i = .int .i64 k ∧ Below (w.heap.size + 1) (w.alloc (.cells (byteV l).toArray 73)) wr ∧ OwnL wr (w.heap.size + 1) t (scrR l k))
  case atStart => exact ⟨0, Nat.zero_le _, rfl, rfl, Below.refl _ _, by rw [H0.out]; exact OwnL.nil _ _⟩
  case round =>
    obtain ⟨k, hk, rfl, rfl, hb, ht⟩ := hrel
    have HT := Lib.hid ht
    clear ht
    by_cases hlt : k < 24
    · have hki : (k : Int) < 24 := by omega
      have hk0 : (0 : Int) ≤ (k : Int) := by omega
      have harr : Arr wr w.heap.size 73 l := HA.out.keep hb (by omega)
      have hcv := string_conv_at (rowK l k) wr w.heap.size (k * 64) 64 64 (rowK_len hl hlt) (fun j hj => by
        rw [harr.cell (by omega), rowK_get hj, Nat.mul_comm])
      have hown : wr.ownsRow (w.heap.size + 1) 9 1 _ (scrR l k).length (strV (scrR l k)) := HT.out
      have hlen := HLN.out k
      have hbs : w.heap.size + 1 ≤ wr.heap.size := by have := hb.size; rw [size_alloc] at this; omega
      have HSK := Lib.hid (HST.out k)
      generalize scrR l k = F at *
      generalize hS : (⟨(rowK l k).toArray⟩ : ByteArray) = S at *
      have HS := Lib.hid hS
      clear harr hS
      go_wp2_with (first
        | (at_builtin; refine wpList_push rfl _ _ 63 rfl (w.heap.size + 1) 9 i0 (.string ⟨#[]⟩) 16 Tryd.underlying63 hi hz0 hz1 hz2 rfl _ _ _ rfl hown _ rfl rfl (by unfold maxLen; omega) (by omega) hbs ?_; intro v6 w6 hown6 hb6 hgr6))
      go_roundg (24 - (k + 1))
      case measure => omega
      case rel =>
        refine ⟨k + 1, by omega, rfl, by go_num, hb.trans hb6, ?_⟩
        rw [HSK.out]
        have e1 : (F ++ [strOf (rowK l k)]).length = F.length + 1 := by simp
        have e2 : strV (F ++ [strOf (rowK l k)]) = strV F ++ [.string S] := by rw [← HS.out]; simp [strV, strOf]
        unfold OwnL
        rw [e1, e2]
        exact hown6
    · have hk24 : k = 24 := by omega
      subst hk24
      go_wp2
      go_ret
      exact ⟨_, rfl, HT.out, ((Below.refl _ _).alloc (Nat.le_refl _) _).trans (hb.mono (by omega))⟩
end Go.Proofs.YtpmmjccdogjncaaDoor
