/- screen.Text. -/
import Derived.Test.YtpmmjccdogjncaaDoorScrG
namespace Go.Proofs.YtpmmjccdogjncaaDoor
open Go.RowKit

/-- A screen, by value: 24 rows of 64 bytes, one behind the other. -/
def scrV (l : List UInt8) : Value := .agg (byteV l).toArray

theorem Arr.range {w : World} {b : Nat} {T : TypeId} {l : List UInt8} (h : Arr w b T l) : w.rangeAt b 0 (byteV l) := fun j v hj => by
  have hjl : j < l.length := by
    have := (List.getElem?_eq_some_iff.1 hj).1
    rwa [byteV_len] at this
  rw [byteV_get hjl] at hj
  injection hj with hj
  rw [Nat.zero_add, h.cell hjl, hj]

theorem info_screen : (Tryd.prog.info? 73).map (·.size) = some 1536 := by kernel_rfl
theorem info_row : (Tryd.prog.info? 71).map (·.size) = some 64 := by kernel_rfl

/-- The row at the place k of a screen. -/
def rowK (l : List UInt8) (k : Nat) : List UInt8 := (l.drop (64 * k)).take 64

theorem rowK_len {l : List UInt8} (hl : l.length = 1536) {k : Nat} (hk : k < 24) : (rowK l k).length = 64 := by
  simp [rowK, hl]; omega

theorem rowK_get {l : List UInt8} {k j : Nat} (hj : j < 64) : (rowK l k).getD j 0 = l.getD (64 * k + j) 0 := by
  simp [rowK, List.getD, hj]

theorem run_index_row (l : List UInt8) (w : World) (k : Nat) (hk : k < 24) :
    (Instr.index 73 (.agg (byteV l).toArray) (.int .i64 (k : Int))).run Tryd.prog w = .ok (.agg (byteV (rowK l k)).toArray) w := by
  have h1 : (0 : Int) ≤ (k : Int) ∧ (k : Int) < (24 : Nat) := by omega
  have e : (byteV l).toArray.extract (k * 64) (k * 64 + 64) = (byteV (rowK l k)).toArray := by
    simp [byteV, rowK, Nat.mul_comm]
  obtain ⟨i, hi⟩ : ∃ i, Tryd.prog.info? 71 = some i ∧ i.size = 64 := by
    have h := info_row
    rw [Option.map_eq_some_iff] at h
    exact h
  obtain ⟨hi, hs⟩ := hi
  simp [Instr.index, run_underlying Tryd.underlying73, run_underlying Tryd.underlying71, asIntOf, part, isAgg, sizeOf, typeInfo, hi, hs, Result.andThen, hk, ← e]

theorem bel_setCells {B b : Nat} {a : World} (hb : B ≤ b) : ∀ (vs : List Value) (o : Nat) (w : World), Below B a w → Below B a (w.setCells b o vs)
  | [], _, _, h => h
  | v :: vs, o, _, h => bel_setCells hb vs (o + 1) _ (h.setCell (p := ⟨b, o, none⟩) hb v)

theorem there_new (w : World) (cs : Array Value) (T : TypeId) (n : Nat) (h : n ≤ cs.size) : (w.alloc (.cells cs T)).there w.heap.size 0 n := fun j hj => by
  rw [Nat.zero_add]
  refine ⟨?_, frozen_of_row _ _ _ _ _ (heap_alloc_new w _)⟩
  rw [cell_of_row _ _ j _ _ _ (heap_alloc_new w _)]
  simp
  omega

theorem byteV_one {l : List UInt8} : ∀ v ∈ byteV l, v.oneCell' = true := by
  intro v hv
  simp only [byteV, List.mem_map] at hv
  obtain ⟨x, _, rfl⟩ := hv
  rfl

/-- A whole array is stored into a variable that was laid right ahead. -/
theorem wpList_store_new {P : Program} {w : World} {ops : Array Oper} {rest : List Oper} {op : Oper} {a : Act} {Q : Exit → Act → World → Prop} (hgd : op.guard = none) (ty : TypeId) (x y : Operand) (ho : op.op = .store ty x y)
    (zs : Array Value) (T : TypeId) (l : List UInt8) (hx : a.eval x = .pointer (some ⟨w.heap.size, 0, none⟩)) (hy : a.eval y = .agg (byteV l).toArray)
    (hz : l.length ≤ zs.size) (hi : (P.info? ty).map (·.size) = some l.length)
    (h : ∀ w', CellsB w' w.heap.size l → Below w.heap.size w w' → w.heap.size < w'.heap.size → wpList P ops Q rest (a.put op.dst undef) w') : wpList P ops Q (op :: rest) a (w.alloc (.cells zs T)) := by
  have ht := there_new w zs T l.length hz
  have e1 : (byteV l).toArray.size = l.length := by simp [byteV]
  refine wpList_store_mid hgd ty x y ho w.heap.size 0 (byteV l).toArray hx hy (by rw [e1]; exact ht) (by rw [e1]; exact hi) (all_oneCell_toArray byteV_one) (h _ ?_ ?_ ?_)
  · intro i hi
    have hr := World.rangeAt_setCells_same (w.alloc (.cells zs T)) w.heap.size 0 (byteV l) (by rw [byteV_len]; exact ht)
    have := hr i _ (byteV_get hi)
    rwa [Nat.zero_add] at this
  · exact bel_setCells (Nat.le_refl _) _ _ _ ((Below.refl _ _).alloc (Nat.le_refl _) _)
  · exact Nat.lt_of_lt_of_le (by simp) (bel_setCells (b := w.heap.size) (B := 0) (Nat.zero_le _) (byteV l) 0 (w.alloc (.cells zs T)) (Below.refl 0 _)).size

/-- What has been told of the first k rows: the text, and the ends of the empty rows behind it. -/
def textN (l : List UInt8) : Nat → List UInt8 × List UInt8
  | 0 => ([], [])
  | k + 1 => if trimL (rowK l k) = [] then ((textN l k).1, (textN l k).2 ++ [10]) else ((textN l k).1 ++ ((textN l k).2 ++ trimL (rowK l k) ++ [10]), [])

def textS (l : List UInt8) : ByteArray := strOf (textN l 24).1

theorem trimL_len (l : List UInt8) : (trimL l).length ≤ l.length := by
  unfold trimL
  rw [List.length_reverse]
  exact Nat.le_trans (List.dropWhile_suffix _).length_le (by simp)

theorem trimL_row (l : List UInt8) (k : Nat) : (trimL (rowK l k)).length ≤ 64 := Nat.le_trans (trimL_len _) (by simp [rowK]; omega)

set_option maxRecDepth 20000 in
set_option maxHeartbeats 8000000 in
theorem Text_any (l : List UInt8) (w : World) (hl : l.length = 1536) :
    Calls Tryd.prog 50 #[scrV l] w fun e w' => e = .returned (.string (textS l)) ∧ Below w.heap.size w w' := by
  have hsz : (Tryd.prog.info? 73).map (·.size) = some (byteV l).length := by rw [byteV_len, hl]; exact info_screen
  have ha : Arr (w.alloc (.cells (byteV l).toArray 73)) w.heap.size 73 l := heap_alloc_new w _
  have HR := Lib.hid ha.range
  have HI := Lib.hid hsz
  have HN0 : RowKit.Hid (textN l 0 = ([], [])) := Lib.hid rfl
  have HN1 : RowKit.Hid (∀ k, textN l (k + 1) = if trimL (rowK l k) = [] then ((textN l k).1, (textN l k).2 ++ [10]) else ((textN l k).1 ++ ((textN l k).2 ++ trimL (rowK l k) ++ [10]), [])) := Lib.hid fun _ => rfl
  have HNE : RowKit.Hid (textS l = strOf (textN l 24).1) := Lib.hid rfl
  clear hsz ha
  unfold scrV
  go_enter Tryd.func50, Tryd.ntmps50
  go_wp2_with (first
    | (refine wpList_load_mid rfl 73 (.tmp 1) rfl _ 0 rfl (byteV l) _ HR.out Tryd.underlying73 rfl HI.out ?_))
  go_loopg [3, 4, 9] 24 (fun g o e i wr => ∃ (k : Nat) (O E : ByteArray), k ≤ 24 ∧ g = 24 - k ∧ i = .int .i64 k ∧ o = .string O ∧ e = .string E ∧ O.data.toList = (textN l k).1 ∧ E.data.toList = (textN l k).2 ∧ O.size + E.size ≤ 65 * k ∧ Below w.heap.size w wr)
  case atStart => exact ⟨0, ⟨#[]⟩, ⟨#[]⟩, Nat.zero_le _, rfl, rfl, rfl, rfl, by rw [HN0.out], by rw [HN0.out], Nat.zero_le _, (Below.refl _ _).alloc (Nat.le_refl _) _⟩
  case round =>
    obtain ⟨k, O, E, hk, rfl, rfl, rfl, rfl, hO, hE, hOE, hb⟩ := hrel
    have HO := Lib.hid hO
    have HE := Lib.hid hE
    clear hO hE
    by_cases hlt : k < 24
    · have hki : (k : Int) < 24 := by omega
      have hk0 : (0 : Int) ≤ (k : Int) := by omega
      have hri := run_index_row l wr k hlt
      have hrl := rowK_len hl hlt
      have hsz2 : (Tryd.prog.info? 71).map (·.size) = some (rowK l k).length := by rw [hrl]; exact info_row
      have HI2 := Lib.hid hsz2
      have HTR : RowKit.Hid (∀ W, Calls Tryd.prog 64 #[.string ⟨(rowK l k).toArray⟩, .string ⟨#[32]⟩] W fun e w' => e = .returned (.string (strOf (trimL (rowK l k)))) ∧ W = w') := Lib.hid fun W => by
        have e : (⟨(rowK l k).toArray⟩ : ByteArray).size = (rowK l k).length := rfl
        have := trimRight_any ⟨(rowK l k).toArray⟩ W (by rw [e, hrl]; omega)
        simpa using this
      have hst := HN1.out k
      have htl := trimL_row l k
      have hts : (strOf (trimL (rowK l k))).size = (trimL (rowK l k)).length := rfl
      have htt : (strOf (trimL (rowK l k))).data.toList = trimL (rowK l k) := by simp [strOf]
      have HRL := Lib.hid hrl
      clear hsz2
      by_cases ht : trimL (rowK l k) = []
      · rw [if_pos ht] at hst
        have HST := Lib.hid hst
        have hte : strOf (trimL (rowK l k)) = ⟨#[]⟩ := by rw [ht]; rfl
        rw [hte] at HTR
        clear hst htl hts htt hte ht
        generalize rowK l k = R at *
        go_wp2_with (first
          | (refine wpList_store_new rfl 71 (.tmp 6) (.tmp 11) rfl _ _ R rfl rfl (by rw [hrl]; decide) HI2.out ?_; intro w4 hc4 hb4 hz4; have hcv := string_conv R w4 _ 64 64 HRL.out (fun j hj => hc4 j (by rw [HRL.out]; exact hj)))
          | (go_at_call 64; (with_reducible refine (HTR.out _).mono ?_); rintro e w5 ⟨rfl, rfl⟩))
        go_roundg (24 - (k + 1))
        case measure => omega
        case rel => exact ⟨k + 1, O, _, by omega, rfl, by go_num, rfl, rfl, by rw [HST.out]; exact HO.out, by rw [HST.out, ← HE.out]; simp, by rw [ByteArray.size_append]; show O.size + (E.size + 1) ≤ _; omega, hb.trans (hb4.mono hb.size)⟩
      · rw [if_neg ht] at hst
        have HST := Lib.hid hst
        have hne : ((strOf (trimL (rowK l k))).toList == []) = false := by
          rw [beq_eq_false_iff_ne]
          intro e
          rw [ByteArray.toList_eq, htt] at e
          exact ht e
        generalize strOf (trimL (rowK l k)) = T at *
        have HTT := Lib.hid htt
        have hTz : T.size ≤ 64 := by omega
        clear hst htl hts htt ht
        generalize rowK l k = R at *
        go_wp2_with (first
          | (refine wpList_store_new rfl 71 (.tmp 6) (.tmp 11) rfl _ _ R rfl rfl (by rw [hrl]; decide) HI2.out ?_; intro w4 hc4 hb4 hz4; have hcv := string_conv R w4 _ 64 64 HRL.out (fun j hj => hc4 j (by rw [HRL.out]; exact hj)))
          | (go_at_call 64; (with_reducible refine (HTR.out _).mono ?_); rintro e w5 ⟨rfl, rfl⟩))
        go_roundg (24 - (k + 1))
        case measure => omega
        case rel => exact ⟨k + 1, _, ⟨#[]⟩, by omega, rfl, by go_num, rfl, rfl, by rw [HST.out, ← HE.out, ← HTT.out, ← HO.out]; simp, by rw [HST.out], by rw [ByteArray.size_append, ByteArray.size_append, ByteArray.size_append]; show O.size + (E.size + T.size + 1) + 0 ≤ _; omega, hb.trans (hb4.mono hb.size)⟩
    · have hk24 : k = 24 := by omega
      subst hk24
      go_wp2
      go_ret
      exact ⟨ret_str (by rw [HNE.out, HO.out]; simp [strOf]), hb⟩
end Go.Proofs.YtpmmjccdogjncaaDoor
