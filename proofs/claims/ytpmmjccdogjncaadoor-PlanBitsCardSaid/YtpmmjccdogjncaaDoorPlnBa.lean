/- The law PlanBack: what the walk is told. -/
import Derived.Test.YtpmmjccdogjncaaDoorPlnSe
import Derived.Test.YtpmmjccdogjncaaDoorPlnPl
namespace Go.Proofs.YtpmmjccdogjncaaDoor
open Go.RowKit Go.ChangeMaps
set_option linter.unusedSimpArgs false
set_option linter.unusedVariables false

theorem below_le {B B' : Nat} {w w' : World} (h : Below B w w') (hB : B' ≤ B) : Below B' w w' := ⟨h.os, h.tape, h.output, h.size, fun i hi => h.block i (Nat.lt_of_lt_of_le hi hB)⟩

/-- 'Of' of rows of any other length. -/
theorem of_long (g b : Nat) (vl vw : Value) (P : List St) (f : St → Mk) (W : List Nat) (w : World) (h : Ob w g b P f) (hv : w.cell? ⟨g, 1, none⟩ = some vl) (hvl : HasE stC w vl P) (hvw : HasE wordC w vw W) (hP : P.length ≤ 1000) (hlw : W.length ≠ nWords P) :
    Calls Tryd.prog 38 #[.pointer (some ⟨g, 0, none⟩), vw] w fun e w' => ∃ v, e = .returned (.tuple #[v, .int .i64 (ofE P (obQ P f) W)]) ∧ OwnS w' w.heap.size v (ofR P (obQ P f) W) ∧ Below w.heap.size w w' := by
  obtain ⟨pl, cl, rfl⟩ := hvl.len
  obtain ⟨pw, cw, rfl⟩ := hvw.len
  have hwn : ((P.length : Int) + 63) / 64 = (nWords P : Nat) := by unfold nWords; omega
  have hF := Lib.hid (ofE_size (q := obQ P f) hlw)
  have hneq : ((W.length : Int) != ((P.length : Int) + 63) / 64) = true := by
    rw [bne_iff_ne]; omega
  have c0 := h.cell
  clear h hvl hvw hwn hlw
  go_enter Tryd.func38, Tryd.ntmps38
  go_wp2
  go_ret2
  exact ⟨_, by rw [hF.out.1]; rfl, by rw [hF.out.2]; exact OwnS.nil _ _, Below.refl _ _⟩

section
variable {w : World} {g b : Nat} {vl : Value} {p : Pl} {l : List UInt8}

theorem MapK.nodup (h : MapK w g b vl p l) : (placesL p.first p.last l).Nodup := h.ob.map.2.1

/-- 'Of' of any words. -/
theorem MapK.ofAny (h : MapK w g b vl p l) (vw : Value) (W : List Nat) (hvw : HasE wordC w vw W) (hP : (placesL p.first p.last l).length ≤ 1000) (hwf : ∀ x, x ∈ W → x < 18446744073709551616) :
    Calls Tryd.prog 38 #[.pointer (some ⟨g, 0, none⟩), vw] w fun e w' => ∃ v, e = .returned (.tuple #[v, .int .i64 (ofE (placesL p.first p.last l) (hasB p l) W)]) ∧ OwnS w' w.heap.size v (ofR (placesL p.first p.last l) (hasB p l) W) ∧ Below w.heap.size w w' := by
  by_cases hlw : W.length = nWords (placesL p.first p.last l)
  · exact h.callOf vw W hvw hP (by rw [hlw]; unfold nWords; omega) hwf
  · have := of_long g b vl vw _ _ W w h.ob h.cell h.has hvw hP hlw
    rw [obQ_has] at this
    exact this

theorem has_place {s : St} (h : hasB p l s = true) : s ∈ placesL p.first p.last l := by
  unfold hasB at h
  rw [Bool.and_eq_true] at h
  exact of_decide_eq_true h.1

theorem seats_has : (placesL p.first p.last l).filter (hasB p l) = (placesL p.first p.last l).filter fun s => !decide (s ∈ p.bks) := by
  refine List.filter_congr fun s hs => ?_
  unfold hasB
  rw [decide_eq_true hs, Bool.true_and]

theorem MapK.bitsOf (h : MapK w g b vl p l) (hP : (placesL p.first p.last l).length ≤ 1000) (L : List St) (hq : ∀ s ∈ L, hasB p l s = true) (hn : L.Nodup) (hl : L.length ≤ 1000) (vs : Value) (hvs : HasE stC w vs L) :
    Calls Tryd.prog 35 #[.pointer (some ⟨g, 0, none⟩), vs] w fun e w' => ∃ v, e = .returned (.tuple #[v, .int .i64 0]) ∧ OwnW w' w.heap.size v (wordsN (placesL p.first p.last l) L) ∧ Below w.heap.size w w' := by
  obtain ⟨b1, b2, _, _⟩ := back_seats (P := placesL p.first p.last l) hq hn
  have := h.callBits vs L hvs hP (by omega) (fun s hs => h.ob.map.2.2 s (has_place (hq s hs))) h.nodup
  rw [b1, b2] at this
  exact this

theorem MapK.seatsOf (h : MapK w g b vl p l) (hP : (placesL p.first p.last l).length ≤ 1000) (L : List St) (hq : ∀ s ∈ L, hasB p l s = true) (hn : L.Nodup) (vw : Value) (hvw : HasE wordC w vw (wordsN (placesL p.first p.last l) L)) :
    Calls Tryd.prog 38 #[.pointer (some ⟨g, 0, none⟩), vw] w fun e w' => ∃ v, e = .returned (.tuple #[v, .int .i64 0]) ∧ OwnS w' w.heap.size v (((placesL p.first p.last l).filter fun s => !decide (s ∈ p.bks)).filter fun s => decide (s ∈ L)) ∧ Below w.heap.size w w' := by
  obtain ⟨_, _, b3, b4⟩ := back_seats (P := placesL p.first p.last l) hq hn
  have := h.ofAny vw _ hvw hP (fun x hx => by
    obtain ⟨j, _, rfl⟩ := List.mem_map.1 hx
    exact wordN_lt _ _ _)
  rw [b3, b4, filter_twice hq, seats_has] at this
  exact this

/-- Bits of which seats came. -/
theorem MapK.bitsBack (h : MapK w g b vl p l) (hP : (placesL p.first p.last l).length ≤ 1000) (W : List Nat) (hwf : ∀ x, x ∈ W → x < 18446744073709551616) (hE : ofE (placesL p.first p.last l) (hasB p l) W = 0) (vs : Value) (hvs : HasE stC w vs (ofR (placesL p.first p.last l) (hasB p l) W)) :
    Calls Tryd.prog 35 #[.pointer (some ⟨g, 0, none⟩), vs] w fun e w' => ∃ v, e = .returned (.tuple #[v, .int .i64 0]) ∧ OwnW w' w.heap.size v W ∧ Below w.heap.size w w' := by
  obtain ⟨b1, b2⟩ := back_bits (q := hasB p l) h.nodup hwf hE
  obtain ⟨b3, b4⟩ := ofR_len (q := hasB p l) (W := W) h.nodup
  have := h.callBits vs _ hvs hP (by omega) (fun s hs => h.ob.map.2.2 s (b4 s hs)) h.nodup
  rw [b1, b2] at this
  exact this
end

def boolV (B : List Bool) : List Value := B.map .bool

theorem boolV_get {B : List Bool} {j : Nat} (h : j < B.length) : (boolV B)[j]? = some (.bool (B.getD j false)) := by
  simp [boolV, List.getD, h]

theorem boolV_set (B : List Bool) (j : Nat) (x : Bool) : (boolV B).set j (.bool x) = boolV (B.set j x) := by
  simp [boolV, List.map_set]

theorem bool_info : ∃ i0 : TypeInfo, Tryd.prog.info? 4 = some i0 ∧ i0.zero = some (.bool false) ∧ i0.size = 1 ∧ i0.bytes = 1 := by
  have hbyte : (Tryd.prog.info? 4).map (fun i => (i.zero, i.size, i.bytes)) = some (some (.bool false), 1, 1) := by kernel_rfl
  rw [Option.map_eq_some_iff] at hbyte
  obtain ⟨i0, h1, h2⟩ := hbyte
  simp only [Prod.mk.injEq] at h2
  exact ⟨i0, h1, h2.1, h2.2.1, h2.2.2⟩

theorem made_bools (n : Nat) : madeCells #[.bool false] n = (boolV (List.replicate n false)).toArray := by
  apply Array.ext'
  simp only [madeCells, boolV, List.map_replicate]
  apply List.ext_getElem?
  intro i
  by_cases hi : i < n
  · simp [List.getElem?_replicate, hi, Nat.mod_one]
  · simp [List.getElem?_replicate, hi]

/-- 'make([]bool, n)'. -/
theorem wpList_make_bools {w : World} {ops : Array Oper} {rest : List Oper} {o : Oper} {a : Act} {Q : Exit → Act → World → Prop} (hgd : o.guard = none) (x y : Operand) (ho : o.op = .makeSlice 61 x y)
    (n : Nat) {z : Int} (hx : a.eval x = .int .i64 z) (hy : a.eval y = .int .i64 z) (hzn : z = n) (hn : n ≤ 1000)
    (h : ∀ w', Blk w' w.heap.size 4 (boolV (List.replicate n false)) → Below w.heap.size w w' → w'.heap.size = w.heap.size + 1 → wpList Tryd.prog ops Q rest (a.put o.dst (.slice (some ⟨w.heap.size, 0, none⟩) n n)) w') :
    wpList Tryd.prog ops Q (o :: rest) a w := by
  subst hzn
  obtain ⟨i0, hi, hz, hsz, hby⟩ := bool_info
  refine wpList_plain hgd fun K' hK' => ?_
  have hr := run_make (P := Tryd.prog) w 61 4 i0 _ Tryd.underlying61 hi hz .i64 .i64 (n : Int) (n : Int) (by omega) (by omega) (by rw [hby]; omega) (by omega)
  rw [hsz, Nat.mul_one] at hr
  simp only [Int.toNat_natCast] at hr
  unfold Oper.wp
  simp only [execOp, ho, hx, hy, hr, Sem.run_bind, Sem.run_pure, Result.andThen_ok, Sem.run_map]
  refine hK' _ _ (h _ ?_ ((Below.refl _ _).alloc (Nat.le_refl _) _) (by simp))
  have := Blk.new w 4 (boolV (List.replicate n false))
  rw [← made_bools] at this
  exact this

/-- Which of all are taken. -/
def tkn (A L : List St) : List Bool := A.map fun s => decide (s ∈ L)

theorem tkn_len (A L : List St) : (tkn A L).length = A.length := by simp [tkn]

theorem tkn_nil (A : List St) : tkn A [] = List.replicate A.length false := by
  unfold tkn
  rw [List.eq_replicate_iff]
  refine ⟨by simp, fun b hb => ?_⟩
  obtain ⟨s, _, rfl⟩ := List.mem_map.1 hb
  simp

theorem tkn_at {A L : List St} {j : Nat} (h : j < A.length) : (tkn A L).getD j false = decide (A.getD j st0 ∈ L) := by
  unfold tkn
  simp [List.getD, h]

theorem tkn_push {A L : List St} {j : Nat} (hn : A.Nodup) (h : j < A.length) : tkn A (L ++ [A.getD j st0]) = (tkn A L).set j true := by
  have hg : A[j]? = some (A.getD j st0) := by rw [List.getD_eq_getElem?_getD, List.getElem?_eq_getElem h]; rfl
  apply List.ext_getElem?
  intro i
  unfold tkn
  rw [List.getElem?_map]
  rcases Nat.lt_or_ge i A.length with hi | hi
  · have hgi : A[i]? = some (A.getD i st0) := by rw [List.getD_eq_getElem?_getD, List.getElem?_eq_getElem hi]; rfl
    rw [hgi, Option.map_some]
    by_cases hij : i = j
    · subst hij
      rw [List.getElem?_set_self (by simpa using hi)]
      simp
    · rw [List.getElem?_set_ne (Ne.symm hij), List.getElem?_map, hgi, Option.map_some]
      congr 1
      have hne : A.getD i st0 ≠ A.getD j st0 := fun e => by
        rw [e] at hgi
        have e1 := idxOf_get hn hgi
        have e2 := idxOf_get hn hg
        omega
      rw [decide_eq_decide, List.mem_append, List.mem_singleton]
      exact ⟨fun h => h.elim id fun h => absurd h hne, .inl⟩
  · rw [List.getElem?_eq_none hi, List.getElem?_eq_none (by simp; omega)]
    rfl

theorem flt_take {A : List St} {q : St → Bool} {k : Nat} (h : k < A.length) : (A.take (k + 1)).filter q = (A.take k).filter q ++ (if q (A.getD k st0) = true then [A.getD k st0] else []) := by
  have hg : A[k]? = some (A.getD k st0) := by rw [List.getD_eq_getElem?_getD, List.getElem?_eq_getElem h]; rfl
  rw [List.take_add_one, hg, List.filter_append]
  congr 1
  by_cases hq : q (A.getD k st0) = true
  · rw [if_pos hq]
    show List.filter q [A.getD k st0] = _
    rw [List.filter_cons, if_pos hq]; rfl
  · rw [if_neg hq]
    show List.filter q [A.getD k st0] = _
    rw [List.filter_cons, if_neg hq]; rfl

theorem nodup_push {L : List St} {s : St} (hn : L.Nodup) (h : s ∉ L) : (L ++ [s]).Nodup :=
  List.nodup_append.2 ⟨hn, List.pairwise_singleton _ _, fun a ha b hb e => h (by rw [← List.mem_singleton.1 hb, ← e]; exact ha)⟩
end Go.Proofs.YtpmmjccdogjncaaDoor
