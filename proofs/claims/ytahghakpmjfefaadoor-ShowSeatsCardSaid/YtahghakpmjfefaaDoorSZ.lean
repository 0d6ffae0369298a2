/- Openers of the statements' lists; a list that the statement makes. -/
import Derived.Test.YtahghakpmjfefaaDoorSLA
import Derived.Test.YtahghakpmjfefaaDoorKM
namespace Go.Proofs.YtahghakpmjfefaaDoor.Sh
open Go.RowKit Go.ChangeMaps En Go.WideShapes Go.ChangeShapes
set_option linter.unusedSimpArgs false
set_option linter.unusedVariables false
set_option maxRecDepth 20000

/-- A value of some cells is laid as a slice of its own. -/
theorem ord_slice2 {P : Program} {ops : Array Oper} {Q : Act → World → Prop} {o : Oper} {rest : List (Oper × Bool)} {a : Act} {w0 : World} (hgd : o.guard = none) (ob : Obj)
    (hr : ∀ w, (execOp a.eval o).run P w = .ok (.value (.slice (some ⟨w.heap.size, 0, none⟩) 1 1)) (w.alloc ob))
    (h : ∀ w, Cone w0 w → wpOrd P ops Q rest (a.put o.dst (.slice (some ⟨w.heap.size, 0, none⟩) 1 1)) (w.alloc ob)) : wpOrd P ops Q ((o, true) :: rest) a w0 := by
  unfold wpOrd
  exact ⟨by simp [Region.wanted, hgd], fun w hw => ⟨_, _, hr w, .of ((Below.refl _ _).alloc (Nat.le_refl _) _), h w hw⟩⟩

/-- 'out = append(out, x)' of one element that lies anywhere. -/
theorem push_E {w : World} {ops : Array Oper} {rest : List Oper} {o : Oper} {a : Act} {Q : Exit → Act → World → Prop} {T TS : TypeId} (hT : Tryd.prog.underlying TS = some (.slice T)) (st bytes : Nat)
    (hi : ∃ i0 z, Tryd.prog.info? T = some i0 ∧ i0.zero = some z ∧ i0.size = st ∧ i0.bytes = bytes ∧ z.cells.size = st) (hst : 0 < st) (hgd : o.guard = none) (s x : Operand)
    (ho : o.op = .call { callee := .builtin .append, args := #[s, x], argTypes := #[TS, TS] })
    (B : Nat) (v : Value) (n : Nat) (xs : List Value) (hs : a.eval s = v) (hown : w.ownsRow B T st v n xs) (gb : Nat) (us : List Value) (hus : us.length = st) (hx : a.eval x = .slice (some ⟨gb, 0, none⟩) 1 1)
    (hc : ∀ j, j < st → w.cell? ⟨gb, j, none⟩ = us[j]?) (h1 : ∀ u ∈ us, u.oneCell' = true) (hn : n + 1 ≤ 100000) (hby : bytes ≤ 1000) (hB : B ≤ w.heap.size)
    (h : ∀ v' w', w'.ownsRow B T st v' (n + 1) (xs ++ us) → w.grownBy w' v.ownBlock → wpList Tryd.prog ops Q rest (a.put o.dst v') w') :
    wpList Tryd.prog ops Q (o :: rest) a w := by
  obtain ⟨i0, z, hi, hz, hsz, hbs, hzs⟩ := hi
  refine wpList_append_own _ hgd s x TS ho B T i0 z st bytes hT hi hz hsz hbs hzs hst v n xs hs hown ⟨gb, 0, none⟩ 1 1 us hx (by rw [hus, Nat.one_mul]) (fun j u hj => ?_) h1 (by unfold maxLen; omega) (Nat.le_trans (Nat.mul_le_mul hn hby) (by decide)) hB ?_
  · rw [Addr.add_lit, Nat.zero_add]
    have hj2 : j < st := by rw [← hus]; exact (List.getElem?_eq_some_iff.1 hj).1
    rw [hc j hj2, hj]
  · intro v' w' h2 h3 _
    exact h v' w' h2 h3

section
variable {H : Type} {enc : TypeId × Value → H} {W : World}
def SizesIn (w : World) (v : Value) (l : List (Int × Int)) : Prop := HasE szC w v l ∧ ∀ x ∈ l, (Lit.int .i64 x.1).wf = true ∧ (Lit.int .i64 x.2).wf = true
theorem open_sizesE {a0 : Option Addr} {len cap fuel : Nat} {x : DataW H × List MemPlace} (hf : DataW.trod enc Tryd.prog W 0 (fun _ => true) true fuel 57 [.slice a0 len cap] = some x) : ∃ l, SizesIn W (.slice a0 len cap) l :=
  open_listE (en := szC) (st := 2) (fun _ => rfl) (fun x => (Lit.int .i64 x.1).wf = true ∧ (Lit.int .i64 x.2).wf = true) Tryd.underlying57 (by kernel_rfl) (by decide) (fun {fuel cs x} hl h => by
    have he : ∃ f0 f1 : Field, Tryd.prog.underlying 60 = some (.struct #[f0, f1]) ∧ f0.offset = 0 ∧ f1.offset = 1 ∧ f0.type = 3 ∧ f1.type = 3 := ⟨_, _, Tryd.underlying60, rfl, rfl, rfl, rfl⟩
    obtain ⟨f0, f1, he, o0, o1, t0, t1⟩ := he
    obtain ⟨y0, y1, n, _, _, g0, g1⟩ := trod_struct2 he h
    match cs, hl with
    | [v0, v1], _ =>
      rw [t0, o0, show Tryd.prog.cellsOf 3 = 1 by kernel_rfl] at g0
      rw [t1, o1, show Tryd.prog.cellsOf 3 = 1 by kernel_rfl] at g1
      obtain ⟨k0, e0, _, h0⟩ := DataW.trod_int Tryd.underlying3 g0
      obtain ⟨k1, e1, _, h1⟩ := DataW.trod_int Tryd.underlying3 g1
      simp at e0 e1
      exact ⟨(k0, k1), by rw [e0, e1]; rfl, h0, h1⟩) hf
end
end Go.Proofs.YtahghakpmjfefaaDoor.Sh
