/- Lists of rows that came in; a leg that came in. -/
import Derived.Test.YtjahkaidinahpaaDoorFO
import Derived.Test.YtjahkaidinahpaaDoorFT
namespace Go.Proofs.YtjahkaidinahpaaDoor
open Go.RowKit Go.ChangeShapes Go.WideShapes Go.ChangeAt Go.Joins Go.Deep
set_option linter.unusedSimpArgs false
set_option linter.unusedVariables false

section
variable {H : Type} {enc : TypeId × Value → H} {W : World}

theorem open_listE {α : Type} {en : α → List Value} {st : Nat} (hst : ∀ a, (en a).length = st) (ok : α → Prop) {t e : TypeId} (ht : Tryd.prog.underlying t = some (.slice e)) (ce : Tryd.prog.cellsOf e = st) (h0 : 0 < st)
    (each : ∀ {fuel : Nat} {cs : List Value} {x : DataW H × List MemPlace}, cs.length = st → DataW.trod enc Tryd.prog W 0 (fun _ => true) true fuel e cs = some x → ∃ a, cs = en a ∧ ok a)
    {a0 : Option Addr} {len cap fuel : Nat} {x : DataW H × List MemPlace} (hf : DataW.trod enc Tryd.prog W 0 (fun _ => true) true fuel t [.slice a0 len cap] = some x) : ∃ l : List α, HasE en W (.slice a0 len cap) l ∧ ∀ a ∈ l, ok a := by
  rcases open_slice ht hf with ⟨hcs, _⟩ | ⟨a, len', cap', m, n, D, Pl, hcs, _, hl, hm, hmm, _, hx⟩
  · simp at hcs
    obtain ⟨rfl, rfl, rfl⟩ := hcs
    exact ⟨[], HasE.nil W, by simp⟩
  · simp at hcs
    obtain ⟨rfl, rfl, rfl⟩ := hcs
    simp only [if_true] at hmm
    by_cases hl0 : len = 0
    · subst hl0
      exact ⟨[], .inl ⟨some a, cap, rfl, rfl, fun h => by cases h⟩, by simp⟩
    have key : ∀ i, i < len → ∃ q : α, ok q ∧ ∀ k u, (en q)[k]? = some u → W.cell? ((a.add (i * st)).add k) = some u := by
      intro i hi
      obtain ⟨cs', h1, h2⟩ := hx i (by omega)
      rw [ce] at h1
      obtain ⟨_, hlen, hcell⟩ := World.cells?_some h1
      obtain ⟨q, rfl, hq⟩ := each hlen h2
      refine ⟨q, hq, fun k u hk => ?_⟩
      have hkl : k < st := by
        rcases Nat.lt_or_ge k st with h | h
        · exact h
        · rw [List.getElem?_eq_none (by rw [hst]; exact h)] at hk; cases hk
      have := hcell k hkl
      rw [this, hk]
    have hspot : a.spot = none := by
      obtain ⟨q, _, h⟩ := key 0 (by omega)
      have hq : (en q)[0]? = some ((en q)[0]'(by rw [hst]; exact h0)) := List.getElem?_eq_getElem _
      have := World.cell?_spot (h 0 _ hq)
      simpa [Addr.add] using this
    obtain ⟨b, off, sp⟩ := a
    simp at hspot
    subst hspot
    have key2 : ∀ i : Fin len, ∃ q : α, ok q ∧ ∀ k u, (en q)[k]? = some u → W.cell? ⟨b, off + (i.val * st + k), none⟩ = some u := by
      intro i
      obtain ⟨q, h1, h2⟩ := key i.val i.isLt
      refine ⟨q, h1, fun k u hk => ?_⟩
      have := h2 k u hk
      rw [Addr.add_lit, Addr.add_lit] at this
      rw [← Nat.add_assoc]
      exact this
    obtain ⟨q, hq⟩ := Classical.axiomOfChoice key2
    have hlen : (List.ofFn q).length = len := by simp
    refine ⟨List.ofFn q, .inr ⟨b, off, cap, by rw [hlen], by rw [hlen]; exact hl, hm, fun j u hj => ?_⟩, fun y hy => ?_⟩
    · have hjl : j < len * st := by
        rcases Nat.lt_or_ge j (len * st) with h | h
        · exact h
        · rw [List.getElem?_eq_none (by rw [cells_len hst, hlen]; exact h)] at hj; cases hj
      have hi : j / st < len := Nat.div_lt_of_lt_mul (by rw [Nat.mul_comm]; exact hjl)
      have e : j = j / st * st + j % st := (Nat.div_add_mod' j st).symm
      have hg : (List.ofFn q)[j / st]? = some (q ⟨j / st, hi⟩) := by simp [List.getElem?_ofFn, hi]
      rw [e, cells_get hst (j % st) hg (Nat.mod_lt _ h0)] at hj
      have := (hq ⟨j / st, hi⟩).2 _ _ hj
      rw [← e] at this
      exact this
    · obtain ⟨i, rfl⟩ := List.mem_ofFn.1 hy
      exact (hq i).1

def Solds (w : World) (v : Value) (l : List SoldT) : Prop := HasE soldC w v l
def Helds (w : World) (v : Value) (l : List HeldT) : Prop := HasE heldC w v l ∧ ∀ x ∈ l, x.loc.size ≤ maxLen

theorem seat_each {fuel : Nat} {v0 v1 : Value} {x : DataW H × List MemPlace} (h : DataW.trod enc Tryd.prog W 0 (fun _ => true) true fuel 39 [v0, v1] = some x) : ∃ (r : Int) (c : UInt8), v0 = .int .i64 r ∧ v1 = .int .u8 c.toNat ∧ (Lit.int .i64 r).wf = true := by
  have he : ∃ f0 f1 : Field, Tryd.prog.underlying 39 = some (.struct #[f0, f1]) ∧ f0.offset = 0 ∧ f1.offset = 1 ∧ f0.type = 3 ∧ f1.type = 5 := ⟨_, _, Tryd.underlying39, rfl, rfl, rfl, rfl⟩
  obtain ⟨f0, f1, he, o0, o1, t0, t1⟩ := he
  obtain ⟨y0, y1, n, _, _, g0, g1⟩ := trod_struct2 he h
  rw [t0, o0, show Tryd.prog.cellsOf 3 = 1 by kernel_rfl] at g0
  rw [t1, o1, show Tryd.prog.cellsOf 5 = 1 by kernel_rfl] at g1
  obtain ⟨k, e1, _, h1⟩ := DataW.trod_int Tryd.underlying3 g0
  obtain ⟨s, e2, _, h2⟩ := DataW.trod_int Tryd.underlying5 g1
  simp at e1 e2
  obtain ⟨c, hc, _⟩ := wf_byte h2
  exact ⟨k, c, e1, by rw [e2, hc], h1⟩

set_option maxRecDepth 100000 in
theorem open_solds {a0 : Option Addr} {len cap fuel : Nat} {x : DataW H × List MemPlace} (hf : DataW.trod enc Tryd.prog W 0 (fun _ => true) true fuel 85 [.slice a0 len cap] = some x) : ∃ l, Solds W (.slice a0 len cap) l := by
  obtain ⟨l, h, _⟩ := open_listE soldC_len (fun _ => True) Tryd.underlying85 (by kernel_rfl) (by decide) (fun {fuel cs x} hl h => by
    have he : ∃ f0 f1 : Field, Tryd.prog.underlying 144 = some (.struct #[f0, f1]) ∧ f0.offset = 0 ∧ f1.offset = 1 ∧ f0.type = 5 ∧ f1.type = 3 := ⟨_, _, Tryd.underlying144, rfl, rfl, rfl, rfl⟩
    obtain ⟨f0, f1, he, o0, o1, t0, t1⟩ := he
    obtain ⟨y0, y1, n, _, _, g0, g1⟩ := trod_struct2 he h
    match cs, hl with
    | [v0, v1], _ =>
      rw [t0, o0, show Tryd.prog.cellsOf 5 = 1 by kernel_rfl] at g0
      rw [t1, o1, show Tryd.prog.cellsOf 3 = 1 by kernel_rfl] at g1
      obtain ⟨s, e2, _, h2⟩ := DataW.trod_int Tryd.underlying5 g0
      obtain ⟨k, e1, _, h1⟩ := DataW.trod_int Tryd.underlying3 g1
      simp at e1 e2
      obtain ⟨c, hc, _⟩ := wf_byte h2
      exact ⟨⟨c, k⟩, by rw [e1, e2, hc]; rfl, trivial⟩) hf
  exact ⟨l, h⟩

set_option maxRecDepth 100000 in
theorem open_helds {a0 : Option Addr} {len cap fuel : Nat} {x : DataW H × List MemPlace} (hf : DataW.trod enc Tryd.prog W 0 (fun _ => true) true fuel 86 [.slice a0 len cap] = some x) : ∃ l, Helds W (.slice a0 len cap) l := by
  obtain ⟨l, h, hk⟩ := open_listE heldC_len (fun x => x.loc.size ≤ maxLen) Tryd.underlying86 (by kernel_rfl) (by decide) (fun {fuel cs x} hl h => by
    have he : ∃ f0 f1 : Field, Tryd.prog.underlying 148 = some (.struct #[f0, f1]) ∧ f0.offset = 0 ∧ f1.offset = 2 ∧ f0.type = 39 ∧ f1.type = 146 := ⟨_, _, Tryd.underlying148, rfl, rfl, rfl, rfl⟩
    obtain ⟨f0, f1, he, o0, o1, t0, t1⟩ := he
    obtain ⟨y0, y1, n, _, _, g0, g1⟩ := trod_struct2 he h
    match cs, hl with
    | [v0, v1, v2, v3], _ =>
      rw [t0, o0, show Tryd.prog.cellsOf 39 = 2 by kernel_rfl] at g0
      rw [t1, o1, show Tryd.prog.cellsOf 146 = 2 by kernel_rfl] at g1
      obtain ⟨r, c, e1, e2, _⟩ := seat_each g0
      have hh : ∃ f0 f1 : Field, Tryd.prog.underlying 146 = some (.struct #[f0, f1]) ∧ f0.offset = 0 ∧ f1.offset = 1 ∧ f0.type = 9 ∧ f1.type = 3 := ⟨_, _, Tryd.underlying146, rfl, rfl, rfl, rfl⟩
      obtain ⟨q0, q1, hh, p0, p1, u0, u1⟩ := hh
      obtain ⟨z0, z1, n2, _, _, k0, k1⟩ := trod_struct2 hh g1
      rw [u0, p0, show Tryd.prog.cellsOf 9 = 1 by kernel_rfl] at k0
      rw [u1, p1, show Tryd.prog.cellsOf 3 = 1 by kernel_rfl] at k1
      obtain ⟨s, e3, _, h3⟩ := DataW.trod_string Tryd.underlying9 k0
      obtain ⟨px, e4, _, h4⟩ := DataW.trod_int Tryd.underlying3 k1
      simp at e3 e4
      exact ⟨⟨r, c, s, px⟩, by rw [e1, e2, e3, e4]; rfl, h3⟩) hf
  exact ⟨l, h, hk⟩

/-- A leg that came in. -/
def LegIn (w : World) (v : Value) (a : List SoldT × List HeldT) : Prop := ∃ vs vh, v = .agg #[vs, vh] ∧ Solds w vs a.1 ∧ Helds w vh a.2

set_option maxRecDepth 100000 in
theorem open_legV {r : Reach} {b0 : Nat} {v : Value} {d : DataW H} {p : List MemPlace} (hv : Value.okWide Tryd.prog W r b0 88 v) (h : DataW.Trod enc Tryd.prog W 0 (fun _ => true) true 88 v d p) :
    ∃ a, LegIn W v a := by
  have he : ∃ f0 f1 : Field, Tryd.prog.underlying 88 = some (.struct #[f0, f1]) ∧ oneCellFields Tryd.prog #[f0, f1] = true ∧ f0.type = 85 ∧ f1.type = 86 := ⟨_, _, Tryd.underlying88, by kernel_rfl, rfl, rfl⟩
  obtain ⟨f0, f1, he, hone, t0, t1⟩ := he
  have hC : Tryd.prog.cellsOf 88 = 2 := by kernel_rfl
  obtain ⟨v0, v1, y0, y1, n, rfl, _, _, g0, g1⟩ := open_agg2 he hone hC hv h
  rw [t0] at g0
  rw [t1] at g1
  obtain ⟨p0, l0, c0, e0⟩ := slice_form Tryd.underlying85 g0
  obtain ⟨p1, l1, c1, e1⟩ := slice_form Tryd.underlying86 g1
  injection e0 with e0
  injection e1 with e1
  subst e0 e1
  obtain ⟨s, hs⟩ := open_solds g0
  obtain ⟨h, hh⟩ := open_helds g1
  exact ⟨(s, h), _, _, rfl, hs, hh⟩
end
end Go.Proofs.YtjahkaidinahpaaDoor
