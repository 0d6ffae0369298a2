/- The law's made. The law's awake. Numbers, words, seats, a seat and a plan that came in. -/
import Derived.Test.YtahghakpmjfefaaDoorKA
import Derived.Test.YtahghakpmjfefaaDoorKF
import Derived.Test.YtahghakpmjfefaaDoorPlnP
import Derived.Test.YtahghakpmjfefaaDoorRows
import Derived.WalkKit
import Derived.WalkSpells
import Derived.WalkLawsBesides
import Derived.Lib.ConvBytes
import Derived.Lib.Hide
import Derived.Lib.SliceRun
import Derived.IntWalk
import Derived.BigQuiet
import Derived.Deep.QuietTactic
import Derived.Deep.RegionWith
import Derived.Deep.RegionHeld3
import Derived.Deep.LoopGhost
import Derived.Deep.CutRange
import Derived.Deep.CutBlock
import Derived.Deep.MidRow
import Derived.Laws.OwnMore
import Derived.OwnWalk
import Derived.Laws.AppendOwnNone
import Derived.Maps.AppendAt
import Derived.Laws.Rows
import Derived.Maps.OwnOps
import Derived.DeepKeys5
import Derived.Lib.Bytealg
import Derived.Deep.RegionLaw
import Derived.Deep.AppendLies
import Derived.Laws.MakeOwn
import Derived.Laws.BitsAllLaws
import Derived.Test.YtahghakpmjfefaaDoorKD
import Derived.Test.YtahghakpmjfefaaDoorPlnI
import Derived.Lib.SmallJoins
import Derived.Deep.SlicePairs
import Derived.ChangeSlices
namespace Go.Proofs.YtahghakpmjfefaaDoor
open Go.RowKit Go.ChangeMaps
set_option linter.unusedSimpArgs false

theorem Stage.low {w w' : World} {B g b : Nat} {vl : Value} {pl ml : List St} {f : St → Mk} {row : Option Nat} (h : Stage w B g b vl pl ml f) (hg : w.grownBy w' row) (hr : ∀ k, row = some k → k < B) : Stage w' B g b vl pl ml f := by
  have hne : ∀ k, B ≤ k → some k ≠ row := fun k hk e => by have := hr k e.symm; omega
  refine ⟨h.hg, h.hb, h.blk.far hg (hne _ h.hg), h.map.kept hg (hne _ h.hb), World.ownsRow.kept h.own hg ?_⟩
  cases hv : vl.ownBlock with
  | none => exact .inl rfl
  | some k => exact .inr (hne k (h.vlt hv).1)

theorem MapObj.low {w w' : World} {B : Nat} {v : Value} {p : Pl} {l : List UInt8} {row : Option Nat} (h : MapObj w B v p l) (hg : w.grownBy w' row) (hr : ∀ k, row = some k → k < B) : MapObj w' B v p l := by
  obtain ⟨g, b, vl, e, h⟩ := h
  exact ⟨g, b, vl, e, h.low hg hr⟩

end Go.Proofs.YtahghakpmjfefaaDoor
namespace Go.Proofs.YtahghakpmjfefaaDoor
open Go.RowKit Go.ChangeMaps
set_option linter.unusedSimpArgs false

def p0 : Pl := ⟨1, 3, ⟨#[65, 66, 46, 67]⟩, [2], [(1, 66)]⟩
def l0 : List UInt8 := [65, 66, 67]


end Go.Proofs.YtahghakpmjfefaaDoor
namespace Go.Proofs.YtahghakpmjfefaaDoor
open Go.RowKit Go.ChangeShapes Go.WideShapes Go.Joins Go.Deep
set_option linter.unusedSimpArgs false

section
variable {H : Type} {enc : TypeId × Value → H} {W : World}

theorem wf_byte_c {n : Int} (h : (Lit.int .u8 n).wf = true) : ∃ c : UInt8, n = (c.toNat : Int) := by
  have hh : 0 ≤ n ∧ n < 256 := by
    simp [Lit.wf, IntKind.min, IntKind.max, IntKind.signed, IntKind.bits] at h
    omega
  obtain ⟨k, rfl⟩ := Int.eq_ofNat_of_zero_le hh.1
  exact ⟨UInt8.ofNat k, by simp; omega⟩

/-- Numbers that came in. -/
def Ints (w : World) (v : Value) (l : List Int) : Prop := HasE intC w v l ∧ ∀ x ∈ l, (Lit.int .i64 x).wf = true
def Seats (w : World) (v : Value) (l : List St) : Prop := HasE stC w v l ∧ ∀ s ∈ l, okRow s.1

theorem flat_int : ∀ (l : List Int) (j : Nat), (l.flatMap intC)[j]? = l[j]?.map (fun x => .int .i64 x)
  | [], j => by simp
  | a :: l, 0 => by simp [intC]
  | a :: l, j + 1 => by
    have := flat_int l j
    simpa [intC] using this
theorem flat_st : ∀ (l : List St) (j : Nat) (u : Value), (l.flatMap stC)[j]? = some u → ∃ i s, l[i]? = some s ∧ ((j = i * 2 ∧ u = .int .i64 s.1) ∨ (j = i * 2 + 1 ∧ u = .int .u8 s.2.toNat))
  | [], j, u, h => by simp at h
  | a :: l, 0, u, h => ⟨0, a, rfl, .inl ⟨rfl, by simpa [stC, seatC] using h.symm⟩⟩
  | a :: l, 1, u, h => ⟨0, a, rfl, .inr ⟨rfl, by simpa [stC, seatC] using h.symm⟩⟩
  | a :: l, j + 2, u, h => by
    obtain ⟨i, s, h1, h2⟩ := flat_st l j u (by simpa [stC, seatC] using h)
    refine ⟨i + 1, s, by simpa using h1, ?_⟩
    rcases h2 with ⟨h2, h3⟩ | ⟨h2, h3⟩
    · exact .inl ⟨by omega, h3⟩
    · exact .inr ⟨by omega, h3⟩

theorem open_intsE {a0 : Option Addr} {len cap fuel : Nat} {x : DataW H × List MemPlace}
    (hf : DataW.trod enc Tryd.prog W 0 (fun _ => true) true fuel 50 [.slice a0 len cap] = some x) : ∃ l, Ints W (.slice a0 len cap) l := by
  rcases open_ints Tryd.underlying50 Tryd.underlying3 (by kernel_rfl) hf with ⟨hcs, _⟩ | ⟨a, len', cap', zs, hcs, _, hl, hm, hz, _, hcell, hwf⟩
  · simp at hcs
    obtain ⟨rfl, rfl, rfl⟩ := hcs
    exact ⟨[], HasE.nil W, by simp⟩
  · simp at hcs
    obtain ⟨rfl, rfl, rfl⟩ := hcs
    simp only [if_true] at hz
    by_cases h0 : cap = 0
    · have : len = 0 := by omega
      subst this
      exact ⟨[], .inl ⟨some a, cap, rfl, rfl, fun h => by cases h⟩, by simp⟩
    · have ha := spot_none (hcell 0 (by omega))
      simp [Addr.add] at ha
      obtain ⟨b, off, sp⟩ := a
      simp at ha
      subst ha
      have hlen : (zs.take len).length = len := by rw [List.length_take]; omega
      refine ⟨zs.take len, .inr ⟨b, off, cap, by rw [hlen], by rw [hlen]; exact hl, hm, fun j u hj => ?_⟩, fun x hx => hwf x (List.mem_of_mem_take hx)⟩
      rw [flat_int] at hj
      have hjl : j < len := by
        rcases Nat.lt_or_ge j len with h | h
        · exact h
        · rw [List.getElem?_eq_none (by rw [hlen]; exact h)] at hj; simp at hj
      rw [List.getElem?_take_of_lt hjl, List.getElem?_eq_getElem (by omega)] at hj
      simp at hj
      have := hcell j (by omega)
      rw [Addr.add_lit] at this
      rw [this, ← hj, List.getD_eq_getElem?_getD, List.getElem?_eq_getElem (by omega)]
      rfl

theorem open_seatsE {a0 : Option Addr} {len cap fuel : Nat} {x : DataW H × List MemPlace}
    (hf : DataW.trod enc Tryd.prog W 0 (fun _ => true) true fuel 51 [.slice a0 len cap] = some x) : ∃ l, Seats W (.slice a0 len cap) l := by
  have he : ∃ f0 f1 : Field, Tryd.prog.underlying 80 = some (.struct #[f0, f1]) ∧ f0.offset = 0 ∧ f1.offset = 1 ∧ f0.type = 3 ∧ f1.type = 5 := ⟨_, _, Tryd.underlying80, rfl, rfl, rfl, rfl⟩
  obtain ⟨f0, f1, he, o0, o1, t0, t1⟩ := he
  rcases open_slice_pairs Tryd.underlying51 he (by kernel_rfl) o0 o1 (by rw [t0]; kernel_rfl) (by rw [t1]; kernel_rfl) hf with ⟨hcs, _⟩ | ⟨a, len', cap', m, n, V0, V1, D0, D1, P0, P1, hcs, _, hl, hm, hmm, _, hcell⟩
  · simp at hcs
    obtain ⟨rfl, rfl, rfl⟩ := hcs
    exact ⟨[], HasE.nil W, by simp⟩
  · simp at hcs
    obtain ⟨rfl, rfl, rfl⟩ := hcs
    simp only [if_true] at hmm
    have each : ∀ i, i < len → ∃ q : St, V0 i = .int .i64 q.1 ∧ V1 i = .int .u8 q.2.toNat ∧ okRow q.1 := by
      intro i hi
      obtain ⟨_, _, g0, g1⟩ := hcell i (by omega)
      rw [t0] at g0
      rw [t1] at g1
      obtain ⟨k, e1, _, h1⟩ := DataW.trod_int Tryd.underlying3 g0
      obtain ⟨s, e2, _, h2⟩ := DataW.trod_int Tryd.underlying5 g1
      injection e1 with e1
      injection e2 with e2
      obtain ⟨c, rfl⟩ := wf_byte_c h2
      exact ⟨(k, c), e1, e2, h1⟩
    have each2 : ∀ i, ∃ q : St, i < len → V0 i = .int .i64 q.1 ∧ V1 i = .int .u8 q.2.toNat ∧ okRow q.1 := by
      intro i
      by_cases hi : i < len
      · obtain ⟨q, hq⟩ := each i hi
        exact ⟨q, fun _ => hq⟩
      · exact ⟨st0, fun h => absurd h hi⟩
    obtain ⟨q, hq⟩ := Classical.axiomOfChoice each2
    by_cases h0 : cap = 0
    · have : len = 0 := by omega
      subst this
      exact ⟨[], .inl ⟨some a, cap, rfl, rfl, fun h => by cases h⟩, by simp⟩
    · have ha := spot_none (hcell 0 (by omega)).1
      simp [Addr.add] at ha
      obtain ⟨b, off, sp⟩ := a
      simp at ha
      subst ha
      have hlen : ((List.range len).map q).length = len := by simp
      refine ⟨(List.range len).map q, .inr ⟨b, off, cap, by rw [hlen], by rw [hlen]; exact hl, hm, fun j u hj => ?_⟩, fun x hx => ?_⟩
      · obtain ⟨i, s, h1, h2⟩ := flat_st _ _ _ hj
        have hi : i < len := by
          rcases Nat.lt_or_ge i len with h | h
          · exact h
          · rw [List.getElem?_eq_none (by rw [hlen]; exact h)] at h1; cases h1
        rw [List.getElem?_map, List.getElem?_range hi] at h1
        simp at h1
        subst h1
        obtain ⟨c0, c1, _, _⟩ := hcell i (by omega)
        obtain ⟨e1, e2, _⟩ := hq i hi
        rw [Addr.add_lit, e1] at c0
        rw [Addr.add_lit, e2] at c1
        rcases h2 with ⟨rfl, rfl⟩ | ⟨rfl, rfl⟩
        · exact c0
        · exact c1
      · obtain ⟨i, hi, rfl⟩ := List.mem_map.1 hx
        exact (hq i (List.mem_range.1 hi)).2.2

theorem array5 {α : Type} {cs : Array α} (h : cs.size = 5) : ∃ c0 c1 c2 c3 c4, cs = #[c0, c1, c2, c3, c4] := by
  obtain ⟨l⟩ := cs
  match l, h with
  | [c0, c1, c2, c3, c4], _ => exact ⟨c0, c1, c2, c3, c4, rfl⟩

theorem open_agg5 {P : Program} {w : World} {base : Nat} {spare : Nat → Bool} {held : Bool} {r : Reach} {b0 : Nat} {t : TypeId} {f0 f1 f2 f3 f4 : Field} {v : Value} {d : DataW H} {p : List MemPlace} (hs : P.underlying t = some (.struct #[f0, f1, f2, f3, f4])) (hone : oneCellFields P #[f0, f1, f2, f3, f4] = true) (hC : P.cellsOf t = 5)
    (hv : Value.okWide P w r b0 t v) (h : DataW.Trod enc P w base spare held t v d p) :
    ∃ (v0 v1 v2 v3 v4 : Value) (y0 y1 y2 y3 y4 : DataW H × List MemPlace) (n : Nat), v = .agg #[v0, v1, v2, v3, v4] ∧
      DataW.trod enc P w base spare held n f0.type [v0] = some y0 ∧ DataW.trod enc P w base spare held n f1.type [v1] = some y1 ∧ DataW.trod enc P w base spare held n f2.type [v2] = some y2 ∧ DataW.trod enc P w base spare held n f3.type [v3] = some y3 ∧ DataW.trod enc P w base spare held n f4.type [v4] = some y4 := by
  obtain ⟨cs, rfl, hsz⟩ := okWide_struct hs hv
  obtain ⟨c0, c1, c2, c3, c4, rfl⟩ := array5 (hsz.trans hC)
  obtain ⟨fuel, hf⟩ := h
  obtain ⟨xs, n, _, hx, _, hlen, hall⟩ := DataW.trod_struct hs hf
  obtain ⟨o0, k0⟩ := hone_of hone 0 f0 rfl
  obtain ⟨o1, k1⟩ := hone_of hone 1 f1 rfl
  obtain ⟨o2, k2⟩ := hone_of hone 2 f2 rfl
  obtain ⟨o3, k3⟩ := hone_of hone 3 f3 rfl
  obtain ⟨o4, k4⟩ := hone_of hone 4 f4 rfl
  match xs, hlen with
  | [y0, y1, y2, y3, y4], _ =>
    exact ⟨c0, c1, c2, c3, c4, y0, y1, y2, y3, y4, n, rfl, by simpa [Value.cells, o0, k0] using hall 0 f0 rfl, by simpa [Value.cells, o1, k1] using hall 1 f1 rfl, by simpa [Value.cells, o2, k2] using hall 2 f2 rfl, by simpa [Value.cells, o3, k3] using hall 3 f3 rfl, by simpa [Value.cells, o4, k4] using hall 4 f4 rfl⟩

/-- A plan that came in. -/
def PlanIn (w : World) (v : Value) (p : Pl) : Prop := ∃ ve vb, v = planV p ve vb ∧ Ints w ve p.exits ∧ Seats w vb p.bks ∧ okRow p.first ∧ okRow p.last ∧ p.lets.size ≤ maxLen

set_option maxRecDepth 100000 in
theorem open_planV {r : Reach} {b0 : Nat} {v : Value} {d : DataW H} {p : List MemPlace} (hv : Value.okWide Tryd.prog W r b0 53 v) (h : DataW.Trod enc Tryd.prog W 0 (fun _ => true) true 53 v d p) :
    ∃ p : Pl, PlanIn W v p := by
  have he : ∃ f0 f1 f2 f3 f4 : Field, Tryd.prog.underlying 53 = some (.struct #[f0, f1, f2, f3, f4]) ∧ oneCellFields Tryd.prog #[f0, f1, f2, f3, f4] = true ∧ f0.type = 3 ∧ f1.type = 3 ∧ f2.type = 9 ∧ f3.type = 50 ∧ f4.type = 51 := ⟨_, _, _, _, _, Tryd.underlying53, by kernel_rfl, rfl, rfl, rfl, rfl, rfl⟩
  obtain ⟨f0, f1, f2, f3, f4, he, hone, t0, t1, t2, t3, t4⟩ := he
  have hC : Tryd.prog.cellsOf 53 = 5 := by kernel_rfl
  obtain ⟨v0, v1, v2, v3, v4, y0, y1, y2, y3, y4, n, rfl, g0, g1, g2, g3, g4⟩ := open_agg5 he hone hC hv h
  rw [t0] at g0
  rw [t1] at g1
  rw [t2] at g2
  rw [t3] at g3
  rw [t4] at g4
  obtain ⟨a, e1, _, h1⟩ := DataW.trod_int Tryd.underlying3 g0
  obtain ⟨b, e2, _, h2⟩ := DataW.trod_int Tryd.underlying3 g1
  obtain ⟨s, e3, _, h3⟩ := DataW.trod_string Tryd.underlying9 g2
  obtain ⟨p3, l3, c3, e4⟩ := slice_form Tryd.underlying50 g3
  obtain ⟨p4, l4, c4, e5⟩ := slice_form Tryd.underlying51 g4
  injection e1 with e1
  injection e2 with e2
  injection e3 with e3
  injection e4 with e4
  injection e5 with e5
  subst e1 e2 e3 e4 e5
  obtain ⟨x, hx⟩ := open_intsE g3
  obtain ⟨bk, hbk⟩ := open_seatsE g4
  exact ⟨⟨a, b, s, x, bk⟩, _, _, rfl, hx, hbk, h1, h2, h3⟩
end
end Go.Proofs.YtahghakpmjfefaaDoor
