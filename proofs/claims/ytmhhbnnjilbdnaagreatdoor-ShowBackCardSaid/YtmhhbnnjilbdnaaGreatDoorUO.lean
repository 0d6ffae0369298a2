/- A PNR that came in: its openers. -/
import Derived.Test.YtmhhbnnjilbdnaaGreatDoorUP
import Derived.Test.YtmhhbnnjilbdnaaGreatDoorSW
namespace Go.Proofs.YtmhhbnnjilbdnaaGreatDoor
open Go.RowKit Go.ChangeMaps Go.ChangeShapes Go.WideShapes Go.ChangeAt Go.Joins Go.Deep
set_option linter.unusedSimpArgs false
set_option linter.unusedVariables false
set_option maxRecDepth 100000

theorem open_texts {H : Type} {enc : TypeId × Value → H} {W : World} {a0 : Option Addr} {len cap fuel : Nat} {x : DataW H × List MemPlace}
    (hf : DataW.trod enc Tryz.prog W 0 (fun _ => true) true fuel 24 [.slice a0 len cap] = some x) : ∃ l, Texts W (.slice a0 len cap) l := by
  rcases open_strings Tryz.underlying24 Tryz.underlying9 (by kernel_rfl) hf with ⟨hcs, _⟩ | ⟨a, len', cap', ss, hcs, _, hl, hm, hz, _, hcell, hsz⟩
  · simp at hcs
    obtain ⟨rfl, rfl, rfl⟩ := hcs
    exact ⟨[], HasL.nil _, by simp, by simp⟩
  · simp at hcs
    obtain ⟨rfl, rfl, rfl⟩ := hcs
    simp only [if_true] at hz
    by_cases h0 : len = 0
    · subst h0
      exact ⟨[], .inl ⟨_, _, rfl, rfl, fun h => by cases h⟩, by simp, by simp⟩
    · obtain ⟨b, off, spot⟩ := a
      have hspot : spot = none := by simpa [Addr.add] using World.cell?_spot (hcell 0 (by omega))
      subst hspot
      have e : (ss.take len).length = len := by simp; omega
      refine ⟨ss.take len, .inr ⟨b, off, cap, by rw [e], by omega, hm, fun j hj => ?_⟩, by omega, fun s hs => hsz s (List.mem_of_mem_take hs)⟩
      rw [e] at hj
      have h1 := hcell j (by omega)
      rw [Addr.add_lit] at h1
      rw [h1]
      simp [List.getD, hj]

section
variable {H : Type} {enc : TypeId × Value → H} {W : World}

theorem open_listE {α : Type} {en : α → List Value} {st : Nat} (hst : ∀ a, (en a).length = st) (ok : α → Prop) {t e : TypeId} (ht : Tryz.prog.underlying t = some (.slice e)) (ce : Tryz.prog.cellsOf e = st) (h0 : 0 < st)
    (each : ∀ {fuel : Nat} {cs : List Value} {x : DataW H × List MemPlace}, cs.length = st → DataW.trod enc Tryz.prog W 0 (fun _ => true) true fuel e cs = some x → ∃ a, cs = en a ∧ ok a)
    {a0 : Option Addr} {len cap fuel : Nat} {x : DataW H × List MemPlace} (hf : DataW.trod enc Tryz.prog W 0 (fun _ => true) true fuel t [.slice a0 len cap] = some x) : ∃ l : List α, HasE en W (.slice a0 len cap) l ∧ ∀ a ∈ l, ok a := by
  rcases open_slice ht hf with ⟨hcs, _⟩ | ⟨a, len', cap', m, n, D, Pl, hcs, _, hl, hm, hmm, _, hx⟩
  · simp at hcs
    obtain ⟨rfl, rfl, rfl⟩ := hcs
    exact ⟨[], HasE.nil W, by simp⟩
  · simp at hcs
    obtain ⟨rfl, rfl, rfl⟩ := hcs
    simp only [if_true] at hmm
    by_cases hl0 : len = 0
    · subst hl0
      exact ⟨[], .inl ⟨some a, cap, rfl, rfl, fun h => by cases h⟩, by simp⟩
    have key : ∀ i, i < len → ∃ q : α, ok q ∧ ∀ k u, (en q)[k]? = some u → W.cell? ((a.add (i * st)).add k) = some u := by
      intro i hi
      obtain ⟨cs', h1, h2⟩ := hx i (by omega)
      rw [ce] at h1
      obtain ⟨_, hlen, hcell⟩ := World.cells?_some h1
      obtain ⟨q, rfl, hq⟩ := each hlen h2
      refine ⟨q, hq, fun k u hk => ?_⟩
      have hkl : k < st := by
        rcases Nat.lt_or_ge k st with h | h
        · exact h
        · rw [List.getElem?_eq_none (by rw [hst]; exact h)] at hk; cases hk
      have := hcell k hkl
      rw [this, hk]
    have hspot : a.spot = none := by
      obtain ⟨q, _, h⟩ := key 0 (by omega)
      have hq : (en q)[0]? = some ((en q)[0]'(by rw [hst]; exact h0)) := List.getElem?_eq_getElem _
      have := World.cell?_spot (h 0 _ hq)
      simpa [Addr.add] using this
    obtain ⟨b, off, sp⟩ := a
    simp at hspot
    subst hspot
    have key2 : ∀ i : Fin len, ∃ q : α, ok q ∧ ∀ k u, (en q)[k]? = some u → W.cell? ⟨b, off + (i.val * st + k), none⟩ = some u := by
      intro i
      obtain ⟨q, h1, h2⟩ := key i.val i.isLt
      refine ⟨q, h1, fun k u hk => ?_⟩
      have := h2 k u hk
      rw [Addr.add_lit, Addr.add_lit] at this
      rw [← Nat.add_assoc]
      exact this
    obtain ⟨q, hq⟩ := Classical.axiomOfChoice key2
    have hlen : (List.ofFn q).length = len := by simp
    refine ⟨List.ofFn q, .inr ⟨b, off, cap, by rw [hlen], by rw [hlen]; exact hl, hm, fun j u hj => ?_⟩, fun y hy => ?_⟩
    · have hjl : j < len * st := by
        rcases Nat.lt_or_ge j (len * st) with h | h
        · exact h
        · rw [List.getElem?_eq_none (by rw [cells_len hst, hlen]; exact h)] at hj; cases hj
      have hi : j / st < len := Nat.div_lt_of_lt_mul (by rw [Nat.mul_comm]; exact hjl)
      have e : j = j / st * st + j % st := (Nat.div_add_mod' j st).symm
      have hg : (List.ofFn q)[j / st]? = some (q ⟨j / st, hi⟩) := by simp [List.getElem?_ofFn, hi]
      rw [e, cells_get hst (j % st) hg (Nat.mod_lt _ h0)] at hj
      have := (hq ⟨j / st, hi⟩).2 _ _ hj
      rw [← e] at this
      exact this
    · obtain ⟨i, rfl⟩ := List.mem_ofFn.1 hy
      exact (hq i).1

theorem open_names {a0 : Option Addr} {len cap fuel : Nat} {x : DataW H × List MemPlace} (hf : DataW.trod enc Tryz.prog W 0 (fun _ => true) true fuel 22 [.slice a0 len cap] = some x) : ∃ l, HasE nameC W (.slice a0 len cap) l ∧ ∀ x ∈ l, x.last.size ≤ maxLen ∧ x.first.size ≤ maxLen :=
  open_listE nameC_len (fun x => x.last.size ≤ maxLen ∧ x.first.size ≤ maxLen) Tryz.underlying22 (by kernel_rfl) (by decide) (fun {fuel cs x} hl h => by
    have he : ∃ f0 f1 : Field, Tryz.prog.underlying 38 = some (.struct #[f0, f1]) ∧ f0.offset = 0 ∧ f1.offset = 1 ∧ f0.type = 9 ∧ f1.type = 9 := ⟨_, _, Tryz.underlying38, rfl, rfl, rfl, rfl⟩
    obtain ⟨f0, f1, he, o0, o1, t0, t1⟩ := he
    obtain ⟨y0, y1, n, _, _, g0, g1⟩ := trod_struct2 he h
    match cs, hl with
    | [v0, v1], _ =>
      rw [t0, o0, show Tryz.prog.cellsOf 9 = 1 by kernel_rfl] at g0
      rw [t1, o1, show Tryz.prog.cellsOf 9 = 1 by kernel_rfl] at g1
      obtain ⟨s0, e0, _, h0⟩ := DataW.trod_string Tryz.underlying9 g0
      obtain ⟨s1, e1, _, h1⟩ := DataW.trod_string Tryz.underlying9 g1
      simp at e0 e1
      exact ⟨⟨s0, s1⟩, by rw [e0, e1]; rfl, h0, h1⟩) hf

theorem open_segs {a0 : Option Addr} {len cap fuel : Nat} {x : DataW H × List MemPlace} (hf : DataW.trod enc Tryz.prog W 0 (fun _ => true) true fuel 23 [.slice a0 len cap] = some x) : ∃ l, HasE segC W (.slice a0 len cap) l ∧ ∀ x ∈ l, x.car.size ≤ maxLen :=
  open_listE segC_len (fun x => x.car.size ≤ maxLen) Tryz.underlying23 (by kernel_rfl) (by decide) (fun {fuel cs x} hl h => by
    have he : ∃ f0 f1 f2 : Field, Tryz.prog.underlying 44 = some (.struct #[f0, f1, f2]) ∧ f0.offset = 0 ∧ f1.offset = 3 ∧ f2.offset = 4 ∧ f0.type = 42 ∧ f1.type = 5 ∧ f2.type = 4 := ⟨_, _, _, Tryz.underlying44, rfl, rfl, rfl, rfl, rfl, rfl⟩
    obtain ⟨f0, f1, f2, he, o0, o1, o2, t0, t1, t2⟩ := he
    obtain ⟨y0, y1, y2, n, _, _, g0, g1, g2⟩ := trod_struct3 he h
    match cs, hl with
    | [v0, v1, v2, v3, v4], _ =>
      rw [t0, o0, show Tryz.prog.cellsOf 42 = 3 by kernel_rfl] at g0
      rw [t1, o1, show Tryz.prog.cellsOf 5 = 1 by kernel_rfl] at g1
      rw [t2, o2, show Tryz.prog.cellsOf 4 = 1 by kernel_rfl] at g2
      have hk : ∃ f0 f1 : Field, Tryz.prog.underlying 42 = some (.struct #[f0, f1]) ∧ f0.offset = 0 ∧ f1.offset = 2 ∧ f0.type = 40 ∧ f1.type = 3 := ⟨_, _, Tryz.underlying42, rfl, rfl, rfl, rfl⟩
      obtain ⟨q0, q1, hk, p0, p1, u0, u1⟩ := hk
      obtain ⟨z0, z1, n2, _, _, k0, k1⟩ := trod_struct2 hk g0
      rw [u0, p0, show Tryz.prog.cellsOf 40 = 2 by kernel_rfl] at k0
      rw [u1, p1, show Tryz.prog.cellsOf 3 = 1 by kernel_rfl] at k1
      have hj : ∃ f0 f1 : Field, Tryz.prog.underlying 40 = some (.struct #[f0, f1]) ∧ f0.offset = 0 ∧ f1.offset = 1 ∧ f0.type = 9 ∧ f1.type = 3 := ⟨_, _, Tryz.underlying40, rfl, rfl, rfl, rfl⟩
      obtain ⟨r0, r1, hj, s0, s1, w0, w1⟩ := hj
      obtain ⟨x0, x1, n3, _, _, j0, j1⟩ := trod_struct2 hj k0
      rw [w0, s0, show Tryz.prog.cellsOf 9 = 1 by kernel_rfl] at j0
      rw [w1, s1, show Tryz.prog.cellsOf 3 = 1 by kernel_rfl] at j1
      obtain ⟨car, e0, _, h0⟩ := DataW.trod_string Tryz.underlying9 j0
      obtain ⟨num, e1, _, h1⟩ := DataW.trod_int Tryz.underlying3 j1
      obtain ⟨day, e2, _, h2⟩ := DataW.trod_int Tryz.underlying3 k1
      obtain ⟨cl, e3, _, h3⟩ := DataW.trod_int Tryz.underlying5 g1
      obtain ⟨lv, e4, _⟩ := DataW.trod_bool Tryz.underlying4 g2
      simp at e0 e1 e2 e3 e4
      obtain ⟨c, hc, _⟩ := wf_byte h3
      exact ⟨⟨car, num, day, c, lv⟩, by rw [e0, e1, e2, e3, e4, hc]; rfl, h0⟩) hf

theorem open_places {a0 : Option Addr} {len cap fuel : Nat} {x : DataW H × List MemPlace} (hf : DataW.trod enc Tryz.prog W 0 (fun _ => true) true fuel 27 [.slice a0 len cap] = some x) : ∃ l, HasE placeC W (.slice a0 len cap) l ∧ ∀ x ∈ l, (Lit.int .i64 x.seg).wf = true :=
  open_listE placeC_len (fun x => (Lit.int .i64 x.seg).wf = true) Tryz.underlying27 (by kernel_rfl) (by decide) (fun {fuel cs x} hl h => by
    have he : ∃ f0 f1 f2 : Field, Tryz.prog.underlying 72 = some (.struct #[f0, f1, f2]) ∧ f0.offset = 0 ∧ f1.offset = 1 ∧ f2.offset = 2 ∧ f0.type = 3 ∧ f1.type = 3 ∧ f2.type = 46 := ⟨_, _, _, Tryz.underlying72, rfl, rfl, rfl, rfl, rfl, rfl⟩
    obtain ⟨f0, f1, f2, he, o0, o1, o2, t0, t1, t2⟩ := he
    obtain ⟨y0, y1, y2, n, _, _, g0, g1, g2⟩ := trod_struct3 he h
    match cs, hl with
    | [v0, v1, v2, v3], _ =>
      rw [t0, o0, show Tryz.prog.cellsOf 3 = 1 by kernel_rfl] at g0
      rw [t1, o1, show Tryz.prog.cellsOf 3 = 1 by kernel_rfl] at g1
      rw [t2, o2, show Tryz.prog.cellsOf 46 = 2 by kernel_rfl] at g2
      obtain ⟨sg, e0, _, h0⟩ := DataW.trod_int Tryz.underlying3 g0
      obtain ⟨pa, e1, _, h1⟩ := DataW.trod_int Tryz.underlying3 g1
      obtain ⟨r, c, e2, e3, _⟩ := seat_each g2
      simp at e0 e1
      exact ⟨⟨sg, pa, r, c⟩, by rw [e0, e1, e2, e3]; rfl, h0⟩) hf


theorem open_pnrV {r : Reach} {b0 : Nat} {v : Value} {d : DataW H} {p : List MemPlace} (hv : Value.okWide Tryz.prog W r b0 29 v) (h : DataW.Trod enc Tryz.prog W 0 (fun _ => true) true 29 v d p) :
    ∃ a, PnrIn W v a := by
  have he : ∃ f0 f1 f2 f3 f4 f5 f6 f7 f8 f9 : Field, Tryz.prog.underlying 29 = some (.struct #[f0, f1, f2, f3, f4, f5, f6, f7, f8, f9]) ∧ (f0.offset = 0 ∧ f1.offset = 1 ∧ f2.offset = 2 ∧ f3.offset = 3 ∧ f4.offset = 4 ∧ f5.offset = 5 ∧ f6.offset = 8 ∧ f7.offset = 9 ∧ f8.offset = 10 ∧ f9.offset = 11) ∧ f0.type = 9 ∧ f1.type = 9 ∧ f2.type = 22 ∧ f3.type = 23 ∧ f4.type = 24 ∧ f5.type = 26 ∧ f6.type = 9 ∧ f7.type = 24 ∧ f8.type = 27 ∧ f9.type = 4 := ⟨_, _, _, _, _, _, _, _, _, _, Tryz.underlying29, ⟨rfl, rfl, rfl, rfl, rfl, rfl, rfl, rfl, rfl, rfl⟩, rfl, rfl, rfl, rfl, rfl, rfl, rfl, rfl, rfl, rfl⟩
  obtain ⟨f0, f1, f2, f3, f4, f5, f6, f7, f8, f9, he, ⟨o0, o1, o2, o3, o4, o5, o6, o7, o8, o9⟩, t0, t1, t2, t3, t4, t5, t6, t7, t8, t9⟩ := he
  have hC : Tryz.prog.cellsOf 29 = 12 := by kernel_rfl
  obtain ⟨cs, rfl, hsz⟩ := okWide_struct he hv
  obtain ⟨l⟩ := cs
  match l, hsz.trans hC with
  | [c0, c1, c2, c3, c4, c5, c6, c7, c8, c9, c10, c11], _ =>
    obtain ⟨fuel, hf⟩ := h
    obtain ⟨xs, n, _, hx, _, hlen, hg⟩ := DataW.trod_struct he hf
    match xs, hlen with
    | [y0, y1, y2, y3, y4, y5, y6, y7, y8, y9], _ =>
      have g0 := hg 0 f0 rfl
      have g1 := hg 1 f1 rfl
      have g2 := hg 2 f2 rfl
      have g3 := hg 3 f3 rfl
      have g4 := hg 4 f4 rfl
      have g5 := hg 5 f5 rfl
      have g6 := hg 6 f6 rfl
      have g7 := hg 7 f7 rfl
      have g8 := hg 8 f8 rfl
      have g9 := hg 9 f9 rfl
      rw [t0, o0, show Tryz.prog.cellsOf 9 = 1 by kernel_rfl] at g0
      rw [t1, o1, show Tryz.prog.cellsOf 9 = 1 by kernel_rfl] at g1
      rw [t2, o2, show Tryz.prog.cellsOf 22 = 1 by kernel_rfl] at g2
      rw [t3, o3, show Tryz.prog.cellsOf 23 = 1 by kernel_rfl] at g3
      rw [t4, o4, show Tryz.prog.cellsOf 24 = 1 by kernel_rfl] at g4
      rw [t5, o5, show Tryz.prog.cellsOf 26 = 3 by kernel_rfl] at g5
      rw [t6, o6, show Tryz.prog.cellsOf 9 = 1 by kernel_rfl] at g6
      rw [t7, o7, show Tryz.prog.cellsOf 24 = 1 by kernel_rfl] at g7
      rw [t8, o8, show Tryz.prog.cellsOf 27 = 1 by kernel_rfl] at g8
      rw [t9, o9, show Tryz.prog.cellsOf 4 = 1 by kernel_rfl] at g9
      have hk : ∃ f0 f1 f2 : Field, Tryz.prog.underlying 26 = some (.struct #[f0, f1, f2]) ∧ f0.offset = 0 ∧ f1.offset = 1 ∧ f2.offset = 2 ∧ f0.type = 3 ∧ f1.type = 3 ∧ f2.type = 3 := ⟨_, _, _, Tryz.underlying26, rfl, rfl, rfl, rfl, rfl, rfl⟩
      obtain ⟨q0, q1, q2, hk, p0, p1, p2, u0, u1, u2⟩ := hk
      obtain ⟨z0, z1, z2, n2, _, _, k0, k1, k2⟩ := trod_struct3 hk (show DataW.trod enc Tryz.prog W 0 (fun _ => true) true n 26 [c5, c6, c7] = some y5 from g5)
      rw [u0, p0, show Tryz.prog.cellsOf 3 = 1 by kernel_rfl] at k0
      rw [u1, p1, show Tryz.prog.cellsOf 3 = 1 by kernel_rfl] at k1
      rw [u2, p2, show Tryz.prog.cellsOf 3 = 1 by kernel_rfl] at k2
      obtain ⟨loc, e0, _, h0⟩ := DataW.trod_string Tryz.underlying9 (show DataW.trod enc Tryz.prog W 0 (fun _ => true) true n 9 [c0] = some y0 from g0)
      obtain ⟨off, e1, _, h1⟩ := DataW.trod_string Tryz.underlying9 (show DataW.trod enc Tryz.prog W 0 (fun _ => true) true n 9 [c1] = some y1 from g1)
      obtain ⟨p2', l2, m2, e2⟩ := slice_form Tryz.underlying22 (show DataW.trod enc Tryz.prog W 0 (fun _ => true) true n 22 [c2] = some y2 from g2)
      obtain ⟨p3', l3, m3, e3⟩ := slice_form Tryz.underlying23 (show DataW.trod enc Tryz.prog W 0 (fun _ => true) true n 23 [c3] = some y3 from g3)
      obtain ⟨p4', l4, m4, e4⟩ := slice_form Tryz.underlying24 (show DataW.trod enc Tryz.prog W 0 (fun _ => true) true n 24 [c4] = some y4 from g4)
      obtain ⟨tk, e5, _, _⟩ := DataW.trod_int Tryz.underlying3 k0
      obtain ⟨td, e6, _, _⟩ := DataW.trod_int Tryz.underlying3 k1
      obtain ⟨tm, e7, _, _⟩ := DataW.trod_int Tryz.underlying3 k2
      obtain ⟨rcv, e8, _, h8⟩ := DataW.trod_string Tryz.underlying9 (show DataW.trod enc Tryz.prog W 0 (fun _ => true) true n 9 [c8] = some y6 from g6)
      obtain ⟨p9', l9, m9, e9⟩ := slice_form Tryz.underlying24 (show DataW.trod enc Tryz.prog W 0 (fun _ => true) true n 24 [c9] = some y7 from g7)
      obtain ⟨p10', l10, m10, e10⟩ := slice_form Tryz.underlying27 (show DataW.trod enc Tryz.prog W 0 (fun _ => true) true n 27 [c10] = some y8 from g8)
      obtain ⟨qd, e11, _⟩ := DataW.trod_bool Tryz.underlying4 (show DataW.trod enc Tryz.prog W 0 (fun _ => true) true n 4 [c11] = some y9 from g9)
      simp at e0 e1 e2 e3 e4 e5 e6 e7 e8 e9 e10 e11
      subst e0 e1 e2 e3 e4 e5 e6 e7 e8 e9 e10 e11
      obtain ⟨nm, hn1, hn2⟩ := open_names (show DataW.trod enc Tryz.prog W 0 (fun _ => true) true n 22 [.slice p2' l2 m2] = some y2 from g2)
      obtain ⟨sg, hs1, hs2⟩ := open_segs (show DataW.trod enc Tryz.prog W 0 (fun _ => true) true n 23 [.slice p3' l3 m3] = some y3 from g3)
      obtain ⟨ph, hp1, _, hp2⟩ := open_texts (show DataW.trod enc Tryz.prog W 0 (fun _ => true) true n 24 [.slice p4' l4 m4] = some y4 from g4)
      obtain ⟨rm, hr1, _, hr2⟩ := open_texts (show DataW.trod enc Tryz.prog W 0 (fun _ => true) true n 24 [.slice p9' l9 m9] = some y7 from g7)
      obtain ⟨st, hx1, hx2⟩ := open_places (show DataW.trod enc Tryz.prog W 0 (fun _ => true) true n 27 [.slice p10' l10 m10] = some y8 from g8)
      exact ⟨⟨loc, off, nm, sg, ph, tk, td, tm, rcv, rm, st, qd⟩, _, _, _, _, _, rfl, hn1, hs1, hp1, hr1, hx1, ⟨h0, h1, hn2, hs2, hp2, h8, hr2⟩, hx2⟩
end
end Go.Proofs.YtmhhbnnjilbdnaaGreatDoor
