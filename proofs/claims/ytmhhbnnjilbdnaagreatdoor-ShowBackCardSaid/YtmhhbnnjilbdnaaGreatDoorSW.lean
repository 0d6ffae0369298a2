/- Openers that know how much memory bears: a PNR's texts are of no more than 2^50 bytes. -/
import Derived.Test.YtmhhbnnjilbdnaaGreatDoorKA
import Derived.Test.YtmhhbnnjilbdnaaGreatDoorKF
import Derived.Test.YtmhhbnnjilbdnaaGreatDoorSA
import Derived.Test.YtmhhbnnjilbdnaaGreatDoorKI
import Derived.Test.YtmhhbnnjilbdnaaGreatDoorKJ
import Derived.Test.YtmhhbnnjilbdnaaGreatDoorKL
import Derived.Test.YtmhhbnnjilbdnaaGreatDoorSAW
import Derived.Test.YtmhhbnnjilbdnaaGreatDoorRows
import Derived.WalkKit
import Derived.WalkSpells
import Derived.WalkLawsBesides
import Derived.Lib.ConvBytes
import Derived.Lib.Hide
import Derived.Lib.SliceRun
import Derived.IntWalk
import Derived.BigQuiet
import Derived.Deep.QuietTactic
import Derived.Deep.RegionWith
import Derived.Deep.RegionHeld3
import Derived.Deep.LoopGhost
import Derived.Deep.CutRange
import Derived.Deep.CutBlock
import Derived.Deep.MidRow
import Derived.Laws.OwnMore
import Derived.OwnWalk
import Derived.Laws.AppendOwnNone
import Derived.Laws.Rows
import Derived.Laws.MakeOwn
import Derived.Laws.CopyOwn
import Derived.Laws.BitsAllLaws
import Derived.DeepKeys5
import Derived.Maps.OwnOps
import Derived.Handy
import Derived.Lib.AppendStr
import Derived.StillTailTactics
import Derived.Deep.AppendLies
import Derived.ProofKit
import Derived.OpenShut
import Derived.SliceStrings
import Derived.Lib.SmallJoins
import Derived.Deep.SlicePairs
import Derived.ChangeSlices
import Derived.WideKeyEntry
import Derived.Tactics2
import Derived.Defers
import Derived.Recover
import Derived.Shelf.Strconv.Itoa0
import Derived.Shelf.Strconv.Itoa1
import Derived.Shelf.LaysM
import Derived.Shelf.Strconv.Itoa2
import Derived.Shelf.Strconv.Itoa3
import Derived.Maps.AppendAt
import Derived.Lib.Bytealg
import Derived.Deep.RegionLaw
import Derived.Shelf.Strings.Builder1
import Derived.Shelf.Strings.Builder2
import Derived.Shelf.Strings.Count
import Derived.Shelf.Strings.Split
import Derived.Shelf.Strings.Replace
import Derived.StillTail
import Derived.Lib.QuietBelow
import Derived.Lib.ReplaceLaws
import Derived.ArgAppend
import Derived.Laws.RangeString
namespace Go.Proofs.YtmhhbnnjilbdnaaGreatDoor.Sh
open Go.RowKit Go.ChangeMaps En Go.WideShapes Go.ChangeShapes Go.ChangeAt Go.Joins Go.Deep
set_option linter.unusedSimpArgs false
set_option linter.unusedVariables false
set_option maxRecDepth 20000

section
variable {H : Type} {enc : TypeId × Value → H} {W : World}
theorem all_of_mem {e : TypeId} : ∀ {l : List (DataW H)} {d : DataW H}, (DataW.weightsAll Tryz.prog e l).all (· ≤ reachBytes) = true → d ∈ l → (d.weights Tryz.prog e).all (· ≤ reachBytes) = true
  | a :: l, d, h, hd => by
    rw [DataW.weightsAll, List.all_append, Bool.and_eq_true] at h
    rcases List.mem_cons.1 hd with rfl | hd
    · exact h.1
    · exact all_of_mem h.2 hd
theorem open_listW {α : Type} {en : α → List Value} {st : Nat} (hst : ∀ a, (en a).length = st) (ok : α → Prop) {t e : TypeId} (ht : Tryz.prog.underlying t = some (.slice e)) (ce : Tryz.prog.cellsOf e = st) (h0 : 0 < st)
    (each : ∀ {fuel : Nat} {cs : List Value} {x : DataW H × List MemPlace}, cs.length = st → DataW.trod enc Tryz.prog W 0 (fun _ => true) true fuel e cs = some x → (x.1.weights Tryz.prog e).all (· ≤ reachBytes) = true → ∃ a, cs = en a ∧ ok a)
    {a0 : Option Addr} {len cap fuel : Nat} {x : DataW H × List MemPlace} (hf : DataW.trod enc Tryz.prog W 0 (fun _ => true) true fuel t [.slice a0 len cap] = some x) (hw : (x.1.weights Tryz.prog t).all (· ≤ reachBytes) = true) : ∃ l : List α, HasE en W (.slice a0 len cap) l ∧ ∀ a ∈ l, ok a := by
  rcases open_slice ht hf with ⟨hcs, _⟩ | ⟨a, len', cap', m, n, D, Pl, hcs, _, hl, hm, hmm, hxx, hx⟩
  · simp at hcs
    obtain ⟨rfl, rfl, rfl⟩ := hcs
    exact ⟨[], HasE.nil W, by simp⟩
  · simp at hcs
    obtain ⟨rfl, rfl, rfl⟩ := hcs
    simp only [if_true] at hmm
    by_cases hl0 : len = 0
    · subst hl0
      exact ⟨[], .inl ⟨some a, cap, rfl, rfl, fun h => by cases h⟩, by simp⟩
    have hwD : ∀ i, i < len → ((D i).weights Tryz.prog e).all (· ≤ reachBytes) = true := by
      intro i hi
      rw [hxx] at hw
      unfold DataW.weights at hw
      rw [ht] at hw
      simp only [List.all_cons, List.all_append, Bool.and_eq_true] at hw
      exact all_of_mem hw.2.1 (List.mem_map.2 ⟨i, List.mem_range.2 hi, rfl⟩)
    have key : ∀ i, i < len → ∃ q : α, ok q ∧ ∀ k u, (en q)[k]? = some u → W.cell? ((a.add (i * st)).add k) = some u := by
      intro i hi
      obtain ⟨cs', h1, h2⟩ := hx i (by omega)
      rw [ce] at h1
      obtain ⟨_, hlen, hcell⟩ := World.cells?_some h1
      obtain ⟨q, rfl, hq⟩ := each hlen h2 (hwD i hi)
      refine ⟨q, hq, fun k u hk => ?_⟩
      have hkl : k < st := by
        rcases Nat.lt_or_ge k st with h | h
        · exact h
        · rw [List.getElem?_eq_none (by rw [hst]; exact h)] at hk; cases hk
      have := hcell k hkl
      rw [this, hk]
    have hspot : a.spot = none := by
      obtain ⟨q, _, h⟩ := key 0 (by omega)
      have hq : (en q)[0]? = some ((en q)[0]'(by rw [hst]; exact h0)) := List.getElem?_eq_getElem _
      have := World.cell?_spot (h 0 _ hq)
      simpa [Addr.add] using this
    obtain ⟨b, off, sp⟩ := a
    simp at hspot
    subst hspot
    have key2 : ∀ i : Fin len, ∃ q : α, ok q ∧ ∀ k u, (en q)[k]? = some u → W.cell? ⟨b, off + (i.val * st + k), none⟩ = some u := by
      intro i
      obtain ⟨q, h1, h2⟩ := key i.val i.isLt
      refine ⟨q, h1, fun k u hk => ?_⟩
      have := h2 k u hk
      rw [Addr.add_lit, Addr.add_lit] at this
      rw [← Nat.add_assoc]
      exact this
    obtain ⟨q, hq⟩ := Classical.axiomOfChoice key2
    have hlen : (List.ofFn q).length = len := by simp
    refine ⟨List.ofFn q, .inr ⟨b, off, cap, by rw [hlen], by rw [hlen]; exact hl, hm, fun j u hj => ?_⟩, fun y hy => ?_⟩
    · have hjl : j < len * st := by
        rcases Nat.lt_or_ge j (len * st) with h | h
        · exact h
        · rw [List.getElem?_eq_none (by rw [cells_len hst, hlen]; exact h)] at hj; cases hj
      have hi : j / st < len := Nat.div_lt_of_lt_mul (by rw [Nat.mul_comm]; exact hjl)
      have e : j = j / st * st + j % st := (Nat.div_add_mod' j st).symm
      have hg : (List.ofFn q)[j / st]? = some (q ⟨j / st, hi⟩) := by simp [List.getElem?_ofFn, hi]
      rw [e, cells_get hst (j % st) hg (Nat.mod_lt _ h0)] at hj
      have := (hq ⟨j / st, hi⟩).2 _ _ hj
      rw [← e] at this
      exact this
    · obtain ⟨i, rfl⟩ := List.mem_ofFn.1 hy
      exact (hq i).1

theorem open_namesW {a0 : Option Addr} {len cap fuel : Nat} {x : DataW H × List MemPlace} (hf : DataW.trod enc Tryz.prog W 0 (fun _ => true) true fuel 22 [.slice a0 len cap] = some x) (hw : (x.1.weights Tryz.prog 22).all (· ≤ reachBytes) = true) : ∃ l, HasE nameC W (.slice a0 len cap) l ∧ ∀ x ∈ l, (x.last.size ≤ maxLen ∧ x.first.size ≤ maxLen) ∧ x.last.size ≤ 1125899906842624 ∧ x.first.size ≤ 1125899906842624 :=
  open_listW nameC_len (fun x => (x.last.size ≤ maxLen ∧ x.first.size ≤ maxLen) ∧ x.last.size ≤ 1125899906842624 ∧ x.first.size ≤ 1125899906842624) Tryz.underlying22 (by kernel_rfl) (by decide) (fun {fuel cs x} hl h hwx => by
    have he : ∃ f0 f1 : Field, Tryz.prog.underlying 38 = some (.struct #[f0, f1]) ∧ f0.offset = 0 ∧ f1.offset = 1 ∧ f0.type = 9 ∧ f1.type = 9 := ⟨_, _, Tryz.underlying38, rfl, rfl, rfl, rfl⟩
    obtain ⟨f0, f1, he, o0, o1, t0, t1⟩ := he
    obtain ⟨y0, y1, n, hx0, _, g0, g1⟩ := trod_struct2 he h
    match cs, hl with
    | [v0, v1], _ =>
      rw [t0, o0, show Tryz.prog.cellsOf 9 = 1 by kernel_rfl] at g0
      rw [t1, o1, show Tryz.prog.cellsOf 9 = 1 by kernel_rfl] at g1
      obtain ⟨s0, e0, d0, h0⟩ := DataW.trod_string Tryz.underlying9 g0
      obtain ⟨s1, e1, d1, h1⟩ := DataW.trod_string Tryz.underlying9 g1
      simp at e0 e1
      rw [hx0, d0, d1] at hwx
      have hz : s0.size ≤ reachBytes ∧ s1.size ≤ reachBytes := by
        unfold DataW.weights at hwx
        rw [he] at hwx
        simp [DataW.weightsEach, DataW.weights] at hwx
        exact hwx
      exact ⟨⟨s0, s1⟩, by rw [e0, e1]; rfl, ⟨h0, h1⟩, Nat.le_trans hz.1 (by decide), Nat.le_trans hz.2 (by decide)⟩) hf hw

theorem open_segsW {a0 : Option Addr} {len cap fuel : Nat} {x : DataW H × List MemPlace} (hf : DataW.trod enc Tryz.prog W 0 (fun _ => true) true fuel 23 [.slice a0 len cap] = some x) (hw : (x.1.weights Tryz.prog 23).all (· ≤ reachBytes) = true) : ∃ l, HasE segC W (.slice a0 len cap) l ∧ ∀ x ∈ l, x.car.size ≤ maxLen ∧ x.car.size ≤ 1125899906842624 ∧ (Lit.int .i64 x.num).wf = true :=
  open_listW segC_len (fun x => x.car.size ≤ maxLen ∧ x.car.size ≤ 1125899906842624 ∧ (Lit.int .i64 x.num).wf = true) Tryz.underlying23 (by kernel_rfl) (by decide) (fun {fuel cs x} hl h hwx => by
    have he : ∃ f0 f1 f2 : Field, Tryz.prog.underlying 44 = some (.struct #[f0, f1, f2]) ∧ f0.offset = 0 ∧ f1.offset = 3 ∧ f2.offset = 4 ∧ f0.type = 42 ∧ f1.type = 5 ∧ f2.type = 4 := ⟨_, _, _, Tryz.underlying44, rfl, rfl, rfl, rfl, rfl, rfl⟩
    obtain ⟨f0, f1, f2, he, o0, o1, o2, t0, t1, t2⟩ := he
    obtain ⟨y0, y1, y2, n, hx0, _, g0, g1, g2⟩ := trod_struct3 he h
    match cs, hl with
    | [v0, v1, v2, v3, v4], _ =>
      rw [t0, o0, show Tryz.prog.cellsOf 42 = 3 by kernel_rfl] at g0
      rw [t1, o1, show Tryz.prog.cellsOf 5 = 1 by kernel_rfl] at g1
      rw [t2, o2, show Tryz.prog.cellsOf 4 = 1 by kernel_rfl] at g2
      have hk : ∃ f0 f1 : Field, Tryz.prog.underlying 42 = some (.struct #[f0, f1]) ∧ f0.offset = 0 ∧ f1.offset = 2 ∧ f0.type = 40 ∧ f1.type = 3 := ⟨_, _, Tryz.underlying42, rfl, rfl, rfl, rfl⟩
      obtain ⟨q0, q1, hk, p0, p1, u0, u1⟩ := hk
      obtain ⟨z0, z1, n2, hx1, _, k0, k1⟩ := trod_struct2 hk g0
      rw [u0, p0, show Tryz.prog.cellsOf 40 = 2 by kernel_rfl] at k0
      rw [u1, p1, show Tryz.prog.cellsOf 3 = 1 by kernel_rfl] at k1
      have hj : ∃ f0 f1 : Field, Tryz.prog.underlying 40 = some (.struct #[f0, f1]) ∧ f0.offset = 0 ∧ f1.offset = 1 ∧ f0.type = 9 ∧ f1.type = 3 := ⟨_, _, Tryz.underlying40, rfl, rfl, rfl, rfl⟩
      obtain ⟨r0, r1, hj, s0, s1, w0, w1⟩ := hj
      obtain ⟨x0, x1, n3, hx2, _, j0, j1⟩ := trod_struct2 hj k0
      rw [w0, s0, show Tryz.prog.cellsOf 9 = 1 by kernel_rfl] at j0
      rw [w1, s1, show Tryz.prog.cellsOf 3 = 1 by kernel_rfl] at j1
      obtain ⟨car, e0, d0, h0⟩ := DataW.trod_string Tryz.underlying9 j0
      obtain ⟨num, e1, _, h1⟩ := DataW.trod_int Tryz.underlying3 j1
      obtain ⟨day, e2, _, h2⟩ := DataW.trod_int Tryz.underlying3 k1
      obtain ⟨cl, e3, _, h3⟩ := DataW.trod_int Tryz.underlying5 g1
      obtain ⟨lv, e4, _⟩ := DataW.trod_bool Tryz.underlying4 g2
      simp at e0 e1 e2 e3 e4
      obtain ⟨c, hc, _⟩ := wf_byte h3
      rw [hx0, hx1, hx2, d0] at hwx
      have hz : car.size ≤ reachBytes := by
        unfold DataW.weights at hwx
        rw [he] at hwx
        simp only [List.map_cons, List.map_nil, DataW.weightsEach, t0, List.all_append, Bool.and_eq_true] at hwx
        have hwx := hwx.1
        unfold DataW.weights at hwx
        rw [hk] at hwx
        simp only [List.map_cons, List.map_nil, DataW.weightsEach, u0, List.all_append, Bool.and_eq_true] at hwx
        have hwx := hwx.1
        unfold DataW.weights at hwx
        rw [hj] at hwx
        simp only [List.map_cons, List.map_nil, DataW.weightsEach, w0, List.all_append, Bool.and_eq_true] at hwx
        have hwx := hwx.1
        simp [DataW.weights] at hwx
        exact hwx
      exact ⟨⟨car, num, day, c, lv⟩, by rw [e0, e1, e2, e3, e4, hc]; rfl, h0, Nat.le_trans hz (by decide), h1⟩) hf hw

theorem open_placesW {a0 : Option Addr} {len cap fuel : Nat} {x : DataW H × List MemPlace} (hf : DataW.trod enc Tryz.prog W 0 (fun _ => true) true fuel 27 [.slice a0 len cap] = some x) (hw : (x.1.weights Tryz.prog 27).all (· ≤ reachBytes) = true) : ∃ l, HasE placeC W (.slice a0 len cap) l ∧ ∀ x ∈ l, (Lit.int .i64 x.seg).wf = true ∧ (Lit.int .i64 x.pax).wf = true :=
  open_listW placeC_len (fun x => (Lit.int .i64 x.seg).wf = true ∧ (Lit.int .i64 x.pax).wf = true) Tryz.underlying27 (by kernel_rfl) (by decide) (fun {fuel cs x} hl h hwx => by
    have he : ∃ f0 f1 f2 : Field, Tryz.prog.underlying 72 = some (.struct #[f0, f1, f2]) ∧ f0.offset = 0 ∧ f1.offset = 1 ∧ f2.offset = 2 ∧ f0.type = 3 ∧ f1.type = 3 ∧ f2.type = 46 := ⟨_, _, _, Tryz.underlying72, rfl, rfl, rfl, rfl, rfl, rfl⟩
    obtain ⟨f0, f1, f2, he, o0, o1, o2, t0, t1, t2⟩ := he
    obtain ⟨y0, y1, y2, n, _, _, g0, g1, g2⟩ := trod_struct3 he h
    match cs, hl with
    | [v0, v1, v2, v3], _ =>
      rw [t0, o0, show Tryz.prog.cellsOf 3 = 1 by kernel_rfl] at g0
      rw [t1, o1, show Tryz.prog.cellsOf 3 = 1 by kernel_rfl] at g1
      rw [t2, o2, show Tryz.prog.cellsOf 46 = 2 by kernel_rfl] at g2
      obtain ⟨sg, e0, _, h0⟩ := DataW.trod_int Tryz.underlying3 g0
      obtain ⟨pa, e1, _, h1⟩ := DataW.trod_int Tryz.underlying3 g1
      obtain ⟨r, c, e2, e3, _⟩ := seat_each g2
      simp at e0 e1
      exact ⟨⟨sg, pa, r, c⟩, by rw [e0, e1, e2, e3]; rfl, h0, h1⟩) hf hw


theorem flat_str (l : List ByteArray) : l.flatMap (fun s : ByteArray => [Value.string s]) = l.map Value.string := by
  induction l with
  | nil => rfl
  | cons a t ih => rw [List.flatMap_cons, ih]; rfl
theorem hasL_of {v : Value} {l : List ByteArray} (h : HasE (fun s : ByteArray => [Value.string s]) W v l) : HasL W v l := by
  rcases h with ⟨p, c, rfl, rfl, hp⟩ | ⟨b, off, c, rfl, h1, h2, h3⟩
  · exact .inl ⟨p, c, rfl, rfl, hp⟩
  · refine .inr ⟨b, off, c, rfl, h1, h2, fun j hj => h3 j _ ?_⟩
    rw [flat_str, List.getElem?_map]
    simp [List.getD, hj]
theorem open_textsW {a0 : Option Addr} {len cap fuel : Nat} {x : DataW H × List MemPlace} (hf : DataW.trod enc Tryz.prog W 0 (fun _ => true) true fuel 24 [.slice a0 len cap] = some x) (hw : (x.1.weights Tryz.prog 24).all (· ≤ reachBytes) = true) : ∃ l, HasL W (.slice a0 len cap) l ∧ (∀ s ∈ l, s.size ≤ maxLen) ∧ ∀ s ∈ l, s.size ≤ 1125899906842624 := by
  obtain ⟨l, h1, h2⟩ := open_listW (en := fun s : ByteArray => [Value.string s]) (st := 1) (fun _ => rfl) (fun s => s.size ≤ maxLen ∧ s.size ≤ 1125899906842624) Tryz.underlying24 (by kernel_rfl) (by decide) (fun {fuel cs x} hl h hwx => by
    obtain ⟨s, e, d, hs⟩ := DataW.trod_string Tryz.underlying9 h
    rw [d] at hwx
    simp [DataW.weights] at hwx
    exact ⟨s, e, hs, Nat.le_trans hwx (by decide)⟩) hf hw
  exact ⟨l, hasL_of h1, fun s hs => (h2 s hs).1, fun s hs => (h2 s hs).2⟩
theorem open_pnrB {r : Reach} {b0 : Nat} {v : Value} {d : DataW H} {p : List MemPlace} (hv : Value.okWide Tryz.prog W r b0 29 v) (h : DataW.Trod enc Tryz.prog W 0 (fun _ => true) true 29 v d p) (hw : (d.weights Tryz.prog 29).all (· ≤ reachBytes) = true) :
    ∃ a, PnrIn W v a ∧ FitB a := by
  have he : ∃ f0 f1 f2 f3 f4 f5 f6 f7 f8 f9 : Field, Tryz.prog.underlying 29 = some (.struct #[f0, f1, f2, f3, f4, f5, f6, f7, f8, f9]) ∧ (f0.offset = 0 ∧ f1.offset = 1 ∧ f2.offset = 2 ∧ f3.offset = 3 ∧ f4.offset = 4 ∧ f5.offset = 5 ∧ f6.offset = 8 ∧ f7.offset = 9 ∧ f8.offset = 10 ∧ f9.offset = 11) ∧ f0.type = 9 ∧ f1.type = 9 ∧ f2.type = 22 ∧ f3.type = 23 ∧ f4.type = 24 ∧ f5.type = 26 ∧ f6.type = 9 ∧ f7.type = 24 ∧ f8.type = 27 ∧ f9.type = 4 := ⟨_, _, _, _, _, _, _, _, _, _, Tryz.underlying29, ⟨rfl, rfl, rfl, rfl, rfl, rfl, rfl, rfl, rfl, rfl⟩, rfl, rfl, rfl, rfl, rfl, rfl, rfl, rfl, rfl, rfl⟩
  obtain ⟨f0, f1, f2, f3, f4, f5, f6, f7, f8, f9, he, ⟨o0, o1, o2, o3, o4, o5, o6, o7, o8, o9⟩, t0, t1, t2, t3, t4, t5, t6, t7, t8, t9⟩ := he
  have hC : Tryz.prog.cellsOf 29 = 12 := by kernel_rfl
  obtain ⟨cs, rfl, hsz⟩ := okWide_struct he hv
  obtain ⟨l⟩ := cs
  match l, hsz.trans hC with
  | [c0, c1, c2, c3, c4, c5, c6, c7, c8, c9, c10, c11], _ =>
    obtain ⟨fuel, hf⟩ := h
    obtain ⟨xs, n, _, hx, _, hlen, hg⟩ := DataW.trod_struct he hf
    match xs, hlen with
    | [y0, y1, y2, y3, y4, y5, y6, y7, y8, y9], _ =>
      have g0 := hg 0 f0 rfl
      have g1 := hg 1 f1 rfl
      have g2 := hg 2 f2 rfl
      have g3 := hg 3 f3 rfl
      have g4 := hg 4 f4 rfl
      have g5 := hg 5 f5 rfl
      have g6 := hg 6 f6 rfl
      have g7 := hg 7 f7 rfl
      have g8 := hg 8 f8 rfl
      have g9 := hg 9 f9 rfl
      rw [t0, o0, show Tryz.prog.cellsOf 9 = 1 by kernel_rfl] at g0
      rw [t1, o1, show Tryz.prog.cellsOf 9 = 1 by kernel_rfl] at g1
      rw [t2, o2, show Tryz.prog.cellsOf 22 = 1 by kernel_rfl] at g2
      rw [t3, o3, show Tryz.prog.cellsOf 23 = 1 by kernel_rfl] at g3
      rw [t4, o4, show Tryz.prog.cellsOf 24 = 1 by kernel_rfl] at g4
      rw [t5, o5, show Tryz.prog.cellsOf 26 = 3 by kernel_rfl] at g5
      rw [t6, o6, show Tryz.prog.cellsOf 9 = 1 by kernel_rfl] at g6
      rw [t7, o7, show Tryz.prog.cellsOf 24 = 1 by kernel_rfl] at g7
      rw [t8, o8, show Tryz.prog.cellsOf 27 = 1 by kernel_rfl] at g8
      rw [t9, o9, show Tryz.prog.cellsOf 4 = 1 by kernel_rfl] at g9
      have hk : ∃ f0 f1 f2 : Field, Tryz.prog.underlying 26 = some (.struct #[f0, f1, f2]) ∧ f0.offset = 0 ∧ f1.offset = 1 ∧ f2.offset = 2 ∧ f0.type = 3 ∧ f1.type = 3 ∧ f2.type = 3 := ⟨_, _, _, Tryz.underlying26, rfl, rfl, rfl, rfl, rfl, rfl⟩
      obtain ⟨q0, q1, q2, hk, p0, p1, p2, u0, u1, u2⟩ := hk
      obtain ⟨z0, z1, z2, n2, _, _, k0, k1, k2⟩ := trod_struct3 hk (show DataW.trod enc Tryz.prog W 0 (fun _ => true) true n 26 [c5, c6, c7] = some y5 from g5)
      rw [u0, p0, show Tryz.prog.cellsOf 3 = 1 by kernel_rfl] at k0
      rw [u1, p1, show Tryz.prog.cellsOf 3 = 1 by kernel_rfl] at k1
      rw [u2, p2, show Tryz.prog.cellsOf 3 = 1 by kernel_rfl] at k2
      obtain ⟨loc, e0, d0, h0⟩ := DataW.trod_string Tryz.underlying9 (show DataW.trod enc Tryz.prog W 0 (fun _ => true) true n 9 [c0] = some y0 from g0)
      obtain ⟨off, e1, d1, h1⟩ := DataW.trod_string Tryz.underlying9 (show DataW.trod enc Tryz.prog W 0 (fun _ => true) true n 9 [c1] = some y1 from g1)
      obtain ⟨p2', l2, m2, e2⟩ := slice_form Tryz.underlying22 (show DataW.trod enc Tryz.prog W 0 (fun _ => true) true n 22 [c2] = some y2 from g2)
      obtain ⟨p3', l3, m3, e3⟩ := slice_form Tryz.underlying23 (show DataW.trod enc Tryz.prog W 0 (fun _ => true) true n 23 [c3] = some y3 from g3)
      obtain ⟨p4', l4, m4, e4⟩ := slice_form Tryz.underlying24 (show DataW.trod enc Tryz.prog W 0 (fun _ => true) true n 24 [c4] = some y4 from g4)
      obtain ⟨tk, e5, _, _⟩ := DataW.trod_int Tryz.underlying3 k0
      obtain ⟨td, e6, _, _⟩ := DataW.trod_int Tryz.underlying3 k1
      obtain ⟨tm, e7, _, _⟩ := DataW.trod_int Tryz.underlying3 k2
      obtain ⟨rcv, e8, d8, h8⟩ := DataW.trod_string Tryz.underlying9 (show DataW.trod enc Tryz.prog W 0 (fun _ => true) true n 9 [c8] = some y6 from g6)
      obtain ⟨p9', l9, m9, e9⟩ := slice_form Tryz.underlying24 (show DataW.trod enc Tryz.prog W 0 (fun _ => true) true n 24 [c9] = some y7 from g7)
      obtain ⟨p10', l10, m10, e10⟩ := slice_form Tryz.underlying27 (show DataW.trod enc Tryz.prog W 0 (fun _ => true) true n 27 [c10] = some y8 from g8)
      obtain ⟨qd, e11, _⟩ := DataW.trod_bool Tryz.underlying4 (show DataW.trod enc Tryz.prog W 0 (fun _ => true) true n 4 [c11] = some y9 from g9)
      have hd : d = .agg [y0.1, y1.1, y2.1, y3.1, y4.1, y5.1, y6.1, y7.1, y8.1, y9.1] := (Prod.mk.inj hx).1
      rw [hd] at hw
      unfold DataW.weights at hw
      rw [he] at hw
      simp only [List.map_cons, List.map_nil, DataW.weightsEach, t0, t1, t2, t3, t4, t5, t6, t7, t8, t9, List.all_append, Bool.and_eq_true] at hw
      obtain ⟨w0, w1, w2, w3, w4, _, w6, w7, w8, _⟩ := hw
      rw [d0] at w0
      rw [d1] at w1
      rw [d8] at w6
      simp [DataW.weights] at w0 w1 w6
      simp at e0 e1 e2 e3 e4 e5 e6 e7 e8 e9 e10 e11
      subst e0 e1 e2 e3 e4 e5 e6 e7 e8 e9 e10 e11
      obtain ⟨nm, hn1, hn2⟩ := open_namesW (show DataW.trod enc Tryz.prog W 0 (fun _ => true) true n 22 [.slice p2' l2 m2] = some y2 from g2) w2
      obtain ⟨sg, hs1, hs2⟩ := open_segsW (show DataW.trod enc Tryz.prog W 0 (fun _ => true) true n 23 [.slice p3' l3 m3] = some y3 from g3) w3
      obtain ⟨ph, hp1, hp2, hp3⟩ := open_textsW (show DataW.trod enc Tryz.prog W 0 (fun _ => true) true n 24 [.slice p4' l4 m4] = some y4 from g4) w4
      obtain ⟨rm, hr1, hr2, hr3⟩ := open_textsW (show DataW.trod enc Tryz.prog W 0 (fun _ => true) true n 24 [.slice p9' l9 m9] = some y7 from g7) w7
      obtain ⟨st, hx1, hx2⟩ := open_placesW (show DataW.trod enc Tryz.prog W 0 (fun _ => true) true n 27 [.slice p10' l10 m10] = some y8 from g8) w8
      exact ⟨⟨loc, off, nm, sg, ph, tk, td, tm, rcv, rm, st, qd⟩, ⟨_, _, _, _, _, rfl, hn1, hs1, hp1, hr1, hx1, ⟨h0, h1, fun x hx => (hn2 x hx).1, fun x hx => (hs2 x hx).1, hp2, h8, hr2⟩, fun x hx => (hx2 x hx).1⟩, ⟨Nat.le_trans w0 (by decide), Nat.le_trans w1 (by decide), fun x hx => (hn2 x hx).2, fun x hx => (hs2 x hx).2, hp3, Nat.le_trans w6 (by decide), hr3, hx2⟩⟩
end
end Go.Proofs.YtmhhbnnjilbdnaaGreatDoor.Sh
