/- Maps that count: an entry is raised by one. Legs and seats of segments as keys. -/
import Derived.Test.YtofomopmmopflaaGreatDoorMA
import Derived.Test.YtofomopmmopflaaGreatDoorMB
import Derived.Test.YtofomopmmopflaaGreatDoorMC
import Derived.Test.YtofomopmmopflaaGreatDoorMD
import Derived.Test.YtofomopmmopflaaGreatDoorME
import Derived.Test.YtofomopmmopflaaGreatDoorFN
import Derived.Test.YtofomopmmopflaaGreatDoorRows
import Derived.WalkKit
import Derived.WalkSpells
import Derived.WalkLawsBesides
import Derived.Lib.ConvBytes
import Derived.Lib.Hide
import Derived.Lib.SliceRun
import Derived.IntWalk
import Derived.BigQuiet
import Derived.Deep.QuietTactic
import Derived.Deep.RegionWith
import Derived.Deep.RegionHeld3
import Derived.Deep.LoopGhost
import Derived.Deep.CutRange
import Derived.Deep.CutBlock
import Derived.Deep.MidRow
import Derived.Laws.OwnMore
import Derived.OwnWalk
import Derived.Laws.AppendOwnNone
import Derived.Laws.Rows
import Derived.Laws.MakeOwn
import Derived.Laws.CopyOwn
import Derived.Laws.BitsAllLaws
import Derived.DeepKeys5
import Derived.Maps.OwnOps
import Derived.Handy
import Derived.Lib.AppendStr
import Derived.StillTailTactics
import Derived.Deep.AppendLies
import Derived.WideKeyEntry
namespace Go.Proofs.YtofomopmmopflaaGreatDoor
open Go.RowKit Go.ChangeMaps
set_option linter.unusedSimpArgs false
set_option linter.unusedVariables false
set_option maxRecDepth 20000

def cntV (n : Nat) : Value := .int .i64 (n : Int)

section
variable {α : Type} {K : α → Value} {kt mt : TypeId} {ok : α → Prop}

/-- Block b is a map with just the keys pl, each with 1. -/
def MapS (K : α → Value) (ok : α → Prop) (w : World) (b : Nat) (pl : List α) : Prop :=
  (∃ es clock, w.heap[b]? = some (.map es clock) ∧ es.toList.map (fun e => (e.key, e.val)) = (pl.map fun s => (K s, cntV 1)) ∧ (es.toList.map (·.born)).Nodup ∧ ∀ e ∈ es.toList, e.born < clock) ∧ pl.Nodup ∧ ∀ s ∈ pl, ok s

variable {w w' : World} {b : Nat} {pl : List α}

theorem MapS.lt (h : MapS K ok w b pl) : b < w.heap.size := by
  obtain ⟨⟨es, clock, hb, _⟩, _⟩ := h
  exact (Array.getElem?_eq_some_iff.1 hb).1

theorem MapS.keep {B : Nat} (h : MapS K ok w b pl) (hb : Below B w w') (hB : b < B) : MapS K ok w' b pl := by
  obtain ⟨⟨es, clock, hb1, hm⟩, h2⟩ := h
  exact ⟨⟨es, clock, (hb.block b hB).trans hb1, hm⟩, h2⟩

theorem MapS.mono (h : MapS K ok w b pl) (hb : Below w.heap.size w w') : MapS K ok w' b pl := h.keep hb h.lt

theorem MapS.kept {row : Option Nat} (h : MapS K ok w b pl) (hg : w.grownBy w' row) (hne : row ≠ some b) : MapS K ok w' b pl := by
  have hlt := h.lt
  obtain ⟨⟨es, clock, hb, hm⟩, h2⟩ := h
  exact ⟨⟨es, clock, (hg.block b hlt fun e => hne e.symm).trans hb, hm⟩, h2⟩

theorem MapS.made (w : World) : MapS K ok (w.alloc (.map #[] 0)) w.heap.size [] :=
  ⟨⟨#[], 0, (MapKept.heap_alloc w _).1, rfl, List.nodup_nil, fun _ h => nomatch h⟩, List.nodup_nil, fun _ h => nomatch h⟩

theorem MapS.plain (h : MapS K ok w b pl) : MapG K cntV ok w b pl (fun _ => 1) := by
  obtain ⟨⟨es, clock, hb1, hm, _⟩, h2⟩ := h
  exact ⟨⟨es, clock, hb1, hm⟩, h2⟩

open Classical in
theorem MapS.look (hk : KeyK K kt ok) (ht : Tryz.prog.underlying mt = some (.map kt 3)) (h : MapS K ok w b pl) (s : α) (hs : ok s) :
    (Instr.lookup mt (.map (some b)) (K s) false).run Tryz.prog w = .ok (cntV (if s ∈ pl then 1 else 0)) w := by
  have hz : (zeroValue 3).run Tryz.prog w = .ok (cntV 0) w := by kernel_rfl
  rcases h.plain.look hk ht hz false s hs with ⟨h1, h2⟩ | ⟨h1, h2⟩
  · rw [h2, if_pos h1]; rfl
  · rw [h2, if_neg h1]; rfl

theorem set_block_gr (w : World) (b : Nat) (o : Obj) : w.grownBy (setBlock w b o) (some b) := by
  refine ⟨rfl, rfl, rfl, by simp [setBlock], fun i _ hi => ?_⟩
  have hne : b ≠ i := fun e => hi (by rw [e])
  simp only [setBlock]
  rw [Array.getElem?_setIfInBounds_ne hne]

theorem set_block_size (w : World) (b : Nat) (o : Obj) : (setBlock w b o).heap.size = w.heap.size := by simp [setBlock]

theorem set_block_twice (w : World) (b : Nat) (o o' : Obj) : setBlock (setBlock w b o) b o' = setBlock w b o' := by
  simp [setBlock]

open Classical in
/-- A key that isn't there yet is raised to 1. -/
theorem MapS.bump_new (hk : KeyK K kt ok) (ht : Tryz.prog.underlying mt = some (.map kt 3)) (h : MapS K ok w b pl) (s : α) (hs : ok s) (hn : s ∉ pl) :
    ∃ (v0 : Value) (st : Nat) (w2 w3 : World), (Instr.mapEntry mt (.map (some b)) (K s)).run Tryz.prog w = .ok (.tuple #[v0, goInt st]) w2 ∧
      (Instr.lookup mt (.map (some b)) (K s) false).run Tryz.prog w2 = .ok (cntV 0) w2 ∧
      (Instr.entryStore mt (.map (some b)) (goInt st) (cntV 1)).run Tryz.prog w2 = .ok () w3 ∧ MapS K ok w3 b (pl ++ [s]) ∧ w.grownBy w2 (some b) ∧ w.grownBy w3 (some b) ∧ w3.heap.size = w.heap.size := by
  obtain ⟨l, hl⟩ := hk.key s hs
  have hz : ∀ u, (zeroValue 3).run Tryz.prog u = .ok (cntV 0) u := fun u => by kernel_rfl
  obtain ⟨es, clock, hb, hm, h1⟩ := h.plain.find hk s hs
  obtain ⟨⟨es', clock', hb', hm', hnd, hlt⟩, hpn, hok⟩ := h
  rw [hb] at hb'
  obtain ⟨rfl, rfl⟩ : es = es' ∧ clock = clock' := by simpa using hb'
  rcases h1 with ⟨_, h2⟩ | ⟨j, e, h1, _⟩
  rotate_left
  · exact absurd (List.mem_of_getElem? h1) hn
  have hb2 : (setBlock w b (.map (es.push ⟨K s, cntV 0, clock⟩) (clock + 1))).heap[b]? = some (.map (es.push ⟨K s, cntV 0, clock⟩) (clock + 1)) := heap_setBlock_same hb _
  have hidx : (es.push ⟨K s, cntV 0, clock⟩).findIdx? (fun e => ((e.born : Nat) : Int) == ((clock : Nat) : Int)) = some es.size := by
    rw [WideElems.findIdx_arr]
    have := WideElems.findIdx_born (l := (es.push ⟨K s, cntV 0, clock⟩).toList) (j := es.size) (e0 := ⟨K s, cntV 0, clock⟩) (by
      simp only [Array.toList_push, List.map_append, List.map_cons, List.map_nil]
      refine List.nodup_append.2 ⟨hnd, by simp, fun a ha c hc e1 => ?_⟩
      simp only [List.mem_singleton] at hc
      obtain ⟨x, hx, rfl⟩ := List.mem_map.1 ha
      have := hlt x hx
      omega) (by simp)
    exact this
  have hmod : (es.push ⟨K s, cntV 0, clock⟩).modify es.size (fun e => { e with val := cntV 1 }) = es.push ⟨K s, cntV 1, clock⟩ := by
    apply Array.ext'
    rw [Array.toList_modify, Array.toList_push, Array.toList_push, ← Array.length_toList, WideElems.modify_last]
  refine ⟨cntV 0, clock, setBlock w b (.map (es.push ⟨K s, cntV 0, clock⟩) (clock + 1)), setBlock w b (.map (es.push ⟨K s, cntV 1, clock⟩) (clock + 1)), ?_, ?_, ?_, ⟨⟨_, _, heap_setBlock_same hb _, ?_, ?_, ?_⟩, ?_, ?_⟩, set_block_gr _ _ _, set_block_gr _ _ _, set_block_size _ _ _⟩
  · simp [Instr.mapEntry, run_underlying ht, MapKept.run_getObj_map hb, hk.keyed.check w false hl, h2, hz, MapKept.run_setObj_map _ hb, Result.andThen, setBlock]
  · have hes : ∀ e ∈ (es.push ⟨K s, cntV 0, clock⟩).toList, ∃ l, keyOf Tryz.prog kt e.key = some l := by
      intro e he
      rw [Array.toList_push] at he
      rcases List.mem_append.1 he with he | he
      · obtain ⟨j, hj⟩ := List.mem_iff_getElem?.1 he
        obtain ⟨s', h1, h2, _⟩ := entG_get hm hj
        rw [h2]
        exact hk.key s' (hok s' (List.mem_of_getElem? h1))
      · rw [List.mem_singleton.1 he]; exact ⟨l, hl⟩
    rcases hk.keyed.find (setBlock w b (.map (es.push ⟨K s, cntV 0, clock⟩) (clock + 1))) hl _ hes with ⟨_, k2⟩ | ⟨j, e, k1, k2, k3⟩
    · exact absurd rfl (k2 ⟨K s, cntV 0, clock⟩ (by rw [Array.toList_push]; exact List.mem_append_right _ (List.mem_singleton.2 rfl)))
    · have hev : e.val = cntV 0 := by
        rw [Array.toList_push] at k2
        rcases Nat.lt_or_ge j es.toList.length with hj | hj
        · rw [List.getElem?_append_left hj] at k2
          obtain ⟨s', q1, q2, _⟩ := entG_get hm k2
          have : s' = s := hk.inj _ _ (q2.symm.trans k3)
          subst this
          exact absurd (List.mem_of_getElem? q1) hn
        · rw [List.getElem?_append_right hj] at k2
          have hj0 : j - es.toList.length = 0 := by
            rcases Nat.eq_zero_or_pos (j - es.toList.length) with h | h
            · exact h
            · rw [List.getElem?_eq_none (by simp only [List.length_singleton]; omega)] at k2; cases k2
          rw [hj0] at k2
          have k2' := Option.some.inj k2
          rw [← k2']
      simp [-Array.toList_push, Instr.lookup, run_underlying ht, MapKept.run_getObj_map hb2, hk.keyed.check _ _ hl, k1, hev, Result.andThen]
  · have e2 := set_block_twice w b (.map (es.push ⟨K s, cntV 0, clock⟩) (clock + 1)) (.map (es.push ⟨K s, cntV 1, clock⟩) (clock + 1))
    rw [← e2]
    generalize setBlock w b (.map (es.push ⟨K s, cntV 0, clock⟩) (clock + 1)) = W2 at *
    simp [Instr.entryStore, MapKept.run_getObj_map hb2, asInt, asIntOf, goInt, hidx, hmod, MapKept.run_setObj_map _ hb2, Result.andThen, setBlock]
  · rw [Array.toList_push, List.map_append, hm, List.map_append]; rfl
  · rw [Array.toList_push, List.map_append]
    refine List.nodup_append.2 ⟨hnd, by simp, fun a ha c hc e1 => ?_⟩
    simp only [List.map_cons, List.map_nil, List.mem_singleton] at hc
    obtain ⟨x, hx, rfl⟩ := List.mem_map.1 ha
    have := hlt x hx
    omega
  · intro e he
    rw [Array.toList_push] at he
    rcases List.mem_append.1 he with he | he
    · have := hlt e he; omega
    · rw [List.mem_singleton.1 he]; exact Nat.lt_succ_self _
  · exact List.nodup_append.2 ⟨hpn, by simp, fun a ha b' hb' e => by simp at hb'; subst hb'; exact hn (e ▸ ha)⟩
  · intro x hx
    rcases List.mem_append.1 hx with hx | hx
    · exact hok x hx
    · rw [List.mem_singleton.1 hx]; exact hs

open Classical in
/-- A key that is there is raised to 2. -/
theorem MapS.bump_old (hk : KeyK K kt ok) (ht : Tryz.prog.underlying mt = some (.map kt 3)) (h : MapS K ok w b pl) (s : α) (hs : s ∈ pl) :
    ∃ (v0 : Value) (st : Nat) (w2 w3 : World), (Instr.mapEntry mt (.map (some b)) (K s)).run Tryz.prog w = .ok (.tuple #[v0, goInt st]) w2 ∧
      (Instr.lookup mt (.map (some b)) (K s) false).run Tryz.prog w2 = .ok (cntV 1) w2 ∧
      (Instr.entryStore mt (.map (some b)) (goInt st) (cntV 2)).run Tryz.prog w2 = .ok () w3 ∧ (∀ W, W.heap[b]? = w3.heap[b]? → (Instr.lookup mt (.map (some b)) (K s) false).run Tryz.prog W = .ok (cntV 2) W) ∧ w.grownBy w2 (some b) ∧ w.grownBy w3 (some b) ∧ w3.heap.size = w.heap.size := by
  have hr := h.2.2 s hs
  obtain ⟨l, hl⟩ := hk.key s hr
  obtain ⟨es, clock, hb, hm, h1⟩ := h.plain.find hk s hr
  obtain ⟨⟨es', clock', hb', hm', hnd, hlt⟩, hpn, hok⟩ := h
  rw [hb] at hb'
  obtain ⟨rfl, rfl⟩ : es = es' ∧ clock = clock' := by simpa using hb'
  rcases h1 with ⟨h1, _⟩ | ⟨j, e0, h1, hj, h3, h2⟩
  · exact absurd hs h1
  have h2' : es.toList[j]? = some e0 := by simpa using hj
  have hev : e0.val = cntV 1 := by
    obtain ⟨s', q1, q2, q3⟩ := entG_get hm h2'
    exact q3
  have hsame : es.modify j (fun e => { e with key := K s }) = es := by
    apply Array.ext'
    rw [Array.toList_modify, ChangeMaps.modify_eq_set _ _ _ _ h2']
    have : ({ e0 with key := K s } : MapEntry) = e0 := by rw [← h3]
    rw [this]
    exact WideElems.set_self _ _ _ h2'
  have hb2 : (setBlock w b (.map es clock)).heap[b]? = some (.map es clock) := heap_setBlock_same hb _
  have hidx : es.findIdx? (fun e => ((e.born : Nat) : Int) == ((e0.born : Nat) : Int)) = some j := by
    rw [WideElems.findIdx_arr]
    exact WideElems.findIdx_born hnd h2'
  have hes : ∀ e ∈ es.toList, ∃ l, keyOf Tryz.prog kt e.key = some l := by
    intro e he
    obtain ⟨j, hj⟩ := List.mem_iff_getElem?.1 he
    obtain ⟨s', h1, h2, _⟩ := entG_get hm hj
    rw [h2]
    exact hk.key s' (hok s' (List.mem_of_getElem? h1))
  have hL : ∀ W, W.heap[b]? = some (.map es clock) → (Instr.lookup mt (.map (some b)) (K s) false).run Tryz.prog W = .ok (cntV 1) W := fun W hW => by
    rcases hk.keyed.find W hl es.toList hes with ⟨_, k2⟩ | ⟨j', e', k1, k2, k3⟩
    · exact absurd h3 (k2 e0 (List.mem_of_getElem? h2'))
    · have hv' : e'.val = cntV 1 := by
        obtain ⟨s', q1, q2, q3⟩ := entG_get hm k2
        exact q3
      simp [Instr.lookup, run_underlying ht, MapKept.run_getObj_map hW, hk.keyed.check _ _ hl, k1, hv', Result.andThen]
  refine ⟨e0.val, e0.born, setBlock w b (.map es clock), setBlock w b (.map (es.modify j (fun e => { e with val := cntV 2 })) clock), ?_, hL _ hb2, ?_, ?_, set_block_gr _ _ _, set_block_gr _ _ _, set_block_size _ _ _⟩
  · simp [Instr.mapEntry, run_underlying ht, MapKept.run_getObj_map hb, hk.keyed.check w false hl, h2, hj, h3, hev, hk.keyed.stays w hl, hsame, MapKept.run_setObj_map _ hb, Result.andThen, setBlock]
  · have e2 := set_block_twice w b (.map es clock) (.map (es.modify j (fun e => { e with val := cntV 2 })) clock)
    rw [← e2]
    clear hL
    generalize setBlock w b (.map es clock) = W2 at *
    simp [Instr.entryStore, MapKept.run_getObj_map hb2, asInt, asIntOf, goInt, hidx, MapKept.run_setObj_map _ hb2, Result.andThen, setBlock]
  · intro W hW
    rw [heap_setBlock_same hb _] at hW
    have hkeys : ∀ e ∈ (es.modify j (fun e => { e with val := cntV 2 })).toList, ∃ l, keyOf Tryz.prog kt e.key = some l := by
      intro e he
      rw [Array.toList_modify, ChangeMaps.modify_eq_set _ _ _ _ h2'] at he
      rcases List.mem_or_eq_of_mem_set he with he | he
      · exact hes e he
      · rw [he]; exact hes e0 (List.mem_of_getElem? h2')
    rcases hk.keyed.find W hl _ hkeys with ⟨_, k2⟩ | ⟨j', e', k1, k2, k3⟩
    · exfalso
      have hmem : ({ e0 with val := cntV 2 } : MapEntry) ∈ (es.modify j (fun e => { e with val := cntV 2 })).toList := by
        rw [Array.toList_modify, ChangeMaps.modify_eq_set _ _ _ _ h2']
        exact List.mem_set (List.getElem?_eq_some_iff.1 h2').1 _
      exact k2 _ hmem h3
    · have hv' : e'.val = cntV 2 := by
        rw [Array.toList_modify, ChangeMaps.modify_eq_set _ _ _ _ h2'] at k2
        by_cases hjj : j' = j
        · subst hjj
          rw [List.getElem?_set_self (List.getElem?_eq_some_iff.1 h2').1] at k2
          have := Option.some.inj k2
          rw [← this]
        · rw [List.getElem?_set_ne (fun e => hjj e.symm)] at k2
          obtain ⟨s', q1, q2, _⟩ := entG_get hm k2
          obtain ⟨s2, p1, p2, _⟩ := entG_get hm h2'
          have e1 : s' = s := hk.inj _ _ (q2.symm.trans k3)
          have e2 : s2 = s := hk.inj _ _ (p2.symm.trans h3)
          subst e1
          subst e2
          have hlt : j' < pl.length := (List.getElem?_eq_some_iff.1 q1).1
          exact absurd ((List.getElem?_inj hlt hpn).1 (q1.trans p1.symm)) hjj
      simp [-Array.toList_modify, Instr.lookup, run_underlying ht, MapKept.run_getObj_map hW, hk.keyed.check _ _ hl, k1, hv', Result.andThen]
end

/- Legs as keys. -/
def wfI (n : Int) : Prop := (Lit.int .i64 n).wf = true
theorem wfI_of {n : Int} (h : -9223372036854775808 ≤ n) (h2 : n ≤ 9223372036854775807) : wfI n := by
  simp [wfI, Lit.wf, IntKind.min, IntKind.max, IntKind.signed, IntKind.bits]
  omega
theorem wf_u8 (c : UInt8) : (Lit.int .u8 c.toNat).wf = true := by
  have := byte_hi c
  simp [Lit.wf, IntKind.min, IntKind.max, show IntKind.u8.signed = false from rfl, show IntKind.u8.bits = 8 from rfl]
  omega

/-- The value of a leg. -/
def legV (x : ByteArray × Int × Int) : Value := .agg #[.string x.1, .int .i64 x.2.1, .int .i64 x.2.2]
def legOkK (x : ByteArray × Int × Int) : Prop := x.1.size ≤ maxLen ∧ wfI x.2.1 ∧ wfI x.2.2

theorem lits_int {n : Int} (h : wfI n) {d : Nat} : Tryz.prog.keyLits (d + 1) 3 [.int .i64 n] = some [.int .i64 n] := by
  unfold Program.keyLits
  simp only [Tryz.underlying3]
  rw [if_pos ⟨trivial, h⟩]
theorem lits_u8 (c : UInt8) {d : Nat} : Tryz.prog.keyLits (d + 1) 5 [.int .u8 c.toNat] = some [.int .u8 c.toNat] := by
  unfold Program.keyLits
  simp only [Tryz.underlying5]
  rw [if_pos ⟨trivial, wf_u8 c⟩]
theorem lits_str {s : ByteArray} (h : s.size ≤ maxLen) {d : Nat} : Tryz.prog.keyLits (d + 1) 9 [.string s] = some [.string s.data.toList] := by
  unfold Program.keyLits
  simp only [Tryz.underlying9]
  rw [if_pos h]

theorem cells_int : Tryz.prog.cellsOf 3 = 1 := by kernel_rfl
theorem cells_u8 : Tryz.prog.cellsOf 5 = 1 := by kernel_rfl
theorem cells_str : Tryz.prog.cellsOf 9 = 1 := by kernel_rfl

theorem lits_key {s : ByteArray} {n : Int} (h : s.size ≤ maxLen) (hn : wfI n) {d : Nat} : ∃ ls, Tryz.prog.keyLits (d + 2) 61 [.string s, .int .i64 n] = some ls := by
  have he : ∃ f0 f1 : Field, Tryz.prog.underlying 61 = some (.struct #[f0, f1]) ∧ f0.offset = 0 ∧ f1.offset = 1 ∧ f0.type = 9 ∧ f1.type = 3 ∧ (f0.name != "_") = true ∧ (f1.name != "_") = true := ⟨_, _, Tryz.underlying61, rfl, rfl, rfl, rfl, rfl, rfl⟩
  obtain ⟨f0, f1, he, o0, o1, t0, t1, n0, n1⟩ := he
  have hc : Tryz.prog.cellsOf 61 = 2 := by kernel_rfl
  have h0 := lits_str h (d := d)
  have h1 := lits_int hn (d := d)
  unfold Program.keyLits
  simp [he, hc, o0, o1, t0, t1, cells_str, cells_int, n0, n1, h0, h1]

theorem leg_keyed : Maps.Keyed Tryz.prog 63 := .of_law (deep_law_gate (by kernel_rfl) (Nat.le_of_ble_eq_true (by kernel_rfl)) (Nat.le_of_ble_eq_true (by kernel_rfl)) (by kernel_rfl) (by kernel_rfl))

theorem types_three : ∃ m, Tryz.prog.types.size = m + 3 := ⟨Tryz.prog.types.size - 3, by kernel_rfl⟩

theorem leg_key (x : ByteArray × Int × Int) (h : legOkK x) : ∃ l, keyOf Tryz.prog 63 (legV x) = some l := by
  obtain ⟨s, n, d⟩ := x
  obtain ⟨h1, h2, h3⟩ := h
  simp only at h1 h2 h3
  have hk : Tryz.prog.keyType 63 = true := by kernel_rfl
  have he : ∃ f0 f1 : Field, Tryz.prog.underlying 63 = some (.struct #[f0, f1]) ∧ f0.offset = 0 ∧ f1.offset = 2 ∧ f0.type = 61 ∧ f1.type = 3 ∧ (f0.name != "_") = true ∧ (f1.name != "_") = true := ⟨_, _, Tryz.underlying63, rfl, rfl, rfl, rfl, rfl, rfl⟩
  obtain ⟨f0, f1, he, o0, o1, t0, t1, n0, n1⟩ := he
  have hc : Tryz.prog.cellsOf 63 = 3 := by kernel_rfl
  have hck : Tryz.prog.cellsOf 61 = 2 := by kernel_rfl
  have hfm : (legV (s, n, d)).formed Tryz.prog 63 = true := by
    simp [legV, Value.formed, he, hc]
  obtain ⟨m, hm⟩ := types_three
  obtain ⟨l0, k0⟩ := lits_key h1 h2 (d := m + 1)
  have k1 := lits_int h3 (d := m + 2)
  have hl : ∃ ls, Tryz.prog.keyLits (m + 3 + 1) 63 (legV (s, n, d)).cells.toList = some ls := by
    unfold Program.keyLits
    simp [he, hc, legV, Value.cells, o0, o1, t0, t1, hck, cells_int, n0, n1, k0, k1]
  obtain ⟨ls, hl⟩ := hl
  unfold keyOf
  rw [he, hm]
  simp only [hk, hfm, hl]
  exact ⟨_, rfl⟩

theorem leg_keyK : KeyK legV 63 legOkK where
  keyed := leg_keyed
  key := leg_key
  inj := fun a b h => by
    obtain ⟨s, n, d⟩ := a
    obtain ⟨s', n', d'⟩ := b
    unfold legV at h
    simp at h
    obtain ⟨h1, h2, h3⟩ := h
    rw [h1, h2, h3]

/- Seats of segments as keys. -/
def takV (x : Int × Int × UInt8) : Value := .agg #[.int .i64 x.1, .int .i64 x.2.1, .int .u8 x.2.2.toNat]
def takOkK (x : Int × Int × UInt8) : Prop := wfI x.1 ∧ wfI x.2.1

theorem lits_seat {n : Int} {c : UInt8} (hn : wfI n) {d : Nat} : ∃ ls, Tryz.prog.keyLits (d + 2) 71 [.int .i64 n, .int .u8 c.toNat] = some ls := by
  have he : ∃ f0 f1 : Field, Tryz.prog.underlying 71 = some (.struct #[f0, f1]) ∧ f0.offset = 0 ∧ f1.offset = 1 ∧ f0.type = 3 ∧ f1.type = 5 ∧ (f0.name != "_") = true ∧ (f1.name != "_") = true := ⟨_, _, Tryz.underlying71, rfl, rfl, rfl, rfl, rfl, rfl⟩
  obtain ⟨f0, f1, he, o0, o1, t0, t1, n0, n1⟩ := he
  have hc : Tryz.prog.cellsOf 71 = 2 := by kernel_rfl
  have h0 := lits_int hn (d := d)
  have h1 := lits_u8 c (d := d)
  unfold Program.keyLits
  simp [he, hc, o0, o1, t0, t1, cells_int, cells_u8, n0, n1, h0, h1]

theorem tak_keyed : Maps.Keyed Tryz.prog 129 := .of_law (deep_law_gate (by kernel_rfl) (Nat.le_of_ble_eq_true (by kernel_rfl)) (Nat.le_of_ble_eq_true (by kernel_rfl)) (by kernel_rfl) (by kernel_rfl))

theorem tak_key (x : Int × Int × UInt8) (h : takOkK x) : ∃ l, keyOf Tryz.prog 129 (takV x) = some l := by
  obtain ⟨n, d, c⟩ := x
  obtain ⟨h1, h2⟩ := h
  simp only at h1 h2
  have hk : Tryz.prog.keyType 129 = true := by kernel_rfl
  have he : ∃ f0 f1 : Field, Tryz.prog.underlying 129 = some (.struct #[f0, f1]) ∧ f0.offset = 0 ∧ f1.offset = 1 ∧ f0.type = 3 ∧ f1.type = 71 ∧ (f0.name != "_") = true ∧ (f1.name != "_") = true := ⟨_, _, Tryz.underlying129, rfl, rfl, rfl, rfl, rfl, rfl⟩
  obtain ⟨f0, f1, he, o0, o1, t0, t1, n0, n1⟩ := he
  have hc : Tryz.prog.cellsOf 129 = 3 := by kernel_rfl
  have hck : Tryz.prog.cellsOf 71 = 2 := by kernel_rfl
  have hfm : (takV (n, d, c)).formed Tryz.prog 129 = true := by
    simp [takV, Value.formed, he, hc]
  obtain ⟨m, hm⟩ := types_three
  have k0 := lits_int h1 (d := m + 2)
  obtain ⟨l1, k1⟩ := lits_seat h2 (c := c) (d := m + 1)
  have hl : ∃ ls, Tryz.prog.keyLits (m + 3 + 1) 129 (takV (n, d, c)).cells.toList = some ls := by
    unfold Program.keyLits
    simp [he, hc, takV, Value.cells, o0, o1, t0, t1, hck, cells_int, n0, n1, k0, k1]
  obtain ⟨ls, hl⟩ := hl
  unfold keyOf
  rw [he, hm]
  simp only [hk, hfm, hl]
  exact ⟨_, rfl⟩

theorem tak_keyK : KeyK takV 129 takOkK where
  keyed := tak_keyed
  key := tak_key
  inj := fun a b h => by
    obtain ⟨n, d, c⟩ := a
    obtain ⟨n', d', c'⟩ := b
    unfold takV at h
    simp at h
    obtain ⟨h1, h2, h3⟩ := h
    rw [h1, h2, show c = c' from UInt8.toNat_inj.1 (by omega)]
end Go.Proofs.YtofomopmmopflaaGreatDoor
