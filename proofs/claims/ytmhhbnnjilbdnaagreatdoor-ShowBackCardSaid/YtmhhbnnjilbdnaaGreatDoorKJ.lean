/- A map, as a list of keys and a function on them; the map of holders by seat. The lines of a map of seats, plain. Rows of bytes that came of a string: they are marked behind their end; appending to them; a range over a string whose world turns. -/
import Derived.Test.YtmhhbnnjilbdnaaGreatDoorKA
import Derived.Test.YtmhhbnnjilbdnaaGreatDoorKB
import Derived.Test.YtmhhbnnjilbdnaaGreatDoorKD
import Derived.Test.YtmhhbnnjilbdnaaGreatDoorKF
import Derived.Test.YtmhhbnnjilbdnaaGreatDoorPlnP
import Derived.Test.YtmhhbnnjilbdnaaGreatDoorKG
import Derived.Test.YtmhhbnnjilbdnaaGreatDoorSD
import Derived.Test.YtmhhbnnjilbdnaaGreatDoorRows
import Derived.WalkKit
import Derived.WalkSpells
import Derived.WalkLawsBesides
import Derived.Lib.ConvBytes
import Derived.Lib.Hide
import Derived.Lib.SliceRun
import Derived.IntWalk
import Derived.BigQuiet
import Derived.Deep.QuietTactic
import Derived.Deep.RegionWith
import Derived.Deep.RegionHeld3
import Derived.Deep.LoopGhost
import Derived.Deep.CutRange
import Derived.Deep.CutBlock
import Derived.Deep.MidRow
import Derived.Laws.OwnMore
import Derived.OwnWalk
import Derived.Laws.AppendOwnNone
import Derived.Laws.Rows
import Derived.Laws.MakeOwn
import Derived.Laws.CopyOwn
import Derived.Laws.BitsAllLaws
import Derived.DeepKeys5
import Derived.Maps.OwnOps
import Derived.Handy
import Derived.Lib.AppendStr
import Derived.StillTailTactics
import Derived.Deep.AppendLies
import Derived.ProofKit
import Derived.OpenShut
import Derived.SliceStrings
import Derived.Lib.SmallJoins
import Derived.Deep.SlicePairs
import Derived.ChangeSlices
import Derived.WideKeyEntry
import Derived.Tactics2
import Derived.Defers
import Derived.Recover
import Derived.Shelf.Strconv.Itoa0
import Derived.Shelf.Strconv.Itoa1
import Derived.Shelf.LaysM
import Derived.Shelf.Strconv.Itoa2
import Derived.Shelf.Strconv.Itoa3
import Derived.Maps.AppendAt
import Derived.Lib.Bytealg
import Derived.Deep.RegionLaw
import Derived.Shelf.Strings.Builder1
import Derived.Shelf.Strings.Builder2
import Derived.Shelf.Strings.Count
import Derived.Shelf.Strings.Split
import Derived.Shelf.Strings.Replace
import Derived.Lib.ReplaceLaws
import Derived.ArgAppend
import Derived.Laws.RangeString
namespace Go.Proofs.YtmhhbnnjilbdnaaGreatDoor.Sh
open Go.RowKit Go.ChangeMaps
set_option linter.unusedSimpArgs false
set_option linter.unusedVariables false
set_option maxRecDepth 20000

/-- What is asked of keys. -/
structure KeyK {α : Type} (K : α → Value) (kt : TypeId) (ok : α → Prop) : Prop where
  keyed : Maps.Keyed Tryz.prog kt
  key : ∀ s, ok s → ∃ l, keyOf Tryz.prog kt (K s) = some l
  inj : ∀ a b, K a = K b → a = b

section
variable {α β : Type} {K : α → Value} {V : β → Value} {kt vt mt : TypeId} {ok : α → Prop}

/-- Block b is a map with just the keys pl, and f of them. -/
def MapG (K : α → Value) (V : β → Value) (ok : α → Prop) (w : World) (b : Nat) (pl : List α) (f : α → β) : Prop :=
  (∃ es clock, w.heap[b]? = some (.map es clock) ∧ es.toList.map (fun e => (e.key, e.val)) = pl.map fun s => (K s, V (f s))) ∧ pl.Nodup ∧ ∀ s ∈ pl, ok s

variable {w w' : World} {b : Nat} {pl : List α} {f : α → β}

theorem MapG.lt (h : MapG K V ok w b pl f) : b < w.heap.size := by
  obtain ⟨⟨es, clock, hb, _⟩, _⟩ := h
  exact (Array.getElem?_eq_some_iff.1 hb).1

theorem MapG.kept {row : Option Nat} (h : MapG K V ok w b pl f) (hg : w.grownBy w' row) (hne : some b ≠ row) : MapG K V ok w' b pl f := by
  have hlt := h.lt
  obtain ⟨⟨es, clock, hb, hm⟩, h2⟩ := h
  exact ⟨⟨es, clock, (hg.block b hlt hne).trans hb, hm⟩, h2⟩

theorem MapG.keep {B : Nat} (h : MapG K V ok w b pl f) (hb : Below B w w') (hB : b < B) : MapG K V ok w' b pl f := by
  obtain ⟨⟨es, clock, hb1, hm⟩, h2⟩ := h
  exact ⟨⟨es, clock, (hb.block b hB).trans hb1, hm⟩, h2⟩

theorem MapG.mono (h : MapG K V ok w b pl f) (hb : Below w.heap.size w w') : MapG K V ok w' b pl f := h.keep hb h.lt

theorem MapG.made (w : World) (f : α → β) : MapG K V ok (w.alloc (.map #[] 0)) w.heap.size [] f :=
  ⟨⟨#[], 0, (MapKept.heap_alloc w _).1, rfl⟩, List.nodup_nil, fun _ h => nomatch h⟩

theorem entG_get {es : Array MapEntry} (hm : es.toList.map (fun e => (e.key, e.val)) = pl.map fun s => (K s, V (f s))) {j : Nat} {e : MapEntry} (h : es.toList[j]? = some e) :
    ∃ s, pl[j]? = some s ∧ e.key = K s ∧ e.val = V (f s) := by
  have h1 : (es.toList.map (fun e => (e.key, e.val)))[j]? = some (e.key, e.val) := by rw [List.getElem?_map, h]; rfl
  rw [hm, List.getElem?_map] at h1
  cases h2 : pl[j]? with
  | none => rw [h2] at h1; cases h1
  | some s =>
    rw [h2] at h1
    simp at h1
    exact ⟨s, rfl, h1.1.symm, h1.2.symm⟩

theorem MapG.find (hk : KeyK K kt ok) (h : MapG K V ok w b pl f) (s : α) (hs : ok s) :
    ∃ es clock, w.heap[b]? = some (.map es clock) ∧ es.toList.map (fun e => (e.key, e.val)) = (pl.map fun s => (K s, V (f s))) ∧
      ((s ∉ pl ∧ (Instr.findKey kt (K s) es.toList).run Tryz.prog w = .ok none w) ∨ ∃ j e, pl[j]? = some s ∧ es[j]? = some e ∧ e.key = K s ∧ (Instr.findKey kt (K s) es.toList).run Tryz.prog w = .ok (some (j, V (f s))) w) := by
  obtain ⟨⟨es, clock, hb, hm⟩, hn, hok⟩ := h
  refine ⟨es, clock, hb, hm, ?_⟩
  obtain ⟨l, hl⟩ := hk.key s hs
  have hes : ∀ e ∈ es.toList, ∃ l, keyOf Tryz.prog kt e.key = some l := by
    intro e he
    obtain ⟨j, hj⟩ := List.mem_iff_getElem?.1 he
    obtain ⟨s', h1, h2, _⟩ := entG_get hm hj
    rw [h2]
    exact hk.key s' (hok s' (List.mem_of_getElem? h1))
  rcases hk.keyed.find w hl es.toList hes with ⟨h1, h2⟩ | ⟨j, e, h1, h2, h3⟩
  · refine .inl ⟨fun hmem => ?_, h1⟩
    obtain ⟨j, hj⟩ := List.mem_iff_getElem?.1 hmem
    have h3 : (es.toList.map (fun e => (e.key, e.val)))[j]? = some (K s, V (f s)) := by rw [hm, List.getElem?_map, hj]; rfl
    rw [List.getElem?_map] at h3
    cases h4 : es.toList[j]? with
    | none => rw [h4] at h3; cases h3
    | some e =>
      rw [h4] at h3
      simp at h3
      exact h2 e (List.mem_of_getElem? h4) h3.1
  · obtain ⟨s', k1, k2, k3⟩ := entG_get hm h2
    have : s' = s := hk.inj _ _ (k2.symm.trans h3)
    subst this
    refine .inr ⟨j, e, k1, by simpa using h2, h3, ?_⟩
    rw [h1, k3]

theorem MapG.look (hk : KeyK K kt ok) (ht : Tryz.prog.underlying mt = some (.map kt vt)) {z : Value} (hz : (zeroValue vt).run Tryz.prog w = .ok z w) (h : MapG K V ok w b pl f) (c : Bool) (s : α) (hs : ok s) :
    (s ∈ pl ∧ (Instr.lookup mt (.map (some b)) (K s) c).run Tryz.prog w = .ok (if c then .tuple #[V (f s), .bool true] else V (f s)) w) ∨
    (s ∉ pl ∧ (Instr.lookup mt (.map (some b)) (K s) c).run Tryz.prog w = .ok (if c then .tuple #[z, .bool false] else z) w) := by
  obtain ⟨l, hl⟩ := hk.key s hs
  obtain ⟨es, clock, hb, hm, h1⟩ := h.find hk s hs
  rcases h1 with ⟨h1, h2⟩ | ⟨j, e, h1, h2, h3, h4⟩
  · exact .inr ⟨h1, by simp [Instr.lookup, run_underlying ht, MapKept.run_getObj_map hb, hk.keyed.check w _ hl, h2, hz, Result.andThen]⟩
  · exact .inl ⟨List.mem_of_getElem? h1, by simp [Instr.lookup, run_underlying ht, MapKept.run_getObj_map hb, hk.keyed.check w _ hl, h4, Result.andThen]⟩

def setG [DecidableEq α] (f : α → β) (s : α) (m : β) : α → β := fun x => if x = s then m else f x

theorem run_put_newG {P : Program} {k t e : TypeId} {w : World} {b : Nat} {es : Array MapEntry} {clock : Nat} (K : Maps.Keyed P k) (ht : P.underlying t = some (.map k e)) (hb : w.heap[b]? = some (.map es clock)) {key val : Value} {l : Lit} (hl : keyOf P k key = some l)
    (h2 : (Instr.findKey k key es.toList).run P w = .ok none w) : (Instr.mapUpdate t (.map (some b)) key val).run P w = .ok () (setBlock w b (.map (es.push ⟨key, val, clock⟩) (clock + 1))) := by
  have hs := MapKept.run_setObj_map (P := P) (.map (es.push ⟨key, val, clock⟩) (clock + 1)) hb
  simp only [Instr.mapUpdate, Sem.run_bind, run_underlying ht, Result.andThen_ok, MapKept.run_getObj_map hb, K.check w false hl, h2]
  exact hs

theorem MapG.add [DecidableEq α] (hk : KeyK K kt ok) (ht : Tryz.prog.underlying mt = some (.map kt vt)) (h : MapG K V ok w b pl f) (s : α) (m : β) (hs : ok s) (hn : s ∉ pl) :
    ∃ w', (Instr.mapUpdate mt (.map (some b)) (K s) (V m)).run Tryz.prog w = .ok () w' ∧ MapG K V ok w' b (pl ++ [s]) (setG f s m) ∧ w.grownBy w' (some b) ∧ w'.heap.size = w.heap.size := by
  obtain ⟨l, hl⟩ := hk.key s hs
  obtain ⟨es, clock, hb, hm, h1⟩ := h.find hk s hs
  obtain ⟨_, hnd, hok⟩ := h
  rcases h1 with ⟨h1, h2⟩ | ⟨j, e, h1, h2, h3, h4⟩
  · refine ⟨setBlock w b (.map (es.push ⟨K s, V m, clock⟩) (clock + 1)), ?_, ⟨⟨_, _, heap_setBlock_same hb _, ?_⟩, ?_, ?_⟩, ⟨rfl, rfl, rfl, by simp [setBlock], fun i _ hi => heap_setBlock_other hb _ (fun e => hi (by rw [e]))⟩, by simp [setBlock]⟩
    · exact run_put_newG hk.keyed ht hb hl h2
    · have e1 : pl.map (fun x => (K x, V (setG f s m x))) = pl.map fun x => (K x, V (f x)) := by
        refine List.map_congr_left fun x hx => ?_
        unfold setG
        rw [if_neg (fun e : x = s => hn (e ▸ hx))]
      have e2 : setG f s m s = m := if_pos rfl
      rw [Array.toList_push, List.map_append, hm, List.map_append, e1, List.map_singleton, List.map_singleton, e2]
    · exact List.nodup_append.2 ⟨hnd, by simp, fun a ha b' hb' e => by simp at hb'; subst hb'; exact hn (e ▸ ha)⟩
    · intro x hx
      rcases List.mem_append.1 hx with hx | hx
      · exact hok x hx
      · simp at hx; rw [hx]; exact hs
  · exact absurd (List.mem_of_getElem? h1) hn

theorem setG_map [DecidableEq α] {pl : List α} (hn : pl.Nodup) {f : α → β} {s : α} {m : β} : ∀ {j : Nat}, pl[j]? = some s → (pl.map fun s => (K s, V (f s))).set j (K s, V m) = pl.map fun x => (K x, V (setG f s m x)) := by
  induction pl with
  | nil => intro j h; simp at h
  | cons a t ih =>
    intro j h
    obtain ⟨h1, h2⟩ := List.nodup_cons.1 hn
    cases j with
    | zero =>
      simp at h
      subst h
      simp only [List.map_cons, List.set_cons_zero]
      congr 1
      · simp [setG]
      · refine List.map_congr_left fun x hx => ?_
        unfold setG
        rw [if_neg (fun e : x = a => h1 (e ▸ hx))]
    | succ j =>
      simp at h
      simp only [List.map_cons, List.set_cons_succ, ih h2 h]
      congr 1
      unfold setG
      rw [if_neg (fun e : a = s => h1 (by rw [e]; exact List.mem_of_getElem? h))]

theorem MapG.set [DecidableEq α] (hk : KeyK K kt ok) (ht : Tryz.prog.underlying mt = some (.map kt vt)) (h : MapG K V ok w b pl f) (s : α) (m : β) (hs : s ∈ pl) :
    ∃ w', (Instr.mapUpdate mt (.map (some b)) (K s) (V m)).run Tryz.prog w = .ok () w' ∧ MapG K V ok w' b pl (setG f s m) ∧ w.grownBy w' (some b) ∧ w'.heap.size = w.heap.size := by
  have hr := h.2.2 s hs
  obtain ⟨l, hl⟩ := hk.key s hr
  obtain ⟨es, clock, hb, hm, h1⟩ := h.find hk s hr
  obtain ⟨_, hnd, hok⟩ := h
  rcases h1 with ⟨h1, h2⟩ | ⟨j, e, h1, h2, h3, h4⟩
  · exact absurd hs h1
  · have h2' : es.toList[j]? = some e := by simpa using h2
    refine ⟨setBlock w b (.map (es.modify j (fun e' => { e' with key := K s, val := V m })) clock), ?_, ⟨⟨_, _, heap_setBlock_same hb _, ?_⟩, hnd, hok⟩, ⟨rfl, rfl, rfl, by simp [setBlock], fun i _ hi => heap_setBlock_other hb _ (fun e => hi (by rw [e]))⟩, by simp [setBlock]⟩
    · simp [Instr.mapUpdate, run_underlying ht, MapKept.run_getObj_map hb, hk.keyed.check w false hl, h4, h2, h3, hk.keyed.stays w hl, MapKept.run_setObj_map _ hb, Result.andThen, setBlock]
    · rw [Array.toList_modify, ChangeMaps.modify_eq_set _ _ _ _ h2', List.map_set, hm]
      exact setG_map hnd h1

end

/-- A holder: a locator and the passenger's number. -/
abbrev HoT := ByteArray × Int
def hoV (h : HoT) : Value := .agg #[.string h.1, .int .i64 h.2]
theorem st_keyK : KeyK seatK_c 46 (fun s : Int × UInt8 => okRow s.1) where
  keyed := seat_keyed
  key := fun s h => seat_key s h
  inj := fun a b h => seatK_inj h
theorem zero_ho (w : World) : (zeroValue 91).run Tryz.prog w = .ok (hoV (⟨#[]⟩, 0)) w := by kernel_rfl
end Go.Proofs.YtmhhbnnjilbdnaaGreatDoor.Sh
namespace Go.Proofs.YtmhhbnnjilbdnaaGreatDoor.Sh
open Go.RowKit Go.ChangeMaps En
set_option linter.unusedSimpArgs false
set_option linter.unusedVariables false

/- Replacing one byte by another. -/
theorem ix1_none {a : UInt8} : ∀ {s : List UInt8}, Lib.index s [a] = -1 → ∀ c ∈ s, c ≠ a
  | [], _, c, hc => by cases hc
  | b :: l, h, c, hc => by
    unfold Lib.index at h
    have hge := Lib.index_ge l [a]
    by_cases e : ([a].isPrefixOf (b :: l)) = true
    · rw [if_pos e] at h; cases h
    · rw [if_neg e] at h
      have hba : b ≠ a := fun e2 => e (by subst e2; simp [List.isPrefixOf])
      have hl : Lib.index l [a] = -1 := by
        by_cases e3 : (Lib.index l [a] == -1) = true
        · exact beq_iff_eq.1 e3
        · rw [if_neg e3] at h; omega
      rcases List.mem_cons.1 hc with rfl | hc
      · exact hba
      · exact ix1_none hl c hc
theorem ix1_some {a : UInt8} : ∀ {s : List UInt8} {i : Nat}, Lib.index s [a] = (i : Int) → (∀ c ∈ s.take i, c ≠ a) ∧ s = s.take i ++ a :: s.drop (i + 1)
  | [], i, h => by unfold Lib.index at h; simp at h
  | b :: l, i, h => by
    unfold Lib.index at h
    have hge := Lib.index_ge l [a]
    by_cases e : ([a].isPrefixOf (b :: l)) = true
    · rw [if_pos e] at h
      have : i = 0 := by omega
      subst this
      have hba : a = b := by simpa [List.isPrefixOf] using e
      subst hba
      exact ⟨fun c hc => by simp at hc, by simp⟩
    · rw [if_neg e] at h
      have hba : b ≠ a := fun e2 => e (by subst e2; simp [List.isPrefixOf])
      by_cases e3 : (Lib.index l [a] == -1) = true
      · rw [if_pos e3] at h; omega
      · rw [if_neg e3] at h
        have hne : Lib.index l [a] ≠ -1 := fun e4 => e3 (beq_iff_eq.2 e4)
        obtain ⟨j, hj⟩ : ∃ j : Nat, i = j + 1 := ⟨i - 1, by clear e e3; generalize Lib.index l [a] = d at *; omega⟩
        subst hj
        obtain ⟨k1, k2⟩ := ix1_some (a := a) (s := l) (i := j) (by omega)
        refine ⟨fun c hc => ?_, ?_⟩
        · rw [List.take_succ_cons] at hc
          rcases List.mem_cons.1 hc with rfl | hc
          · exact hba
          · exact k1 c hc
        · rw [List.take_succ_cons, List.drop_succ_cons, List.cons_append, ← k2]
def swp (a b c : UInt8) : UInt8 := if c = a then b else c
theorem map_swp_no {a b : UInt8} {l : List UInt8} (h : ∀ c ∈ l, c ≠ a) : l.map (swp a b) = l := by
  conv => rhs; rw [← List.map_id l]
  exact List.map_congr_left fun c hc => if_neg (h c hc)
theorem replaceK1 {a b : UInt8} : ∀ (n : Nat) (s : List UInt8), s.length ≤ n → Lib.replaceK [a] [b] (Lib.count s [a]) s = s.map (swp a b) := by
  intro n
  induction n with
  | zero =>
    intro s hs
    have : s = [] := List.length_eq_zero_iff.1 (by omega)
    subst this
    rw [Lib.count_miss (by rfl)]
    rfl
  | succ n ih =>
    intro s hs
    have hge := Lib.index_ge s [a]
    by_cases hm : Lib.index s [a] = -1
    · rw [Lib.count_miss hm, map_swp_no (ix1_none hm)]
      rfl
    · obtain ⟨i, hi⟩ : ∃ i : Nat, Lib.index s [a] = (i : Int) := ⟨(Lib.index s [a]).toNat, by omega⟩
      obtain ⟨k1, k2⟩ := ix1_some hi
      rw [Lib.count_hit (by simp) hi, Nat.add_comm 1, Lib.replaceK_hit _ _ _ _ i hi]
      show s.take i ++ [b] ++ Lib.replaceK [a] [b] (Lib.count (s.drop (i + 1)) [a]) (s.drop (i + 1)) = _
      have hlen : (s.drop (i + 1)).length ≤ n := by
        have := congrArg List.length k2
        rw [List.length_append, List.length_cons] at this
        omega
      rw [ih _ hlen]
      conv => rhs; rw [k2]
      rw [List.map_append, List.map_cons, map_swp_no k1, show swp a b a = b from if_pos rfl]
      simp
theorem replace1 {a b : UInt8} (hab : a ≠ b) (s : List UInt8) : Lib.replaceAll s [a] [b] = s.map (swp a b) := by
  unfold Lib.replaceAll Lib.replace
  rw [if_neg (by simpa using hab)]
  unfold Lib.replaceNum
  rw [if_pos (.inl (by decide))]
  exact replaceK1 _ s (Nat.le_refl _)

/- The holders. -/
abbrev HeT := St × HoT
def heC (x : HeT) : List Value := [.int .i64 x.1.1, .int .u8 x.1.2.toNat, .string x.2.1, .int .i64 x.2.2]
theorem heC_len (x : HeT) : (heC x).length = 4 := rfl
def hl0 : HeT := ((0, 0), (⟨#[]⟩, 0))
/-- Who holds a seat: the first one told. -/
def whoH (held : List HeT) (s : St) : Option HeT := held.find? fun x => decide (x.1 = s)
/-- A map of holders says who holds. -/
def WhoP (held : List HeT) (pl : List St) (f : St → HoT) : Prop := ∀ s, (whoH held s).map (·.2) = if s ∈ pl then some (f s) else none
theorem WhoP.nil (f : St → HoT) : WhoP [] [] f := fun s => rfl
theorem whoH_cons (x : HeT) (held : List HeT) (s : St) : whoH (x :: held) s = if x.1 = s then some x else whoH held s := by
  unfold whoH
  rw [List.find?_cons]
  by_cases h : x.1 = s
  · rw [decide_eq_true h, if_pos h]
  · rw [decide_eq_false h, if_neg h]
theorem WhoP.add {held : List HeT} {pl : List St} {f : St → HoT} (h : WhoP held pl f) (x : HeT) (hn : x.1 ∉ pl) : WhoP (x :: held) (pl ++ [x.1]) (setG f x.1 x.2) := fun s => by
  rw [whoH_cons]
  by_cases e : x.1 = s
  · subst e
    rw [if_pos rfl, if_pos (by simp)]
    simp [setG]
  · have h2 := h s
    rw [if_neg e, h2]
    have e2 : ¬ s = x.1 := fun e3 => e e3.symm
    by_cases hm : s ∈ pl
    · rw [if_pos hm, if_pos (by simp [hm]), setG, if_neg e2]
    · rw [if_neg hm, if_neg (by simp [hm, e2])]
theorem WhoP.set {held : List HeT} {pl : List St} {f : St → HoT} (h : WhoP held pl f) (x : HeT) (hn : x.1 ∈ pl) : WhoP (x :: held) pl (setG f x.1 x.2) := fun s => by
  rw [whoH_cons]
  by_cases e : x.1 = s
  · subst e
    rw [if_pos rfl, if_pos hn]
    simp [setG]
  · have h2 := h s
    rw [if_neg e, h2]
    have e2 : ¬ s = x.1 := fun e3 => e e3.symm
    by_cases hm : s ∈ pl
    · rw [if_pos hm, if_pos hm, setG, if_neg e2]
    · rw [if_neg hm, if_neg hm]

abbrev MapH (w : World) (b : Nat) (pl : List St) (f : St → HoT) : Prop := MapG seatK_c hoV (fun s : St => okRow s.1) w b pl f

/-- 'who[x.Seat] = x.Holder'. -/
theorem who_put {w : World} {b : Nat} {held : List HeT} {pl : List St} {f : St → HoT} (hm : MapH w b pl f) (hw : WhoP held pl f) (x : HeT) (hx : okRow x.1.1) :
    ∃ w', (Instr.mapUpdate 89 (.map (some b)) (.agg #[.int .i64 x.1.1, .int .u8 x.1.2.toNat]) (.agg #[.string x.2.1, .int .i64 x.2.2])).run Tryz.prog w = .ok () w' ∧ (∃ pl' f', MapH w' b pl' f' ∧ WhoP (x :: held) pl' f') ∧ w.grownBy w' (some b) ∧ w'.heap.size = w.heap.size := by
  by_cases h : x.1 ∈ pl
  · obtain ⟨w', h1, h2, h3, h4⟩ := MapG.set st_keyK Tryz.underlying89 hm x.1 x.2 h
    exact ⟨w', h1, ⟨_, _, h2, hw.set x h⟩, h3, h4⟩
  · obtain ⟨w', h1, h2, h3, h4⟩ := MapG.add st_keyK Tryz.underlying89 hm x.1 x.2 hx h
    exact ⟨w', h1, ⟨_, _, h2, hw.add x h⟩, h3, h4⟩

/-- 'h, has := who[s]'. -/
def hoOf (held : List HeT) (s : St) : HoT := ((whoH held s).map (·.2)).getD (⟨#[]⟩, 0)
theorem who_look {w : World} {b : Nat} {held : List HeT} {pl : List St} {f : St → HoT} (hm : MapH w b pl f) (hw : WhoP held pl f) (s : St) (hs : okRow s.1) :
    (Instr.lookup 89 (.map (some b)) (.agg #[.int .i64 s.1, .int .u8 s.2.toNat]) true).run Tryz.prog w = .ok (.tuple #[.agg #[.string (hoOf held s).1, .int .i64 (hoOf held s).2], .bool (whoH held s).isSome]) w := by
  have h := hw s
  unfold hoOf
  rcases MapG.look st_keyK Tryz.underlying89 (zero_ho w) hm true s hs with ⟨h1, h2⟩ | ⟨h1, h2⟩
  · rw [if_pos h1] at h
    rw [h]
    cases hq : whoH held s with
    | none => rw [hq] at h; cases h
    | some y => exact h2
  · rw [if_neg h1] at h
    rw [h]
    cases hq : whoH held s with
    | none => exact h2
    | some y => rw [hq] at h; cases h

/- The lines. -/
def markC (p : Pl) (l : List UInt8) (held : List HeT) (loc : ByteArray) (s : St) : UInt8 :=
  if s.2.toNat = 46 then 32 else if hasB p l s = true then (if (whoH held s).isSome = true then (if (hoOf held s).1 = loc then 43 else 88) else 111) else 35
def rowTx (r : Int) : List UInt8 := (if r < 10 then 32 :: itoaL r else itoaL r) ++ [32]
def exT (x : List Int) (r : Int) : List UInt8 := x.flatMap fun y => if y = r then [32, 69] else []
def mapLn (p : Pl) (l : List UInt8) (held : List HeT) (loc : ByteArray) (r : Int) : List UInt8 := rowTx r ++ (p.lets.data.toList.map (fun c => markC p l held loc (r, c)) ++ exT p.exits r)
def headM (p : Pl) : List UInt8 := [32, 32, 32] ++ p.lets.data.toList.map (swp 46 32)
def mapL (p : Pl) (held : List HeT) (loc : ByteArray) : List (List UInt8) := match letF p.lets.data.toList with
  | none => []
  | some l => if rightB p = true then headM p :: (rowsL p.first p.last).map (mapLn p l held loc) else []
theorem mapL_no {p : Pl} {held : List HeT} {loc : ByteArray} (h : rightB p = false) : mapL p held loc = [] := by
  unfold mapL
  split
  · rfl
  · rw [h]; rfl
theorem mapL_yes {p : Pl} {held : List HeT} {loc : ByteArray} {l : List UInt8} (h : rightB p = true) (hl : letF p.lets.data.toList = some l) : mapL p held loc = headM p :: (rowsL p.first p.last).map (mapLn p l held loc) := by
  unfold mapL
  rw [hl]
  exact if_pos h

/-- '[]byte(strconv.Itoa(100+row)[1:] + " ")', the first byte cleared below ten. -/
theorem dch_mod {a b : Nat} (h : a % 10 = b % 10) : dch a = dch b := by
  unfold dch
  rw [h]
theorem digL_row {n : Nat} (h : n < 100) : digL (100 + n) = [dch 1, dch (n / 10), dch n] := by
  rw [digL_ge (by omega), digL_ge (n := (100 + n) / 10) (by omega), digL_lt (n := (100 + n) / 10 / 10) (by omega)]
  rw [show (100 + n) / 10 / 10 = 1 by omega, dch_mod (show (100 + n) / 10 % 10 = n / 10 % 10 by omega), dch_mod (show (100 + n) % 10 = n % 10 by omega)]
  rfl
theorem row_pre {r : Int} (h1 : 1 ≤ r) (h2 : r ≤ 60) : rowTx r = if r < 10 then [32, dch r.toNat, 32] else [dch (r.toNat / 10), dch r.toNat, 32] := by
  unfold rowTx itoaL
  rw [if_neg (show ¬ r < 0 by omega)]
  by_cases h : r < 10
  · rw [if_pos h, if_pos h, digL_lt (by omega)]
    rfl
  · rw [if_neg h, if_neg h, digL_ge (by omega), digL_lt (by omega)]
    rfl
end Go.Proofs.YtmhhbnnjilbdnaaGreatDoor.Sh
namespace Go.Proofs.YtmhhbnnjilbdnaaGreatDoor.Sh
open Go.RowKit Go.ChangeMaps En
set_option linter.unusedSimpArgs false
set_option linter.unusedVariables false
set_option maxRecDepth 20000

def OwnF (w : World) (B : Nat) (v : Value) (l : List UInt8) : Prop :=
  ∃ g cap cur fr, v = .slice (some ⟨g, 0, none⟩) l.length cap ∧ B ≤ g ∧ w.heap[g]? = some (.cells cur 5 fr) ∧ l.length ≤ cap ∧ cap ≤ maxLen ∧ cur.size = cap ∧ cur.toList.take l.length = l.flatMap byteC ∧ (∀ j, j < cap → ¬ (fr.1 ≤ j ∧ j < fr.2))

theorem flat_len (l : List UInt8) : (l.flatMap byteC).length = l.length := by rw [flat_byte, List.length_map]
theorem OwnF.mono {w w' : World} {B : Nat} {v : Value} {l : List UInt8} (h : OwnF w B v l) (hb : Below w.heap.size w w') : OwnF w' B v l := by
  obtain ⟨g, cap, cur, fr, h1, h2, h3, h4⟩ := h
  exact ⟨g, cap, cur, fr, h1, h2, (hb.block g (Array.getElem?_eq_some_iff.1 h3).1).trans h3, h4⟩
theorem OwnF.kept {w w' : World} {B : Nat} {v : Value} {l : List UInt8} {row : Option Nat} (h : OwnF w B v l) (hg : w.grownBy w' row) (hne : row ≠ v.ownBlock ∨ row = none) : OwnF w' B v l := by
  obtain ⟨g, cap, cur, fr, h1, h2, h3, h4⟩ := h
  refine ⟨g, cap, cur, fr, h1, h2, (hg.block g (Array.getElem?_eq_some_iff.1 h3).1 fun e => ?_).trans h3, h4⟩
  rcases hne with hne | hne
  · exact hne (by rw [h1, ← e]; rfl)
  · rw [hne] at e; cases e
theorem OwnF.lt {w : World} {B : Nat} {v : Value} {l : List UInt8} (h : OwnF w B v l) : ∀ k, v.ownBlock = some k → B ≤ k ∧ k < w.heap.size := by
  obtain ⟨g, cap, cur, fr, rfl, h2, h3, h4⟩ := h
  intro k hk
  have hk : some g = some k := hk
  injection hk with hk
  subst hk
  exact ⟨h2, (Array.getElem?_eq_some_iff.1 h3).1⟩
theorem OwnF.has {w : World} {B : Nat} {v : Value} {l : List UInt8} (h : OwnF w B v l) : HasE byteC w v l := by
  obtain ⟨g, cap, cur, fr, rfl, h2, h3, h4, h5, h6, h7, h8⟩ := h
  refine .inr ⟨g, 0, cap, rfl, by first | exact h4 | omega, by first | exact h5 | omega, ?_⟩
  intro j u hj
  rw [Nat.zero_add, cell_of_row w g j cur _ fr h3]
  rw [← h7] at hj
  rw [List.getElem?_take] at hj
  split at hj
  · simpa using hj
  · cases hj
/-- What is no row of bytes is another block. -/
theorem OwnF.ne {w : World} {B k : Nat} {v : Value} {l : List UInt8} (h : OwnF w B v l) (hk : ∀ cur fr, w.heap[k]? ≠ some (.cells cur 5 fr)) : some k ≠ v.ownBlock := by
  obtain ⟨g, cap, cur, fr, rfl, h2, h3, _⟩ := h
  intro e
  have e : some k = some g := e
  injection e with e
  subst e
  exact hk _ _ h3

/-- '[]byte(s)'. -/
theorem conv_own (s : ByteArray) (w : World) : ∃ w1 v, (convert 9 69 (.string s)).run Tryz.prog w = .ok v w1 ∧ Below w.heap.size w w1 ∧ (s.size ≤ 1000 → OwnF w1 w.heap.size v s.data.toList) ∧ ∃ cap, v = .slice (some ⟨w.heap.size, 0, none⟩) s.size cap := by
  have hr := Lib.run_convert_string_bytes (P := Tryz.prog) w 9 69 5 s Tryz.underlying9 Tryz.underlying69 Tryz.underlying5
  have hge := grownCap_ge w s.size 0 5
  have hsz : (Lib.bytesCells w 5 s).size = grownCap w s.size 0 5 := by
    simp [Lib.bytesCells]
    have e : s.data.size = s.size := rfl
    omega
  refine ⟨_, _, hr, ⟨rfl, rfl, rfl, by rw [Lib.bytesWorld_size]; omega, fun i hi => Lib.bytesWorld_at_old _ _ _ _ hi⟩, fun h1000 => ?_, _, rfl⟩
  have hcm : grownCap w s.size 0 5 ≤ maxLen := grownCap_le_maxLen w s.size 0 5 (by unfold maxLen; omega)
  have hl : s.data.toList.length = s.size := rfl
  refine ⟨w.heap.size, grownCap w s.size 0 5, _, _, by rw [hl], Nat.le_refl _, Lib.bytesWorld_at_new w 5 s, by rw [hl]; exact hge, hcm, hsz, ?_, ?_⟩
  · refine List.ext_getElem? fun j => ?_
    rw [List.getElem?_take, hl]
    split
    · next hj =>
      have h2 := Lib.bytesWorld_cell w 5 s j hj
      rw [cell_of_row _ _ j _ _ _ (Lib.bytesWorld_at_new w 5 s)] at h2
      have hj2 : j < s.data.toList.length := hj
      rw [flat_byte, List.getElem?_map, List.getElem?_eq_getElem hj2]
      rw [Array.getElem?_toList, h2]
      have e9 : s.data.toList.getD j 0 = s.data.toList[j] := by rw [List.getD_eq_getElem?_getD, List.getElem?_eq_getElem hj2]; rfl
      rw [e9]
      rfl
    · next hj =>
      rw [List.getElem?_eq_none]
      rw [flat_len, hl]
      omega
  · intro j hj
    simp only [hsz]
    omega

theorem setCells_blk {g : Nat} {e : TypeId} {fr : Nat × Nat} : ∀ (vs : List Value) (o : Nat) (w : World) (cur : Array Value), w.heap[g]? = some (.cells cur e fr) → o + vs.length ≤ cur.size →
    ∃ cur', (w.setCells g o vs).heap[g]? = some (.cells cur' e fr) ∧ cur'.size = cur.size ∧ cur'.toList = cur.toList.take o ++ vs ++ cur.toList.drop (o + vs.length)
  | [], o, w, cur, h, _ => ⟨cur, h, rfl, by simp⟩
  | v :: r, o, w, cur, h, hl => by
    rw [List.length_cons] at hl
    have h1 : (w.setCell ⟨g, o, none⟩ v).heap[g]? = some (.cells (cur.setIfInBounds o v) e fr) := by
      simp [World.setCell, Array.getElem?_modify, h]
    obtain ⟨cur', k1, k2, k3⟩ := setCells_blk r (o + 1) (w.setCell ⟨g, o, none⟩ v) (cur.setIfInBounds o v) h1 (by simp; omega)
    refine ⟨cur', k1, by rw [k2]; simp, ?_⟩
    have ho : o < cur.toList.length := by rw [Array.length_toList]; omega
    rw [k3, Array.toList_setIfInBounds, List.length_cons]
    have e1 : (cur.toList.set o v).take (o + 1) = cur.toList.take o ++ [v] := by
      rw [List.take_set, List.take_succ_eq_append_getElem ho]
      rw [List.set_append_right _ _ (by simp; omega)]
      have ho2 : o ≤ cur.size := by omega
      simp [Nat.min_eq_left ho2]
    have e2 : (cur.toList.set o v).drop (o + 1 + r.length) = cur.toList.drop (o + (r.length + 1)) := by
      rw [List.drop_set, if_pos (by omega), show o + 1 + r.length = o + (r.length + 1) by omega]
    rw [e1, e2]
    simp

theorem ownF_room {w : World} {B : Nat} {g cap : Nat} {cur : Array Value} {fr : Nat × Nat} {l m : List UInt8} (hB : B ≤ g) (hg : w.heap[g]? = some (.cells cur 5 fr)) (hcm : cap ≤ maxLen) (hs : cur.size = cap) (ht : cur.toList.take l.length = l.flatMap byteC) (hf : ∀ j, j < cap → ¬ (fr.1 ≤ j ∧ j < fr.2)) (hr : l.length + m.length ≤ cap) :
    OwnF (w.setCells g l.length (m.flatMap byteC)) B (.slice (some ⟨g, 0, none⟩) (l.length + m.length) cap) (l ++ m) := by
  obtain ⟨cur', k1, k2, k3⟩ := setCells_blk (m.flatMap byteC) l.length w cur hg (by rw [flat_len]; omega)
  refine ⟨g, cap, cur', fr, by rw [List.length_append], hB, k1, by rw [List.length_append]; exact hr, hcm, by rw [k2]; exact hs, ?_, hf⟩
  rw [k3, ht, List.flatMap_append]
  have e : (l ++ m).length = (l.flatMap byteC ++ m.flatMap byteC).length := by rw [List.length_append, List.length_append, flat_len, flat_len]
  rw [e]
  exact List.take_left

theorem grown_setCells (w : World) (g o : Nat) (vs : List Value) : w.grownBy (w.setCells g o vs) (some g) := by
  induction vs generalizing w o with
  | nil => exact World.grownBy.refl _ _
  | cons v r ih =>
    have h1 : w.grownBy (w.setCell ⟨g, o, none⟩ v) (some g) := gr_setCell1 (World.grownBy.refl _ _) o v
    exact h1.trans (ih (w.setCell ⟨g, o, none⟩ v) (o + 1))

theorem ownF_of_own {w : World} {B : Nat} {v : Value} {l : List UInt8} (h0 : 0 < l.length) (h : w.ownsRow B 5 1 v l.length (l.flatMap byteC)) : OwnF w B v l := by
  rcases h.2 with ⟨_, e⟩ | ⟨g, cap, cur, rfl, h2, h3, h4, h5, h6, h7⟩
  · omega
  · exact ⟨g, cap, cur, (0, 0), rfl, h2, h3, h4, h5, by rw [h6, Nat.mul_one], by rw [← h7, Nat.mul_one], fun j hj => by simp⟩

theorem cells_ownF {w : World} {g : Nat} {cur : Array Value} {fr : Nat × Nat} {l : List UInt8} (hg : w.heap[g]? = some (.cells cur 5 fr)) (ht : cur.toList.take l.length = l.flatMap byteC) : ∀ j u, (l.flatMap byteC)[j]? = some u → w.cell? ((⟨g, 0, none⟩ : Addr).add j) = some u := by
  intro j u hj
  rw [Addr.add_lit, cell_of_row w g (0 + j) cur _ fr hg, Nat.zero_add]
  rw [← ht, List.getElem?_take] at hj
  split at hj
  · simpa using hj
  · cases hj

/-- append of bytes that lie in a slice. -/
theorem run_appF {w : World} {B : Nat} {v : Value} {l : List UInt8} (h : OwnF w B v l) (hB : B ≤ w.heap.size) (hl : l.length ≤ 1000) (ty : TypeId) (a : Addr) (c : Nat) (m : List UInt8) (hm0 : 0 < m.length) (hm : m.length ≤ 1000) (hnews : ∀ j u, (m.flatMap byteC)[j]? = some u → w.cell? (a.add j) = some u)
    (i : TypeInfo) (z : Value) (hi : Tryz.prog.info? 5 = some i) (hz : i.zero = some z) (hsize : i.size = 1) (hby : i.bytes = 1) (hzs : z.cells.size = 1) :
    ∃ v' w', (Builtin.append_ #[69, 69] ty #[v, .slice (some a) m.length c]).run Tryz.prog w = .ok v' w' ∧ OwnF w' B v' (l ++ m) ∧ w.grownBy w' v.ownBlock := by
  obtain ⟨g, cap, cur, fr, rfl, h2, h3, h4, h5, h6, h7, h8⟩ := h
  have hone : ∀ u ∈ m.flatMap byteC, u.oneCell' = true := fun u hu => by
    rw [flat_byte] at hu
    obtain ⟨b, _, rfl⟩ := List.mem_map.1 hu
    rfl
  by_cases hr : l.length + m.length ≤ cap
  · refine ⟨_, _, run_append_room_cells (P := Tryz.prog) w 69 ty 5 i Tryz.underlying69 hi g 0 l.length cap a m.length c (m.flatMap byteC) (by rw [flat_len, hsize, Nat.mul_one]) hnews hone hr ?_ ?_, ?_, grown_setCells _ _ _ _⟩
    · intro j hj
      rw [flat_len] at hj
      rw [hsize, Nat.mul_one, Nat.zero_add, cell_of_row w g _ cur _ fr h3, Array.getElem?_eq_getElem (by omega)]
      rfl
    · intro j hj
      rw [flat_len] at hj
      rw [hsize, Nat.mul_one, Nat.zero_add]
      unfold World.frozen?
      simp only [h3]
      have := h8 (l.length + j) (by omega)
      rw [← Bool.not_eq_true]
      simpa using this
    · have := ownF_room (m := m) h2 h3 h5 h6 h7 h8 hr
      rw [hsize, Nat.mul_one, Nat.zero_add]
      exact this
  · obtain ⟨v', w', k1, k2, k3⟩ := run_append_arg_grows (P := Tryz.prog) w 69 ty 5 i z 1 1 Tryz.underlying69 hi hz hsize hby hzs (by decide) ⟨g, 0, none⟩ l.length cap (l.flatMap byteC) (by rw [flat_len, Nat.mul_one]) (cells_ownF h3 h7) a m.length c (m.flatMap byteC) (by rw [flat_len, Nat.mul_one]) hnews (by omega) (by unfold maxLen; omega) (by omega)
    refine ⟨v', w', k1, ?_, ⟨k3.os, k3.tape, k3.output, k3.size, fun i hi _ => k3.block i hi (by simp)⟩⟩
    refine ownF_of_own (by rw [List.length_append]; omega) ?_
    rw [List.length_append, List.flatMap_append]
    exact own_low k2 hB

/-- append of a text's bytes. -/
theorem run_appS {w : World} {B : Nat} {v : Value} {l : List UInt8} (h : OwnF w B v l) (hB : B ≤ w.heap.size) (hl : l.length ≤ 1000) (ty : TypeId) (s : ByteArray) (hm0 : 0 < s.size) (hm : s.size ≤ 1000)
    (i : TypeInfo) (hi : Tryz.prog.info? 5 = some i) (hz : i.zero = some (.int .u8 0)) (hsize : i.size = 1) (hby : i.bytes = 1) :
    ∃ v' w', (Builtin.append_ #[69, 9] ty #[v, .string s]).run Tryz.prog w = .ok v' w' ∧ OwnF w' B v' (l ++ s.data.toList) ∧ w.grownBy w' v.ownBlock := by
  obtain ⟨g, cap, cur, fr, rfl, h2, h3, h4, h5, h6, h7, h8⟩ := h
  have hsl : s.data.toList.length = s.size := rfl
  have hsc : Lib.strCells s = s.data.toList.flatMap byteC := by
    rw [flat_byte]
    rfl
  by_cases hr : l.length + s.size ≤ cap
  · have hf := Lib.run_firstCells_string (P := Tryz.prog) w 1 s
    have hst := run_storeCells_cells (P := Tryz.prog) g (0 + l.length * 1) (Lib.strCells s) 0 w
      (fun j hj => by
        rw [Lib.strCells_length] at hj
        rw [Nat.mul_one, Nat.zero_add]
        simp only [Nat.add_zero]
        rw [cell_of_row w g _ cur _ fr h3, Array.getElem?_eq_getElem (by omega)]
        rfl)
      (fun j hj => by
        rw [Lib.strCells_length] at hj
        rw [Nat.mul_one, Nat.zero_add]
        simp only [Nat.add_zero]
        unfold World.frozen?
        simp only [h3]
        have := h8 (l.length + j) (by omega)
        rw [← Bool.not_eq_true]
        simpa using this) (Lib.strCells_oneCell s)
    simp only [Nat.add_zero, Nat.mul_one, Nat.zero_add] at hst
    refine ⟨.slice (some ⟨g, 0, none⟩) (l.length + s.size) cap, w.setCells g l.length (Lib.strCells s), ?_, ?_, grown_setCells _ _ _ _⟩
    · simp [Builtin.append_, run_underlying Tryz.underlying69, run_underlying Tryz.underlying9, sizeOf, typeInfo, hi, hsize, Builtin.lenOf, hr, hf, Addr.add_lit, hst]
    · have := ownF_room (m := s.data.toList) h2 h3 h5 h6 h7 h8 (by rw [hsl]; exact hr)
      rw [hsc]
      exact this
  · have hxl : (l.flatMap byteC).length = l.length * i.size := by rw [flat_len, hsize, Nat.mul_one]
    have hrun := Lib.run_append_grow_string (P := Tryz.prog) w 69 9 ty 5 i (.int .u8 0) Tryz.underlying69 Tryz.underlying9 hi hz ⟨g, 0, none⟩ l.length cap (l.flatMap byteC) hxl (cells_ownF h3 h7) s (by omega) (by omega) (by rw [hby]; exact growslice_fits (by omega) (by omega))
    have hge := grownCap_ge w (l.length + s.size) cap 5
    have hcm : grownCap w (l.length + s.size) cap 5 ≤ maxLen := grownCap_le_maxLen w (l.length + s.size) cap 5 (by unfold maxLen; omega)
    refine ⟨_, _, hrun, ⟨w.heap.size, _, _, (0, 0), by rw [List.length_append, hsl], hB, heap_alloc_new w.drew _, by rw [List.length_append, hsl]; exact hge, hcm, ?_, ?_, fun j _ => by simp⟩, ⟨rfl, rfl, rfl, by simp, fun k hk _ => Below.heap_alloc w.drew _ k hk⟩⟩
    · have hz1 : (Value.int IntKind.u8 0).cells.size = 1 := rfl
      simp only [Array.size_append, List.size_toArray, size_zeroCells, hz1, flat_len, Lib.strCells_length]
      omega
    · simp only [Array.toList_append, List.append_assoc]
      rw [hsc, ← List.append_assoc, ← List.flatMap_append]
      have e : (l ++ s.data.toList).length = ((l ++ s.data.toList).flatMap byteC).length := (flat_len _).symm
      rw [e]
      exact List.take_left

/-- One step of a range over a text of plain signs, wherever the iterator lies. -/
theorem next_at {w : World} {b pos : Nat} {s : ByteArray} (hb : w.heap[b]? = some (.stringIter s pos)) (ty : TypeId) (h : pos < s.size) (ha : (s[pos]'h).toNat < 128) :
    (Instr.next (.pointer (some ⟨b, 0, none⟩)) true ty).run Tryz.prog w = .ok (.tuple #[.bool true, .int .i64 pos, .int .i32 (s[pos]'h).toNat]) (setBlock w b (.stringIter s (pos + 1))) := by
  have hlt : b < w.heap.size := (Array.getElem?_eq_some_iff.1 hb).1
  simp only [Instr.next, getObj, setObj, Sem.run_bind, Sem.run, hb, Result.andThen, h, if_true, decode_ascii s pos h ha]
  simp [goInt, Sem.run, hb, setBlock, Result.andThen]
theorem next_end {w : World} {b pos : Nat} {s : ByteArray} (hb : w.heap[b]? = some (.stringIter s pos)) (ty : TypeId) (h : ¬ pos < s.size) :
    (Instr.next (.pointer (some ⟨b, 0, none⟩)) true ty).run Tryz.prog w = .ok (.tuple #[.bool false]) w := by
  simp [Instr.next, getObj, Sem.run, hb, h]
theorem setBlock_same {w : World} {b : Nat} (hb : b < w.heap.size) (o : Obj) : (setBlock w b o).heap[b]? = some o := by
  simp [setBlock, Array.getElem?_setIfInBounds, Array.getElem?_modify, hb]
theorem grown_setBlock {w : World} {b : Nat} (o : Obj) (hb : b < w.heap.size) : w.grownBy (setBlock w b o) (some b) :=
  ⟨rfl, rfl, rfl, by simp [setBlock], fun i _ hi => by
    have hne : b ≠ i := fun e => hi (by rw [e])
    simp [setBlock, Array.getElem?_setIfInBounds, Array.getElem?_modify, hne]⟩

theorem byte_info2 : ∃ i0 : TypeInfo, Tryz.prog.info? 5 = some i0 ∧ i0.zero = some (.int .u8 0) ∧ i0.size = 1 ∧ i0.bytes = 1 := by
  have hbyte : (Tryz.prog.info? 5).map (fun i => (i.zero, i.size, i.bytes)) = some (some (.int .u8 0), 1, 1) := by kernel_rfl
  rw [Option.map_eq_some_iff] at hbyte
  obtain ⟨i0, h1, h2⟩ := hbyte
  simp only [Prod.mk.injEq] at h2
  exact ⟨i0, h1, h2.1, h2.2.1, h2.2.2⟩

/-- 'b = append(b, c)', outside of a region that draws. -/
theorem push1 {w : World} {ops : Array Oper} {rest : List Oper} {o : Oper} {a : Act} {Q : Exit → Act → World → Prop} (hgd : o.guard = none) (x y : Operand)
    (ho : o.op = .call { callee := .builtin .append, args := #[x, y], argTypes := #[69, 69] })
    (B : Nat) (v : Value) (l : List UInt8) (hs : a.eval x = v) (hown : OwnF w B v l) (k : Int) (c : UInt8) (hk : k = (c.toNat : Int)) (hx : a.eval y = .slice (some ⟨w.heap.size, 0, none⟩) 1 1)
    (hl : l.length ≤ 900) (hB : B ≤ w.heap.size)
    (h : ∀ v' w', OwnF w' B v' (l ++ [c]) → (w.alloc (.cells #[.int .u8 k] 5)).grownBy w' v.ownBlock → wpList Tryz.prog ops Q rest (a.put o.dst v') w') :
    wpList Tryz.prog ops Q (o :: rest) a (w.alloc (.cells #[.int .u8 k] 5)) := by
  subst hk
  obtain ⟨i0, hi, hz, hsz, hby⟩ := byte_info2
  refine wpList_plain hgd fun K hK => ?_
  obtain ⟨v', w', hr, h2, h3⟩ := run_appF (hown.mono ((Below.refl _ _).alloc (Nat.le_refl _) (.cells #[.int .u8 (c.toNat : Int)] 5))) (by simp; omega) (by omega) o.type ⟨w.heap.size, 0, none⟩ 1 [c] (by simp) (by simp) (fun j u hj => by
    rw [Addr.add_lit, Nat.zero_add]
    have := (Blk.new w 5 [.int .u8 (c.toNat : Int)]).cell j
    exact this.trans hj) i0 _ hi hz hsz hby rfl
  have hr : (Builtin.append_ #[69, 69] o.type #[v, .slice (some ⟨w.heap.size, 0, none⟩) 1 1]).run Tryz.prog (w.alloc (.cells #[.int .u8 (c.toNat : Int)] 5)) = .ok v' w' := hr
  unfold Oper.wp execOp
  simp only [ho, resolve, invoke, builtin, Sem.run_bind, Sem.run_pure, Result.andThen_ok, List.map_toArray, List.map_cons, List.map_nil, hs, hx, hr]
  exact hK _ _ (h v' w' h2 h3)

/-- 'b = append(b, s...)'. -/
theorem pushS {w : World} {ops : Array Oper} {rest : List Oper} {o : Oper} {a : Act} {Q : Exit → Act → World → Prop} (hgd : o.guard = none) (x y : Operand)
    (ho : o.op = .call { callee := .builtin .append, args := #[x, y], argTypes := #[69, 9] })
    (B : Nat) (v : Value) (l : List UInt8) (hs : a.eval x = v) (hown : OwnF w B v l) (s : ByteArray) (hx : a.eval y = .string s) (h0 : 0 < s.size) (h1 : s.size ≤ 1000)
    (hl : l.length ≤ 1000) (hB : B ≤ w.heap.size)
    (h : ∀ v' w', OwnF w' B v' (l ++ s.data.toList) → w.grownBy w' v.ownBlock → wpList Tryz.prog ops Q rest (a.put o.dst v') w') :
    wpList Tryz.prog ops Q (o :: rest) a w := by
  obtain ⟨i0, hi, hz, hsz, hby⟩ := byte_info2
  refine wpList_plain hgd fun K hK => ?_
  obtain ⟨v', w', hr, h2, h3⟩ := run_appS hown hB hl o.type s h0 h1 i0 hi hz hsz hby
  unfold Oper.wp execOp
  simp only [ho, resolve, invoke, builtin, Sem.run_bind, Sem.run_pure, Result.andThen_ok, List.map_toArray, List.map_cons, List.map_nil, hs, hx, hr]
  exact hK _ _ (h v' w' h2 h3)

/-- 'b[0] = c'. -/
theorem ownF_first {w : World} {B g n cap : Nat} {b : UInt8} {l : List UInt8} (h : OwnF w B (.slice (some ⟨g, 0, none⟩) n cap) (b :: l)) : (w.cell? ⟨g, 0, none⟩ = some (.int .u8 b.toNat) ∧ w.frozen? ⟨g, 0, none⟩ = false) ∧ ∀ c : UInt8, OwnF (w.setCell ⟨g, 0, none⟩ (.int .u8 c.toNat)) B (.slice (some ⟨g, 0, none⟩) n cap) (c :: l) ∧ w.grownBy (w.setCell ⟨g, 0, none⟩ (.int .u8 c.toNat)) (some g) := by
  obtain ⟨g2, cap2, cur, fr, h1, h2, h3, h4, h5, h6, h7, h8⟩ := h
  injection h1 with e1 e2 e3
  injection e1 with e1
  injection e1 with e1 _ _
  subst e1
  subst e2
  subst e3
  rw [List.length_cons] at h4
  have hc0 : 0 < cap := by omega
  have hcur : ∃ u t, cur.toList = u :: t := by
    rcases hq : cur.toList with _ | ⟨u, t⟩
    · have : cur.toList.length = 0 := by rw [hq]; rfl
      rw [Array.length_toList] at this
      omega
    · exact ⟨u, t, rfl⟩
  obtain ⟨u, t, hu⟩ := hcur
  have h7' := h7
  rw [hu, List.length_cons, List.take_succ_cons, List.flatMap_cons] at h7'
  have h7' : u :: t.take l.length = .int .u8 b.toNat :: l.flatMap byteC := h7'
  injection h7' with k1 k2
  refine ⟨⟨?_, ?_⟩, fun c => ⟨⟨g, cap, cur.setIfInBounds 0 (.int .u8 c.toNat), fr, rfl, h2, ?_, by rw [List.length_cons]; exact h4, h5, by simp [h6], ?_, h8⟩, gr_setCell1 (World.grownBy.refl _ _) 0 _⟩⟩
  · rw [cell_of_row w g 0 cur _ fr h3, ← Array.getElem?_toList, hu, k1]
    rfl
  · unfold World.frozen?
    simp only [h3]
    have := h8 0 hc0
    rw [← Bool.not_eq_true]
    simpa using this
  · simp [World.setCell, Array.getElem?_modify, h3]
  · rw [Array.toList_setIfInBounds, hu, List.set_cons_zero, List.length_cons, List.take_succ_cons, k2, List.flatMap_cons]
    rfl
end Go.Proofs.YtmhhbnnjilbdnaaGreatDoor.Sh
