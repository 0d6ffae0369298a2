/- codec.Queue. -/
import Derived.Test.YtjahkaidinahpaaDoorEI
namespace Go.Proofs.YtjahkaidinahpaaDoor
open Go.RowKit Go.ChangeMaps
set_option linter.unusedSimpArgs false
set_option linter.unusedVariables false
set_option maxRecDepth 20000

def toL (s : ByteArray) : List UInt8 := s.data.toList
theorem toL_inj {a b : ByteArray} (h : toL a = toL b) : a = b := bytes_inj h

/-- The bytes of a queue of texts. -/
def queueB (l : List ByteArray) : Option (List UInt8) := queueF (l.map toL)

/-- What is written of locators. -/
def locsB (l : List ByteArray) : List UInt8 := l.flatMap fun s => beL (numN (valL (toL s))) 4

theorem locsB_len : ∀ (l : List ByteArray), (locsB l).length = l.length * 4
  | [] => rfl
  | s :: l => by
    have ih := locsB_len l
    unfold locsB at ih ⊢
    rw [List.flatMap_cons, List.length_append, ih, beL_len, List.length_cons]
    omega

theorem nodup_toL {l : List ByteArray} : (l.map toL).Nodup ↔ l.Nodup := by
  constructor
  · intro h
    rw [List.nodup_iff_pairwise_ne] at h ⊢
    rw [List.pairwise_map] at h
    exact h.imp fun hab e => hab (by rw [e])
  · intro h
    rw [List.nodup_iff_pairwise_ne] at h ⊢
    rw [List.pairwise_map]
    exact h.imp fun hab e => hab (toL_inj e)

theorem queueB_yes {l : List ByteArray} (h1 : l.length ≤ 40) (h2 : ∀ s ∈ l, lettersS (toL s) 6 6 = true) (h3 : l.Nodup) : queueB l = some (81 :: varL l.length ++ locsB l) := by
  unfold queueB queueF
  rw [if_pos ⟨by rw [List.length_map]; exact h1, by rw [List.all_eq_true]; intro s hs; obtain ⟨t, ht, rfl⟩ := List.mem_map.1 hs; exact h2 t ht, nodup_toL.2 h3⟩]
  unfold locsB
  rw [List.length_map, List.flatMap_map]

theorem queueB_long {l : List ByteArray} (h : 40 < l.length) : queueB l = none := by
  unfold queueB queueF
  rw [if_neg (fun hh => by have := hh.1; rw [List.length_map] at this; omega)]

theorem queueB_bad {l : List ByteArray} {s : ByteArray} (hs : s ∈ l) (h : lettersS (toL s) 6 6 = false) : queueB l = none := by
  unfold queueB queueF
  rw [if_neg (fun hh => by
    have h2 := List.all_eq_true.1 hh.2.1 (toL s) (List.mem_map.2 ⟨s, hs, rfl⟩)
    rw [h] at h2
    cases h2)]

theorem queueB_twice {l : List ByteArray} (h : ¬ l.Nodup) : queueB l = none := by
  unfold queueB queueF
  rw [if_neg (fun hh => h (nodup_toL.1 hh.2.2))]

/-- Bytes, or ErrForm. -/
def byP (B : Nat) (o : Option (List UInt8)) (e : Ending) (w : World) : Prop :=
  (∃ bs v, o = some bs ∧ e = .returned (.tuple #[v, .int .i64 0]) ∧ OwnB w B v bs) ∨ (o = none ∧ e = .returned (.tuple #[.slice none 0 0, .int .i64 4]))

theorem own_map_ne {α β : Type} {K : α → Value} {V : β → Value} {ok : α → Prop} {w : World} {base m : Nat} {e : TypeId} {size n : Nat} {v : Value} {xs : List Value} {pl : List α} {f : α → β} (h : w.ownsRow base e size v n xs) (hm : MapG K V ok w m pl f) : v.ownBlock = none ∨ v.ownBlock ≠ some m := by
  refine .inr fun e1 => ?_
  obtain ⟨⟨es, clock, hb, _⟩, _⟩ := hm
  rcases h.2 with ⟨e2, _⟩ | ⟨gg, cap, cur, e2, _, h2, _⟩
  · rw [e2] at e1; cases e1
  · rw [e2] at e1
    injection e1 with e1
    have e3 : gg = m := e1
    rw [e3, hb] at h2
    cases h2

theorem lit_has (w : World) (c : UInt8) : HasE byteC (w.alloc (.cells #[.int .u8 c.toNat] 5)) (.slice (some ⟨w.heap.size, 0, none⟩) 1 1) [c] :=
  HasE.own (World.ownsRow_lit (size := 1) w #[.int .u8 c.toNat] 1 (Nat.zero_le _) (by decide) rfl)

theorem str_at {w : World} {p : Option Addr} {n c : Nat} {l : List ByteArray} (h : HasL w (.slice p n c) l) {i : Nat} (hi : i < l.length) : ∃ b off, p = some ⟨b, off, none⟩ ∧ w.cell? ⟨b, off + i, none⟩ = some (.string (l.getD i ByteArray.empty)) := by
  rcases h with ⟨p', c', e, rfl, _⟩ | ⟨b, off, c', e, _, _, h3⟩
  · simp at hi
  · injection e with e1 e2 e3
    exact ⟨b, off, e1, h3 i hi⟩

theorem nodup_take {l : List ByteArray} {i : Nat} (hi : i < l.length) (h : (l.take i).Nodup) (hn : l.getD i ByteArray.empty ∉ l.take i) : (l.take (i + 1)).Nodup := by
  have hg : l[i]? = some (l.getD i ByteArray.empty) := by rw [List.getD_eq_getElem?_getD, List.getElem?_eq_getElem hi]; rfl
  rw [List.take_add_one, hg]
  exact List.nodup_append.2 ⟨h, List.pairwise_singleton _ _, fun a ha b hb e => hn (by
    have : b = l.getD i ByteArray.empty := by simpa using hb
    rw [← this, ← e]; exact ha)⟩

theorem twice_take {l : List ByteArray} {i : Nat} (hi : i < l.length) (h : l.getD i ByteArray.empty ∈ l.take i) : ¬ l.Nodup := by
  intro hn
  have hg : l[i]? = some (l.getD i ByteArray.empty) := by rw [List.getD_eq_getElem?_getD, List.getElem?_eq_getElem hi]; rfl
  obtain ⟨j, hj, e⟩ := List.getElem_of_mem h
  rw [List.length_take] at hj
  have hj2 : l[j]? = some (l.getD i ByteArray.empty) := by
    rw [List.getElem?_eq_getElem (by omega)]
    rw [List.getElem_take] at e
    rw [e]
  have := (List.getElem?_inj (by omega : i < l.length) hn).1 (hg.trans hj2.symm)
  omega

theorem below_low {B0 : Nat} {a w w' : World} (h : Below B0 a w) (hB : B0 ≤ w.heap.size) (k : Below w.heap.size w w') : Below B0 a w' := h.trans (k.mono hB)

/-- A writer that was made, and a number into it. -/
theorem wnew_any (w : World) (c : UInt8) (ci : Int) (hci : ci = (c.toNat : Int)) (n : Int) (h0 : 0 ≤ n) (hn : n < 9223372036854775808) :
    Calls Tryd.prog 44 #[.pointer (some ⟨w.heap.size + 1, 0, none⟩), .int .i64 n] ((w.alloc (.cells #[.int .u8 ci] 5)).alloc (.cells #[.slice (some ⟨w.heap.size, 0, none⟩) 1 1] 105)) fun e w' =>
      e = .returned (.tuple #[]) ∧ ∃ v', Blk w' (w.heap.size + 1) 105 [v'] ∧ OwnB w' (w.heap.size + 2) v' (c :: varL n.toNat) ∧ Below w.heap.size w w' ∧ w.heap.size + 2 ≤ w'.heap.size := by
  subst hci
  have hz : (w.alloc (.cells #[.int .u8 c.toNat] 5)).heap.size = w.heap.size + 1 := by simp
  have hz2 : ((w.alloc (.cells #[.int .u8 c.toNat] 5)).alloc (.cells #[.slice (some ⟨w.heap.size, 0, none⟩) 1 1] 105)).heap.size = w.heap.size + 2 := by simp
  have hb2 : Below w.heap.size w ((w.alloc (.cells #[.int .u8 c.toNat] 5)).alloc (.cells #[.slice (some ⟨w.heap.size, 0, none⟩) 1 1] 105)) := ((Below.refl _ _).alloc (Nat.le_refl _) _).alloc (by simp) _
  have hg := Blk.new (w.alloc (.cells #[.int .u8 c.toNat] 5)) 105 [.slice (some ⟨w.heap.size, 0, none⟩) 1 1]
  rw [hz] at hg
  have hh := (lit_has w c).mono ((Below.refl _ _).alloc (Nat.le_refl _) (.cells #[.slice (some ⟨w.heap.size, 0, none⟩) 1 1] 105))
  refine (wnum_any (w.heap.size + 1) _ [c] n _ hg hh (by simp) h0 hn).mono ?_
  rintro e w' ⟨rfl, ⟨v', h1, h2⟩, h3⟩
  rw [hz2] at h2
  refine ⟨rfl, v', h1, h2, (hb2.grown h3 (by omega) fun k hk => by injection hk with hk; omega), by have := h3.size; omega⟩

set_option maxHeartbeats 16000000 in
theorem queue_any (v : Value) (l : List ByteArray) (w : World) (hv : HasL w v l) (hs : ∀ s ∈ l, s.size ≤ maxLen) :
    Calls Tryd.prog 18 #[v] w fun e w' => byP w.heap.size (queueB l) e w' ∧ Below w.heap.size w w' := by
  obtain ⟨p, c, rfl⟩ := own_len hv
  by_cases hlong : 40 < l.length
  · have hi : (40 : Int) < (l.length : Int) := by omega
    have HF := Lib.hid (queueB_long hlong)
    clear hv hlong
    go_enter Tryd.func18, Tryd.ntmps18
    go_wp2
    go_ret2
    exact ⟨.inr ⟨HF.out, rfl⟩, Below.refl _ _⟩
  have hi : ¬ (40 : Int) < (l.length : Int) := by omega
  have HV := Lib.hid hv
  have HS := Lib.hid hs
  have HYES : RowKit.Hid ((∀ s ∈ l, lettersS (toL s) 6 6 = true) → l.Nodup → queueB l = some (81 :: varL l.length ++ locsB l)) := Lib.hid fun h2 h3 => queueB_yes (by omega) h2 h3
  have HBAD : RowKit.Hid (∀ s ∈ l, lettersS (toL s) 6 6 = false → queueB l = none) := Lib.hid fun s h1 h2 => queueB_bad h1 h2
  have HTW : RowKit.Hid (¬ l.Nodup → queueB l = none) := Lib.hid queueB_twice
  have hvl : (varL l.length).length ≤ 1 := by rw [varL_small (by omega)]; exact Nat.le_refl _
  have HVL := Lib.hid hvl
  generalize queueB l = qb at *
  have hn40 : l.length ≤ 40 := by omega
  generalize hN : l.length = N at *
  have HN := Lib.hid hN
  have HNEW : RowKit.Hid (Calls Tryd.prog 44 #[.pointer (some ⟨w.heap.size + 1, 0, none⟩), .int .i64 N] ((w.alloc (.cells #[.int .u8 81] 5)).alloc (.cells #[.slice (some ⟨w.heap.size, 0, none⟩) 1 1] 105)) fun e w' =>
      e = .returned (.tuple #[]) ∧ ∃ v', Blk w' (w.heap.size + 1) 105 [v'] ∧ OwnB w' (w.heap.size + 2) v' (81 :: varL N) ∧ Below w.heap.size w w' ∧ w.heap.size + 2 ≤ w'.heap.size) := Lib.hid (by
    have := wnew_any w 81 81 rfl (N : Int) (by omega) (by omega)
    rw [Int.toNat_natCast] at this
    exact this)
  clear hv hs hlong hvl hN
  go_enter Tryd.func18, Tryd.ntmps18
  go_upto_region 5 with (first
    | (go_at_call 44; (with_reducible refine HNEW.out.mono ?_); rintro e w2 ⟨rfl, v2, hg2, ho2, hb2, hz2⟩))
  have HMAP : RowKit.Hid (MapG txtK (fun n : Int => .int .i64 n) (fun s => s.size ≤ maxLen) (w2.alloc (.map #[] 0)) w2.heap.size (l.take 0) (fun _ => (1 : Int))) := Lib.hid (MapG.made w2 _)
  have hgr0 : w2.grownBy (w2.alloc (.map #[] 0)) none := World.grownBy_alloc w2 _ none
  have hgA := hg2.alloc (.map #[] 0)
  have hoA : OwnB (w2.alloc (.map #[] 0)) (w.heap.size + 2) v2 (81 :: varL N ++ locsB (l.take 0)) := by
    have : (81 :: varL N ++ locsB (l.take 0)) = 81 :: varL N := by simp [locsB]
    rw [this]
    exact World.ownsRow.alloc ho2 _
  have hbA : Below w.heap.size w (w2.alloc (.map #[] 0)) := hb2.alloc hb2.size _
  have hzA : w.heap.size + 2 ≤ (w2.alloc (.map #[] 0)).heap.size := by simp; omega
  clear hgr0 ho2 hg2 hb2
  have hmk : ∀ W, (Instr.makeMap 107 none).run Tryd.prog W = .ok (.map (some W.heap.size)) (W.alloc (.map #[] 0)) := fun W => run_makeMap _ W
  have hzero : ∀ W, (zeroValue 3).run Tryd.prog W = .ok (.int .i64 0) W := fun W => by kernel_rfl
  have HZERO := Lib.hid hzero
  clear hzero
  go_wp2
  generalize w2.alloc (.map #[] 0) = wA at *
  have hmz : w.heap.size + 2 ≤ w2.heap.size := hz2
  generalize w2.heap.size = m at *
  clear hmk
  go_loopg [21] N (fun g0 s21 wr => ∃ (i : Nat) (v' : Value), i ≤ N ∧ g0 = N - i ∧ s21 = .int .i64 (i : Int) ∧ Blk wr (w.heap.size + 1) 105 [v'] ∧ OwnB wr (w.heap.size + 2) v' (81 :: varL N ++ locsB (l.take i)) ∧ MapG txtK (fun n : Int => .int .i64 n) (fun s => s.size ≤ maxLen) wr m (l.take i) (fun _ => (1 : Int)) ∧ (∀ s ∈ l.take i, lettersS (toL s) 6 6 = true) ∧ (l.take i).Nodup ∧ Below w.heap.size w wr ∧ w.heap.size + 2 ≤ wr.heap.size)
  case atStart => exact ⟨0, v2, Nat.zero_le _, rfl, rfl, hgA, hoA, HMAP.out, (fun s h => by cases h), List.nodup_nil, hbA, hzA⟩
  case round =>
    obtain ⟨i, v', hiN, rfl, rfl, hg, ho, hmap, hall, hnd, hbw, hz⟩ := hrel
    have HG := Lib.hid hg
    have HO := Lib.hid ho
    have HM := Lib.hid hmap
    have HALL := Lib.hid hall
    have HND := Lib.hid hnd
    clear hg ho hmap hall hnd
    by_cases hlt : i < N
    · have hii : (i : Int) < (N : Int) := by omega
      have hi0 : (0 : Int) ≤ (i : Int) := by omega
      have hlN : i < l.length := by rw [HN.out]; exact hlt
      obtain ⟨bb, off, rfl, c0⟩ := str_at (HV.out.mono hbw) hlN
      have hmem : l.getD i ByteArray.empty ∈ l := List.mem_of_getElem? (by rw [List.getD_eq_getElem?_getD, List.getElem?_eq_getElem hlN]; rfl : l[i]? = some (l.getD i ByteArray.empty))
      have hsz := HS.out _ hmem
      have HTWk := Lib.hid fun h => HTW.out (twice_take hlN h)
      have HBADk := Lib.hid (HBAD.out _ hmem)
      have HNDk := Lib.hid fun h => nodup_take hlN HND.out h
      have HTK : RowKit.Hid (l.take (i + 1) = l.take i ++ [l.getD i ByteArray.empty]) := Lib.hid (by
        have hg : l[i]? = some (l.getD i ByteArray.empty) := by rw [List.getD_eq_getElem?_getD, List.getElem?_eq_getElem hlN]; rfl
        rw [List.take_add_one, hg]; rfl)
      clear hmem
      generalize l.getD i ByteArray.empty = s at *
      have HLOC : RowKit.Hid (∀ W, Calls Tryd.prog 45 #[.string s] W fun e w' => e = .returned (.bool (lettersS (toL s) 6 6)) ∧ Below W.heap.size W w') := Lib.hid fun W => locator_any s W hsz
      by_cases hin : s ∈ l.take i
      · have HF := Lib.hid (HTWk.out hin)
        have hlk : (Instr.lookup 107 (.map (some m)) (.string s) false).run Tryd.prog wr = .ok (.int .i64 1) wr := by
          rcases HM.out.look txt_keyK Tryd.underlying107 (HZERO.out wr) false s hsz with ⟨_, h2⟩ | ⟨h1, _⟩
          · exact h2
          · exact absurd hin h1
        have HIN := Lib.hid hin
        have HPUT := Lib.hid (HM.out.set txt_keyK Tryd.underlying107 s (2 : Int) hin)
        clear hin
        go_upto_region 10 with (first
          | (refine wpList_putG rfl (.tmp 25) (.tmp 26) (.tmp 28) rfl (.string s) (.int .i64 2) rfl rfl rfl HPUT.out ?_; intro w9 ⟨hm9, hg9, hz9⟩))
        have hb9 : Below w.heap.size w w9 := hbw.grown hg9 (by omega) fun k hk => by injection hk with hk; omega
        have HLK : RowKit.Hid (∀ W, Below w9.heap.size w9 W → (Instr.lookup 107 (.map (some m)) (.string s) false).run Tryd.prog W = .ok (.int .i64 2) W) := Lib.hid fun W h => by
          rcases (hm9.mono h).look txt_keyK Tryd.underlying107 (HZERO.out W) false s hsz with ⟨_, h2⟩ | ⟨h1, _⟩
          · rw [show setG (fun _ => (1 : Int)) s 2 s = 2 from if_pos rfl] at h2
            exact h2
          · exact absurd HIN.out h1
        clear hlk hm9
        cases hL : lettersS (toL s) 6 6 with
        | false =>
          rw [hL] at HLOC
          go_wp2_with (first
            | (go_at_call 45; (with_reducible refine (HLOC.out _).mono ?_); rintro e w10 ⟨rfl, hb10⟩))
          go_ret2
          exact ⟨.inr ⟨HF.out, rfl⟩, below_low hb9 hb9.size hb10⟩
        | true =>
          rw [hL] at HLOC
          go_wp2_with (first
            | (go_at_call 45; (with_reducible refine (HLOC.out _).mono ?_); rintro e w10 ⟨rfl, hb10⟩; have hl2 := HLK.out w10 hb10))
          go_ret2
          exact ⟨.inr ⟨HF.out, rfl⟩, below_low hb9 hb9.size hb10⟩
      · have hlk : (Instr.lookup 107 (.map (some m)) (.string s) false).run Tryd.prog wr = .ok (.int .i64 0) wr := by
          rcases HM.out.look txt_keyK Tryd.underlying107 (HZERO.out wr) false s hsz with ⟨h1, _⟩ | ⟨_, h2⟩
          · exact absurd h1 hin
          · exact h2
        have HPUT := Lib.hid (HM.out.add txt_keyK Tryd.underlying107 s (1 : Int) hsz hin)
        have HND2 := Lib.hid (HNDk.out hin)
        clear hin
        go_upto_region 10 with (first
          | (refine wpList_putG rfl (.tmp 25) (.tmp 26) (.tmp 28) rfl (.string s) (.int .i64 1) rfl rfl rfl HPUT.out ?_; intro w9 ⟨hm9, hg9, hz9⟩))
        have hb9 : Below w.heap.size w w9 := hbw.grown hg9 (by omega) fun k hk => by injection hk with hk; omega
        have hfe : setG (fun _ => (1 : Int)) s 1 = fun _ => (1 : Int) := funext fun x => by unfold setG; split <;> rfl
        rw [hfe, ← HTK.out] at hm9
        have HM9 := Lib.hid hm9
        have HG9 := Lib.hid (HG.out.far hg9 (fun e => by injection e with e; omega))
        have HO9 : RowKit.Hid (OwnB w9 (w.heap.size + 2) v' (81 :: varL N ++ locsB (l.take i))) := Lib.hid (World.ownsRow.kept HO.out hg9 (own_map_ne HO.out HM.out))
        have HLK : RowKit.Hid (∀ W, Below w9.heap.size w9 W → (Instr.lookup 107 (.map (some m)) (.string s) false).run Tryd.prog W = .ok (.int .i64 1) W) := Lib.hid fun W h => by
          rcases (HM9.out.mono h).look txt_keyK Tryd.underlying107 (HZERO.out W) false s hsz with ⟨_, h2⟩ | ⟨h1, _⟩
          · exact h2
          · exact absurd (by rw [HTK.out]; simp) h1
        clear hlk hm9 hfe
        cases hL : lettersS (toL s) 6 6 with
        | false =>
          have HF := Lib.hid (HBADk.out hL)
          rw [hL] at HLOC
          go_wp2_with (first
            | (go_at_call 45; (with_reducible refine (HLOC.out _).mono ?_); rintro e w10 ⟨rfl, hb10⟩))
          go_ret2
          exact ⟨.inr ⟨HF.out, rfl⟩, below_low hb9 hb9.size hb10⟩
        | true =>
          rw [hL] at HLOC
          have HXL : RowKit.Hid ((81 :: varL N ++ locsB (l.take i)).length ≤ 1000000) := Lib.hid (by
            have h1 := locsB_len (l.take i)
            rw [List.length_append, List.length_cons, h1, List.length_take]
            have := HVL.out
            omega)
          have HWL : RowKit.Hid (∀ W, Below w9.heap.size w9 W → Calls Tryd.prog 46 #[.pointer (some ⟨w.heap.size + 1, 0, none⟩), .string s] W fun e w' => e = .returned (.tuple #[]) ∧ (∃ v', Blk w' (w.heap.size + 1) 105 [v'] ∧ OwnB w' W.heap.size v' (81 :: varL N ++ locsB (l.take (i + 1)))) ∧ W.grownBy w' (some (w.heap.size + 1))) := Lib.hid fun W h => by
            have := wloc_any (w.heap.size + 1) v' _ s W (HG9.out.mono h) (HO9.out.has.mono h) HXL.out hsz hL
            rw [HTK.out]
            unfold locsB at this ⊢
            rw [List.flatMap_append, ← List.append_assoc]
            have e : [s].flatMap (fun s => beL (numN (valL (toL s))) 4) = beL (numN (valL s.data.toList)) 4 := by simp [toL]
            rw [e]
            exact this
          have HL2 := Lib.hid hL
          clear hL
          go_wp2_with (first
            | (go_at_call 45; (with_reducible refine (HLOC.out _).mono ?_); rintro e w10 ⟨rfl, hb10⟩; have hl2 := HLK.out w10 hb10)
            | (go_at_call 46; (with_reducible refine (HWL.out _ hb10).mono ?_); rintro e w11 ⟨rfl, ⟨v11, hg11, ho11⟩, hgr11⟩))
          have hb1 := below_low hb9 hb9.size hb10
          have hs10 := hb10.size
          have hs11 := hgr11.size
          have hm11 := (HM9.out.mono hb10).kept hgr11 (fun e => by injection e with e; omega)
          go_roundg (N - (i + 1))
          case measure => omega
          case rel => exact ⟨i + 1, v11, by omega, rfl, by go_num, hg11, ho11.low (by omega), hm11, (fun t ht => by
            rw [HTK.out] at ht
            rcases List.mem_append.1 ht with h1 | h1
            · exact HALL.out t h1
            · rw [List.mem_singleton.1 h1]; exact HL2.out), HND2.out, hb1.grown hgr11 hb1.size (fun k hk => by injection hk with hk; omega), by omega⟩
    · have hie : i = N := by omega
      subst hie
      have hii : ¬ (i : Int) < (i : Int) := by omega
      have htk : l.take i = l := List.take_of_length_le (by rw [HN.out]; exact Nat.le_refl _)
      rw [htk] at HO HALL HND
      have HF := Lib.hid (HYES.out HALL.out HND.out)
      have c0 : wr.cell? ⟨w.heap.size + 1, 0, none⟩ = some v' := (HG.out.cell 0).trans rfl
      clear htk
      obtain ⟨p9, c9, e9⟩ := HO.out.has.len
      subst e9
      generalize (81 :: varL i ++ locsB l).length = nX at HO HG c0 ⊢
      go_wp2
      go_ret2
      exact ⟨.inl ⟨_, _, HF.out, rfl, HO.out.low (by omega)⟩, hbw⟩
end Go.Proofs.YtjahkaidinahpaaDoor
