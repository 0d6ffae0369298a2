/- jetwayref14.SoundLeg. codec.ReadLeg: its state. Small laws: strings, bytes, slices of texts; SameTexts. Letters, cities, persons, locators: the program and the reference. Locators: locator.Text, Number, inverse; the reference Text. Blocks of plain cells; lists in memory (HasE); lists of bytes. Codec: the plain bytes: numbers, fixed numbers, locators, queues, counts, and what is read of bytes. make([]byte, n, c), copy(out, b). Maps with any keys and any values: looked up, put into. word.Var, word.Put. word.ReadVar, word.Get. word.Get from the front; the writer's methods. codec.Queue. codec.OfCount. Carriers, agents, persons, free texts. Parts of a sound PNR: the reference's texts, moments, ticketing fields, a segment by itself. The reader's texts and seats. codec.ReadPnr. -/
import Derived.Test.YtmhhbnnjilbdnaaGreatDoorKA
import Derived.Test.YtmhhbnnjilbdnaaGreatDoorKF
import Derived.Test.YtmhhbnnjilbdnaaGreatDoorPlnP
import Derived.Test.YtmhhbnnjilbdnaaGreatDoorKG
import Derived.Test.YtmhhbnnjilbdnaaGreatDoorKJ
import Derived.Test.YtmhhbnnjilbdnaaGreatDoorKL
import Derived.Test.YtmhhbnnjilbdnaaGreatDoorRows
import Derived.WalkKit
import Derived.WalkSpells
import Derived.WalkLawsBesides
import Derived.Lib.ConvBytes
import Derived.Lib.Hide
import Derived.Lib.SliceRun
import Derived.IntWalk
import Derived.BigQuiet
import Derived.Deep.QuietTactic
import Derived.Deep.RegionWith
import Derived.Deep.RegionHeld3
import Derived.Deep.LoopGhost
import Derived.Deep.CutRange
import Derived.Deep.CutBlock
import Derived.Deep.MidRow
import Derived.Laws.OwnMore
import Derived.OwnWalk
import Derived.Laws.AppendOwnNone
import Derived.Laws.Rows
import Derived.Laws.MakeOwn
import Derived.Laws.CopyOwn
import Derived.Laws.BitsAllLaws
import Derived.DeepKeys5
import Derived.Maps.OwnOps
import Derived.Handy
import Derived.Lib.AppendStr
import Derived.StillTailTactics
import Derived.Deep.AppendLies
import Derived.Test.YtmhhbnnjilbdnaaGreatDoorKM
import Derived.Test.YtmhhbnnjilbdnaaGreatDoorLA
import Derived.WideKeyEntry
namespace Go.Proofs.YtmhhbnnjilbdnaaGreatDoor
open Go.RowKit Go.ChangeMaps
set_option linter.unusedSimpArgs false
set_option linter.unusedVariables false
set_option maxRecDepth 20000

theorem rClass_any (c : Int) (w : World) (h0 : 0 ≤ c) (h1 : c ≤ 255) :
    Calls Tryz.prog 49 #[.int .u8 c] w fun e w' => e = .returned (.bool (isL c)) ∧ w = w' := by
  have HL := Lib.hid (refLetter_any c w h0 h1)
  go_enter Tryz.func49, Tryz.ntmps49
  go_wp2_with (first
    | (go_at_call 51; (with_reducible refine HL.out.mono ?_); rintro e w9 ⟨rfl, rfl⟩))
  go_ret
  exact ⟨rfl, rfl⟩

end Go.Proofs.YtmhhbnnjilbdnaaGreatDoor
namespace Go.Proofs.YtmhhbnnjilbdnaaGreatDoor
open Go.RowKit Go.ChangeMaps
set_option linter.unusedSimpArgs false
set_option linter.unusedVariables false
set_option maxRecDepth 20000

/-- A part of a row is stored. -/
theorem wpList_store_part {P : Program} {w : World} {ops : Array Oper} {rest : List Oper} {op : Oper} {a : Act} {Q : Exit → Act → World → Prop} (hgd : op.guard = none) (ty : TypeId) (x y : Operand) (ho : op.op = .store ty x y)
    (b o : Nat) (T : TypeId) (l0 l : List Value) (hx : a.eval x = .pointer (some ⟨b, o, none⟩)) (hy : a.eval y = .agg l.toArray)
    (ha : Blk w b T l0) (hl : o + l.length ≤ l0.length) (hi : (P.info? ty).map (·.size) = some l.length) (h1 : ∀ v ∈ l, v.oneCell' = true)
    (h : ∀ w', Blk w' b T (overV l0 o l) → Below b w w' → w.grownBy w' (some b) → wpList P ops Q rest (a.put op.dst undef) w') : wpList P ops Q (op :: rest) a w := by
  have e1 : l.toArray.size = l.length := by simp
  refine wpList_store_mid hgd ty x y ho b o l.toArray hx hy (by rw [e1]; exact ha.there o _ hl) (by rw [e1]; exact hi) (all_oneCell_toArray h1) (h _ ?_ ?_ ?_)
  · exact Blk.over l l0 o w ha
  · exact bel_setCells (Nat.le_refl _) _ _ _ (Below.refl _ _)
  · exact gr_setCells1 _ _ _ (gr_of_below (Below.refl _ _) _)


end Go.Proofs.YtmhhbnnjilbdnaaGreatDoor
namespace Go.Proofs.YtmhhbnnjilbdnaaGreatDoor
open Go.RowKit

theorem strV_len (l : List ByteArray) : (strV l).length = l.length := by simp [strV]

theorem gby_trans {a b c : World} {row : Option Nat} (h : a.grownBy b row) (k : b.grownBy c row) : a.grownBy c row := by
  obtain ⟨h1, h2, h3, h4, h5⟩ := h
  obtain ⟨k1, k2, k3, k4, k5⟩ := k
  exact ⟨k1.trans h1, k2.trans h2, k3.trans h3, Nat.le_trans h4 k4, fun j hj hr => (k5 j (Nat.lt_of_lt_of_le hj h4) hr).trans (h5 j hj hr)⟩

end Go.Proofs.YtmhhbnnjilbdnaaGreatDoor
namespace Go.Proofs.YtmhhbnnjilbdnaaGreatDoor
open Go.RowKit
set_option linter.unusedSimpArgs false
set_option linter.unusedVariables false
set_option maxRecDepth 20000

theorem refDigit_any (c : Int) (w : World) (h0 : 0 ≤ c) (h1 : c ≤ 255) :
    Calls Tryz.prog 52 #[.int .u8 c] w fun e w' => e = .returned (.bool (isD c)) ∧ w = w' := by
  go_enter Tryz.func52, Tryz.ntmps52
  go_wp2
  all_goals
    go_ret
    exact ⟨ret_bool (by unfold isD; first | (symm; apply decide_eq_true; omega) | (symm; apply decide_eq_false; omega) | (apply decide_eq_decide.2; omega)), rfl⟩

theorem all_take_succ (p : UInt8 → Bool) (l : List UInt8) (k : Nat) (h : k < l.length) : (l.take (k + 1)).all p = ((l.take k).all p && p (l.getD k 0)) := by
  rw [List.take_succ_eq_append_getElem h, List.all_append]
  simp [List.getD, h]

theorem all_false_of (p : UInt8 → Bool) (l : List UInt8) (k : Nat) (h : k < l.length) (hp : p (l.getD k 0) = false) : l.all p = false := by
  rw [List.all_eq_false]
  refine ⟨l.getD k 0, ?_, by rw [hp]; decide⟩
  simp [List.getD, h]

def cntL (l : List UInt8) : Nat := (l.filter bL).length

theorem cntL_le (l : List UInt8) : cntL l ≤ l.length := List.length_filter_le _ _

theorem cntL_take (l : List UInt8) (k : Nat) (h : k < l.length) : cntL (l.take (k + 1)) = cntL (l.take k) + if bL (l.getD k 0) then 1 else 0 := by
  unfold cntL
  rw [List.take_succ_eq_append_getElem h, List.filter_append, List.length_append]
  simp only [List.getD, List.getElem?_eq_getElem h, Option.getD_some, List.filter_cons]
  split <;> simp

theorem refLetters_any (s : ByteArray) (w : World) (hs : s.size ≤ maxLen) :
    Calls Tryz.prog 46 #[.string s] w fun e w' => e = .returned (.int .i64 (cntL s.data.toList)) ∧ w = w' := by
  unfold maxLen at hs
  have hlen : s.data.toList.length = s.size := by simp
  have HL := Lib.hid hlen
  clear hlen
  go_enter Tryz.func46, Tryz.ntmps46
  go_wp2
  go_loop [3, 4] (fun n i => ∃ k : Nat, k ≤ s.size ∧ i = .int .i64 k ∧ n = .int .i64 (cntL (s.data.toList.take k))) (fun _ i => s.size - (intOf i).toNat)
  case atStart => exact ⟨0, Nat.zero_le _, rfl, rfl⟩
  case round =>
    obtain ⟨k, hk, rfl, rfl⟩ := hrel
    by_cases hlt : k < s.size
    · have hix := get_list s k hlt
      have hst := cntL_take s.data.toList k (by rw [HL.out]; exact hlt)
      have hle := cntL_le (s.data.toList.take k)
      rw [List.length_take] at hle
      have hbb := byte_hi (s.data.toList.getD k 0)
      generalize s.data.toList.getD k 0 = b at hix hst hbb
      have HS := Lib.hid hst
      clear hst
      generalize cntL (s.data.toList.take k) = c at HS hle
      have hc : c ≤ k := by omega
      clear hle
      have hb0 : (0 : Int) ≤ (b.toNat : Int) := by omega
      cases hB : isL (b.toNat : Int)
      all_goals
        go_wp2_with (go_at_call 51; refine (refLetter_any _ _ hb0 hbb).mono ?_; rintro e w' ⟨rfl, rfl⟩)
        go_round
        case rel => exact ⟨k + 1, by omega, by go_num, by rw [HS.out]; simp [bL, hB]⟩
        case measure => simp [intOf]; omega
    · go_wp2
      go_ret
      exact ⟨ret_int (by rw [List.take_of_length_le (by rw [HL.out]; omega)]), rfl⟩

theorem cntL_all (l : List UInt8) : (cntL l = l.length) ↔ l.all bL = true := by
  unfold cntL
  constructor
  · intro h
    have h2 := List.filter_sublist (p := bL) (l := l) |>.eq_of_length h
    rw [List.all_eq_true]
    intro x hx
    have := List.filter_eq_self.1 h2 x hx
    simpa using this
  · intro h
    rw [List.filter_eq_self.2 (by simpa using h)]

theorem refCity_any (s : ByteArray) (w : World) (hs : s.size ≤ maxLen) :
    Calls Tryz.prog 19 #[.string s] w fun e w' => e = .returned (.bool (lettersS s.data.toList 3 3)) ∧ w = w' := by
  have hlen : s.data.toList.length = s.size := by simp
  by_cases h : s.size = 3
  · have h3 : ((s.size : Int) == 3) = true := by rw [h]; rfl
    have e : lettersS s.data.toList 3 3 = ((cntL s.data.toList : Int) == 3) := by
      unfold lettersS
      rw [hlen, decide_eq_true (by omega), Bool.true_and, Bool.eq_iff_iff, ← cntL_all, hlen, h]
      simp; omega
    have HE := Lib.hid e
    clear h e hlen
    go_enter Tryz.func19, Tryz.ntmps19
    go_wp2_with (go_at_call 46; refine (refLetters_any _ _ hs).mono ?_; rintro e w' ⟨rfl, rfl⟩)
    go_ret
    exact ⟨ret_bool HE.out.symm, rfl⟩
  · have h3 : ((s.size : Int) == 3) = false := by simp; omega
    go_enter Tryz.func19, Tryz.ntmps19
    go_wp2
    go_ret
    exact ⟨ret_bool (by unfold lettersS; rw [hlen, decide_eq_false (by omega)]; rfl), rfl⟩

theorem refLocator_any (s : ByteArray) (w : World) (hs : s.size ≤ maxLen) :
    Calls Tryz.prog 18 #[.string s] w fun e w' => e = .returned (.bool (lettersS s.data.toList 6 6)) ∧ w = w' := by
  have hlen : s.data.toList.length = s.size := by simp
  by_cases h : s.size = 6
  · have h3 : ((s.size : Int) == 6) = true := by rw [h]; rfl
    have e : lettersS s.data.toList 6 6 = ((cntL s.data.toList : Int) == 6) := by
      unfold lettersS
      rw [hlen, decide_eq_true (by omega), Bool.true_and, Bool.eq_iff_iff, ← cntL_all, hlen, h]
      simp; omega
    have HE := Lib.hid e
    clear h e hlen
    go_enter Tryz.func18, Tryz.ntmps18
    go_wp2_with (go_at_call 46; refine (refLetters_any _ _ hs).mono ?_; rintro e w' ⟨rfl, rfl⟩)
    go_ret
    exact ⟨ret_bool HE.out.symm, rfl⟩
  · have h3 : ((s.size : Int) == 6) = false := by simp; omega
    go_enter Tryz.func18, Tryz.ntmps18
    go_wp2
    go_ret
    exact ⟨ret_bool (by unfold lettersS; rw [hlen, decide_eq_false (by omega)]; rfl), rfl⟩

end Go.Proofs.YtmhhbnnjilbdnaaGreatDoor
namespace Go.Proofs.YtmhhbnnjilbdnaaGreatDoor
open Go.RowKit
set_option linter.unusedSimpArgs false
set_option linter.unusedVariables false
set_option maxRecDepth 20000

end Go.Proofs.YtmhhbnnjilbdnaaGreatDoor
namespace Go.Proofs.YtmhhbnnjilbdnaaGreatDoor
open Go.RowKit
set_option linter.unusedSimpArgs false
set_option linter.unusedVariables false
set_option maxRecDepth 20000



/-- 'append(v, vs...)' of a list that may lie anywhere, as long as memory bears. -/
theorem wpList_append_big {α : Type} {enc : α → List Value} {st : Nat} (hst : ∀ a, (enc a).length = st) (hone : ∀ a, ∀ v ∈ enc a, v.oneCell' = true) (hst0 : 0 < st)
    {w : World} {ops : Array Oper} {rest : List Oper} {o : Oper} {a : Act} {Q : Exit → Act → World → Prop} (hgd : o.guard = none) (x y : Operand) (t : TypeId)
    (ho : o.op = .call { callee := .builtin .append, args := #[x, y], argTypes := #[t, t] })
    (base : Nat) (e : TypeId) (i : TypeInfo) (z : Value) (bytes : Nat) (ht : Tryz.prog.underlying t = some (.slice e)) (hi : Tryz.prog.info? e = some i) (hz : i.zero = some z)
    (hsize : i.size = st) (hby : i.bytes = bytes) (hzs : z.cells.size = st)
    (v : Value) (l0 : List α) (hs : a.eval x = v) (hown : w.ownsRow base e st v l0.length (l0.flatMap enc)) (vs : Value) (l : List α) (hx : a.eval y = vs) (hh : HasE enc w vs l)
    (hlen : l0.length + l.length ≤ maxLen) (hby2 : (l0.length + l.length) * bytes ≤ 140737488355328) (hbase : base ≤ w.heap.size)
    (h : ∀ v' w', w'.ownsRow base e st v' (l0 ++ l).length ((l0 ++ l).flatMap enc) → w.grownBy w' v.ownBlock → Below base w w' → wpList Tryz.prog ops Q rest (a.put o.dst v') w') :
    wpList Tryz.prog ops Q (o :: rest) a w := by
  have hgB : ∀ {w' : World}, w.grownBy w' v.ownBlock → Below base w w' := fun hg => (Below.refl base w).grown hg hbase fun k hk => (World.ownsRow.lt hown k hk).1
  rcases hh with ⟨p, c, rfl, rfl, hpn⟩ | ⟨b, off, c, rfl, h1, h2, h3⟩
  · cases p with
    | none =>
      have hc := hpn rfl
      subst hc
      refine wpList_append_own_none hgd x y t ho base e i st ht hi v l0.length _ hs hown hx ?_
      refine h v w ?_ (World.grownBy.refl w _) (Below.refl _ _)
      rw [List.append_nil]
      exact hown
    | some ad =>
      refine wpList_append_own _ hgd x y t ho base e i z st bytes ht hi hz hsize hby hzs hst0 v l0.length _ hs hown ad 0 c [] hx (by simp) (by simp) (by simp) hlen hby2 hbase ?_
      intro v' w' ho' hg' _
      refine h v' w' ?_ hg' (hgB hg')
      rw [List.append_nil] at ho' ⊢
      exact ho'
  · refine wpList_append_own _ hgd x y t ho base e i z st bytes ht hi hz hsize hby hzs hst0 v l0.length _ hs hown ⟨b, off, none⟩ l.length c (l.flatMap enc) hx (cells_len hst l) ?_ ?_ hlen hby2 hbase ?_
    · intro j u hj
      rw [Addr.add_lit]
      exact h3 j u hj
    · intro u hu
      obtain ⟨a', _, ha'⟩ := List.mem_flatMap.1 hu
      exact hone a' u ha'
    · intro v' w' ho' hg' _
      refine h v' w' ?_ hg' (hgB hg')
      rw [List.length_append, List.flatMap_append]
      exact ho'


end Go.Proofs.YtmhhbnnjilbdnaaGreatDoor
namespace Go.Proofs.YtmhhbnnjilbdnaaGreatDoor
open Go.RowKit
set_option linter.unusedSimpArgs false
set_option linter.unusedVariables false
set_option maxRecDepth 20000

end Go.Proofs.YtmhhbnnjilbdnaaGreatDoor
namespace Go.Proofs.YtmhhbnnjilbdnaaGreatDoor
open Go.RowKit
set_option linter.unusedSimpArgs false
set_option linter.unusedVariables false
set_option maxRecDepth 20000

end Go.Proofs.YtmhhbnnjilbdnaaGreatDoor
namespace Go.Proofs.YtmhhbnnjilbdnaaGreatDoor
open Go.RowKit Go.ChangeMaps
set_option linter.unusedSimpArgs false
set_option linter.unusedVariables false
set_option maxRecDepth 20000


end Go.Proofs.YtmhhbnnjilbdnaaGreatDoor
namespace Go.Proofs.YtmhhbnnjilbdnaaGreatDoor
open Go.RowKit Go.ChangeMaps
set_option linter.unusedSimpArgs false
set_option linter.unusedVariables false
set_option maxRecDepth 20000

end Go.Proofs.YtmhhbnnjilbdnaaGreatDoor
namespace Go.Proofs.YtmhhbnnjilbdnaaGreatDoor
open Go.RowKit Go.ChangeMaps
set_option linter.unusedSimpArgs false
set_option linter.unusedVariables false
set_option maxRecDepth 20000

end Go.Proofs.YtmhhbnnjilbdnaaGreatDoor
namespace Go.Proofs.YtmhhbnnjilbdnaaGreatDoor
open Go.RowKit Go.ChangeMaps
set_option linter.unusedSimpArgs false
set_option linter.unusedVariables false
set_option maxRecDepth 20000

end Go.Proofs.YtmhhbnnjilbdnaaGreatDoor
namespace Go.Proofs.YtmhhbnnjilbdnaaGreatDoor
open Go.RowKit Go.ChangeMaps
set_option linter.unusedSimpArgs false
set_option linter.unusedVariables false
set_option maxRecDepth 20000

theorem str_at {w : World} {p : Option Addr} {n c : Nat} {l : List ByteArray} (h : HasL w (.slice p n c) l) {i : Nat} (hi : i < l.length) : ∃ b off, p = some ⟨b, off, none⟩ ∧ w.cell? ⟨b, off + i, none⟩ = some (.string (l.getD i ByteArray.empty)) := by
  rcases h with ⟨p', c', e, rfl, _⟩ | ⟨b, off, c', e, _, _, h3⟩
  · simp at hi
  · injection e with e1 e2 e3
    exact ⟨b, off, e1, h3 i hi⟩

end Go.Proofs.YtmhhbnnjilbdnaaGreatDoor
namespace Go.Proofs.YtmhhbnnjilbdnaaGreatDoor
open Go.RowKit Go.ChangeMaps
set_option linter.unusedSimpArgs false
set_option linter.unusedVariables false
set_option maxRecDepth 20000

end Go.Proofs.YtmhhbnnjilbdnaaGreatDoor
namespace Go.Proofs.YtmhhbnnjilbdnaaGreatDoor
open Go.RowKit
set_option linter.unusedSimpArgs false
set_option linter.unusedVariables false

theorem carrierS_len (l : List UInt8) (h : l.length ≠ 2) : carrierS l = false := by
  match l, h with
  | [], _ => rfl
  | [_], _ => rfl
  | [_, _], h => simp at h
  | _ :: _ :: _ :: _, _ => rfl

def bLD (b : UInt8) : Bool := bL b || bD b

def mixedS (l : List UInt8) (least most : Int) : Bool := decide (least ≤ (l.length : Int) ∧ (l.length : Int) ≤ most) && l.all bLD

theorem mixed_any (s : ByteArray) (least most : Int) (w : World) (hs : s.size ≤ maxLen) :
    Calls Tryz.prog 47 #[.string s, .int .i64 least, .int .i64 most] w fun e w' => e = .returned (.bool (mixedS s.data.toList least most)) ∧ w = w' := by
  unfold maxLen at hs
  have hlen : s.data.toList.length = s.size := by simp
  by_cases h1 : (s.size : Int) < least
  · go_enter Tryz.func47, Tryz.ntmps47
    go_wp2
    go_ret
    exact ⟨ret_bool (by unfold mixedS; rw [hlen, decide_eq_false (by omega)]; rfl), rfl⟩
  by_cases h2 : most < (s.size : Int)
  · go_enter Tryz.func47, Tryz.ntmps47
    go_wp2
    go_ret
    exact ⟨ret_bool (by unfold mixedS; rw [hlen, decide_eq_false (by omega)]; rfl), rfl⟩
  have hd : decide (least ≤ (s.data.toList.length : Int) ∧ (s.data.toList.length : Int) ≤ most) = true := by rw [hlen]; exact decide_eq_true (by omega)
  have HD := Lib.hid hd
  clear hd
  have HL := Lib.hid hlen
  clear hlen
  go_enter Tryz.func47, Tryz.ntmps47
  go_wp2
  go_loop [7] (fun i => ∃ k : Nat, k ≤ s.size ∧ i = .int .i64 k ∧ (s.data.toList.take k).all bLD = true) (fun i => s.size - (intOf i).toNat)
  case atStart => exact ⟨0, Nat.zero_le _, rfl, rfl⟩
  case round =>
    obtain ⟨k, hk, rfl, hall⟩ := hrel
    have HA := Lib.hid hall
    clear hall
    by_cases hlt : k < s.size
    · have hix := get_list s k hlt
      have hbb := byte_hi (s.data.toList.getD k 0)
      generalize hg : s.data.toList.getD k 0 = b at hix hbb
      have HG := Lib.hid hg
      clear hg
      have hb0 : (0 : Int) ≤ (b.toNat : Int) := by omega
      cases hB : isL (b.toNat : Int) <;> cases hD : isD (b.toNat : Int)
      · go_wp2_with (first
          | (go_at_call 51; refine (refLetter_any _ _ hb0 hbb).mono ?_; rintro e w' ⟨rfl, rfl⟩)
          | (go_at_call 52; refine (refDigit_any _ _ hb0 hbb).mono ?_; rintro e w' ⟨rfl, rfl⟩))
        go_ret
        exact ⟨ret_bool (by unfold mixedS; rw [HD.out, all_false_of bLD _ k (by rw [HL.out]; omega) (by rw [HG.out]; simp [bLD, bL, bD, hB, hD])]; rfl), rfl⟩
      all_goals
        go_wp2_with (first
          | (go_at_call 51; refine (refLetter_any _ _ hb0 hbb).mono ?_; rintro e w' ⟨rfl, rfl⟩)
          | (go_at_call 52; refine (refDigit_any _ _ hb0 hbb).mono ?_; rintro e w' ⟨rfl, rfl⟩))
        go_round
        case rel => exact ⟨k + 1, by omega, by go_num, by rw [all_take_succ _ _ _ (by rw [HL.out]; omega), HA.out, HG.out]; simp [bLD, bL, bD, hB, hD]⟩
        case measure => simp [intOf]; omega
    · go_wp2
      go_ret
      exact ⟨ret_bool (by unfold mixedS; rw [HD.out]; have := HA.out; rw [List.take_of_length_le (by rw [HL.out]; omega)] at this; rw [this]; rfl), rfl⟩

theorem refPerson_any (s : ByteArray) (w : World) (hs : s.size ≤ maxLen) :
    Calls Tryz.prog 20 #[.string s] w fun e w' => e = .returned (.bool (lettersS s.data.toList 1 16)) ∧ w = w' := by
  have hlen : s.data.toList.length = s.size := by simp
  have hLD : s.data.toList.all bL = true → s.data.toList.all bLD = true := by
    intro h
    rw [List.all_eq_true] at h ⊢
    intro x hx
    simp [bLD, h x hx]
  cases hm : mixedS s.data.toList 1 16
  · have e : lettersS s.data.toList 1 16 = false := by
      unfold mixedS at hm
      unfold lettersS
      cases hd : decide ((1 : Int) ≤ (s.data.toList.length : Int) ∧ (s.data.toList.length : Int) ≤ 16)
      · rfl
      · rw [hd, Bool.true_and] at hm
        cases ha : s.data.toList.all bL
        · rfl
        · rw [hLD ha] at hm; cases hm
    have HE := Lib.hid e
    clear e hlen hLD
    go_enter Tryz.func20, Tryz.ntmps20
    go_wp2_with (go_at_call 47; refine (mixed_any _ _ _ _ hs).mono ?_; rintro e w' ⟨rfl, rfl⟩)
    go_ret
    exact ⟨ret_bool HE.out.symm, rfl⟩
  · have e : lettersS s.data.toList 1 16 = ((cntL s.data.toList : Int) == (s.size : Int)) := by
      unfold mixedS at hm
      rw [Bool.and_eq_true] at hm
      unfold lettersS
      rw [hm.1, Bool.true_and, Bool.eq_iff_iff, ← cntL_all, hlen, beq_iff_eq]
      omega
    have HE := Lib.hid e
    clear e hlen hLD
    go_enter Tryz.func20, Tryz.ntmps20
    go_wp2_with (first
      | (go_at_call 47; refine (mixed_any _ _ _ _ hs).mono ?_; rintro e w' ⟨rfl, rfl⟩)
      | (go_at_call 46; refine (refLetters_any _ _ hs).mono ?_; rintro e w' ⟨rfl, rfl⟩))
    go_ret
    exact ⟨ret_bool HE.out.symm, rfl⟩

theorem refCarrier_any (s : ByteArray) (w : World) (hs : s.size ≤ maxLen) :
    Calls Tryz.prog 48 #[.string s] w fun e w' => e = .returned (.bool (carrierS s.data.toList)) ∧ w = w' := by
  have hlen : s.data.toList.length = s.size := by simp
  have hne : mixedS s.data.toList 2 2 = false → carrierS s.data.toList = false := by
    intro hm
    by_cases h2 : s.data.toList.length = 2
    · match hl : s.data.toList, h2 with
      | [a, b], _ =>
        rw [hl] at hm
        simp [mixedS, bLD] at hm
        simp only [carrierS]
        cases ha : bL a <;> cases hb : bL b <;> cases hc : bD a <;> cases hd : bD b <;> simp_all
    · exact carrierS_len _ h2
  cases hm : mixedS s.data.toList 2 2
  · have HE := Lib.hid (hne hm)
    clear hlen hne
    go_enter Tryz.func48, Tryz.ntmps48
    go_wp2_with (go_at_call 47; refine (mixed_any _ _ _ _ hs).mono ?_; rintro e w' ⟨rfl, rfl⟩)
    go_ret
    exact ⟨ret_bool HE.out.symm, rfl⟩
  · have e : carrierS s.data.toList = decide (0 < cntL s.data.toList) := by
      have hm' := hm
      unfold mixedS at hm'
      rw [Bool.and_eq_true, decide_eq_true_eq, hlen] at hm'
      match hl : s.data.toList, (by omega : s.data.toList.length = 2) with
      | [a, b], _ =>
        rw [hl] at hm'
        obtain ⟨_, h2⟩ := hm'
        simp [bLD] at h2
        simp only [carrierS, cntL, List.filter_cons, List.filter_nil]
        cases ha : bL a <;> cases hb : bL b <;> cases hc : bD a <;> cases hd : bD b <;> simp_all
    have HE := Lib.hid e
    clear e hlen hne
    go_enter Tryz.func48, Tryz.ntmps48
    go_wp2_with (first
      | (go_at_call 47; refine (mixed_any _ _ _ _ hs).mono ?_; rintro e w' ⟨rfl, rfl⟩)
      | (go_at_call 46; refine (refLetters_any _ _ hs).mono ?_; rintro e w' ⟨rfl, rfl⟩))
    go_ret
    exact ⟨ret_bool HE.out.symm, rfl⟩

theorem range_take_all (p : Nat → Bool) (k : Nat) (hp : (List.range k).all p = true) (hk : p k = true) : (List.range (k + 1)).all p = true := by
  rw [List.range_succ, List.all_append, hp]; simp [hk]

theorem range_all_false (p : Nat → Bool) (n k : Nat) (h : k < n) (hk : p k = false) : (List.range n).all p = false := by
  rw [List.all_eq_false]; exact ⟨k, List.mem_range.2 h, by rw [hk]; decide⟩

theorem refFreeS_len (l : List UInt8) (h : ¬ (1 ≤ l.length ∧ l.length ≤ 40)) : refFreeS l = false := by unfold refFreeS; rw [decide_eq_false h]; rfl

theorem refFreeS_first (l : List UInt8) (h : (l.getD 0 0).toNat = 32) : refFreeS l = false := by unfold refFreeS; rw [h]; simp

theorem refFreeS_last (l : List UInt8) (h : (l.getD (l.length - 1) 0).toNat = 32) : refFreeS l = false := by unfold refFreeS; rw [h]; simp

theorem refFreeS_at (l : List UInt8) (k : Nat) (hk : k < l.length) (h : okAt l k = false) : refFreeS l = false := by unfold refFreeS; rw [range_all_false _ _ k hk h]; simp

theorem refFreeS_yes (l : List UInt8) (h1 : 1 ≤ l.length ∧ l.length ≤ 40) (h2 : (l.getD 0 0).toNat ≠ 32) (h3 : (l.getD (l.length - 1) 0).toNat ≠ 32) (h4 : (List.range l.length).all (okAt l) = true) : refFreeS l = true := by
  unfold refFreeS; rw [decide_eq_true h1, h4, beq_eq_false_iff_ne.2 h2, beq_eq_false_iff_ne.2 h3]; rfl

theorem okAt_blank (l : List UInt8) (k : Nat) (h : (l.getD k 0).toNat = 32) : ((l.getD (k - 1) 0).toNat ≠ 32 → okAt l k = true) ∧ ((l.getD (k - 1) 0).toNat = 32 → okAt l k = false) := by
  unfold okAt
  rw [h]
  exact ⟨fun h2 => by rw [beq_eq_false_iff_ne.2 h2]; simp, fun h2 => by rw [h2]; rfl⟩

theorem okAt_other (l : List UInt8) (k : Nat) (h : (l.getD k 0).toNat ≠ 32) : okAt l k = bF (l.getD k 0) := by
  unfold okAt
  rw [beq_eq_false_iff_ne.2 h]
  simp

set_option maxHeartbeats 2000000 in
theorem refFree_any (s : ByteArray) (w : World) (hs : s.size ≤ maxLen) :
    Calls Tryz.prog 24 #[.string s] w fun e w' => e = .returned (.bool (refFreeS s.data.toList)) ∧ w = w' := by
  unfold maxLen at hs
  have hlen : s.data.toList.length = s.size := by simp
  by_cases h1 : s.size < 1
  · have HE := Lib.hid (refFreeS_len s.data.toList (by omega))
    have g1 : (s.size : Int) < 1 := by omega
    clear hlen
    go_enter Tryz.func24, Tryz.ntmps24
    go_wp2
    go_ret
    exact ⟨ret_bool HE.out.symm, rfl⟩
  by_cases h2 : 40 < s.size
  · have HE := Lib.hid (refFreeS_len s.data.toList (by omega))
    have g1 : (40 : Int) < (s.size : Int) := by omega
    clear hlen
    go_enter Tryz.func24, Tryz.ntmps24
    go_wp2
    go_ret
    exact ⟨ret_bool HE.out.symm, rfl⟩
  have g0 : 0 < s.size := by omega
  have gl : s.size - 1 < s.size := by omega
  have hi0 := get_list s 0 g0
  have hil := get_list s (s.size - 1) gl
  have hlast := refFreeS_last s.data.toList
  have hfirst := refFreeS_first s.data.toList
  have hyes := refFreeS_yes s.data.toList (by omega)
  rw [hlen] at hlast hyes
  generalize s.data.toList.getD 0 0 = b0 at hi0 hfirst hyes
  generalize s.data.toList.getD (s.size - 1) 0 = bl at hil hlast hyes
  have HL := Lib.hid hlen
  have HFI := Lib.hid hfirst
  have HLA := Lib.hid hlast
  have HY := Lib.hid hyes
  clear hlen hfirst hlast hyes
  by_cases h3 : b0.toNat = 32
  · have g3 : ((b0.toNat : Int) == 32) = true := by rw [h3]; rfl
    have H3 := Lib.hid h3
    clear h3
    go_enter Tryz.func24, Tryz.ntmps24
    go_wp2
    go_ret
    exact ⟨ret_bool (HFI.out H3.out).symm, rfl⟩
  have g3 : ((b0.toNat : Int) == 32) = false := by simp; omega
  by_cases h4 : bl.toNat = 32
  · have g4 : ((bl.toNat : Int) == 32) = true := by rw [h4]; rfl
    have H4 := Lib.hid h4
    clear h4
    go_enter Tryz.func24, Tryz.ntmps24
    go_wp2
    go_ret
    exact ⟨ret_bool (HLA.out H4.out).symm, rfl⟩
  have g4 : ((bl.toNat : Int) == 32) = false := by simp; omega
  have H4 := Lib.hid h4
  clear h4
  go_enter Tryz.func24, Tryz.ntmps24
  go_wp2
  go_loop [3] (fun i => ∃ k : Nat, k ≤ s.size ∧ i = .int .i64 k ∧ (List.range k).all (okAt s.data.toList) = true) (fun i => s.size - (intOf i).toNat)
  case atStart => exact ⟨0, Nat.zero_le _, rfl, rfl⟩
  case round =>
    obtain ⟨k, hk, rfl, hall⟩ := hrel
    have HA := Lib.hid hall
    clear hall
    by_cases hlt : k < s.size
    · have hix := get_list s k hlt
      have hbb := byte_hi (s.data.toList.getD k 0)
      generalize hg : s.data.toList.getD k 0 = b at hix hbb
      have HG := Lib.hid hg
      clear hg
      have hb0 : (0 : Int) ≤ (b.toNat : Int) := by omega
      by_cases h32 : b.toNat = 32
      · have hk1 : 1 ≤ k := by
          rcases Nat.eq_zero_or_pos k with h | h
          · subst h
            rw [hi0] at hix
            subst hix
            exact absurd h32 h3
          · exact h
        have gk : k - 1 < s.size := by omega
        have hip := get_list s (k - 1) gk
        have hok := okAt_blank s.data.toList k (by rw [HG.out]; exact h32)
        generalize s.data.toList.getD (k - 1) 0 = p at hip hok
        have HO := Lib.hid hok
        have H32 := Lib.hid h32
        have g32 : ((b.toNat : Int) == 32) = true := by rw [h32]; rfl
        have g32n : ((b.toNat : Int) != 32) = false := by rw [h32]; rfl
        have hB : isL (b.toNat : Int) = false := by rw [h32]; rfl
        have hD : isD (b.toNat : Int) = false := by rw [h32]; rfl
        have g46 : ((b.toNat : Int) != 46) = true := by rw [h32]; rfl
        have g45 : ((b.toNat : Int) != 45) = true := by rw [h32]; rfl
        have g47 : ((b.toNat : Int) != 47) = true := by rw [h32]; rfl
        clear h32 hok
        by_cases hp : p.toNat = 32
        · have gp : ((p.toNat : Int) == 32) = true := by rw [hp]; rfl
          have HK := Lib.hid (HO.out.2 hp)
          clear hp
          go_wp2_with (first
            | (go_at_call 51; refine (refLetter_any _ _ hb0 hbb).mono ?_; rintro e w' ⟨rfl, rfl⟩)
            | (go_at_call 52; refine (refDigit_any _ _ hb0 hbb).mono ?_; rintro e w' ⟨rfl, rfl⟩))
          go_ret
          exact ⟨ret_bool (refFreeS_at _ k (by rw [HL.out]; exact hlt) HK.out).symm, rfl⟩
        · have gp : ((p.toNat : Int) == 32) = false := by simp; omega
          have HK := Lib.hid (HO.out.1 hp)
          clear hp
          go_wp2_with (first
            | (go_at_call 51; refine (refLetter_any _ _ hb0 hbb).mono ?_; rintro e w' ⟨rfl, rfl⟩)
            | (go_at_call 52; refine (refDigit_any _ _ hb0 hbb).mono ?_; rintro e w' ⟨rfl, rfl⟩))
          go_round
          case rel => exact ⟨k + 1, by omega, by go_num, range_take_all _ k HA.out HK.out⟩
          case measure => simp [intOf]; omega
  
      have g32 : ((b.toNat : Int) == 32) = false := by simp; omega
      have g32n : ((b.toNat : Int) != 32) = true := by rw [bne_iff_ne]; omega
      have hok := okAt_other s.data.toList k (by rw [HG.out]; exact h32)
      rw [HG.out] at hok
      have HO := Lib.hid hok
      clear hok
      have H32 := Lib.hid h32
      clear h32
      cases hB : isL (b.toNat : Int)
      case true =>
        have HK := Lib.hid (HO.out.trans (show bF b = true by simp [bF, bL, hB]))
        go_wp2_with (first
          | (go_at_call 51; refine (refLetter_any _ _ hb0 hbb).mono ?_; rintro e w' ⟨rfl, rfl⟩)
          | (go_at_call 52; refine (refDigit_any _ _ hb0 hbb).mono ?_; rintro e w' ⟨rfl, rfl⟩))
        go_round
        case rel => exact ⟨k + 1, by omega, by go_num, range_take_all _ k HA.out HK.out⟩
        case measure => simp [intOf]; omega
      cases hD : isD (b.toNat : Int)
      case true =>
        have HK := Lib.hid (HO.out.trans (show bF b = true by simp [bF, bD, hD]))
        go_wp2_with (first
          | (go_at_call 51; refine (refLetter_any _ _ hb0 hbb).mono ?_; rintro e w' ⟨rfl, rfl⟩)
          | (go_at_call 52; refine (refDigit_any _ _ hb0 hbb).mono ?_; rintro e w' ⟨rfl, rfl⟩))
        go_round
        case rel => exact ⟨k + 1, by omega, by go_num, range_take_all _ k HA.out HK.out⟩
        case measure => simp [intOf]; omega
      by_cases h46 : b.toNat = 46
      · have HK := Lib.hid (HO.out.trans (show bF b = true by simp [bF, h46]))
        have g46 : ((b.toNat : Int) != 46) = false := by rw [h46]; rfl
        clear h46
        go_wp2_with (first
          | (go_at_call 51; refine (refLetter_any _ _ hb0 hbb).mono ?_; rintro e w' ⟨rfl, rfl⟩)
          | (go_at_call 52; refine (refDigit_any _ _ hb0 hbb).mono ?_; rintro e w' ⟨rfl, rfl⟩))
        go_round
        case rel => exact ⟨k + 1, by omega, by go_num, range_take_all _ k HA.out HK.out⟩
        case measure => simp [intOf]; omega
      have g46 : ((b.toNat : Int) != 46) = true := by rw [bne_iff_ne]; omega
      by_cases h45 : b.toNat = 45
      · have HK := Lib.hid (HO.out.trans (show bF b = true by simp [bF, h45]))
        have g45 : ((b.toNat : Int) != 45) = false := by rw [h45]; rfl
        clear h45
        go_wp2_with (first
          | (go_at_call 51; refine (refLetter_any _ _ hb0 hbb).mono ?_; rintro e w' ⟨rfl, rfl⟩)
          | (go_at_call 52; refine (refDigit_any _ _ hb0 hbb).mono ?_; rintro e w' ⟨rfl, rfl⟩))
        go_round
        case rel => exact ⟨k + 1, by omega, by go_num, range_take_all _ k HA.out HK.out⟩
        case measure => simp [intOf]; omega
      have g45 : ((b.toNat : Int) != 45) = true := by rw [bne_iff_ne]; omega
      by_cases h47 : b.toNat = 47
      · have HK := Lib.hid (HO.out.trans (show bF b = true by simp [bF, h47]))
        have g47 : ((b.toNat : Int) != 47) = false := by rw [h47]; rfl
        clear h47
        go_wp2_with (first
          | (go_at_call 51; refine (refLetter_any _ _ hb0 hbb).mono ?_; rintro e w' ⟨rfl, rfl⟩)
          | (go_at_call 52; refine (refDigit_any _ _ hb0 hbb).mono ?_; rintro e w' ⟨rfl, rfl⟩))
        go_round
        case rel => exact ⟨k + 1, by omega, by go_num, range_take_all _ k HA.out HK.out⟩
        case measure => simp [intOf]; omega
      have g47 : ((b.toNat : Int) != 47) = true := by rw [bne_iff_ne]; omega
      have HK := Lib.hid (HO.out.trans (show bF b = false by simp [bF, bL, bD, hB, hD, h46, h45, h47]))
      clear h46 h45 h47
      go_wp2_with (first
        | (go_at_call 51; refine (refLetter_any _ _ hb0 hbb).mono ?_; rintro e w' ⟨rfl, rfl⟩)
        | (go_at_call 52; refine (refDigit_any _ _ hb0 hbb).mono ?_; rintro e w' ⟨rfl, rfl⟩))
      go_ret
      exact ⟨ret_bool (refFreeS_at _ k (by rw [HL.out]; exact hlt) HK.out).symm, rfl⟩
    · go_wp2
      go_ret
      exact ⟨ret_bool (HY.out h3 H4.out (by have := HA.out; rw [show k = s.size by omega] at this; exact this)).symm, rfl⟩

theorem refFree_any2 (s : ByteArray) (w : World) (hs : s.size ≤ maxLen) :
    Calls Tryz.prog 24 #[.string s] w fun e w' => e = .returned (.bool (freeS s.data.toList)) ∧ w = w' := by
  rw [free_eq]; exact refFree_any s w hs

end Go.Proofs.YtmhhbnnjilbdnaaGreatDoor
namespace Go.Proofs.YtmhhbnnjilbdnaaGreatDoor
open Go.RowKit Go.ChangeMaps
set_option linter.unusedSimpArgs false
set_option linter.unusedVariables false
set_option maxRecDepth 20000

set_option maxHeartbeats 8000000 in
theorem refTexts_any (l : List ByteArray) (v : Value) (most : Nat) (w : World) (hv : HasL w v l) (hs : ∀ s ∈ l, s.size ≤ maxLen) (hm : most ≤ 1000) :
    Calls Tryz.prog 23 #[v, .int .i64 most] w fun e w' => e = .returned (.bool (textsS l most)) ∧ w = w' := by
  obtain ⟨p, c, rfl⟩ := own_len hv
  have HV := Lib.hid hv
  have HS := Lib.hid hs
  by_cases hlong : most < l.length
  · have hi : (most : Int) < (l.length : Int) := by omega
    have HF := Lib.hid (textsS_no (l := l) (most := most) fun h => by have := h.1; omega)
    clear hv hlong hs
    go_enter Tryz.func23, Tryz.ntmps23
    go_wp2
    go_ret
    exact ⟨ret_bool HF.out.symm, rfl⟩
  have hi : ¬ (most : Int) < (l.length : Int) := by omega
  have HYES : RowKit.Hid ((∀ s ∈ l, freeP s) → textsS l most = true) := Lib.hid fun h => textsS_yes ⟨by omega, h⟩
  have HNO : RowKit.Hid (∀ s ∈ l, ¬ freeP s → textsS l most = false) := Lib.hid fun s h1 h2 => textsS_no fun h => h2 (h.2 s h1)
  generalize textsS l most = sb at *
  have hn : l.length ≤ 1000 := by omega
  generalize hN : l.length = N at *
  have HN := Lib.hid hN
  clear hv hlong hs hN hm
  go_enter Tryz.func23, Tryz.ntmps23
  go_wp2
  go_loopg [5] N (fun g0 s5 wr => ∃ i : Nat, i ≤ N ∧ g0 = N - i ∧ s5 = .int .i64 (i : Int) ∧ (∀ s ∈ l.take i, freeP s) ∧ w = wr)
  case atStart => exact ⟨0, Nat.zero_le _, rfl, rfl, (fun s h => by cases h), rfl⟩
  case round =>
    obtain ⟨i, hiN, rfl, rfl, hall, rfl⟩ := hrel
    have HALL := Lib.hid hall
    clear hall
    by_cases hlt : i < N
    · have hii : (i : Int) < (N : Int) := by omega
      have hi0 : (0 : Int) ≤ (i : Int) := by omega
      have hlN : i < l.length := by rw [HN.out]; exact hlt
      obtain ⟨bb, off, rfl, c0⟩ := str_at HV.out hlN
      have hg : l[i]? = some (l.getD i ByteArray.empty) := by rw [List.getD_eq_getElem?_getD, List.getElem?_eq_getElem hlN]; rfl
      have hmem : l.getD i ByteArray.empty ∈ l := List.mem_of_getElem? hg
      have hsz := HS.out _ hmem
      have HTK : RowKit.Hid (l.take (i + 1) = l.take i ++ [l.getD i ByteArray.empty]) := Lib.hid (by rw [List.take_add_one, hg]; rfl)
      have HNOk := Lib.hid (HNO.out _ hmem)
      clear hmem hg
      generalize l.getD i ByteArray.empty = s at *
      have HFR : RowKit.Hid (∀ W, Calls Tryz.prog 24 #[.string s] W fun e w' => e = .returned (.bool (freeS (toL s))) ∧ W = w') := Lib.hid fun W => refFree_any2 s W hsz
      cases hL : freeS (toL s) with
      | false =>
        rw [hL] at HFR
        have HF := Lib.hid (HNOk.out (by unfold freeP; rw [hL]; decide))
        clear hL
        go_wp2_with (first
          | (go_at_call 24; (with_reducible refine (HFR.out _).mono ?_); rintro e w5 ⟨rfl, rfl⟩))
        go_ret
        exact ⟨ret_bool HF.out.symm, rfl⟩
      | true =>
        rw [hL] at HFR
        have HL := Lib.hid hL
        clear hL
        go_wp2_with (first
          | (go_at_call 24; (with_reducible refine (HFR.out _).mono ?_); rintro e w5 ⟨rfl, rfl⟩))
        go_roundg (N - (i + 1))
        case measure => omega
        case rel => exact ⟨i + 1, by omega, rfl, by go_num, (fun t ht => by
          rw [HTK.out] at ht
          rcases List.mem_append.1 ht with h1 | h1
          · exact HALL.out t h1
          · rw [List.mem_singleton.1 h1]; exact HL.out), rfl⟩
    · have hie : i = N := by omega
      subst hie
      have hii : ¬ (i : Int) < (i : Int) := by omega
      have HT := Lib.hid (HYES.out (by have := HALL.out; rwa [List.take_of_length_le (by rw [HN.out]; exact Nat.le_refl _)] at this))
      go_wp2
      go_ret
      exact ⟨ret_bool HT.out.symm, rfl⟩

/-- A moment's number, or an error. -/
def joinZ (d m : Int) : Int × Int := if (0 ≤ d ∧ d < 366) ∧ 0 ≤ m ∧ m < 1440 then (d * 1440 + m, 0) else (0, 1)
theorem joinZ_yes {d m : Int} (h : (0 ≤ d ∧ d < 366) ∧ 0 ≤ m ∧ m < 1440) : joinZ d m = (d * 1440 + m, 0) := if_pos h
theorem joinZ_no {d m : Int} (h : ¬ ((0 ≤ d ∧ d < 366) ∧ 0 ≤ m ∧ m < 1440)) : joinZ d m = (0, 1) := if_neg h

theorem refJoin_any (d m : Int) (w : World) : Calls Tryz.prog 50 #[.int .i64 d, .int .i64 m] w fun e w' => e = .returned (.tuple #[.int .i64 (joinZ d m).1, .int .i64 (joinZ d m).2]) ∧ w = w' := by
  by_cases h : (0 ≤ d ∧ d < 366) ∧ 0 ≤ m ∧ m < 1440
  · rw [joinZ_yes h]
    obtain ⟨⟨h1, h2⟩, h3, h4⟩ := h
    go_enter Tryz.func50, Tryz.ntmps50
    go_wp2
    go_ret2
    exact ⟨rfl, rfl⟩
  · rw [joinZ_no h]
    by_cases h1 : d < 0
    · clear h
      go_enter Tryz.func50, Tryz.ntmps50
      go_wp2
      go_ret2
      exact ⟨rfl, rfl⟩
    by_cases h2 : 366 ≤ d
    · clear h
      go_enter Tryz.func50, Tryz.ntmps50
      go_wp2
      go_ret2
      exact ⟨rfl, rfl⟩
    by_cases h3 : m < 0
    · clear h
      go_enter Tryz.func50, Tryz.ntmps50
      go_wp2
      go_ret2
      exact ⟨rfl, rfl⟩
    · have h4 : 1440 ≤ m := by omega
      clear h
      go_enter Tryz.func50, Tryz.ntmps50
      go_wp2
      go_ret2
      exact ⟨rfl, rfl⟩

end Go.Proofs.YtmhhbnnjilbdnaaGreatDoor
namespace Go.Proofs.YtmhhbnnjilbdnaaGreatDoor
open Go.RowKit Go.ChangeMaps
set_option linter.unusedSimpArgs false
set_option linter.unusedVariables false
set_option maxRecDepth 20000

theorem str_tinfo : ∃ i0 : TypeInfo, Tryz.prog.info? 9 = some i0 ∧ i0.zero = some (.string ⟨#[]⟩) ∧ i0.size = 1 ∧ i0.bytes = 16 := by
  have hbyte : (Tryz.prog.info? 9).map (fun i => (i.zero, i.size, i.bytes)) = some (some (.string ⟨#[]⟩), 1, 16) := by kernel_rfl
  rw [Option.map_eq_some_iff] at hbyte
  obtain ⟨i0, h1, h2⟩ := hbyte
  simp only [Prod.mk.injEq] at h2
  exact ⟨i0, h1, h2.1, h2.2.1, h2.2.2⟩
theorem place_tinfo : ∃ i0 : TypeInfo, Tryz.prog.info? 72 = some i0 ∧ i0.zero = some (.agg #[.int .i64 0, .int .i64 0, .int .i64 0, .int .u8 0]) ∧ i0.size = 4 ∧ i0.bytes = 32 := by
  have hbyte : (Tryz.prog.info? 72).map (fun i => (i.zero, i.size, i.bytes)) = some (some (.agg #[.int .i64 0, .int .i64 0, .int .i64 0, .int .u8 0]), 4, 32) := by kernel_rfl
  rw [Option.map_eq_some_iff] at hbyte
  obtain ⟨i0, h1, h2⟩ := hbyte
  simp only [Prod.mk.injEq] at h2
  exact ⟨i0, h1, h2.1, h2.2.1, h2.2.2⟩

theorem own_row_ne {w : World} {B g : Nat} {e : TypeId} {st n : Nat} {v : Value} {xs : List Value} (h : w.ownsRow B e st v n xs) (hg : g < B) : v.ownBlock ≠ some g := fun e => by
  have := (World.ownsRow.lt h _ e).1
  omega

end Go.Proofs.YtmhhbnnjilbdnaaGreatDoor
namespace Go.Proofs.YtmhhbnnjilbdnaaGreatDoor
open Go.RowKit Go.ChangeMaps
set_option linter.unusedSimpArgs false
set_option linter.unusedVariables false
set_option maxRecDepth 20000

theorem zeroC_one : ∀ v ∈ zeroC, v.oneCell' = true := by
  intro v hv
  unfold zeroC at hv
  simp only [List.mem_cons, List.not_mem_nil, or_false] at hv
  rcases hv with rfl | rfl | rfl | rfl | rfl | rfl | rfl | rfl | rfl | rfl | rfl | rfl <;> rfl

theorem pnrC_one {x : PnrT} {p1 p2 p3 p4 p5 : Option Addr} {n1 n2 n3 n4 n5 c1 c2 c3 c4 c5 : Nat} : ∀ v ∈ pnrC x (.slice p1 n1 c1) (.slice p2 n2 c2) (.slice p3 n3 c3) (.slice p4 n4 c4) (.slice p5 n5 c5), v.oneCell' = true := by
  intro v hv
  simp [pnrC] at hv
  rcases hv with rfl | rfl | rfl | rfl | rfl | rfl | rfl | rfl | rfl | rfl | rfl | rfl <;> rfl

end Go.Proofs.YtmhhbnnjilbdnaaGreatDoor
