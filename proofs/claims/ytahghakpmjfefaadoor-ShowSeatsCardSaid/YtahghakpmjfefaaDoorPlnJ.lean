/- The reference's Places. -/
import Derived.Test.YtahghakpmjfefaaDoorKA
import Derived.Test.YtahghakpmjfefaaDoorKB
import Derived.Test.YtahghakpmjfefaaDoorKE
import Derived.Test.YtahghakpmjfefaaDoorKD
import Derived.Test.YtahghakpmjfefaaDoorPlnF
import Derived.Test.YtahghakpmjfefaaDoorKF
import Derived.Test.YtahghakpmjfefaaDoorPlnI
import Derived.Test.YtahghakpmjfefaaDoorRows
import Derived.WalkKit
import Derived.WalkSpells
import Derived.WalkLawsBesides
import Derived.Lib.ConvBytes
import Derived.Lib.Hide
import Derived.Lib.SliceRun
import Derived.IntWalk
import Derived.BigQuiet
import Derived.Deep.QuietTactic
import Derived.Deep.RegionWith
import Derived.Deep.RegionHeld3
import Derived.Deep.LoopGhost
import Derived.Deep.CutRange
import Derived.Deep.CutBlock
import Derived.Deep.MidRow
import Derived.Laws.OwnMore
import Derived.OwnWalk
import Derived.Laws.AppendOwnNone
import Derived.Maps.AppendAt
import Derived.Laws.Rows
import Derived.Maps.OwnOps
import Derived.DeepKeys5
import Derived.Lib.Bytealg
namespace Go.Proofs.YtahghakpmjfefaaDoor
open Go.RowKit
set_option linter.unusedSimpArgs false

theorem seat_news (wr : World) (s : St) : ∀ (j : Nat) (u : Value), (seatC s.1 s.2)[j]? = some u → (wr.alloc (.cells #[.int .i64 s.1, .int .u8 s.2.toNat] 80)).cell? (Addr.add ⟨wr.heap.size, 0, none⟩ j) = some u := by
  intro j y hj
  match j, hj with
  | 0, hj =>
    injection hj with hj
    subst hj
    simp only [Addr.add_lit]
    exact World.cell?_alloc_new _ _ _ _
  | 1, hj =>
    injection hj with hj
    subst hj
    simp only [Addr.add_lit]
    exact World.cell?_alloc_new _ _ _ _
  | j + 2, hj => simp [seatC] at hj

/-- 'append(v, s)' of one seat, which was laid in a new block right ahead. -/
theorem wpList_push_seat {wr : World} {ops : Array Oper} {rest : List Oper} {o : Oper} {a : Act} {Q : Exit → Act → World → Prop} (hgd : o.guard = none) (x y : Operand)
    (ho : o.op = .call { callee := .builtin .append, args := #[x, y], argTypes := #[51, 51] })
    (base : Nat) (v : Value) (l : List St) (s : St) (hs : a.eval x = v) (hown : OwnS wr base v l) (hx : a.eval y = .slice (some ⟨wr.heap.size, 0, none⟩) 1 1)
    (hm : l.length + 1 ≤ 1000000) (hbase : base ≤ wr.heap.size)
    (h : ∀ v' w', OwnS w' base v' (l ++ [s]) → Below base wr w' → (wr.alloc (.cells #[.int .i64 s.1, .int .u8 s.2.toNat] 80)).grownBy w' v.ownBlock → wpList Tryd.prog ops Q rest (a.put o.dst v') w') :
    wpList Tryd.prog ops Q (o :: rest) a (wr.alloc (.cells #[.int .i64 s.1, .int .u8 s.2.toNat] 80)) := by
  obtain ⟨i0, hi, hz, hsz, hby⟩ := seat_info
  refine wpList_append_own _ hgd x y 51 ho base 80 i0 _ 2 16 Tryd.underlying51 hi hz hsz hby rfl (by decide) v l.length (l.flatMap stC) hs (World.ownsRow.alloc hown _) ⟨wr.heap.size, 0, none⟩ 1 1 (seatC s.1 s.2) hx rfl ?_ seatC_one (by unfold maxLen; omega) (by omega) (by simp; omega) ?_
  · exact seat_news wr s
  · intro v' w' hown' hg _
    refine h v' w' ?_ ?_ hg
    · unfold OwnS
      have e1 : (l ++ [s]).flatMap stC = l.flatMap stC ++ seatC s.1 s.2 := by simp [List.flatMap_append, stC]
      rw [e1, List.length_append]
      exact hown'
    · refine ((Below.refl base wr).alloc hbase (.cells #[.int .i64 s.1, .int .u8 s.2.toNat] 80)).grown hg (by simp; omega) fun k hk => ?_
      exact (World.ownsRow.lt hown k hk).1

theorem take_get {α : Type} {l : List α} {k : Nat} {a : α} (h : l[k]? = some a) : l.take (k + 1) = l.take k ++ [a] := by
  rw [List.take_add_one, h]; rfl

theorem OwnS.cast {w : World} {B : Nat} {v : Value} {l m : List St} (h : OwnS w B v l) (e : l = m) : OwnS w B v m := e ▸ h

set_option maxRecDepth 20000 in
set_option maxHeartbeats 8000000 in
theorem places_any_c (p : Pl) (ve vb : Value) (l : List UInt8) (w : World) (hl : letF p.lets.data.toList = some l) (hsz : p.lets.size ≤ maxLen) (h1 : 1 ≤ p.first) (h2 : p.last ≤ 60) :
    Calls Tryd.prog 62 #[planV p ve vb] w fun e w' => ∃ v, e = .returned v ∧ OwnS w' w.heap.size v (placesL p.first p.last l) ∧ Below w.heap.size w w' := by
  obtain ⟨a, b, q, x, bk⟩ := p
  simp only at hl hsz h1 h2 ⊢
  obtain ⟨l1, l2, _⟩ := letF_some hl
  obtain ⟨w1, e1, a0, a1, a2, a3, a4, hb1, hz1⟩ := plan_boxed w a b q ve vb
  have HB := Lib.hid hb1
  have HZ := Lib.hid hz1
  have HC : RowKit.Hid (Calls Tryd.prog 61 #[.string q] w1 fun e w' => e = .returned (.tuple #[.string (strOf l), .bool true]) ∧ Below w1.heap.size w1 w') := Lib.hid ((refLetters_any_c q w1 hsz).mono fun e w' h => by
    obtain ⟨L, rfl, ⟨_, h3⟩, h4⟩ := h
    rw [h3 l hl, hl]
    exact ⟨rfl, h4⟩)
  have HG : RowKit.Hid (∀ i j, i < (b + 1 - a).toNat → j < l.length → (placesL a b l)[i * l.length + j]? = some (a + (i : Int), l.getD j 0)) := Lib.hid fun i j hi hj => placesL_get hi (by rw [List.getD_eq_getElem?_getD, List.getElem?_eq_getElem hj]; rfl)
  have HL : RowKit.Hid ((placesL a b l).length = (b + 1 - a).toNat * l.length) := Lib.hid (placesL_len a b l)
  have hstr : (strOf l).size = l.length := rfl
  have hgl : ∀ j (h : j < (strOf l).size), (strOf l)[j] = l.getD j 0 := fun j h => get_list (strOf l) j h
  generalize placesL a b l = P at *
  generalize hS : strOf l = S at *
  generalize hN : l.length = n at *
  generalize hR : (b + 1 - a).toNat = R at *
  have HGL := Lib.hid hgl
  clear hl hsz hz1 hb1 a3 a4 hS hgl
  go_enter Tryd.func62, Tryd.ntmps62
  unfold planV
  go_wp2_with (first
    | (go_at_call 61; (with_reducible refine HC.out.mono ?_); rintro e w2 ⟨rfl, hb2⟩; have c0 := cell_bel hb2 a0; have c1 := cell_bel hb2 a1))
  have HR := Lib.hid hR
  have hbw2 := bel_trans HB.out hb2
  have HC0 := Lib.hid c0
  have HC1 := Lib.hid c1
  clear e1 a0 a1 a2 hR c0 c1
  go_loopg [5, 6] R (fun g o r wr => ∃ (i : Nat), i ≤ R ∧ g = R - i ∧ r = .int .i64 (a + (i : Int)) ∧ OwnS wr w2.heap.size o (P.take (i * n)) ∧ Below w2.heap.size w2 wr)
  case atStart => exact ⟨0, Nat.zero_le _, rfl, by go_num, by rw [Nat.zero_mul]; exact OwnS.nil _ _, Below.refl _ _⟩
  case round =>
    obtain ⟨i, hi, rfl, rfl, ho, hb⟩ := hrel
    have HO := Lib.hid ho
    clear ho
    have c1 := cell_bel hb HC1.out
    by_cases hlt : i < R
    · have hir : a + (i : Int) ≤ b := by have := HR.out; omega
      have hi0 : (0 : Int) ≤ (i : Int) := by omega
      go_wp2
      go_loopg [5, 7] n (fun g o jv wr2 => ∃ (j : Nat), j ≤ n ∧ g = n - j ∧ jv = .int .i64 (j : Int) ∧ OwnS wr2 w2.heap.size o (P.take (i * n + j)) ∧ Below w2.heap.size w2 wr2)
      case atStart => exact ⟨0, Nat.zero_le _, rfl, rfl, HO.out, hb⟩
      case round =>
        obtain ⟨j, hj, rfl, rfl, ho2, hb2'⟩ := hrel
        have HO2 := Lib.hid ho2
        clear ho2
        by_cases hjn : j < n
        · have hji : (j : Int) < (n : Int) := by omega
          have hj0 : (0 : Int) ≤ (j : Int) := by omega
          have hgj := HGL.out j (by omega)
          have HT := Lib.hid (take_get (HG.out i j hlt hjn))
          have hlen : (P.take (i * n + j)).length + 1 ≤ 1000000 := by
            rw [List.length_take]
            have h1 : i * n ≤ 60 * 10 := Nat.mul_le_mul (by have := HR.out; omega) l2
            omega
          have hbase := hb2'.size
          generalize l.getD j 0 = c at *
          go_wp2_with (first
            | (at_builtin; refine wpList_push_seat rfl _ _ rfl w2.heap.size u5 (P.take (i * n + j)) (a + (i : Int), c) rfl HO2.out rfl hlen hbase ?_; intro v4 w4 ho4 hb4 _))
          go_roundg (n - (j + 1))
          case measure => omega
          case rel => exact ⟨j + 1, by omega, rfl, by go_num, ho4.cast HT.out.symm, hb2'.trans hb4⟩
        · have hjn2 : j = n := by omega
          subst hjn2
          have hji : ¬ (j : Int) < (j : Int) := by omega
          go_wp2
          go_roundg (R - (i + 1))
          case measure => omega
          case rel => exact ⟨i + 1, by omega, rfl, by go_num, HO2.out.cast (by rw [Nat.succ_mul]), hb2'⟩
    · have hie : i = R := by omega
      subst hie
      have hir : ¬ a + (i : Int) ≤ b := by have := HR.out; omega
      go_wp2
      go_ret
      refine ⟨_, rfl, ?_, bel_trans hbw2 hb⟩
      exact own_low (HO.out.cast (by rw [← HL.out, List.take_length])) hbw2.size
end Go.Proofs.YtahghakpmjfefaaDoor
