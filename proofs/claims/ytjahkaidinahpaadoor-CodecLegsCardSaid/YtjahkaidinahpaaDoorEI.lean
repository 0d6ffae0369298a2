/- word.Get from the front; the writer's methods. -/
import Derived.Test.YtjahkaidinahpaaDoorEH
import Derived.Handy
namespace Go.Proofs.YtjahkaidinahpaaDoor
open Go.RowKit Go.ChangeMaps
set_option linter.unusedSimpArgs false
set_option linter.unusedVariables false
set_option maxRecDepth 20000

theorem valB_take {l : List UInt8} {k : Nat} (h : k < l.length) : valB (l.take (k + 1)) = valB (l.take k) * 256 + (l.getD k 0).toNat := by
  unfold valB
  rw [List.take_succ_eq_append_getElem h, List.foldl_append]
  simp [List.getD, h]

theorem valB_lt : ∀ (l : List UInt8), valB l < 256 ^ l.length := by
  intro l
  have key : ∀ (l : List UInt8) (x m : Nat), x < 256 ^ m → l.foldl (fun x c => x * 256 + c.toNat) x < 256 ^ (m + l.length) := by
    intro l
    induction l with
    | nil => intro x m h; simpa using h
    | cons c t ih =>
      intro x m h
      rw [List.foldl_cons, List.length_cons, show m + (t.length + 1) = (m + 1) + t.length by omega]
      refine ih _ _ ?_
      have := c.toNat_lt
      rw [Nat.pow_succ]
      have h2 : x + 1 ≤ 256 ^ m := h
      have h3 : (x + 1) * 256 ≤ 256 ^ m * 256 := Nat.mul_le_mul h2 (Nat.le_refl _)
      omega
  have := key l 0 0 (by decide)
  rwa [Nat.zero_add] at this

theorem shl8_or {n x : Nat} (hn : n < 72057594037927936) (hx : x < 256) : bits .or .u64 (IntKind.u64.wrap ((n : Int) * 256)) (x : Int) = ((n * 256 + x : Nat) : Int) := by
  have e1 : IntKind.u64.wrap ((n : Int) * 256) = ((n * 256 : Nat) : Int) := by rw [IntKind.wrap_u64]; omega
  have h := or_add (acc := x) (y := n) (m := 8) hx
  rw [e1, u64_or_nat _ _ (by omega) (by omega), Nat.or_comm, show n * 256 = n * 2 ^ 8 from rfl, h]
  congr 1
  omega

set_option maxHeartbeats 8000000 in
theorem get_any (l : List UInt8) (v : Value) (k : Nat) (w : World) (hv : HasE byteC w v l) (hlk : l.length = k) (hk1 : 1 ≤ k) (hk4 : k ≤ 4) :
    Calls Tryd.prog 156 #[v, .int .i64 0, .int .i64 k] w fun e w' => e = .returned (.tuple #[.int .u64 (valB l : Nat), .int .i64 0]) ∧ w = w' := by
  have HV := Lib.hid hv
  rcases hv with ⟨p, c, rfl, rfl, _⟩ | ⟨b, off, c, rfl, h1, h2, _⟩
  · simp at hlk; omega
  have hki1 : ¬ (k : Int) < 1 := by omega
  have hki8 : ¬ (8 : Int) < (k : Int) := by omega
  have hkl : ¬ (k : Int) < (k : Int) := by omega
  have hk0 : (0 : Int) ≤ (k : Int) := by omega
  have hkc : (k : Int) ≤ (c : Int) := by omega
  have hb0 : ¬ (k : Int) - (k : Int) < 0 := by omega
  have HLK := Lib.hid hlk
  have HVB : RowKit.Hid (∀ j, valB (l.take j) < 72057594037927936) := Lib.hid fun j => by
    have h3 := valB_lt (l.take j)
    have h4 : (l.take j).length ≤ 4 := by rw [List.length_take]; omega
    have h5 : 256 ^ (l.take j).length ≤ 256 ^ 4 := Nat.pow_le_pow_right (by omega) h4
    have e : (256 : Nat) ^ 4 = 4294967296 := by decide
    omega
  rw [hlk]
  clear hlk
  go_enter Tryd.func156, Tryd.ntmps156
  go_wp2
  go_loopg [8, 40] k (fun g0 s8 s40 wr => ∃ j : Nat, j ≤ k ∧ g0 = k - j ∧ s8 = .int .u64 (valB (l.take j) : Nat) ∧ s40 = .int .i64 (j : Int) ∧ w = wr)
  case atStart => exact ⟨0, Nat.zero_le _, rfl, rfl, rfl, rfl⟩
  case round =>
    obtain ⟨j, hj, rfl, rfl, rfl, rfl⟩ := hrel
    by_cases hlt : j < k
    · have hji : (j : Int) < (k : Int) := by omega
      have hj0 : (0 : Int) ≤ (j : Int) := by omega
      obtain ⟨b', off', eb, c0⟩ := byte_at HV.out (i := j) (by rw [HLK.out]; exact hlt)
      simp at eb
      obtain ⟨rfl, rfl⟩ := eb
      have hx := (l.getD j 0).toNat_lt
      have HT := Lib.hid (valB_take (l := l) (k := j) (by rw [HLK.out]; exact hlt))
      have hor := shl8_or (HVB.out j) hx
      generalize l.getD j 0 = x at *
      generalize valB (l.take j) = n at *
      generalize hr : n * 256 + x.toNat = r at *
      have HR := Lib.hid hr
      clear hr
      go_wp2
      go_roundg (k - (j + 1))
      case measure => omega
      case rel => exact ⟨j + 1, by omega, rfl, by rw [HT.out], by go_num, rfl⟩
    · have hje : j = k := by omega
      subst hje
      have hji : ¬ (j : Int) < (j : Int) := by omega
      have HE : RowKit.Hid (valB (l.take j) = valB l) := Lib.hid (by rw [List.take_of_length_le (by rw [HLK.out]; exact Nat.le_refl _)])
      go_wp2
      go_ret2
      exact ⟨by rw [HE.out]; rfl, rfl⟩

/-- A writer at g, its bytes bs from B on. -/
def WS (w : World) (B g : Nat) (bs : List UInt8) : Prop := ∃ v, Blk w g 105 [v] ∧ OwnB w B v bs

theorem own_ne {w : World} {base k : Nat} {e : TypeId} {size : Nat} {v : Value} {n : Nat} {xs : List Value} (h : w.ownsRow base e size v n xs) (hk : k < base) : v.ownBlock = none ∨ v.ownBlock ≠ some k := by
  refine .inr fun e1 => ?_
  have := (World.ownsRow.lt h k e1).1
  omega

theorem ws_store {w w1 : World} {g : Nat} {v0 v1 : Value} {X : List UInt8} (hg : Blk w g 105 [v0]) (hb1 : Below w.heap.size w w1) (ho1 : OwnB w1 w.heap.size v1 X) :
    (∃ v', Blk (w1.setCell ⟨g, 0, none⟩ v1) g 105 [v'] ∧ OwnB (w1.setCell ⟨g, 0, none⟩ v1) w.heap.size v' X) ∧ w.grownBy (w1.setCell ⟨g, 0, none⟩ v1) (some g) :=
  ⟨⟨v1, (hg.mono hb1).set 0 v1, World.ownsRow.kept ho1 (gr_setCell1 (World.grownBy.refl _ _) 0 v1) (own_ne ho1 hg.lt)⟩, gr_setCell1 (gr_of_below hb1 _) 0 v1⟩

/-- What writing a number does. -/
theorem wnum_any (g : Nat) (v : Value) (bs : List UInt8) (n : Int) (w : World) (hg : Blk w g 105 [v]) (hv : HasE byteC w v bs) (hl : bs.length ≤ 1000000) (h0 : 0 ≤ n) (hn : n < 9223372036854775808) :
    Calls Tryd.prog 44 #[.pointer (some ⟨g, 0, none⟩), .int .i64 n] w fun e w' => e = .returned (.tuple #[]) ∧ (∃ v', Blk w' g 105 [v'] ∧ OwnB w' w.heap.size v' (bs ++ varL n.toNat)) ∧ w.grownBy w' (some g) := by
  obtain ⟨m, rfl⟩ := Int.eq_ofNat_of_zero_le h0
  have HC : RowKit.Hid (∀ W, HasE byteC W v bs → Calls Tryd.prog 109 #[v, .int .u64 (m : Int)] W fun e w' => ∃ v', e = .returned v' ∧ OwnB w' W.heap.size v' (bs ++ varL m) ∧ Below W.heap.size W w') := Lib.hid fun W h => var_any bs v m W h (by omega) hl
  have c0 : w.cell? ⟨g, 0, none⟩ = some v := (hg.cell 0).trans rfl
  have HG := Lib.hid hg
  have HV := Lib.hid hv
  have hgl := hg.lt
  obtain ⟨p, c, rfl⟩ := hv.len
  have hw : IntKind.u64.wrap (m : Int) = (m : Int) := by rw [IntKind.wrap_u64]; omega
  rw [Int.toNat_natCast]
  clear hv hn hl h0
  generalize bs ++ varL m = X at *
  go_enter Tryd.func44, Tryd.ntmps44
  go_wp2_with (first
    | (go_at_call 109; (with_reducible refine (HC.out _ HV.out).mono ?_); rintro e w1 ⟨v1, rfl, ho1, hb1⟩; obtain ⟨p1, c1, rfl⟩ := ho1.has.len; generalize X.length = nX at ho1 ⊢; have HO1 := Lib.hid ho1; clear ho1; have hc1 := cell_bel hb1 c0; have hfz := (HG.out.mono hb1).frozen 0))
  go_returns
  exact ⟨rfl, ws_store HG.out hb1 HO1.out⟩

theorem wbytes_any (g : Nat) (v : Value) (bs : List UInt8) (n : Int) (k : Nat) (w : World) (hg : Blk w g 105 [v]) (hv : HasE byteC w v bs) (hl : bs.length ≤ 1000000) (h0 : 0 ≤ n) (hn : n < 9223372036854775808) (hk : k ≤ 8) :
    Calls Tryd.prog 75 #[.pointer (some ⟨g, 0, none⟩), .int .i64 n, .int .i64 k] w fun e w' => e = .returned (.tuple #[]) ∧ (∃ v', Blk w' g 105 [v'] ∧ OwnB w' w.heap.size v' (bs ++ beL n.toNat k)) ∧ w.grownBy w' (some g) := by
  obtain ⟨m, rfl⟩ := Int.eq_ofNat_of_zero_le h0
  have HC : RowKit.Hid (∀ W, HasE byteC W v bs → Calls Tryd.prog 154 #[v, .int .u64 (m : Int), .int .i64 k] W fun e w' => ∃ v', e = .returned v' ∧ OwnB w' W.heap.size v' (bs ++ beL m k) ∧ Below W.heap.size W w') := Lib.hid fun W h => put_any bs v m k W h (by omega) hl hk
  have c0 : w.cell? ⟨g, 0, none⟩ = some v := (hg.cell 0).trans rfl
  have HG := Lib.hid hg
  have HV := Lib.hid hv
  have hgl := hg.lt
  obtain ⟨p, c, rfl⟩ := hv.len
  have hw : IntKind.u64.wrap (m : Int) = (m : Int) := by rw [IntKind.wrap_u64]; omega
  rw [Int.toNat_natCast]
  clear hv hn hl h0
  generalize bs ++ beL m k = X at *
  go_enter Tryd.func75, Tryd.ntmps75
  go_wp2_with (first
    | (go_at_call 154; (with_reducible refine (HC.out _ HV.out).mono ?_); rintro e w1 ⟨v1, rfl, ho1, hb1⟩; obtain ⟨p1, c1, rfl⟩ := ho1.has.len; generalize X.length = nX at ho1 ⊢; have HO1 := Lib.hid ho1; clear ho1; have hc1 := cell_bel hb1 c0; have hfz := (HG.out.mono hb1).frozen 0))
  go_returns
  exact ⟨rfl, ws_store HG.out hb1 HO1.out⟩

theorem numN_lt (x : Nat) : numN x < 308915776 := Nat.mod_lt _ (by decide)

theorem wloc_any (g : Nat) (v : Value) (bs : List UInt8) (s : ByteArray) (w : World) (hg : Blk w g 105 [v]) (hv : HasE byteC w v bs) (hl : bs.length ≤ 1000000) (hs : s.size ≤ maxLen) (hls : lettersS s.data.toList 6 6 = true) :
    Calls Tryd.prog 46 #[.pointer (some ⟨g, 0, none⟩), .string s] w fun e w' => e = .returned (.tuple #[]) ∧ (∃ v', Blk w' g 105 [v'] ∧ OwnB w' w.heap.size v' (bs ++ beL (numN (valL s.data.toList)) 4)) ∧ w.grownBy w' (some g) := by
  have HN : RowKit.Hid (∀ W, Calls Tryd.prog 111 #[.string s] W fun e w' => e = .returned (.tuple #[.int .i64 (numN (valL s.data.toList) : Nat), .bool true]) ∧ Below W.heap.size W w') := Lib.hid fun W => by
    have := lnum_any s W hs
    rw [hls, if_pos rfl] at this
    exact this
  have hlt := numN_lt (valL s.data.toList)
  generalize numN (valL s.data.toList) = m at *
  have HB : RowKit.Hid (∀ W, Blk W g 105 [v] → HasE byteC W v bs → Calls Tryd.prog 75 #[.pointer (some ⟨g, 0, none⟩), .int .i64 (m : Int), .int .i64 4] W fun e w' => e = .returned (.tuple #[]) ∧ (∃ v', Blk w' g 105 [v'] ∧ OwnB w' W.heap.size v' (bs ++ beL m 4)) ∧ W.grownBy w' (some g)) := Lib.hid fun W h1 h2 => by
    have := wbytes_any g v bs m 4 W h1 h2 hl (by omega) (by omega) (by omega)
    rw [Int.toNat_natCast] at this
    exact this
  have HG := Lib.hid hg
  have HV := Lib.hid hv
  have hgl := hg.lt
  clear hg hv hl hlt hls
  go_enter Tryd.func46, Tryd.ntmps46
  go_wp2_with (first
    | (go_at_call 111; (with_reducible refine (HN.out _).mono ?_); rintro e w1 ⟨rfl, hb1⟩)
    | (go_at_call 75; (with_reducible refine (HB.out _ (HG.out.mono hb1) (HV.out.mono hb1)).mono ?_); rintro e w2 ⟨rfl, ⟨v2, hg2, ho2⟩, hgr⟩))
  go_returns
  exact ⟨rfl, ⟨v2, hg2, ho2.low hb1.size⟩, gby_trans (gr_of_below hb1 _) hgr⟩
end Go.Proofs.YtjahkaidinahpaaDoor
