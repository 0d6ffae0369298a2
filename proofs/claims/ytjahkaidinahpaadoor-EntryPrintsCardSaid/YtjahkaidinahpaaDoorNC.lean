/- Texts of seats are read: plan.Read, jetwayref09.Read. -/
import Derived.Test.YtjahkaidinahpaaDoorME
namespace Go.Proofs.YtjahkaidinahpaaDoor.Pl
open Go.RowKit
set_option linter.unusedSimpArgs false
set_option linter.unusedVariables false

/-- The seat of a text. -/
def readL : List UInt8 → Option (Int × UInt8)
  | [a, c] => if isD a.toNat = true ∧ a.toNat ≠ 48 ∧ isL c.toNat = true then some ((a.toNat : Int) - 48, c) else none
  | [a, b, c] => if isD a.toNat = true ∧ a.toNat ≠ 48 ∧ isD b.toNat = true ∧ isL c.toNat = true then some (10 * ((a.toNat : Int) - 48) + ((b.toNat : Int) - 48), c) else none
  | _ => none

def rowN (s : List UInt8) : Nat → Int
  | 0 => 0
  | 1 => ((s.getD 0 0).toNat : Int) - 48
  | _ => 10 * (((s.getD 0 0).toNat : Int) - 48) + (((s.getD 1 0).toNat : Int) - 48)

/-- What is known behind k rounds. -/
def goodR (s : List UInt8) (k : Nat) : Prop := (1 ≤ k → isD (s.getD 0 0).toNat = true ∧ (s.getD 0 0).toNat ≠ 48) ∧ (2 ≤ k → isD (s.getD 1 0).toNat = true)

theorem dig_not_let {c : Int} (h : isD c = true) : isL c = false := by
  unfold isD at h
  have := of_decide_eq_true h
  unfold isL
  exact decide_eq_false (by omega)

theorem read_yes {l : List UInt8} {k : Nat} (hg : goodR l k) (h0 : 0 < k) (hk2 : k ≤ 2) (hk : k + 1 = l.length) (hx : isL (l.getD k 0).toNat = true) : readL l = some (rowN l k, l.getD k 0) := by
  obtain ⟨g1, g2⟩ := hg
  rcases l with _ | ⟨a, _ | ⟨b, _ | ⟨c, _ | ⟨d, t⟩⟩⟩⟩ <;> simp at hk
  · omega
  · subst hk
    have := g1 (Nat.le_refl _)
    exact if_pos ⟨this.1, this.2, hx⟩
  · subst hk
    have := g1 (by omega)
    exact if_pos ⟨this.1, this.2, g2 (Nat.le_refl _), hx⟩
  · omega

theorem read_no {l : List UInt8} {k : Nat} (hg : goodR l k) (hk2 : k ≤ 2) (hk : k < l.length) (hn : ¬ (0 < k ∧ k + 1 = l.length ∧ isL (l.getD k 0).toNat = true)) (hb : 1 < k ∨ isD (l.getD k 0).toNat = false ∨ k = 0 ∧ (l.getD k 0).toNat = 48) : readL l = none := by
  obtain ⟨g1, g2⟩ := hg
  rcases l with _ | ⟨a, _ | ⟨b, _ | ⟨c, _ | ⟨d, t⟩⟩⟩⟩
  · rfl
  · rfl
  · match k, hk2 with
    | 0, _ => exact if_neg fun h => by rcases hb with h1 | h1 | ⟨_, h1⟩; omega; rw [show (([a, b] : List UInt8).getD 0 0) = a from rfl, h.1] at h1; cases h1; exact h.2.1 h1
    | 1, _ => exact if_neg fun h => hn ⟨by omega, rfl, h.2.2⟩
    | 2, _ => simp at hk
  · match k, hk2 with
    | 0, _ => exact if_neg fun h => by rcases hb with h1 | h1 | ⟨_, h1⟩; omega; rw [show (([a, b, c] : List UInt8).getD 0 0) = a from rfl, h.1] at h1; cases h1; exact h.2.1 h1
    | 1, _ => exact if_neg fun h => by rcases hb with h1 | h1 | ⟨h1, _⟩; omega; rw [show (([a, b, c] : List UInt8).getD 1 0) = b from rfl, h.2.2.1] at h1; cases h1; omega
    | 2, _ => exact if_neg fun h => hn ⟨by omega, rfl, h.2.2.2⟩
  · rfl

theorem read_end {l : List UInt8} {k : Nat} (hg : goodR l k) (hk2 : k ≤ 2) (hk : k = l.length) : readL l = none := by
  rcases l with _ | ⟨a, _ | ⟨b, t⟩⟩
  · rfl
  · rfl
  · have : t = [] := by simp at hk; exact List.length_eq_zero_iff.1 (by omega)
    subst this
    subst hk
    exact if_neg fun h => by have := dig_not_let (hg.2 (Nat.le_refl _)); rw [show (([a, b] : List UInt8).getD 1 0) = b from rfl, h.2.2] at this; cases this

theorem good_zero {l : List UInt8} (hx : isD (l.getD 0 0).toNat = true) (h : (l.getD 0 0).toNat ≠ 48) : goodR l 1 := ⟨fun _ => ⟨hx, h⟩, fun h => absurd h (by omega)⟩

theorem good_one {l : List UInt8} (hg : goodR l 1) (hx : isD (l.getD 1 0).toNat = true) : goodR l 2 := ⟨fun _ => hg.1 (Nat.le_refl _), fun _ => hx⟩

theorem row_one {l : List UInt8} (hg : goodR l 1) : 1 ≤ rowN l 1 ∧ rowN l 1 ≤ 9 := by
  have h := hg.1 (Nat.le_refl _)
  have h1 := h.1
  unfold isD at h1
  have := of_decide_eq_true h1
  show 1 ≤ ((l.getD 0 0).toNat : Int) - 48 ∧ ((l.getD 0 0).toNat : Int) - 48 ≤ 9
  omega

def seatC (r : Int) (c : UInt8) : List Value := [.int .i64 r, .int .u8 c.toNat]

def seatO (o : Option (Int × UInt8)) : List Value := match o with | some (r, c) => seatC r c | none => seatC 0 0

theorem info_seat : (Tryd.prog.info? 39).map (·.size) = some 2 := by kernel_rfl

theorem seatC_one {r : Int} {c : UInt8} : ∀ v ∈ seatC r c, v.oneCell' = true := by
  intro v hv
  simp [seatC] at hv
  rcases hv with rfl | rfl <;> rfl

/-- A seat and a yes or no come back. -/
theorem seat_back {fn : Func} {p q : Tmp} (hf : fn.results = #[.cell p 39, .tmp q]) {a : Act} {w w0 : World} {g : Nat} {T : TypeId} {r : Int} {c : UInt8} {o : Option (Int × UInt8)} {b : Bool}
    (hp : a.tmps.getD p undef = .pointer (some ⟨g, 0, none⟩)) (hq : a.tmps.getD q undef = .bool b) (hg : Blk w g T (seatC r c)) (hd : a.defers = []) (ho : seatO o = seatC r c) (hb : b = o.isSome) (hw : Below w0.heap.size w0 w) :
    bodyPost Tryd.prog fn (fun e w' => e = .returned (.tuple #[.agg (seatO o).toArray, .bool o.isSome]) ∧ Below w0.heap.size w0 w') .ret a w := by
  refine bodyPost_ret_by (results_row_tmp hf _ _ g T (seatC r c) _ hp hg Tryd.underlying39 rfl info_seat) hd ⟨?_, hw⟩
  rw [ho, hq, hb]

set_option maxRecDepth 20000 in
set_option maxHeartbeats 4000000 in
theorem read_any (s : ByteArray) (w : World) (hs : s.size ≤ maxLen) :
    Calls Tryd.prog 189 #[.string s] w fun e w' => e = .returned (.tuple #[.agg (seatO (readL s.data.toList)).toArray, .bool (readL s.data.toList).isSome]) ∧ Below w.heap.size w w' := by
  obtain ⟨w1, cap, hconv, hb1, hz1, hcells⟩ := bytes_conv s (w.alloc (.cells #[.int .i64 0, .int .u8 0] 39))
  have hhs : (w.alloc (.cells #[.int .i64 0, .int .u8 0] 39)).heap.size = w.heap.size + 1 := by simp
  rw [hhs] at hconv hz1 hcells hb1
  have hB : Blk w1 w.heap.size 39 (seatC 0 0) := (Blk.new w 39 (seatC 0 0)).keep hb1 (by omega)
  have hbw : Below w.heap.size w w1 := ((Below.refl _ _).alloc (Nat.le_refl _) _).trans (hb1.mono (by omega))
  have HB := Lib.hid hB
  have HW := Lib.hid hbw
  clear hz1 hhs hb1 hB hbw
  go_enter Tryd.func189, Tryd.ntmps189
  go_wp2
  go_loopg [4, 10] (s.size + 1) (fun g r i wr => ∃ k : Nat, k ≤ 2 ∧ k ≤ s.size ∧ g = s.size + 1 - k ∧ i = .int .i64 k ∧ r = .int .i64 (rowN s.data.toList k) ∧ goodR s.data.toList k ∧ w1 = wr)
  case atStart => exact ⟨0, by omega, by omega, rfl, rfl, rfl, ⟨fun h => absurd h (by omega), fun h => absurd h (by omega)⟩, rfl⟩
  case round =>
    obtain ⟨k, hk2, hks, rfl, rfl, rfl, hgood, rfl⟩ := hrel
    have HG := Lib.hid hgood
    by_cases hlt : k < s.size
    · have hki : (k : Int) < (s.size : Int) := by omega
      have hk0 : (0 : Int) ≤ (k : Int) := by omega
      have c1 := hcells k hlt
      have hls : s.data.toList.length = s.size := by simp
      have hsm : s.size ≤ 9223372036854775807 := hs
      have hll : RowKit.Hid (k < s.data.toList.length) := Lib.hid (by rw [hls]; exact hlt)
      clear hcells hgood
      generalize hl : s.data.toList = l at *
      have HLS := Lib.hid hls
      have hx0 : (0 : Int) ≤ ((l.getD k 0).toNat : Int) := by omega
      have hx1 := byte_hi (l.getD k 0)
      clear hls
      have HX : RowKit.Hid (∃ x, x = l.getD k 0) := Lib.hid ⟨_, rfl⟩
      by_cases hk : k = 0
      · subst hk
        have hrow : rowN l 0 = 0 := rfl
        by_cases hD : isD (l.getD 0 0).toNat = true
        · by_cases h48 : (l.getD 0 0).toNat = 48
          · have HF := Lib.hid (read_no HG.out hk2 hll.out (by omega) (.inr (.inr ⟨rfl, h48⟩)))
            have hx : ((l.getD 0 0).toNat : Int) = 48 := by omega
            clear HG
            rw [hx] at c1
            go_wp2_with (first
              | (refine wpList_store_blk rfl 39 (.tmp 2) (.tmp 54) rfl w.heap.size 39 (seatC 0 0) (seatC 0 0) rfl rfl HB.out rfl info_seat seatC_one ?_; intro w9 ha9 hb9 _))
            subst hl
            exact seat_back rfl rfl rfl ha9 rfl (by rw [HF.out]; rfl) (by rw [HF.out]; rfl) (HW.out.trans hb9)
          · have HN := Lib.hid (good_zero hD h48)
            unfold isD at hD
            obtain ⟨hd1, hd2⟩ := of_decide_eq_true hD
            have hrow1 : RowKit.Hid (rowN l 1 = ((l.getD 0 0).toNat : Int) - 48) := Lib.hid rfl
            have hne : ((l.getD 0 0).toNat : Int) ≠ 48 := by omega
            have hxb : (((l.getD 0 0).toNat : Int) == 48) = false := by rw [beq_eq_false_iff_ne]; exact hne
            have hq : ¬ 9 < ((l.getD 0 0).toNat : Int) - 48 := by omega
            clear HG hD h48
            generalize (l.getD 0 0) = x at *
            go_wp2
            go_roundg (s.size + 1 - 1)
            case measure => omega
            case rel => exact ⟨1, by omega, by omega, rfl, by go_num, by rw [hrow1.out], HN.out, rfl⟩
        · have HF := Lib.hid (read_no HG.out hk2 hll.out (by omega) (.inr (.inl (by simpa using hD))))
          have hnd : ¬ (48 ≤ ((l.getD 0 0).toNat : Int) ∧ ((l.getD 0 0).toNat : Int) ≤ 57) := fun h => hD (by unfold isD; exact decide_eq_true h)
          clear HG hD
          generalize (l.getD 0 0) = x at *
          go_wp2_with (first
            | (refine wpList_store_blk rfl 39 (.tmp 2) (.tmp 54) rfl w.heap.size 39 (seatC 0 0) (seatC 0 0) rfl rfl HB.out rfl info_seat seatC_one ?_; intro w9 ha9 hb9 _))
          subst hl
          exact seat_back rfl rfl rfl ha9 rfl (by rw [HF.out]; rfl) (by rw [HF.out]; rfl) (HW.out.trans hb9)
      · have hk00 : (0 : Int) < (k : Int) := by omega
        by_cases hlast : k + 1 = s.size
        · by_cases hL : isL (l.getD k 0).toNat = true
          · have HF := Lib.hid (read_yes HG.out (by omega) hk2 (by rw [HLS.out]; exact hlast) hL)
            unfold isL at hL
            obtain ⟨hd1, hd2⟩ := of_decide_eq_true hL
            have hle : ((k : Int) == (s.size : Int) - 1) = true := by rw [beq_iff_eq]; omega
            clear HG hL
            generalize rowN l k = R at *
            generalize (l.getD k 0) = x at *
            go_wp2_with (first
              | (refine wpList_store_blk rfl 39 (.tmp 2) (.tmp 31) rfl w.heap.size 39 (seatC 0 0) (seatC R x) rfl rfl HB.out rfl info_seat seatC_one ?_; intro w9 ha9 hb9 _))
            subst hl
            exact seat_back rfl rfl rfl ha9 rfl (by rw [HF.out]; rfl) (by rw [HF.out]; rfl) (HW.out.trans hb9)
          · have hle : ((k : Int) == (s.size : Int) - 1) = true := by rw [beq_iff_eq]; omega
            have hnl : ¬ (65 ≤ ((l.getD k 0).toNat : Int) ∧ ((l.getD k 0).toNat : Int) ≤ 90) := fun h => hL (by unfold isL; exact decide_eq_true h)
            have hno : ¬ (0 < k ∧ k + 1 = l.length ∧ isL (l.getD k 0).toNat = true) := fun h => hL h.2.2
            clear hL
            by_cases hk1 : k = 1
            · have hi1 : ¬ (1 : Int) < (k : Int) := by omega
              have HK1 := Lib.hid hk1
              by_cases hD : isD (l.getD k 0).toNat = true
              · have HN : RowKit.Hid (goodR l (k + 1)) := Lib.hid (by subst hk1; exact good_one HG.out hD)
                unfold isD at hD
                obtain ⟨hd1, hd2⟩ := of_decide_eq_true hD
                obtain ⟨hR1, hR2⟩ : 1 ≤ rowN l k ∧ rowN l k ≤ 9 := by subst hk1; exact row_one HG.out
                have hrow2 : RowKit.Hid (rowN l (k + 1) = rowN l k * 10 + (((l.getD k 0).toNat : Int) - 48)) := Lib.hid (by subst hk1; show 10 * (_ - 48) + _ = _; rw [Int.mul_comm]; rfl)
                have hRb : (rowN l k == 0) = false := by rw [beq_eq_false_iff_ne]; omega
                have hq : ¬ 9 < ((l.getD k 0).toNat : Int) - 48 := by omega
                clear HG hD hno hk1 hk hlast
                generalize rowN l k = R at *
                generalize (l.getD k 0) = x at *
                go_wp2
                go_roundg (s.size + 1 - (k + 1))
                case measure => omega
                case rel => exact ⟨k + 1, by have := HK1.out; omega, by omega, rfl, by go_num, by rw [hrow2.out], HN.out, rfl⟩
              · have HF := Lib.hid (read_no HG.out hk2 hll.out hno (.inr (.inl (by simpa using hD))))
                have hnd : ¬ (48 ≤ ((l.getD k 0).toNat : Int) ∧ ((l.getD k 0).toNat : Int) ≤ 57) := fun h => hD (by unfold isD; exact decide_eq_true h)
                clear HG hD hno hk1 hk hlast
                generalize (l.getD k 0) = x at *
                go_wp2_with (first
                  | (refine wpList_store_blk rfl 39 (.tmp 2) (.tmp 54) rfl w.heap.size 39 (seatC 0 0) (seatC 0 0) rfl rfl HB.out rfl info_seat seatC_one ?_; intro w9 ha9 hb9 _))
                subst hl
                exact seat_back rfl rfl rfl ha9 rfl (by rw [HF.out]; rfl) (by rw [HF.out]; rfl) (HW.out.trans hb9)
            · have HF := Lib.hid (read_no HG.out hk2 hll.out hno (.inl (by omega)))
              have hi1 : (1 : Int) < (k : Int) := by omega
              clear HG hno hk1 hk hlast
              generalize (l.getD k 0) = x at *
              go_wp2_with (first
                | (refine wpList_store_blk rfl 39 (.tmp 2) (.tmp 54) rfl w.heap.size 39 (seatC 0 0) (seatC 0 0) rfl rfl HB.out rfl info_seat seatC_one ?_; intro w9 ha9 hb9 _))
              subst hl
              exact seat_back rfl rfl rfl ha9 rfl (by rw [HF.out]; rfl) (by rw [HF.out]; rfl) (HW.out.trans hb9)
        · have hle : ((k : Int) == (s.size : Int) - 1) = false := by rw [beq_eq_false_iff_ne]; omega
          have hno : ¬ (0 < k ∧ k + 1 = l.length ∧ isL (l.getD k 0).toNat = true) := fun h => hlast (by have := HLS.out; omega)
          by_cases hk1 : k = 1
          · have hi1 : ¬ (1 : Int) < (k : Int) := by omega
            have HK1 := Lib.hid hk1
            by_cases hD : isD (l.getD k 0).toNat = true
            · have HN : RowKit.Hid (goodR l (k + 1)) := Lib.hid (by subst hk1; exact good_one HG.out hD)
              unfold isD at hD
              obtain ⟨hd1, hd2⟩ := of_decide_eq_true hD
              obtain ⟨hR1, hR2⟩ : 1 ≤ rowN l k ∧ rowN l k ≤ 9 := by subst hk1; exact row_one HG.out
              have hrow2 : RowKit.Hid (rowN l (k + 1) = rowN l k * 10 + (((l.getD k 0).toNat : Int) - 48)) := Lib.hid (by subst hk1; show 10 * (_ - 48) + _ = _; rw [Int.mul_comm]; rfl)
              have hRb : (rowN l k == 0) = false := by rw [beq_eq_false_iff_ne]; omega
              have hq : ¬ 9 < ((l.getD k 0).toNat : Int) - 48 := by omega
              clear HG hD hno hk1 hk hlast
              generalize rowN l k = R at *
              generalize (l.getD k 0) = x at *
              go_wp2
              go_roundg (s.size + 1 - (k + 1))
              case measure => omega
              case rel => exact ⟨k + 1, by have := HK1.out; omega, by omega, rfl, by go_num, by rw [hrow2.out], HN.out, rfl⟩
            · have HF := Lib.hid (read_no HG.out hk2 hll.out hno (.inr (.inl (by simpa using hD))))
              have hnd : ¬ (48 ≤ ((l.getD k 0).toNat : Int) ∧ ((l.getD k 0).toNat : Int) ≤ 57) := fun h => hD (by unfold isD; exact decide_eq_true h)
              clear HG hD hno hk1 hk hlast
              generalize (l.getD k 0) = x at *
              go_wp2_with (first
                | (refine wpList_store_blk rfl 39 (.tmp 2) (.tmp 54) rfl w.heap.size 39 (seatC 0 0) (seatC 0 0) rfl rfl HB.out rfl info_seat seatC_one ?_; intro w9 ha9 hb9 _))
              subst hl
              exact seat_back rfl rfl rfl ha9 rfl (by rw [HF.out]; rfl) (by rw [HF.out]; rfl) (HW.out.trans hb9)
          · have HF := Lib.hid (read_no HG.out hk2 hll.out hno (.inl (by omega)))
            have hi1 : (1 : Int) < (k : Int) := by omega
            clear HG hno hk1 hk hlast
            generalize (l.getD k 0) = x at *
            go_wp2_with (first
              | (refine wpList_store_blk rfl 39 (.tmp 2) (.tmp 54) rfl w.heap.size 39 (seatC 0 0) (seatC 0 0) rfl rfl HB.out rfl info_seat seatC_one ?_; intro w9 ha9 hb9 _))
            subst hl
            exact seat_back rfl rfl rfl ha9 rfl (by rw [HF.out]; rfl) (by rw [HF.out]; rfl) (HW.out.trans hb9)
    · have hke : k = s.size := by omega
      have HF := Lib.hid (read_end HG.out hk2 (by rw [hke]; simp))
      have hki : ¬ (k : Int) < (s.size : Int) := by omega
      clear HG hgood
      generalize hl : s.data.toList = l at *
      go_wp2_with (first
        | (refine wpList_store_blk rfl 39 (.tmp 2) (.tmp 54) rfl w.heap.size 39 (seatC 0 0) (seatC 0 0) rfl rfl HB.out rfl info_seat seatC_one ?_; intro w9 ha9 hb9 _))
      subst hl
      exact seat_back rfl rfl rfl ha9 rfl (by rw [HF.out]; rfl) (by rw [HF.out]; rfl) (HW.out.trans hb9)

theorem dch_of {a : UInt8} {n : Nat} (h : (a.toNat : Int) - 48 = n % 10) : dch n = a := by
  apply UInt8.toNat_inj.1
  rw [dch_toNat]
  omega

theorem dig_of {c : UInt8} (h : isD c.toNat = true) : 48 ≤ (c.toNat : Int) ∧ (c.toNat : Int) ≤ 57 := by
  unfold isD at h
  exact of_decide_eq_true h

theorem dig_mk {c : UInt8} (h : 48 ≤ (c.toNat : Int) ∧ (c.toNat : Int) ≤ 57) : isD c.toNat = true := by
  unfold isD
  exact decide_eq_true h

theorem seatT_eq {r : Int} {c : UInt8} {n : Nat} (hn : r = n) (h1 : 1 ≤ n) (h2 : n ≤ 99) (hc : isL c.toNat = true) : (seatT r c).data.toList = two n ++ [c] := by
  subst hn
  unfold seatT
  rw [if_pos ⟨by omega, by omega, hc⟩]
  show ((digA n) ++ ⟨#[c]⟩ : ByteArray).data.toList = _
  have : ((digA n) ++ ⟨#[c]⟩ : ByteArray).data.toList = (digA n).data.toList ++ [c] := by simp
  rw [this, digA_list, digL_two (by omega)]

/-- A text that is a seat's is read as it. -/
theorem read_seatT {l : List UInt8} {n : Nat} {c : UInt8} (h1 : 1 ≤ n) (h2 : n ≤ 99) (hl : l ≠ []) (h : (seatT n c).data.toList = l) : readL l = some ((n : Int), c) := by
  cases hc : isL c.toNat
  · rw [seatT_no (by rw [hc]; simp)] at h
    exact absurd h.symm hl
  · rw [seatT_eq rfl h1 h2 hc] at h
    subst h
    unfold two
    by_cases h10 : n < 10
    · rw [if_pos h10]
      have e := dch_toNat n
      show (if _ then some (((dch n).toNat : Int) - 48, c) else none) = _
      rw [if_pos ⟨dig_mk (by omega), by omega, hc⟩]
      congr 2
      omega
    · rw [if_neg h10]
      have e := dch_toNat n
      have e' := dch_toNat (n / 10)
      show (if _ then some (10 * (((dch (n / 10)).toNat : Int) - 48) + (((dch n).toNat : Int) - 48), c) else none) = _
      rw [if_pos ⟨dig_mk (by omega), by omega, dig_mk (by omega), hc⟩]
      congr 2
      omega

/-- What is read is a seat's text. -/
theorem seatT_read {l : List UInt8} {r : Int} {c : UInt8} (h : readL l = some (r, c)) : ∃ n : Nat, r = n ∧ 1 ≤ n ∧ n ≤ 99 ∧ isL c.toNat = true ∧ c = l.getD (l.length - 1) 0 ∧ (seatT n c).data.toList = l ∧ (l.length = 2 ∨ l.length = 3) := by
  rcases l with _ | ⟨a, _ | ⟨b, _ | ⟨d, _ | ⟨e, t⟩⟩⟩⟩
  · cases h
  · cases h
  · simp only [readL] at h
    split at h
    · rename_i hh
      obtain ⟨g1, g2, g3⟩ := hh
      have := dig_of g1
      injection h with h
      injection h with hr hcc
      subst hcc
      refine ⟨a.toNat - 48, by omega, by omega, by omega, g3, rfl, ?_, .inl rfl⟩
      rw [seatT_eq rfl (by omega) (by omega) g3]
      unfold two
      rw [if_pos (by omega), dch_of (a := a) (by omega)]
      rfl
    · cases h
  · simp only [readL] at h
    split at h
    · rename_i hh
      obtain ⟨g1, g2, g3, g4⟩ := hh
      have := dig_of g1
      have := dig_of g3
      injection h with h
      injection h with hr hcc
      subst hcc
      refine ⟨10 * (a.toNat - 48) + (b.toNat - 48), by omega, by omega, by omega, g4, rfl, ?_, .inr rfl⟩
      rw [seatT_eq rfl (by omega) (by omega) g4]
      unfold two
      rw [if_neg (by omega), dch_of (a := a) (by omega), dch_of (a := b) (by omega)]
      rfl
    · cases h
  · cases h

theorem read_short {l : List UInt8} (h : l.length < 2 ∨ 3 < l.length) : readL l = none := by
  cases hr : readL l with
  | none => rfl
  | some p =>
    obtain ⟨r, c⟩ := p
    obtain ⟨_, _, _, _, _, _, _, h2⟩ := seatT_read hr
    omega

theorem read_miss {l : List UInt8} (h : ∀ n : Nat, 1 ≤ n → n < 100 → (seatT n (l.getD (l.length - 1) 0)).data.toList ≠ l) : readL l = none := by
  cases hr : readL l with
  | none => rfl
  | some p =>
    obtain ⟨r, c⟩ := p
    obtain ⟨n, _, h1, h2, _, hc, h3, _⟩ := seatT_read hr
    rw [← hc] at h
    exact absurd h3 (h n h1 (by omega))

theorem str_eq_list {a b : ByteArray} (h : a.data.toList = b.data.toList) : a = b := by
  obtain ⟨⟨a⟩⟩ := a
  obtain ⟨⟨b⟩⟩ := b
  simp at h
  rw [h]

set_option maxRecDepth 20000 in
set_option maxHeartbeats 4000000 in
theorem refRead_any (s : ByteArray) (w : World) (hs : s.size ≤ maxLen) :
    Calls Tryd.prog 182 #[.string s] w fun e w' => e = .returned (.tuple #[.agg (seatO (readL s.data.toList)).toArray, .bool (readL s.data.toList).isSome]) ∧ Below w.heap.size w w' := by
  have hsm : s.size ≤ 9223372036854775807 := hs
  have HB0 : RowKit.Hid (Blk (w.alloc (.cells #[.int .i64 0, .int .u8 0] 39)) w.heap.size 39 (seatC 0 0)) := Lib.hid (Blk.new w 39 (seatC 0 0))
  have HW0 : RowKit.Hid (Below w.heap.size w (w.alloc (.cells #[.int .i64 0, .int .u8 0] 39))) := Lib.hid ((Below.refl _ _).alloc (Nat.le_refl _) _)
  have hhs : (w.alloc (.cells #[.int .i64 0, .int .u8 0] 39)).heap.size = w.heap.size + 1 := by simp
  obtain ⟨w1, e1⟩ : ∃ w1, w.alloc (.cells #[.int .i64 0, .int .u8 0] 39) = w1 := ⟨_, rfl⟩
  rw [e1] at HB0 HW0 hhs
  by_cases hsh : s.size < 2 ∨ 3 < s.size
  · have HF := Lib.hid (read_short (l := s.data.toList) (by simpa using hsh))
    rcases hsh with hsh | hsh
    all_goals
      go_enter Tryd.func182, Tryd.ntmps182
      go_wp2_with (first
        | (refine wpList_store_blk rfl 39 (.tmp 2) (.tmp 14) rfl w.heap.size 39 (seatC 0 0) (seatC 0 0) rfl rfl HB0.out rfl info_seat seatC_one ?_; intro w9 ha9 hb9 _))
      exact seat_back rfl rfl rfl ha9 rfl (by rw [HF.out]; rfl) (by rw [HF.out]; rfl) (HW0.out.trans hb9)
  · obtain ⟨q, hq⟩ : ∃ q, s.size = q + 1 := ⟨s.size - 1, by omega⟩
    have hqs : q < s.size := by omega
    have hgl := get_list s q hqs
    have hq1 : 1 ≤ q := by omega
    have hq2 : q ≤ 2 := by omega
    have hlen : s.data.toList.length = s.size := by simp
    have HMISS : RowKit.Hid ((∀ n : Nat, 1 ≤ n → n < 100 → (seatT n (s.data.toList.getD q 0)).data.toList ≠ s.data.toList) → readL s.data.toList = none) := Lib.hid fun h => read_miss (by rw [show s.data.toList.length - 1 = q by omega]; exact h)
    have HHIT : RowKit.Hid (∀ n : Nat, 1 ≤ n → n ≤ 99 → seatT n (s.data.toList.getD q 0) = s → readL s.data.toList = some ((n : Int), s.data.toList.getD q 0)) := Lib.hid fun n h1 h2 h => read_seatT h1 h2 (by intro e; rw [e] at hlen; simp at hlen; omega) (by rw [h])
    clear hlen hsh
    generalize s.data.toList.getD q 0 = x at *
    go_enter Tryd.func182, Tryd.ntmps182
    go_wp2
    go_loopg [4] 100 (fun g i wr => ∃ k : Nat, 1 ≤ k ∧ k ≤ 100 ∧ g = 101 - k ∧ i = .int .i64 k ∧ Below w1.heap.size w1 wr ∧ ∀ n : Nat, 1 ≤ n → n < k → (seatT n x).data.toList ≠ s.data.toList)
    case atStart => exact ⟨1, by omega, by omega, rfl, rfl, Below.refl _ _, fun n h1 h2 => absurd h2 (by omega)⟩
    case round =>
      obtain ⟨k, hk1, hk2, rfl, rfl, hb, hmiss⟩ := hrel
      have HM := Lib.hid hmiss
      clear hmiss
      by_cases hlt : k < 100
      · have hki : (k : Int) ≤ 99 := by omega
        have HT : RowKit.Hid (∀ W, Calls Tryd.prog 73 #[.agg (seatC k x).toArray] W fun e w' => e = .returned (.string (seatT k x)) ∧ Below W.heap.size W w') := Lib.hid fun W => refText_any k x W
        by_cases heq : seatT k x = s
        · have HF := Lib.hid (HHIT.out k hk1 (by omega) heq)
          rw [heq] at HT
          go_wp2_with (first
            | (refine wpList_store_blk rfl 39 (.tmp 5) (.tmp 25) rfl wr.heap.size 39 (seatC 0 0) (seatC k x) rfl rfl (Blk.new wr 39 (seatC 0 0)) rfl info_seat seatC_one ?_; intro w8 ha8 hb8 _; have hb18 := hb.trans ((((Below.refl _ _).alloc (Nat.le_refl _) _).trans hb8).mono hb.size))
            | (refine wpList_load_mid rfl 39 (.tmp 5) rfl wr.heap.size 0 rfl (seatC k x) _ ha8.range Tryd.underlying39 rfl info_seat ?_)
            | (go_at_call 73; (with_reducible refine (HT.out _).mono ?_); rintro e w3 ⟨rfl, hb3⟩; have ha3 := ha8.mono hb3; have hb13 := bel_trans hb18 hb3; have HB3 := HB0.out.mono hb13)
            | (refine wpList_load_mid rfl 39 (.tmp 5) rfl wr.heap.size 0 rfl (seatC k x) _ ha3.range Tryd.underlying39 rfl info_seat ?_)
            | (refine wpList_store_blk rfl 39 (.tmp 2) (.tmp 30) rfl w.heap.size 39 (seatC 0 0) (seatC k x) rfl rfl HB3 rfl info_seat seatC_one ?_; intro w9 ha9 hb9 _))
          exact seat_back rfl rfl rfl ha9 rfl (by rw [HF.out]; rfl) (by rw [HF.out]; rfl) ((bel_trans HW0.out hb13).trans hb9)
        · have hqb : ((seatT k x).toList == s.toList) = false := by rw [beq_eq_false_iff_ne]; exact fun h => heq (toList_inj h)
          have HN : RowKit.Hid (∀ n : Nat, 1 ≤ n → n < k + 1 → (seatT n x).data.toList ≠ s.data.toList) := Lib.hid fun n h1 h2 => by
            rcases Nat.lt_or_ge n k with h | h
            · exact HM.out n h1 h
            · rw [show n = k by omega]; exact fun e => heq (str_eq_list e)
          clear heq
          generalize seatT k x = T at *
          go_wp2_with (first
            | (refine wpList_store_blk rfl 39 (.tmp 5) (.tmp 25) rfl wr.heap.size 39 (seatC 0 0) (seatC k x) rfl rfl (Blk.new wr 39 (seatC 0 0)) rfl info_seat seatC_one ?_; intro w8 ha8 hb8 _; have hb18 := hb.trans ((((Below.refl _ _).alloc (Nat.le_refl _) _).trans hb8).mono hb.size))
            | (refine wpList_load_mid rfl 39 (.tmp 5) rfl wr.heap.size 0 rfl (seatC k x) _ ha8.range Tryd.underlying39 rfl info_seat ?_)
            | (go_at_call 73; (with_reducible refine (HT.out _).mono ?_); rintro e w3 ⟨rfl, hb3⟩; have ha3 := ha8.mono hb3; have hb13 := bel_trans hb18 hb3; have HB3 := HB0.out.mono hb13))
          go_roundg (101 - (k + 1))
          case measure => omega
          case rel => exact ⟨k + 1, by omega, by omega, rfl, by go_num, hb13, HN.out⟩
      · have hke : k = 100 := by omega
        subst hke
        have HF := Lib.hid (HMISS.out HM.out)
        have HBr := Lib.hid (HB0.out.mono hb)
        go_wp2_with (first
          | (refine wpList_store_blk rfl 39 (.tmp 2) (.tmp 31) rfl w.heap.size 39 (seatC 0 0) (seatC 0 0) rfl rfl HBr.out rfl info_seat seatC_one ?_; intro w9 ha9 hb9 _))
        exact seat_back rfl rfl rfl ha9 rfl (by rw [HF.out]; rfl) (by rw [HF.out]; rfl) ((bel_trans HW0.out hb).trans hb9)

end Go.Proofs.YtjahkaidinahpaaDoor.Pl
