/- Seats read from texts: plan.Read. -/
import Derived.Test.YtpmmjccdogjncaaDoorPlnK
namespace Go.Proofs.YtpmmjccdogjncaaDoor
open Go.RowKit
set_option linter.unusedSimpArgs false

def isD (c : Int) : Bool := decide (48 ≤ c ∧ c ≤ 57)

/-- The seat of a text. -/
def readL : List UInt8 → Option (Int × UInt8)
  | [a, c] => if isD a.toNat = true ∧ a.toNat ≠ 48 ∧ isL c.toNat = true then some ((a.toNat : Int) - 48, c) else none
  | [a, b, c] => if isD a.toNat = true ∧ a.toNat ≠ 48 ∧ isD b.toNat = true ∧ isL c.toNat = true then some (10 * ((a.toNat : Int) - 48) + ((b.toNat : Int) - 48), c) else none
  | _ => none

def rowN (s : List UInt8) : Nat → Int
  | 0 => 0
  | 1 => ((s.getD 0 0).toNat : Int) - 48
  | _ => 10 * (((s.getD 0 0).toNat : Int) - 48) + (((s.getD 1 0).toNat : Int) - 48)

/-- What is known behind k rounds. -/
def goodR (s : List UInt8) (k : Nat) : Prop := (1 ≤ k → isD (s.getD 0 0).toNat = true ∧ (s.getD 0 0).toNat ≠ 48) ∧ (2 ≤ k → isD (s.getD 1 0).toNat = true)

theorem dig_not_let {c : Int} (h : isD c = true) : isL c = false := by
  unfold isD at h
  have := of_decide_eq_true h
  unfold isL
  exact decide_eq_false (by omega)

theorem read_yes {l : List UInt8} {k : Nat} (hg : goodR l k) (h0 : 0 < k) (hk2 : k ≤ 2) (hk : k + 1 = l.length) (hx : isL (l.getD k 0).toNat = true) : readL l = some (rowN l k, l.getD k 0) := by
  obtain ⟨g1, g2⟩ := hg
  rcases l with _ | ⟨a, _ | ⟨b, _ | ⟨c, _ | ⟨d, t⟩⟩⟩⟩ <;> simp at hk
  · omega
  · subst hk
    have := g1 (Nat.le_refl _)
    exact if_pos ⟨this.1, this.2, hx⟩
  · subst hk
    have := g1 (by omega)
    exact if_pos ⟨this.1, this.2, g2 (Nat.le_refl _), hx⟩
  · omega

theorem read_no {l : List UInt8} {k : Nat} (hg : goodR l k) (hk2 : k ≤ 2) (hk : k < l.length) (hn : ¬ (0 < k ∧ k + 1 = l.length ∧ isL (l.getD k 0).toNat = true)) (hb : 1 < k ∨ isD (l.getD k 0).toNat = false ∨ k = 0 ∧ (l.getD k 0).toNat = 48) : readL l = none := by
  obtain ⟨g1, g2⟩ := hg
  rcases l with _ | ⟨a, _ | ⟨b, _ | ⟨c, _ | ⟨d, t⟩⟩⟩⟩
  · rfl
  · rfl
  · match k, hk2 with
    | 0, _ => exact if_neg fun h => by rcases hb with h1 | h1 | ⟨_, h1⟩; omega; rw [show (([a, b] : List UInt8).getD 0 0) = a from rfl, h.1] at h1; cases h1; exact h.2.1 h1
    | 1, _ => exact if_neg fun h => hn ⟨by omega, rfl, h.2.2⟩
    | 2, _ => simp at hk
  · match k, hk2 with
    | 0, _ => exact if_neg fun h => by rcases hb with h1 | h1 | ⟨_, h1⟩; omega; rw [show (([a, b, c] : List UInt8).getD 0 0) = a from rfl, h.1] at h1; cases h1; exact h.2.1 h1
    | 1, _ => exact if_neg fun h => by rcases hb with h1 | h1 | ⟨h1, _⟩; omega; rw [show (([a, b, c] : List UInt8).getD 1 0) = b from rfl, h.2.2.1] at h1; cases h1; omega
    | 2, _ => exact if_neg fun h => hn ⟨by omega, rfl, h.2.2.2⟩
  · rfl

theorem read_end {l : List UInt8} {k : Nat} (hg : goodR l k) (hk2 : k ≤ 2) (hk : k = l.length) : readL l = none := by
  rcases l with _ | ⟨a, _ | ⟨b, t⟩⟩
  · rfl
  · rfl
  · have : t = [] := by simp at hk; exact List.length_eq_zero_iff.1 (by omega)
    subst this
    subst hk
    exact if_neg fun h => by have := dig_not_let (hg.2 (Nat.le_refl _)); rw [show (([a, b] : List UInt8).getD 1 0) = b from rfl, h.2.2] at this; cases this

theorem good_zero {l : List UInt8} (hx : isD (l.getD 0 0).toNat = true) (h : (l.getD 0 0).toNat ≠ 48) : goodR l 1 := ⟨fun _ => ⟨hx, h⟩, fun h => absurd h (by omega)⟩

theorem good_one {l : List UInt8} (hg : goodR l 1) (hx : isD (l.getD 1 0).toNat = true) : goodR l 2 := ⟨fun _ => hg.1 (Nat.le_refl _), fun _ => hx⟩

theorem row_one {l : List UInt8} (hg : goodR l 1) : 1 ≤ rowN l 1 ∧ rowN l 1 ≤ 9 := by
  have h := hg.1 (Nat.le_refl _)
  have h1 := h.1
  unfold isD at h1
  have := of_decide_eq_true h1
  show 1 ≤ ((l.getD 0 0).toNat : Int) - 48 ∧ ((l.getD 0 0).toNat : Int) - 48 ≤ 9
  omega

def seatC (r : Int) (c : UInt8) : List Value := [.int .i64 r, .int .u8 c.toNat]

def seatO (o : Option (Int × UInt8)) : List Value := match o with | some (r, c) => seatC r c | none => seatC 0 0

theorem info_seat : (Tryd.prog.info? 23).map (·.size) = some 2 := by kernel_rfl

theorem seatC_one {r : Int} {c : UInt8} : ∀ v ∈ seatC r c, v.oneCell' = true := by
  intro v hv
  simp [seatC] at hv
  rcases hv with rfl | rfl <;> rfl

/-- A seat and a yes or no come back. -/
theorem seat_back {fn : Func} {p q : Tmp} (hf : fn.results = #[.cell p 23, .tmp q]) {a : Act} {w w0 : World} {g : Nat} {T : TypeId} {r : Int} {c : UInt8} {o : Option (Int × UInt8)} {b : Bool}
    (hp : a.tmps.getD p undef = .pointer (some ⟨g, 0, none⟩)) (hq : a.tmps.getD q undef = .bool b) (hg : Blk w g T (seatC r c)) (hd : a.defers = []) (ho : seatO o = seatC r c) (hb : b = o.isSome) (hw : Below w0.heap.size w0 w) :
    bodyPost Tryd.prog fn (fun e w' => e = .returned (.tuple #[.agg (seatO o).toArray, .bool o.isSome]) ∧ Below w0.heap.size w0 w') .ret a w := by
  refine bodyPost_ret_by (results_row_tmp hf _ _ g T (seatC r c) _ hp hg Tryd.underlying23 rfl info_seat) hd ⟨?_, hw⟩
  rw [ho, hq, hb]

set_option maxRecDepth 20000 in
set_option maxHeartbeats 4000000 in
theorem read_any (s : ByteArray) (w : World) (hs : s.size ≤ maxLen) :
    Calls Tryd.prog 16 #[.string s] w fun e w' => e = .returned (.tuple #[.agg (seatO (readL s.data.toList)).toArray, .bool (readL s.data.toList).isSome]) ∧ Below w.heap.size w w' := by
  obtain ⟨w1, cap, hconv, hb1, hz1, hcells⟩ := bytes_conv s (w.alloc (.cells #[.int .i64 0, .int .u8 0] 23))
  have hhs : (w.alloc (.cells #[.int .i64 0, .int .u8 0] 23)).heap.size = w.heap.size + 1 := by simp
  rw [hhs] at hconv hz1 hcells hb1
  have hB : Blk w1 w.heap.size 23 (seatC 0 0) := (Blk.new w 23 (seatC 0 0)).keep hb1 (by omega)
  have hbw : Below w.heap.size w w1 := ((Below.refl _ _).alloc (Nat.le_refl _) _).trans (hb1.mono (by omega))
  have HB := Lib.hid hB
  have HW := Lib.hid hbw
  clear hz1 hhs hb1 hB hbw
  go_enter Tryd.func16, Tryd.ntmps16
  go_wp2
  go_loopg [4, 10] (s.size + 1) (fun g r i wr => ∃ k : Nat, k ≤ 2 ∧ k ≤ s.size ∧ g = s.size + 1 - k ∧ i = .int .i64 k ∧ r = .int .i64 (rowN s.data.toList k) ∧ goodR s.data.toList k ∧ w1 = wr)
  case atStart => exact ⟨0, by omega, by omega, rfl, rfl, rfl, ⟨fun h => absurd h (by omega), fun h => absurd h (by omega)⟩, rfl⟩
  case round =>
    obtain ⟨k, hk2, hks, rfl, rfl, rfl, hgood, rfl⟩ := hrel
    have HG := Lib.hid hgood
    by_cases hlt : k < s.size
    · have hki : (k : Int) < (s.size : Int) := by omega
      have hk0 : (0 : Int) ≤ (k : Int) := by omega
      have c1 := hcells k hlt
      have hls : s.data.toList.length = s.size := by simp
      have hsm : s.size ≤ 9223372036854775807 := hs
      have hll : RowKit.Hid (k < s.data.toList.length) := Lib.hid (by rw [hls]; exact hlt)
      clear hcells hgood
      generalize hl : s.data.toList = l at *
      have HLS := Lib.hid hls
      have hx0 : (0 : Int) ≤ ((l.getD k 0).toNat : Int) := by omega
      have hx1 := byte_hi (l.getD k 0)
      clear hls
      have HX : RowKit.Hid (∃ x, x = l.getD k 0) := Lib.hid ⟨_, rfl⟩
      by_cases hk : k = 0
      · subst hk
        have hrow : rowN l 0 = 0 := rfl
        by_cases hD : isD (l.getD 0 0).toNat = true
        · by_cases h48 : (l.getD 0 0).toNat = 48
          · have HF := Lib.hid (read_no HG.out hk2 hll.out (by omega) (.inr (.inr ⟨rfl, h48⟩)))
            have hx : ((l.getD 0 0).toNat : Int) = 48 := by omega
            clear HG
            rw [hx] at c1
            go_wp2_with (first
              | (refine wpList_store_blk rfl 23 (.tmp 2) (.tmp 54) rfl w.heap.size 23 (seatC 0 0) (seatC 0 0) rfl rfl HB.out rfl info_seat seatC_one ?_; intro w9 ha9 hb9 _))
            subst hl
            exact seat_back rfl rfl rfl ha9 rfl (by rw [HF.out]; rfl) (by rw [HF.out]; rfl) (HW.out.trans hb9)
          · have HN := Lib.hid (good_zero hD h48)
            unfold isD at hD
            obtain ⟨hd1, hd2⟩ := of_decide_eq_true hD
            have hrow1 : RowKit.Hid (rowN l 1 = ((l.getD 0 0).toNat : Int) - 48) := Lib.hid rfl
            have hne : ((l.getD 0 0).toNat : Int) ≠ 48 := by omega
            have hxb : (((l.getD 0 0).toNat : Int) == 48) = false := by rw [beq_eq_false_iff_ne]; exact hne
            have hq : ¬ 9 < ((l.getD 0 0).toNat : Int) - 48 := by omega
            clear HG hD h48
            generalize (l.getD 0 0) = x at *
            go_wp2
            go_roundg (s.size + 1 - 1)
            case measure => omega
            case rel => exact ⟨1, by omega, by omega, rfl, by go_num, by rw [hrow1.out], HN.out, rfl⟩
        · have HF := Lib.hid (read_no HG.out hk2 hll.out (by omega) (.inr (.inl (by simpa using hD))))
          have hnd : ¬ (48 ≤ ((l.getD 0 0).toNat : Int) ∧ ((l.getD 0 0).toNat : Int) ≤ 57) := fun h => hD (by unfold isD; exact decide_eq_true h)
          clear HG hD
          generalize (l.getD 0 0) = x at *
          go_wp2_with (first
            | (refine wpList_store_blk rfl 23 (.tmp 2) (.tmp 54) rfl w.heap.size 23 (seatC 0 0) (seatC 0 0) rfl rfl HB.out rfl info_seat seatC_one ?_; intro w9 ha9 hb9 _))
          subst hl
          exact seat_back rfl rfl rfl ha9 rfl (by rw [HF.out]; rfl) (by rw [HF.out]; rfl) (HW.out.trans hb9)
      · have hk00 : (0 : Int) < (k : Int) := by omega
        by_cases hlast : k + 1 = s.size
        · by_cases hL : isL (l.getD k 0).toNat = true
          · have HF := Lib.hid (read_yes HG.out (by omega) hk2 (by rw [HLS.out]; exact hlast) hL)
            unfold isL at hL
            obtain ⟨hd1, hd2⟩ := of_decide_eq_true hL
            have hle : ((k : Int) == (s.size : Int) - 1) = true := by rw [beq_iff_eq]; omega
            clear HG hL
            generalize rowN l k = R at *
            generalize (l.getD k 0) = x at *
            go_wp2_with (first
              | (refine wpList_store_blk rfl 23 (.tmp 2) (.tmp 31) rfl w.heap.size 23 (seatC 0 0) (seatC R x) rfl rfl HB.out rfl info_seat seatC_one ?_; intro w9 ha9 hb9 _))
            subst hl
            exact seat_back rfl rfl rfl ha9 rfl (by rw [HF.out]; rfl) (by rw [HF.out]; rfl) (HW.out.trans hb9)
          · have hle : ((k : Int) == (s.size : Int) - 1) = true := by rw [beq_iff_eq]; omega
            have hnl : ¬ (65 ≤ ((l.getD k 0).toNat : Int) ∧ ((l.getD k 0).toNat : Int) ≤ 90) := fun h => hL (by unfold isL; exact decide_eq_true h)
            have hno : ¬ (0 < k ∧ k + 1 = l.length ∧ isL (l.getD k 0).toNat = true) := fun h => hL h.2.2
            clear hL
            by_cases hk1 : k = 1
            · have hi1 : ¬ (1 : Int) < (k : Int) := by omega
              have HK1 := Lib.hid hk1
              by_cases hD : isD (l.getD k 0).toNat = true
              · have HN : RowKit.Hid (goodR l (k + 1)) := Lib.hid (by subst hk1; exact good_one HG.out hD)
                unfold isD at hD
                obtain ⟨hd1, hd2⟩ := of_decide_eq_true hD
                obtain ⟨hR1, hR2⟩ : 1 ≤ rowN l k ∧ rowN l k ≤ 9 := by subst hk1; exact row_one HG.out
                have hrow2 : RowKit.Hid (rowN l (k + 1) = rowN l k * 10 + (((l.getD k 0).toNat : Int) - 48)) := Lib.hid (by subst hk1; show 10 * (_ - 48) + _ = _; rw [Int.mul_comm]; rfl)
                have hRb : (rowN l k == 0) = false := by rw [beq_eq_false_iff_ne]; omega
                have hq : ¬ 9 < ((l.getD k 0).toNat : Int) - 48 := by omega
                clear HG hD hno hk1 hk hlast
                generalize rowN l k = R at *
                generalize (l.getD k 0) = x at *
                go_wp2
                go_roundg (s.size + 1 - (k + 1))
                case measure => omega
                case rel => exact ⟨k + 1, by have := HK1.out; omega, by omega, rfl, by go_num, by rw [hrow2.out], HN.out, rfl⟩
              · have HF := Lib.hid (read_no HG.out hk2 hll.out hno (.inr (.inl (by simpa using hD))))
                have hnd : ¬ (48 ≤ ((l.getD k 0).toNat : Int) ∧ ((l.getD k 0).toNat : Int) ≤ 57) := fun h => hD (by unfold isD; exact decide_eq_true h)
                clear HG hD hno hk1 hk hlast
                generalize (l.getD k 0) = x at *
                go_wp2_with (first
                  | (refine wpList_store_blk rfl 23 (.tmp 2) (.tmp 54) rfl w.heap.size 23 (seatC 0 0) (seatC 0 0) rfl rfl HB.out rfl info_seat seatC_one ?_; intro w9 ha9 hb9 _))
                subst hl
                exact seat_back rfl rfl rfl ha9 rfl (by rw [HF.out]; rfl) (by rw [HF.out]; rfl) (HW.out.trans hb9)
            · have HF := Lib.hid (read_no HG.out hk2 hll.out hno (.inl (by omega)))
              have hi1 : (1 : Int) < (k : Int) := by omega
              clear HG hno hk1 hk hlast
              generalize (l.getD k 0) = x at *
              go_wp2_with (first
                | (refine wpList_store_blk rfl 23 (.tmp 2) (.tmp 54) rfl w.heap.size 23 (seatC 0 0) (seatC 0 0) rfl rfl HB.out rfl info_seat seatC_one ?_; intro w9 ha9 hb9 _))
              subst hl
              exact seat_back rfl rfl rfl ha9 rfl (by rw [HF.out]; rfl) (by rw [HF.out]; rfl) (HW.out.trans hb9)
        · have hle : ((k : Int) == (s.size : Int) - 1) = false := by rw [beq_eq_false_iff_ne]; omega
          have hno : ¬ (0 < k ∧ k + 1 = l.length ∧ isL (l.getD k 0).toNat = true) := fun h => hlast (by have := HLS.out; omega)
          by_cases hk1 : k = 1
          · have hi1 : ¬ (1 : Int) < (k : Int) := by omega
            have HK1 := Lib.hid hk1
            by_cases hD : isD (l.getD k 0).toNat = true
            · have HN : RowKit.Hid (goodR l (k + 1)) := Lib.hid (by subst hk1; exact good_one HG.out hD)
              unfold isD at hD
              obtain ⟨hd1, hd2⟩ := of_decide_eq_true hD
              obtain ⟨hR1, hR2⟩ : 1 ≤ rowN l k ∧ rowN l k ≤ 9 := by subst hk1; exact row_one HG.out
              have hrow2 : RowKit.Hid (rowN l (k + 1) = rowN l k * 10 + (((l.getD k 0).toNat : Int) - 48)) := Lib.hid (by subst hk1; show 10 * (_ - 48) + _ = _; rw [Int.mul_comm]; rfl)
              have hRb : (rowN l k == 0) = false := by rw [beq_eq_false_iff_ne]; omega
              have hq : ¬ 9 < ((l.getD k 0).toNat : Int) - 48 := by omega
              clear HG hD hno hk1 hk hlast
              generalize rowN l k = R at *
              generalize (l.getD k 0) = x at *
              go_wp2
              go_roundg (s.size + 1 - (k + 1))
              case measure => omega
              case rel => exact ⟨k + 1, by have := HK1.out; omega, by omega, rfl, by go_num, by rw [hrow2.out], HN.out, rfl⟩
            · have HF := Lib.hid (read_no HG.out hk2 hll.out hno (.inr (.inl (by simpa using hD))))
              have hnd : ¬ (48 ≤ ((l.getD k 0).toNat : Int) ∧ ((l.getD k 0).toNat : Int) ≤ 57) := fun h => hD (by unfold isD; exact decide_eq_true h)
              clear HG hD hno hk1 hk hlast
              generalize (l.getD k 0) = x at *
              go_wp2_with (first
                | (refine wpList_store_blk rfl 23 (.tmp 2) (.tmp 54) rfl w.heap.size 23 (seatC 0 0) (seatC 0 0) rfl rfl HB.out rfl info_seat seatC_one ?_; intro w9 ha9 hb9 _))
              subst hl
              exact seat_back rfl rfl rfl ha9 rfl (by rw [HF.out]; rfl) (by rw [HF.out]; rfl) (HW.out.trans hb9)
          · have HF := Lib.hid (read_no HG.out hk2 hll.out hno (.inl (by omega)))
            have hi1 : (1 : Int) < (k : Int) := by omega
            clear HG hno hk1 hk hlast
            generalize (l.getD k 0) = x at *
            go_wp2_with (first
              | (refine wpList_store_blk rfl 23 (.tmp 2) (.tmp 54) rfl w.heap.size 23 (seatC 0 0) (seatC 0 0) rfl rfl HB.out rfl info_seat seatC_one ?_; intro w9 ha9 hb9 _))
            subst hl
            exact seat_back rfl rfl rfl ha9 rfl (by rw [HF.out]; rfl) (by rw [HF.out]; rfl) (HW.out.trans hb9)
    · have hke : k = s.size := by omega
      have HF := Lib.hid (read_end HG.out hk2 (by rw [hke]; simp))
      have hki : ¬ (k : Int) < (s.size : Int) := by omega
      clear HG hgood
      generalize hl : s.data.toList = l at *
      go_wp2_with (first
        | (refine wpList_store_blk rfl 23 (.tmp 2) (.tmp 54) rfl w.heap.size 23 (seatC 0 0) (seatC 0 0) rfl rfl HB.out rfl info_seat seatC_one ?_; intro w9 ha9 hb9 _))
      subst hl
      exact seat_back rfl rfl rfl ha9 rfl (by rw [HF.out]; rfl) (by rw [HF.out]; rfl) (HW.out.trans hb9)
end Go.Proofs.YtpmmjccdogjncaaDoor
