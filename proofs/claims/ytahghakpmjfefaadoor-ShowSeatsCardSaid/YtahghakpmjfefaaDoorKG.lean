/- The map's Has, Number, Marks. The map's Seats; the reference's Has, Seats. -/
import Derived.Test.YtahghakpmjfefaaDoorKA
import Derived.Test.YtahghakpmjfefaaDoorKB
import Derived.Test.YtahghakpmjfefaaDoorKE
import Derived.Test.YtahghakpmjfefaaDoorKF
import Derived.Test.YtahghakpmjfefaaDoorPlnP
import Derived.Test.YtahghakpmjfefaaDoorRows
import Derived.WalkKit
import Derived.WalkSpells
import Derived.WalkLawsBesides
import Derived.Lib.ConvBytes
import Derived.Lib.Hide
import Derived.Lib.SliceRun
import Derived.IntWalk
import Derived.BigQuiet
import Derived.Deep.QuietTactic
import Derived.Deep.RegionWith
import Derived.Deep.RegionHeld3
import Derived.Deep.LoopGhost
import Derived.Deep.CutRange
import Derived.Deep.CutBlock
import Derived.Deep.MidRow
import Derived.Laws.OwnMore
import Derived.OwnWalk
import Derived.Laws.AppendOwnNone
import Derived.Maps.AppendAt
import Derived.Laws.Rows
import Derived.Maps.OwnOps
import Derived.DeepKeys5
import Derived.Lib.Bytealg
import Derived.Deep.RegionLaw
import Derived.Deep.AppendLies
import Derived.Test.YtahghakpmjfefaaDoorKD
import Derived.Test.YtahghakpmjfefaaDoorPlnJ
namespace Go.Proofs.YtahghakpmjfefaaDoor
open Go.RowKit Go.ChangeMaps
set_option linter.unusedSimpArgs false

theorem zero_mark (w : World) : (zeroValue 118).run Tryd.prog w = .ok (markV mark0) w := by kernel_rfl

/-- What a look-up yields. -/
def lkF (pl : List St) (f : St → Mk) (s : St) : Mk := if s ∈ pl then f s else mark0

theorem MapF.look1 {w : World} {b : Nat} {pl : List St} {f : St → Mk} (h : MapF w b pl f) (s : St) (hs : okRow s.1) :
    (Instr.lookup 113 (.map (some b)) (.agg #[.int .i64 s.1, .int .u8 s.2.toNat]) false).run Tryd.prog w = .ok (.agg #[.int .i64 (lkF pl f s).num, .bool (lkF pl f s).blk, .string (lkF pl f s).txt]) w := by
  unfold lkF
  rcases h.look false s hs (zero_mark w) with ⟨h1, h2⟩ | ⟨h1, h2⟩
  · rw [if_pos h1]; exact h2
  · rw [if_neg h1]; exact h2

theorem MapF.look2 {w : World} {b : Nat} {pl : List St} {f : St → Mk} (h : MapF w b pl f) (s : St) (hs : okRow s.1) :
    (Instr.lookup 113 (.map (some b)) (.agg #[.int .i64 s.1, .int .u8 s.2.toNat]) true).run Tryd.prog w = .ok (.tuple #[.agg #[.int .i64 (lkF pl f s).num, .bool (lkF pl f s).blk, .string (lkF pl f s).txt], .bool (decide (s ∈ pl))]) w := by
  unfold lkF
  rcases h.look true s hs (zero_mark w) with ⟨h1, h2⟩ | ⟨h1, h2⟩
  · rw [if_pos h1, decide_eq_true h1]; exact h2
  · rw [if_neg h1, decide_eq_false h1]; exact h2

/-- Is it a seat? -/
def hasB (p : Pl) (l : List UInt8) (s : St) : Bool := decide (s ∈ placesL p.first p.last l) && !decide (s ∈ p.bks)

theorem lk_has (p : Pl) (l : List UInt8) (s : St) : (decide (s ∈ placesL p.first p.last l) && !(lkF (placesL p.first p.last l) (markF p l) s).blk) = hasB p l s := by
  unfold hasB lkF markF
  by_cases h1 : s ∈ placesL p.first p.last l
  · rw [if_pos h1]
    by_cases h2 : s ∈ p.bks
    · rw [if_pos h2, decide_eq_true h2]
    · rw [if_neg h2, decide_eq_false h2]
  · rw [decide_eq_false h1]; rfl

theorem lk_num (p : Pl) (l : List UInt8) (s : St) : (if decide (s ∈ placesL p.first p.last l) = true then (lkF (placesL p.first p.last l) (markF p l) s).num else -1) = atL (placesL p.first p.last l) s := by
  unfold lkF markF
  by_cases h1 : s ∈ placesL p.first p.last l
  · rw [if_pos (decide_eq_true h1), if_pos h1]
    split <;> rfl
  · rw [if_neg (by simpa using h1)]
    unfold atL
    rw [if_neg h1]

/-- The marks of any seat. -/
def mksT (p : Pl) (l : List UInt8) (s : St) : ByteArray := if hasB p l s = true then strOf (marksL p.lets.data.toList p.exits s) else ⟨#[]⟩

theorem lk_txt (p : Pl) (l : List UInt8) (s : St) : (lkF (placesL p.first p.last l) (markF p l) s).txt = mksT p l s := by
  unfold mksT hasB lkF markF
  by_cases h1 : s ∈ placesL p.first p.last l
  · rw [if_pos h1]
    by_cases h2 : s ∈ p.bks
    · rw [if_pos h2, if_neg (by simp [h2])]
    · rw [if_neg h2, if_pos (by simp [h1, h2])]
  · rw [if_neg h1, if_neg (by simp [h1])]; rfl

/-- What is read of a map in a world that grew. -/
structure Ob (w : World) (g b : Nat) (P : List St) (f : St → Mk) : Prop where
  cell : w.cell? ⟨g, 0, none⟩ = some (.map (some b))
  map : MapF w b P f

theorem Ob.mono {w w' : World} {g b : Nat} {P : List St} {f : St → Mk} (h : Ob w g b P f) (hb : Below w.heap.size w w') : Ob w' g b P f := ⟨cell_bel hb h.cell, h.map.mono hb⟩

theorem Stage.ob {w : World} {B g b : Nat} {vl : Value} {pl ml : List St} {f : St → Mk} (h : Stage w B g b vl pl ml f) : Ob w g b ml f := ⟨(h.blk.cell 0).trans rfl, h.map⟩

set_option maxRecDepth 20000 in
set_option maxHeartbeats 8000000 in
theorem has_ob (g b : Nat) (P : List St) (f : St → Mk) (s : St) (w : World) (h : Ob w g b P f) (hs : okRow s.1) :
    Calls Tryd.prog 44 #[.pointer (some ⟨g, 0, none⟩), seatK_c s] w fun e w' => e = .returned (.bool (decide (s ∈ P) && !(lkF P f s).blk)) ∧ Below w.heap.size w w' := by
  obtain ⟨r, c⟩ := s
  obtain ⟨w1, e1, k1, k2, kb, ks⟩ := seat_boxed w r c
  have ho := h.mono kb
  have HW := Lib.hid kb
  have c0 := ho.cell
  have hl1 := (ho.mono (Below.refl _ _).drew).map.look2 (r, c) hs
  have hl2 := (ho.mono ((Below.refl _ _).alloc (Nat.le_refl _) (.cells #[.int .i64 0, .bool false, .string ⟨#[]⟩] 118)).drew).map.look2 (r, c) hs
  simp only at hl1 hl2
  have HC : RowKit.Hid (∀ W, Below w1.heap.size w1 W → W.cell? ⟨g, 0, none⟩ = some (.map (some b)) ∧ W.cell? ⟨w.heap.size, 0, none⟩ = some (.int .i64 r) ∧ W.cell? ⟨w.heap.size, 1, none⟩ = some (.int .u8 c.toNat)) := Lib.hid fun W h => ⟨cell_bel h c0, cell_bel h k1, cell_bel h k2⟩
  have hS0 := HC.out w1.drew (Below.refl _ _).drew
  have HS1 : RowKit.Hid (∀ o, (w1.alloc o).drew.cell? ⟨g, 0, none⟩ = some (.map (some b)) ∧ (w1.alloc o).drew.cell? ⟨w.heap.size, 0, none⟩ = some (.int .i64 r) ∧ (w1.alloc o).drew.cell? ⟨w.heap.size, 1, none⟩ = some (.int .u8 c.toNat)) := Lib.hid fun o => HC.out _ ((Below.refl _ _).alloc (Nat.le_refl _) _).drew
  generalize lkF P f (r, c) = mk at *
  generalize decide ((r, c) ∈ P) = hd at *
  obtain ⟨num, blk, txt⟩ := mk
  simp only at hl1 hl2 ⊢
  unfold seatK_c seatV
  clear h ho kb ks hs
  go_enter Tryd.func44, Tryd.ntmps44
  go_upto_region 1 with fail
  clear e1
  go_region_held3 (fun W => W.cell? ⟨g, 0, none⟩ = some (.map (some b)) ∧ W.cell? ⟨w.heap.size, 0, none⟩ = some (.int .i64 r) ∧ W.cell? ⟨w.heap.size, 1, none⟩ = some (.int .u8 c.toNat))
    (first
      | exact hS0
      | assumption
      | exact HS1.out _)
    (first
      | (go_at_call 53; skip))
  all_goals
    cases hd
    · go_wp2
      go_ret
      exact ⟨ret_bool rfl, bel_trans HW.out ((Below.refl _ _).alloc (Nat.le_refl _) _).drew⟩
    · go_wp2
      go_ret
      exact ⟨ret_bool rfl, bel_trans HW.out ((Below.refl _ _).alloc (Nat.le_refl _) _).drew⟩
end Go.Proofs.YtahghakpmjfefaaDoor
namespace Go.Proofs.YtahghakpmjfefaaDoor
open Go.RowKit Go.ChangeMaps
set_option linter.unusedSimpArgs false

theorem filter_take {q : St → Bool} {P : List St} {k : Nat} {s : St} (h : P[k]? = some s) : (P.take (k + 1)).filter q = if q s = true then (P.take k).filter q ++ [s] else (P.take k).filter q := by
  rw [take_get h, List.filter_append]
  by_cases hq : q s = true
  · rw [if_pos hq]; simp [hq]
  · rw [if_neg hq]; simp [hq]

theorem filter_few (q : St → Bool) (P : List St) (k : Nat) : ((P.take k).filter q).length ≤ P.length := by
  refine Nat.le_trans (List.length_filter_le _ _) ?_
  rw [List.length_take]; omega

set_option maxRecDepth 20000 in
set_option maxHeartbeats 8000000 in
theorem seats_ob (g b : Nat) (vl : Value) (P : List St) (f : St → Mk) (w : World) (h : Ob w g b P f) (hv : w.cell? ⟨g, 1, none⟩ = some vl) (hvl : HasE stC w vl P) (hP : P.length ≤ 1000) :
    Calls Tryd.prog 27 #[.pointer (some ⟨g, 0, none⟩)] w fun e w' => ∃ v, e = .returned v ∧ OwnS w' w.heap.size v (P.filter fun s => !(f s).blk) ∧ Below w.heap.size w w' := by
  obtain ⟨p, c, rfl⟩ := hvl.len
  have HV := Lib.hid hvl
  have HO := Lib.hid h
  clear h hvl
  go_enter Tryd.func27, Tryd.ntmps27
  go_wp2
  generalize hN : P.length = N at *
  have HN := Lib.hid hN
  clear hN
  go_loopg [3, 11] N (fun g0 o i wr => ∃ (k : Nat), k ≤ N ∧ g0 = N - k ∧ i = .int .i64 (k : Int) ∧ OwnS wr w.heap.size o ((P.take k).filter fun s => !(f s).blk) ∧ Below w.heap.size w wr)
  case atStart => exact ⟨0, Nat.zero_le _, rfl, rfl, OwnS.nil _ _, Below.refl _ _⟩
  case round =>
    obtain ⟨k, hk, rfl, rfl, ho, hb⟩ := hrel
    have HOW := Lib.hid ho
    clear ho
    by_cases hlt : k < N
    · have hki : (k : Int) < (N : Int) := by omega
      have hk0 : (0 : Int) ≤ (k : Int) := by omega
      obtain ⟨bb, off, rfl, hr, _, _⟩ := st_at (HV.out.mono hb) (i := k) (by rw [HN.out]; exact hlt)
      have hgk : P[k]? = some (P.getD k st0) := getD_get (by rw [HN.out]; exact hlt)
      have hmem := List.mem_of_getElem? hgk
      have hokr := HO.out.map.2.2 _ hmem
      have HFT := Lib.hid (filter_take (q := fun s => !(f s).blk) hgk)
      have hlen1 : ((P.take k).filter fun s => !(f s).blk).length + 1 ≤ 1000000 := by
        have := filter_few (fun s => !(f s).blk) P k
        have := HN.out
        omega
      have hlk : lkF P f (P.getD k st0) = f (P.getD k st0) := if_pos hmem
      clear hgk hmem
      generalize P.getD k st0 = s at *
      go_upto_region 5 with (first
        | (refine wpList_load_mid rfl 80 _ rfl bb (off + k * 2) rfl [.int .i64 s.1, .int .u8 s.2.toNat] _ hr Tryd.underlying80 rfl info_seat ?_)
        | (refine wpList_store_blk rfl 80 (.tmp 5) (.tmp 14) rfl wr.heap.size 80 (seatC 0 0) (seatC s.1 s.2) rfl rfl (Blk.new wr 80 (seatC 0 0)) rfl info_seat seatC_one ?_; intro w8 ha8 hb8 _))
      dsimp only [Act.put]
      have hb18 : Below wr.heap.size wr w8 := (((Below.refl _ _).alloc (Nat.le_refl _) _).trans hb8)
      have hb08 := below_low_c hb hb.size hb18
      have ho8 := HO.out.mono hb08
      have c0 := ho8.cell
      have s0 : w8.cell? ⟨wr.heap.size, 0, none⟩ = some (.int .i64 s.1) := (ha8.cell 0).trans rfl
      have s1 : w8.cell? ⟨wr.heap.size, 1, none⟩ = some (.int .u8 s.2.toNat) := (ha8.cell 1).trans rfl
      have hl1 : ∀ n, _ := fun n => (ho8.mono (below_drewN (Below.refl w8.heap.size w8) n)).map.look1 s hokr
      rw [hlk] at hl1
      have HOW8 := Lib.hid (HOW.out.mono hb18)
      generalize hmk : f s = mk at *
      obtain ⟨num, blk, txt⟩ := mk
      simp only at hl1
      have hfl : ∀ W, (Instr.field 118 (.agg #[.int .i64 num, .bool blk, .string txt]) 1).run Tryd.prog W = .ok (.bool blk) W := fun W => by
        first
          | (rfl)
          | (kernel_rfl)
          | (simp [Instr.field, go_sem, run_underlying Tryd.underlying118])
      clear hlk hb8 ho8
      cases blk
      · have HF2 : RowKit.Hid ((P.take (k + 1)).filter (fun s => !(f s).blk) = ((P.take k).filter fun s => !(f s).blk) ++ [s]) := Lib.hid (by rw [HFT.out]; rfl)
        go_quiet (fail)
        have HOW9 : RowKit.Hid (OwnS (w8.drewN nq) w.heap.size u3 ((P.take k).filter fun s => !(f s).blk)) := Lib.hid (HOW8.out.mono (below_drewN (Below.refl _ _) nq))
        have t0 : (w8.drewN nq).cell? ⟨wr.heap.size, 0, none⟩ = some (.int .i64 s.1) := cell_bel (below_drewN (Below.refl w8.heap.size w8) nq) s0
        have t1 : (w8.drewN nq).cell? ⟨wr.heap.size, 1, none⟩ = some (.int .u8 s.2.toNat) := cell_bel (below_drewN (Below.refl w8.heap.size w8) nq) s1
        have hb09 := below_drewN hb08 nq
        have hbase := hb09.size
        clear hl1 s0 s1 ha8 c0
        generalize w8.drewN nq = w9 at *
        go_wp2_with (first
          | (at_builtin; refine wpList_push_seat rfl _ _ rfl w.heap.size u3 ((P.take k).filter fun s => !(f s).blk) s rfl HOW9.out rfl hlen1 hbase ?_; intro v4 w4 ho4 hb4 _))
        go_roundg (N - (k + 1))
        case measure => omega
        case rel => exact ⟨k + 1, by omega, rfl, by go_num, ho4.cast HF2.out.symm, hb09.trans hb4⟩
      · have HF2 : RowKit.Hid ((P.take (k + 1)).filter (fun s => !(f s).blk) = ((P.take k).filter fun s => !(f s).blk)) := Lib.hid (by rw [HFT.out]; rfl)
        go_quiet (fail)
        go_wp2
        go_roundg (N - (k + 1))
        case measure => omega
        case rel => exact ⟨k + 1, by omega, rfl, by go_num, HOW8.out.cast HF2.out.symm, below_drewN hb08 _⟩
    · have hke : k = N := by omega
      subst hke
      have hki : ¬ (k : Int) < (k : Int) := by omega
      go_wp2
      go_ret
      refine ⟨_, rfl, HOW.out.cast (by rw [← HN.out, List.take_length]), hb⟩
end Go.Proofs.YtahghakpmjfefaaDoor
