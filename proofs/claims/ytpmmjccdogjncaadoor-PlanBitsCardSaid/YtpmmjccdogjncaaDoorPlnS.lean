/- The map's Seats; the reference's Has, Seats. -/
import Derived.Test.YtpmmjccdogjncaaDoorPlnR
namespace Go.Proofs.YtpmmjccdogjncaaDoor
open Go.RowKit Go.ChangeMaps
set_option linter.unusedSimpArgs false

theorem filter_take {q : St → Bool} {P : List St} {k : Nat} {s : St} (h : P[k]? = some s) : (P.take (k + 1)).filter q = if q s = true then (P.take k).filter q ++ [s] else (P.take k).filter q := by
  rw [take_get h, List.filter_append]
  by_cases hq : q s = true
  · rw [if_pos hq]; simp [hq]
  · rw [if_neg hq]; simp [hq]

theorem filter_few (q : St → Bool) (P : List St) (k : Nat) : ((P.take k).filter q).length ≤ P.length := by
  refine Nat.le_trans (List.length_filter_le _ _) ?_
  rw [List.length_take]; omega

set_option maxRecDepth 20000 in
set_option maxHeartbeats 8000000 in
theorem seats_ob (g b : Nat) (vl : Value) (P : List St) (f : St → Mk) (w : World) (h : Ob w g b P f) (hv : w.cell? ⟨g, 1, none⟩ = some vl) (hvl : HasE stC w vl P) (hP : P.length ≤ 1000) :
    Calls Tryd.prog 25 #[.pointer (some ⟨g, 0, none⟩)] w fun e w' => ∃ v, e = .returned v ∧ OwnS w' w.heap.size v (P.filter fun s => !(f s).blk) ∧ Below w.heap.size w w' := by
  obtain ⟨p, c, rfl⟩ := hvl.len
  have HV := Lib.hid hvl
  have HO := Lib.hid h
  clear h hvl
  go_enter Tryd.func25, Tryd.ntmps25
  go_wp2
  generalize hN : P.length = N at *
  have HN := Lib.hid hN
  clear hN
  go_loopg [3, 11] N (fun g0 o i wr => ∃ (k : Nat), k ≤ N ∧ g0 = N - k ∧ i = .int .i64 (k : Int) ∧ OwnS wr w.heap.size o ((P.take k).filter fun s => !(f s).blk) ∧ Below w.heap.size w wr)
  case atStart => exact ⟨0, Nat.zero_le _, rfl, rfl, OwnS.nil _ _, Below.refl _ _⟩
  case round =>
    obtain ⟨k, hk, rfl, rfl, ho, hb⟩ := hrel
    have HOW := Lib.hid ho
    clear ho
    by_cases hlt : k < N
    · have hki : (k : Int) < (N : Int) := by omega
      have hk0 : (0 : Int) ≤ (k : Int) := by omega
      obtain ⟨bb, off, rfl, hr, _, _⟩ := st_at (HV.out.mono hb) (i := k) (by rw [HN.out]; exact hlt)
      have hgk : P[k]? = some (P.getD k st0) := getD_get (by rw [HN.out]; exact hlt)
      have hmem := List.mem_of_getElem? hgk
      have hokr := HO.out.map.2.2 _ hmem
      have HFT := Lib.hid (filter_take (q := fun s => !(f s).blk) hgk)
      have hlen1 : ((P.take k).filter fun s => !(f s).blk).length + 1 ≤ 1000000 := by
        have := filter_few (fun s => !(f s).blk) P k
        have := HN.out
        omega
      have hlk : lkF P f (P.getD k st0) = f (P.getD k st0) := if_pos hmem
      clear hgk hmem
      generalize P.getD k st0 = s at *
      go_upto_region 5 with (first
        | (refine wpList_load_mid rfl 23 _ rfl bb (off + k * 2) rfl [.int .i64 s.1, .int .u8 s.2.toNat] _ hr Tryd.underlying23 rfl info_seat ?_)
        | (refine wpList_store_blk rfl 23 (.tmp 5) (.tmp 14) rfl wr.heap.size 23 (seatC 0 0) (seatC s.1 s.2) rfl rfl (Blk.new wr 23 (seatC 0 0)) rfl info_seat seatC_one ?_; intro w8 ha8 hb8 _))
      dsimp only [Act.put]
      have hb18 : Below wr.heap.size wr w8 := (((Below.refl _ _).alloc (Nat.le_refl _) _).trans hb8)
      have hb08 := below_low hb hb.size hb18
      have ho8 := HO.out.mono hb08
      have c0 := ho8.cell
      have s0 : w8.cell? ⟨wr.heap.size, 0, none⟩ = some (.int .i64 s.1) := (ha8.cell 0).trans rfl
      have s1 : w8.cell? ⟨wr.heap.size, 1, none⟩ = some (.int .u8 s.2.toNat) := (ha8.cell 1).trans rfl
      have hl1 : ∀ n, _ := fun n => (ho8.mono (below_drewN (Below.refl w8.heap.size w8) n)).map.look1 s hokr
      rw [hlk] at hl1
      have HOW8 := Lib.hid (HOW.out.mono hb18)
      generalize hmk : f s = mk at *
      obtain ⟨num, blk, txt⟩ := mk
      simp only at hl1
      have hfl : ∀ W, (Instr.field 90 (.agg #[.int .i64 num, .bool blk, .string txt]) 1).run Tryd.prog W = .ok (.bool blk) W := fun W => by
        first
          | (rfl)
          | (kernel_rfl)
          | (simp [Instr.field, go_sem, run_underlying Tryd.underlying90])
      clear hlk hb8 ho8
      cases blk
      · have HF2 : RowKit.Hid ((P.take (k + 1)).filter (fun s => !(f s).blk) = ((P.take k).filter fun s => !(f s).blk) ++ [s]) := Lib.hid (by rw [HFT.out]; rfl)
        go_quiet (fail)
        have HOW9 : RowKit.Hid (OwnS (w8.drewN nq) w.heap.size u3 ((P.take k).filter fun s => !(f s).blk)) := Lib.hid (HOW8.out.mono (below_drewN (Below.refl _ _) nq))
        have t0 : (w8.drewN nq).cell? ⟨wr.heap.size, 0, none⟩ = some (.int .i64 s.1) := cell_bel (below_drewN (Below.refl w8.heap.size w8) nq) s0
        have t1 : (w8.drewN nq).cell? ⟨wr.heap.size, 1, none⟩ = some (.int .u8 s.2.toNat) := cell_bel (below_drewN (Below.refl w8.heap.size w8) nq) s1
        have hb09 := below_drewN hb08 nq
        have hbase := hb09.size
        clear hl1 s0 s1 ha8 c0
        generalize w8.drewN nq = w9 at *
        go_wp2_with (first
          | (at_builtin; refine wpList_push_seat rfl _ _ rfl w.heap.size u3 ((P.take k).filter fun s => !(f s).blk) s rfl HOW9.out rfl hlen1 hbase ?_; intro v4 w4 ho4 hb4 _))
        go_roundg (N - (k + 1))
        case measure => omega
        case rel => exact ⟨k + 1, by omega, rfl, by go_num, ho4.cast HF2.out.symm, hb09.trans hb4⟩
      · have HF2 : RowKit.Hid ((P.take (k + 1)).filter (fun s => !(f s).blk) = ((P.take k).filter fun s => !(f s).blk)) := Lib.hid (by rw [HFT.out]; rfl)
        go_quiet (fail)
        go_wp2
        go_roundg (N - (k + 1))
        case measure => omega
        case rel => exact ⟨k + 1, by omega, rfl, by go_num, HOW8.out.cast HF2.out.symm, below_drewN hb08 _⟩
    · have hke : k = N := by omega
      subst hke
      have hki : ¬ (k : Int) < (k : Int) := by omega
      go_wp2
      go_ret
      refine ⟨_, rfl, HOW.out.cast (by rw [← HN.out, List.take_length]), hb⟩
end Go.Proofs.YtpmmjccdogjncaaDoor
