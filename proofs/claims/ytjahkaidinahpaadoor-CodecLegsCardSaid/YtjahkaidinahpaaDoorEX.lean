/- The empty PNR is sound. -/
import Derived.Test.YtjahkaidinahpaaDoorEK
import Derived.Lib.AppendStr
namespace Go.Proofs.YtjahkaidinahpaaDoor
open Go.RowKit Go.ChangeMaps
set_option linter.unusedSimpArgs false
set_option linter.unusedVariables false
set_option maxRecDepth 20000

/-- The cells of the empty PNR. -/
def zeroC : List Value := [.string ⟨#[]⟩, .string ⟨#[]⟩, .slice none 0 0, .slice none 0 0, .slice none 0 0, .int .i64 0, .int .i64 0, .int .i64 0, .string ⟨#[]⟩, .slice none 0 0, .slice none 0 0, .bool false]

set_option maxHeartbeats 8000000 in
theorem segments_nil (w : World) : Calls Tryd.prog 159 #[.slice none 0 0] w fun e w' => e = .returned (.bool true) ∧ Below w.heap.size w w' := by
  go_enter Tryd.func159, Tryd.ntmps159
  have hmk : ∀ W, (Instr.makeMap 213 none).run Tryd.prog W = .ok (.map (some W.heap.size)) (W.alloc (.map #[] 0)) := fun W => run_makeMap _ W
  go_wp2
  refine wp_loop_rounds 1 ?_
  rw [rounds_succ]
  go_wp2
  go_ret
  exact ⟨rfl, (Below.refl _ _).alloc (Nat.le_refl _) _⟩

set_option maxHeartbeats 8000000 in
theorem texts_nil (n : Int) (w : World) (hn : ¬ n < 0) : Calls Tryd.prog 160 #[.slice none 0 0, .int .i64 n] w fun e w' => e = .returned (.bool true) ∧ w = w' := by
  go_enter Tryd.func160, Tryd.ntmps160
  go_wp2
  refine wp_loop_rounds 1 ?_
  rw [rounds_succ]
  go_wp2
  go_ret
  exact ⟨rfl, rfl⟩

set_option maxHeartbeats 8000000 in
theorem ticket_zero (w : World) : Calls Tryd.prog 162 #[.agg zeroC.toArray] w fun e w' => e = .returned (.bool true) ∧ Below w.heap.size w w' := by
  unfold zeroC
  go_enter Tryd.func162, Tryd.ntmps162
  go_wp2
  go_ret
  exact ⟨rfl, ((Below.refl _ _).alloc (Nat.le_refl _) _).alloc (by simp) _⟩

set_option maxHeartbeats 8000000 in
theorem seats_zero (w : World) : Calls Tryd.prog 163 #[.agg zeroC.toArray] w fun e w' => e = .returned (.bool true) ∧ Below w.heap.size w w' := by
  unfold zeroC
  go_enter Tryd.func163, Tryd.ntmps163
  have hmk : ∀ W, (Instr.makeMap 214 none).run Tryd.prog W = .ok (.map (some W.heap.size)) (W.alloc (.map #[] 0)) := fun W => run_makeMap _ W
  go_wp2
  refine wp_loop_rounds 1 ?_
  rw [rounds_succ]
  go_wp2
  go_ret
  exact ⟨rfl, (((Below.refl _ _).alloc (Nat.le_refl _) _).alloc (by simp) _).alloc (by simp; omega) _⟩
/-- A load whose guard holds. -/
theorem wpList_load_yes {P : Program} {w : World} {ops : Array Oper} {rest : List Oper} {op : Oper} {a : Act} {Q : Exit → Act → World → Prop} (ty : TypeId) (x : Operand) (ho : op.op = .load ty x) (hw : Region.wanted op (yielded ops a.tmps) = true)
    (p : Addr) (hx : a.eval x = .pointer (some p)) (v : Value) (hr : (loadVar ty p).run P w = .ok v w) (h : wpList P ops Q rest (a.put op.dst v) w) : wpList P ops Q (op :: rest) a w := by
  refine wpList_step fun K hK => ?_
  simp only [hw, if_true]
  unfold Oper.wp execOp
  simp only [ho, hx, Instr.loadAt, Instr.sureAddr, Sem.run_bind, Sem.run_pure, Result.andThen_ok, hr]
  exact hK _ _ h

theorem info_pnr : (Tryd.prog.info? 29).map (·.size) = some 12 := by kernel_rfl

theorem pnr_load {w : World} {g : Nat} {cs : List Value} (h : Blk w g 29 cs) (hl : cs.length = 12) : (loadVar 29 ⟨g, 0, none⟩).run Tryd.prog w = .ok (.agg cs.toArray) w :=
  run_loadVar_mid w g 0 29 cs _ h.range Tryd.underlying29 rfl (by rw [hl]; exact info_pnr)

set_option maxHeartbeats 8000000 in
theorem sound_zero (w : World) : Calls Tryd.prog 86 #[.agg zeroC.toArray] w fun e w' => e = .returned (.bool true) ∧ Below w.heap.size w w' := by
  have HSEG := Lib.hid segments_nil
  have HT4 := Lib.hid fun W => texts_nil 4 W (by decide)
  have HT10 := Lib.hid fun W => texts_nil 10 W (by decide)
  have HTI := Lib.hid ticket_zero
  have HSE := Lib.hid seats_zero
  have HB := Lib.hid (Blk.new w 29 zeroC)
  have HB0 : RowKit.Hid (Below w.heap.size w (w.alloc (.cells zeroC.toArray 29))) := Lib.hid ((Below.refl _ _).alloc (Nat.le_refl _) _)
  have HL : RowKit.Hid (∀ W, Blk W w.heap.size 29 zeroC → (loadVar 29 ⟨w.heap.size, 0, none⟩).run Tryd.prog W = .ok (.agg zeroC.toArray) W) := Lib.hid fun W h => pnr_load h rfl
  have HK : RowKit.Hid (∀ W, Blk W w.heap.size 29 zeroC → W.cell? ⟨w.heap.size, 4, none⟩ = some (.slice none 0 0) ∧ W.cell? ⟨w.heap.size, 9, none⟩ = some (.slice none 0 0) ∧ W.cell? ⟨w.heap.size, 8, none⟩ = some (.string ⟨#[]⟩)) := Lib.hid fun W h => ⟨(h.cell 4).trans rfl, (h.cell 9).trans rfl, (h.cell 8).trans rfl⟩
  unfold zeroC at *
  go_enter Tryd.func86, Tryd.ntmps86
  go_wp2
  refine wp_loop_rounds 1 ?_
  rw [rounds_succ]
  go_wp2_with (first
    | (go_at_call 159; (with_reducible refine (HSEG.out _).mono ?_); rintro e w2 ⟨rfl, hb2⟩; have hg2 := Lib.hid (HB.out.mono hb2); obtain ⟨k4, k7, k6⟩ := HK.out w2 hg2.out; have hl2 := HL.out w2 hg2.out)
    | (go_at_call 160; (with_reducible refine (HT4.out _).mono ?_); rintro e w3 ⟨rfl, rfl⟩)
    | (go_at_call 160; (with_reducible refine (HT10.out _).mono ?_); rintro e w4 ⟨rfl, rfl⟩)
    | (go_at_call 162; (with_reducible refine (HTI.out _).mono ?_); rintro e w5 ⟨rfl, hb5⟩; have hl5 := HL.out w5 (hg2.out.mono hb5))
    | (refine wpList_load_yes 29 (.tmp 1) rfl (by rfl) ⟨w.heap.size, 0, none⟩ rfl _ hl5 ?_)
    | (refine wpList_load_yes 29 (.tmp 1) rfl (by rfl) ⟨w.heap.size, 0, none⟩ rfl _ hl2 ?_)
    | (go_at_call 163; (with_reducible refine (HSE.out _).mono ?_); rintro e w6 ⟨rfl, hb6⟩))
  go_ret
  exact ⟨rfl, bel_trans (bel_trans (bel_trans HB0.out hb2) hb5) hb6⟩
end Go.Proofs.YtjahkaidinahpaaDoor
