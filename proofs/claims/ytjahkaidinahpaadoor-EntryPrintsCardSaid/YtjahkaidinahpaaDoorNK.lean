/- Parse: an entry, taken apart. -/
import Derived.Test.YtjahkaidinahpaaDoorNJ
namespace Go.Proofs.YtjahkaidinahpaaDoor.En
open Go.RowKit
set_option linter.unusedSimpArgs false
set_option linter.unusedVariables false
set_option maxRecDepth 100000

/-- What an entry comes to: the command and the fault. -/
def okC (o : Except Flt CmdT) : CmdT := match o with | .ok c => c | .error _ => cmd0
def flC (o : Except Flt CmdT) : List Value := match o with | .ok _ => [.int .i64 0, .int .i64 0] | .error (k, p) => [.int .i64 k, .int .i64 (p : Int)]

theorem info_cmd : (Tryd.prog.info? 71).map (·.size) = some 15 := by kernel_rfl
theorem info_flt : (Tryd.prog.info? 73).map (·.size) = some 2 := by kernel_rfl

theorem results_rows {P : Program} {fn : Func} {p q : Tmp} {ty ty' : TypeId} (h : fn.results = #[.cell p ty, .cell q ty']) (tmps : Array Value) (w : World) (g g' : Nat) (t t' : TypeId) (cs cs' : List Value) (d d' : TypeDesc)
    (hp : tmps.getD p undef = .pointer (some ⟨g, 0, none⟩)) (hg : Blk w g t cs) (hq : tmps.getD q undef = .pointer (some ⟨g', 0, none⟩)) (hg' : Blk w g' t' cs')
    (hu : P.underlying ty = some d) (hd : (match d with | .struct _ | .array _ _ => true | _ => false) = true) (hi : (P.info? ty).map (·.size) = some cs.length)
    (hu' : P.underlying ty' = some d') (hd' : (match d' with | .struct _ | .array _ _ => true | _ => false) = true) (hi' : (P.info? ty').map (·.size) = some cs'.length) :
    (results fn tmps).run P w = .ok (.tuple #[.agg cs.toArray, .agg cs'.toArray]) w := by
  have hp' : tmps[p]?.getD undef = .pointer (some ⟨g, 0, none⟩) := by simpa using hp
  have hq' : tmps[q]?.getD undef = .pointer (some ⟨g', 0, none⟩) := by simpa using hq
  simp [results, h, hp', hq', asAddr, run_loadVar_row w g t ty cs.toArray (0, 0) d hg hu hd (by simpa using hi), run_loadVar_row w g' t' ty' cs'.toArray (0, 0) d' hg' hu' hd' (by simpa using hi')]

/-- The blocks that Parse makes: the command, the fault. -/
theorem parse_boxes (s : ByteArray) (w : World) : ∃ w3, ((w.alloc (.cells #[.int .i64 0, .string ⟨#[]⟩, .string ⟨#[]⟩, .int .i64 0, .string ⟨#[]⟩, .string ⟨#[]⟩, .int .i64 0, .string ⟨#[]⟩, .string ⟨#[]⟩, .int .i64 0, .int .i64 0, .int .u8 0, .int .i64 0, .int .i64 0, .int .u8 0] 71)).alloc (.cells #[.int .i64 0, .int .i64 0] 73)) = w3 ∧ Blk w3 w.heap.size 71 (cmdC cmd0) ∧ Blk w3 (w.heap.size + 1) 73 [.int .i64 0, .int .i64 0] ∧ Below w.heap.size w w3 ∧ w3.heap.size = w.heap.size + 2 := by
  refine ⟨_, rfl, (Blk.new w _ (cmdC cmd0)).alloc _, ?_, bel_trans ((Below.refl _ _).alloc (Nat.le_refl _) _) ((Below.refl _ _).alloc (Nat.le_refl _) _), by simp⟩
  have := Blk.new (w.alloc (.cells #[.int .i64 0, .string ⟨#[]⟩, .string ⟨#[]⟩, .int .i64 0, .string ⟨#[]⟩, .string ⟨#[]⟩, .int .i64 0, .string ⟨#[]⟩, .string ⟨#[]⟩, .int .i64 0, .int .i64 0, .int .u8 0, .int .i64 0, .int .i64 0, .int .u8 0] 71)) 73 [.int .i64 0, .int .i64 0]
  rwa [show (w.alloc (.cells #[.int .i64 0, .string ⟨#[]⟩, .string ⟨#[]⟩, .int .i64 0, .string ⟨#[]⟩, .string ⟨#[]⟩, .int .i64 0, .string ⟨#[]⟩, .string ⟨#[]⟩, .int .i64 0, .int .i64 0, .int .u8 0, .int .i64 0, .int .i64 0, .int .u8 0] 71)).heap.size = w.heap.size + 1 by simp] at this

theorem two_one {x y : Int} : ∀ v ∈ ([.int .i64 x, .int .i64 y] : List Value), v.oneCell' = true := by
  intro v hv
  simp at hv
  rcases hv with rfl | rfl <;> rfl
theorem cmdC_one {c : CmdT} : ∀ v ∈ cmdC c, v.oneCell' = true := by
  intro v hv
  simp [cmdC] at hv
  rcases hv with rfl | rfl | rfl | rfl | rfl | rfl | rfl | rfl | rfl | rfl | rfl | rfl | rfl | rfl | rfl <;> rfl

theorem blk_set15 {w : World} {g : Nat} {T : TypeId} {x0 x1 x2 x3 x4 x5 x6 x7 x8 x9 x10 x11 x12 x13 x14 : Value} (v0 v1 v2 v3 v4 v5 v6 v7 v8 v9 v10 v11 v12 v13 v14 : Value) (h : Blk w g T [x0, x1, x2, x3, x4, x5, x6, x7, x8, x9, x10, x11, x12, x13, x14]) : Blk (((((((((((((((w.setCell ⟨g, 0, none⟩ v0).setCell ⟨g, 1, none⟩ v1).setCell ⟨g, 2, none⟩ v2).setCell ⟨g, 3, none⟩ v3).setCell ⟨g, 4, none⟩ v4).setCell ⟨g, 5, none⟩ v5).setCell ⟨g, 6, none⟩ v6).setCell ⟨g, 7, none⟩ v7).setCell ⟨g, 8, none⟩ v8).setCell ⟨g, 9, none⟩ v9).setCell ⟨g, 10, none⟩ v10).setCell ⟨g, 11, none⟩ v11).setCell ⟨g, 12, none⟩ v12).setCell ⟨g, 13, none⟩ v13).setCell ⟨g, 14, none⟩ v14) g T [v0, v1, v2, v3, v4, v5, v6, v7, v8, v9, v10, v11, v12, v13, v14] := (((((((((((((((h.set 0 v0).set 1 v1).set 2 v2).set 3 v3).set 4 v4).set 5 v5).set 6 v6).set 7 v7).set 8 v8).set 9 v9).set 10 v10).set 11 v11).set 12 v12).set 13 v13).set 14 v14)
theorem blk_far15 {w : World} {b g : Nat} {T : TypeId} {cs : List Value} (hne : ¬ g = b) (v0 v1 v2 v3 v4 v5 v6 v7 v8 v9 v10 v11 v12 v13 v14 : Value) (h : Blk w b T cs) : Blk (((((((((((((((w.setCell ⟨g, 0, none⟩ v0).setCell ⟨g, 1, none⟩ v1).setCell ⟨g, 2, none⟩ v2).setCell ⟨g, 3, none⟩ v3).setCell ⟨g, 4, none⟩ v4).setCell ⟨g, 5, none⟩ v5).setCell ⟨g, 6, none⟩ v6).setCell ⟨g, 7, none⟩ v7).setCell ⟨g, 8, none⟩ v8).setCell ⟨g, 9, none⟩ v9).setCell ⟨g, 10, none⟩ v10).setCell ⟨g, 11, none⟩ v11).setCell ⟨g, 12, none⟩ v12).setCell ⟨g, 13, none⟩ v13).setCell ⟨g, 14, none⟩ v14) b T cs := (blk_o (blk_o (blk_o (blk_o (blk_o (blk_o (blk_o (blk_o (blk_o (blk_o (blk_o (blk_o (blk_o (blk_o (blk_o h hne) hne) hne) hne) hne) hne) hne) hne) hne) hne) hne) hne) hne) hne) hne)
theorem low_set15 {W w : World} {B g : Nat} (hB : B ≤ g) (v0 v1 v2 v3 v4 v5 v6 v7 v8 v9 v10 v11 v12 v13 v14 : Value) (h : Below B W w) : Below B W (((((((((((((((w.setCell ⟨g, 0, none⟩ v0).setCell ⟨g, 1, none⟩ v1).setCell ⟨g, 2, none⟩ v2).setCell ⟨g, 3, none⟩ v3).setCell ⟨g, 4, none⟩ v4).setCell ⟨g, 5, none⟩ v5).setCell ⟨g, 6, none⟩ v6).setCell ⟨g, 7, none⟩ v7).setCell ⟨g, 8, none⟩ v8).setCell ⟨g, 9, none⟩ v9).setCell ⟨g, 10, none⟩ v10).setCell ⟨g, 11, none⟩ v11).setCell ⟨g, 12, none⟩ v12).setCell ⟨g, 13, none⟩ v13).setCell ⟨g, 14, none⟩ v14) := (((((((((((((((h.setCell hB _).setCell hB _).setCell hB _).setCell hB _).setCell hB _).setCell hB _).setCell hB _).setCell hB _).setCell hB _).setCell hB _).setCell hB _).setCell hB _).setCell hB _).setCell hB _).setCell hB _)
theorem size_set15 {w : World} {g : Nat} (v0 v1 v2 v3 v4 v5 v6 v7 v8 v9 v10 v11 v12 v13 v14 : Value) : (((((((((((((((w.setCell ⟨g, 0, none⟩ v0).setCell ⟨g, 1, none⟩ v1).setCell ⟨g, 2, none⟩ v2).setCell ⟨g, 3, none⟩ v3).setCell ⟨g, 4, none⟩ v4).setCell ⟨g, 5, none⟩ v5).setCell ⟨g, 6, none⟩ v6).setCell ⟨g, 7, none⟩ v7).setCell ⟨g, 8, none⟩ v8).setCell ⟨g, 9, none⟩ v9).setCell ⟨g, 10, none⟩ v10).setCell ⟨g, 11, none⟩ v11).setCell ⟨g, 12, none⟩ v12).setCell ⟨g, 13, none⟩ v13).setCell ⟨g, 14, none⟩ v14).heap.size = w.heap.size := by simp [World.setCell]
/-- The way out by a panic. -/
theorem leaves_boom {tmps : Array Value} {R : Ending → World → Prop} {k p : Int} {w' : World} (w : World) (hp : tmps.getD 2 undef = .pointer (some ⟨w.heap.size, 0, none⟩)) (hq : tmps.getD 3 undef = .pointer (some ⟨w.heap.size + 1, 0, none⟩))
    (h0 : Blk w' w.heap.size 71 (cmdC cmd0)) (h1 : Blk w' (w.heap.size + 1) 73 [.int .i64 0, .int .i64 0]) (hb : Below w.heap.size w w') (hz : w.heap.size ≤ w'.heap.size)
    (h : ∀ w'', Below w.heap.size w w'' → R (.returned (.tuple #[.agg (cmdC cmd0).toArray, .agg #[.int .i64 k, .int .i64 p]])) w'') :
    Leaves Tryd.prog Tryd.f29 tmps R [{ target := .fn (.func 60) #[.pointer (some ⟨w.heap.size, 0, none⟩), .pointer (some ⟨w.heap.size + 1, 0, none⟩)], args := #[] }] (.panicking [{ v := .iface 73 (.agg #[.int .i64 k, .int .i64 p]), recovered := false }]) w' := by
  refine leaves_cons (f := 60) (args := #[.pointer (some ⟨w.heap.size, 0, none⟩), .pointer (some ⟨w.heap.size + 1, 0, none⟩)]) (by simp) (by simp [go_sem]) ?_
  refine (catch_boom w.heap.size (w.heap.size + 1) k p 0 0 [] w.heap.size (Nat.le_refl _) (by omega) w' h0 h1 (by omega)).mono ?_
  rintro e u' w'' ⟨rfl, rfl, g0, g1, hl⟩
  exact ⟨_, results_rows rfl _ _ w.heap.size (w.heap.size + 1) _ _ (cmdC cmd0) [.int .i64 k, .int .i64 p] _ _ hp g0 hq g1 Tryd.underlying71 rfl info_cmd Tryd.underlying73 rfl info_flt, h _ (hb.trans hl)⟩
/-- The way out behind a return. -/
theorem leaves_idle {tmps : Array Value} {R : Ending → World → Prop} {c : CmdT} {w' : World} (w : World) (hp : tmps.getD 2 undef = .pointer (some ⟨w.heap.size, 0, none⟩)) (hq : tmps.getD 3 undef = .pointer (some ⟨w.heap.size + 1, 0, none⟩))
    (h0 : Blk w' w.heap.size 71 (cmdC c)) (h1 : Blk w' (w.heap.size + 1) 73 [.int .i64 0, .int .i64 0]) (hb : Below w.heap.size w w') (hz : w.heap.size ≤ w'.heap.size)
    (h : ∀ w'', Below w.heap.size w w'' → R (.returned (.tuple #[.agg (cmdC c).toArray, .agg #[.int .i64 0, .int .i64 0]])) w'') :
    Leaves Tryd.prog Tryd.f29 tmps R [{ target := .fn (.func 60) #[.pointer (some ⟨w.heap.size, 0, none⟩), .pointer (some ⟨w.heap.size + 1, 0, none⟩)], args := #[] }] .returning w' := by
  refine leaves_cons (f := 60) (args := #[.pointer (some ⟨w.heap.size, 0, none⟩), .pointer (some ⟨w.heap.size + 1, 0, none⟩)]) (by simp) (by simp [go_sem]) ?_
  refine (catch_idle w.heap.size (w.heap.size + 1) w.heap.size w' hz).mono ?_
  rintro e u' w'' ⟨rfl, rfl, hk, hl⟩
  exact ⟨_, results_rows rfl _ _ w.heap.size (w.heap.size + 1) _ _ (cmdC c) [.int .i64 0, .int .i64 0] _ _ hp ((hk _ h0.lt).trans h0) hq ((hk _ h1.lt).trans h1) Tryd.underlying71 rfl info_cmd Tryd.underlying73 rfl info_flt, h _ (hb.trans hl)⟩

set_option maxHeartbeats 4000000 in
theorem parse_any (s : ByteArray) (w : World) (hs : s.size ≤ maxLen) (ht : Da.LenTab w) :
    Calls Tryd.prog 29 #[.string s] w fun e w' => e = .returned (.tuple #[.agg (cmdC (okC (parse (toL s)))).toArray, .agg (flC (parse (toL s))).toArray]) ∧ Below w.heap.size w w' := by
  have hsl : (toL s).length = s.size := by simp
  have hmf : ∀ (fn : Fn) (first cap : Array Value) (w : World), (Instr.makeFunc fn first cap).run Tryd.prog w = .ok (.func fn first cap) w := fun _ _ _ _ => rfl
  obtain ⟨w3, e3, b0, b1, hb3, hz3⟩ := parse_boxes s w
  unfold maxLen at hs
  by_cases hlong : 255 < s.size
  · have hl : (255 : Int) < (s.size : Int) := by omega
    have hp : parse (toL s) = .error (40, 255) := by unfold parse; rw [if_pos (by omega)]
    rw [hp]
    go_enter_defers Tryd.func29, Tryd.ntmps29
    have hr := b0.range
    have HB0 := Lib.hid b0
    have HB1 := Lib.hid b1
    clear b0 b1 hp
    go_upto_region 2 with fail
    clear e3
    go_wp2_with (first
      | (refine wpList_load_mid rfl 71 (.tmp 2) rfl w.heap.size 0 rfl _ _ hr Tryd.underlying71 rfl info_cmd ?_)
      | (refine wpList_store_blk rfl 71 (.tmp 2) (.tmp 8) rfl w.heap.size 71 (cmdC cmd0) (cmdC cmd0) rfl rfl HB0.out rfl info_cmd cmdC_one ?_; intro w8 hb8 hl8 hg8)
      | (refine wpList_store_blk rfl 73 (.tmp 3) (.tmp 9) rfl (w.heap.size + 1) 73 [.int .i64 0, .int .i64 0] [.int .i64 40, .int .i64 255] rfl rfl (HB1.out.far hg8 (by intro e; injection e with e; omega)) rfl info_flt two_one ?_; intro w9 hb9 hl9 hg9))
    exact ⟨_, results_rows rfl _ _ w.heap.size (w.heap.size + 1) _ _ (cmdC cmd0) [.int .i64 40, .int .i64 255] _ _ rfl (hb8.far hg9 (by intro e; injection e with e; omega)) rfl hb9 Tryd.underlying71 rfl info_cmd Tryd.underlying73 rfl info_flt, rfl, (hb3.trans hl8).trans (below_le hl9 (by omega))⟩
  · have hl : ¬ (255 : Int) < (s.size : Int) := by omega
    obtain ⟨w4, e4, p4, q0, q1, hb4⟩ : ∃ w4, w3.alloc (.cells #[.string s, .int .i64 0, .int .i64 0, .string ⟨#[]⟩, .string ⟨#[]⟩, .int .i64 0, .string ⟨#[]⟩, .string ⟨#[]⟩, .int .i64 0, .string ⟨#[]⟩, .string ⟨#[]⟩, .int .i64 0, .int .i64 0, .int .u8 0, .int .i64 0, .int .i64 0, .int .u8 0] 131) = w4 ∧ PS w4 (w.heap.size + 2) s 0 cmd0 ∧ Blk w4 w.heap.size 71 (cmdC cmd0) ∧ Blk w4 (w.heap.size + 1) 73 [.int .i64 0, .int .i64 0] ∧ Below w.heap.size w w4 := by
      refine ⟨_, rfl, ?_, b0.alloc _, b1.alloc _, bel_trans hb3 ((Below.refl _ _).alloc (Nat.le_refl _) _)⟩
      have := Blk.new w3 131 (.string s :: .int .i64 0 :: cmdC cmd0)
      rw [hz3] at this
      exact this
    have hsm : s.size ≤ maxLen := by unfold maxLen; omega
    have HBG : RowKit.Hid (Calls Tryd.prog 61 #[.pointer (some ⟨w.heap.size + 2, 0, none⟩)] w4 fun e w' => (∃ k q, RowKit.Hid (begin_ (toL s) = some (k, q)) ∧ q ≤ s.size ∧ e = .returned (.tuple #[]) ∧ PS w' (w.heap.size + 2) s q (cmdK k) ∧ RowKit.Hid (Below (w.heap.size + 2) w4 w')) ∨ (RowKit.Hid (begin_ (toL s) = none) ∧ e = boom 41 0 ∧ RowKit.Hid (Below (w.heap.size + 2) w4 w'))) := Lib.hid (by
      refine (begin_m _ s w4 hsm p4).mono fun e w' h => ?_
      cases hx : begin_ (toL s) with
      | none => rw [hx] at h; exact .inr ⟨Lib.hid rfl, h.1, Lib.hid h.2⟩
      | some x =>
        obtain ⟨k, q⟩ := x
        rw [hx] at h
        have hq : q ≤ s.size := by
          rcases begin_word hx with ⟨e, _, rfl⟩ | ⟨_, u, _, hu, rfl⟩
          · have := congrArg List.length e; simp at this; omega
          · have := isPre_len hu; simpa using this
        exact .inl ⟨k, q, Lib.hid rfl, hq, h.1, h.2.1, Lib.hid h.2.2⟩)
    have HPA : RowKit.Hid (∀ k q W, q ≤ s.size → PS W (w.heap.size + 2) s q (cmdK k) → Below (w.heap.size + 2) w4 W → Calls Tryd.prog 62 #[.pointer (some ⟨w.heap.size + 2, 0, none⟩)] W fun e w' => (∃ c q', RowKit.Hid (parts (toL s) k q = .ok (c, q')) ∧ e = .returned (.tuple #[]) ∧ PS w' (w.heap.size + 2) s q' c ∧ RowKit.Hid (Below (w.heap.size + 2) W w')) ∨ (∃ k' q', RowKit.Hid (parts (toL s) k q = .error (k', q')) ∧ e = boom k' (q' : Nat) ∧ RowKit.Hid (Below (w.heap.size + 2) W w'))) := Lib.hid fun k q W hq hc hW => by
      have hg := ht.pos
      refine (parts_m _ s k q W hsm hq (ltab_keep (ht.keep hb4) hW (by omega)) (by omega) hc).mono fun e w' h => ?_
      cases hx : parts (toL s) k q with
      | ok x =>
        obtain ⟨c, q'⟩ := x
        rw [hx] at h
        exact .inl ⟨c, q', Lib.hid rfl, h.1, h.2.1, Lib.hid h.2.2⟩
      | error x =>
        obtain ⟨k', q'⟩ := x
        rw [hx] at h
        exact .inr ⟨k', q', Lib.hid rfl, h.1, Lib.hid h.2⟩
    have HEN : RowKit.Hid (∀ q c W, PS W (w.heap.size + 2) s q c → Calls Tryd.prog 63 #[.pointer (some ⟨w.heap.size + 2, 0, none⟩)] W fun e w' => (RowKit.Hid (s.size ≤ q) ∧ e = .returned (.bool true) ∧ PS w' (w.heap.size + 2) s s.size c ∧ RowKit.Hid (Below (w.heap.size + 2) W w')) ∨ (RowKit.Hid (q < s.size) ∧ e = .returned (.bool false) ∧ PS w' (w.heap.size + 2) s q c ∧ RowKit.Hid (Below (w.heap.size + 2) W w'))) := Lib.hid fun q c W hc => by
      refine (end_any _ s q W hsm hc).mono ?_
      rintro e w' ⟨rfl, h1, h2⟩
      by_cases hq : q < s.size
      · have hpl : place s.size q = q := place_in _ _ (by omega) (by omega)
        rw [hpl] at h1 ⊢
        refine .inr ⟨Lib.hid hq, ?_, h1, Lib.hid (gr_low h2 hc.lt)⟩
        exact ret_bool (by rw [beq_eq_false_iff_ne]; omega)
      · have hpl : place s.size q = s.size := by
          unfold place
          rw [if_neg (by omega)]
          split
          · rfl
          · omega
        rw [hpl] at h1 ⊢
        refine .inl ⟨Lib.hid (by omega), ?_, h1, Lib.hid (gr_low h2 hc.lt)⟩
        exact ret_bool (by simp)
    have HOK : RowKit.Hid (∀ k q c q', begin_ (toL s) = some (k, q) → parts (toL s) k q = .ok (c, q') → s.size ≤ q' → parse (toL s) = .ok c) := Lib.hid fun k q c q' h1 h2 h3 => by
      unfold parse
      rw [if_neg (by omega), h1]
      simp only [h2]
      rw [if_neg (by omega)]
    have HMO : RowKit.Hid (∀ k q c q', begin_ (toL s) = some (k, q) → parts (toL s) k q = .ok (c, q') → q' < s.size → parse (toL s) = .error (47, q')) := Lib.hid fun k q c q' h1 h2 h3 => by
      unfold parse
      rw [if_neg (by omega), h1]
      simp only [h2]
      rw [if_pos (by omega)]
    have HER : RowKit.Hid (∀ k q f, begin_ (toL s) = some (k, q) → parts (toL s) k q = .error f → parse (toL s) = .error f) := Lib.hid fun k q f h1 h2 => by
      unfold parse
      rw [if_neg (by omega), h1]
      simp only [h2]
    have HNO : RowKit.Hid (begin_ (toL s) = none → parse (toL s) = .error (41, 0)) := Lib.hid fun h1 => by
      unfold parse
      rw [if_neg (by omega), h1]
    generalize parse (toL s) = pr at *
    have HB0 := Lib.hid q0
    have HB1 := Lib.hid q1
    have HB4 := Lib.hid hb4
    have hgs := p4.lt
    clear q0 q1 hb4 b0 b1 hb3 hsl p4 ht hlong
    go_enter_defers Tryd.func29, Tryd.ntmps29
    go_upto_region 5 with fail
    clear e3 e4
    go_wp2_with (first
      | (go_at_call 61; (with_reducible refine HBG.out.mono ?_); rintro e w5 (⟨k5, q5, h5, hq5, rfl, hc5, hx5⟩ | ⟨h5, rfl, hx5⟩))
      | (go_at_call 62; (with_reducible refine (HPA.out _ _ _ hq5 hc5 hx5.out).mono ?_); rintro e w6 (⟨c6, q6, h6, rfl, hc6, hx6⟩ | ⟨k6, q6, h6, rfl, hx6⟩))
      | (go_at_call 63; (with_reducible refine (HEN.out _ _ _ hc6).mono ?_); rintro e w7 (⟨h7, rfl, hc7, hx7⟩ | ⟨h7, rfl, hc7, hx7⟩) <;> have k7 := hc7.at_)
      | (go_at_call 64; (with_reducible refine (fail_any _ _ _ _).mono ?_); rintro e w8 ⟨rfl, rfl⟩))
    · have a0 := HB0.out.keep (bl3 (bl3 hx5.out hx6.out) hx7.out) (by omega)
      have a1 := HB1.out.keep (bl3 (bl3 hx5.out hx6.out) hx7.out) (by omega)
      have HA0 := Lib.hid a0
      have HA1 := Lib.hid a1
      have HC7 := Lib.hid hc7
      have u0 : w7.cell? ⟨w.heap.size + 2, 2, none⟩ = some (.int .i64 c6.kind) := hc7.cell 2
      have u1 : w7.cell? ⟨w.heap.size + 2, 3, none⟩ = some (txV c6.text) := hc7.cell 3
      have u2 : w7.cell? ⟨w.heap.size + 2, 4, none⟩ = some (txV c6.office) := hc7.cell 4
      have u3 : w7.cell? ⟨w.heap.size + 2, 5, none⟩ = some (.int .i64 c6.day) := hc7.cell 5
      have u4 : w7.cell? ⟨w.heap.size + 2, 6, none⟩ = some (txV c6.src) := hc7.cell 6
      have u5 : w7.cell? ⟨w.heap.size + 2, 7, none⟩ = some (txV c6.dst) := hc7.cell 7
      have u6 : w7.cell? ⟨w.heap.size + 2, 8, none⟩ = some (.int .i64 c6.minute) := hc7.cell 8
      have u7 : w7.cell? ⟨w.heap.size + 2, 9, none⟩ = some (txV c6.last) := hc7.cell 9
      have u8 : w7.cell? ⟨w.heap.size + 2, 10, none⟩ = some (txV c6.first) := hc7.cell 10
      have u9 : w7.cell? ⟨w.heap.size + 2, 11, none⟩ = some (.int .i64 c6.n) := hc7.cell 11
      have u10 : w7.cell? ⟨w.heap.size + 2, 12, none⟩ = some (.int .i64 c6.pax) := hc7.cell 12
      have u11 : w7.cell? ⟨w.heap.size + 2, 13, none⟩ = some (.int .u8 c6.cls.toNat) := hc7.cell 13
      have u12 : w7.cell? ⟨w.heap.size + 2, 14, none⟩ = some (.int .i64 c6.line) := hc7.cell 14
      have u13 : w7.cell? ⟨w.heap.size + 2, 15, none⟩ = some (.int .i64 c6.row) := hc7.cell 15
      have u14 : w7.cell? ⟨w.heap.size + 2, 16, none⟩ = some (.int .u8 c6.c.toNat) := hc7.cell 16
      have z0 : w7.cell? ⟨w.heap.size, 0, none⟩ = some (.int .i64 0) := a0.cell 0
      have z1 : w7.cell? ⟨w.heap.size, 1, none⟩ = some (txV []) := a0.cell 1
      have z2 : w7.cell? ⟨w.heap.size, 2, none⟩ = some (txV []) := a0.cell 2
      have z3 : w7.cell? ⟨w.heap.size, 3, none⟩ = some (.int .i64 0) := a0.cell 3
      have z4 : w7.cell? ⟨w.heap.size, 4, none⟩ = some (txV []) := a0.cell 4
      have z5 : w7.cell? ⟨w.heap.size, 5, none⟩ = some (txV []) := a0.cell 5
      have z6 : w7.cell? ⟨w.heap.size, 6, none⟩ = some (.int .i64 0) := a0.cell 6
      have z7 : w7.cell? ⟨w.heap.size, 7, none⟩ = some (txV []) := a0.cell 7
      have z8 : w7.cell? ⟨w.heap.size, 8, none⟩ = some (txV []) := a0.cell 8
      have z9 : w7.cell? ⟨w.heap.size, 9, none⟩ = some (.int .i64 0) := a0.cell 9
      have z10 : w7.cell? ⟨w.heap.size, 10, none⟩ = some (.int .i64 0) := a0.cell 10
      have z11 : w7.cell? ⟨w.heap.size, 11, none⟩ = some (.int .u8 (0 : UInt8).toNat) := a0.cell 11
      have z12 : w7.cell? ⟨w.heap.size, 12, none⟩ = some (.int .i64 0) := a0.cell 12
      have z13 : w7.cell? ⟨w.heap.size, 13, none⟩ = some (.int .i64 0) := a0.cell 13
      have z14 : w7.cell? ⟨w.heap.size, 14, none⟩ = some (.int .u8 (0 : UInt8).toNat) := a0.cell 14
      have d0 : w7.cell? ⟨w.heap.size + 1, 0, none⟩ = some (.int .i64 0) := a1.cell 0
      have d1 : w7.cell? ⟨w.heap.size + 1, 1, none⟩ = some (.int .i64 0) := a1.cell 1
      have f0 : ∀ j, w7.frozen? ⟨w.heap.size, j, none⟩ = false := a0.frozen
      have f1 : ∀ j, w7.frozen? ⟨w.heap.size + 1, j, none⟩ = false := a1.frozen
      clear a0 a1 hc7
      go_region
      go_wp2
      have hlow := HB4.out.trans (below_le (bl3 (bl3 hx5.out hx6.out) hx7.out) (Nat.le_add_right _ _))
      refine leaves_idle (c := c6) w rfl rfl ?_ ?_ ?_ ?_ ?_
      · exact blk_dr (blk_o (blk_o (blk_set15 (.int .i64 c6.kind) (txV c6.text) (txV c6.office) (.int .i64 c6.day) (txV c6.src) (txV c6.dst) (.int .i64 c6.minute) (txV c6.last) (txV c6.first) (.int .i64 c6.n) (.int .i64 c6.pax) (.int .u8 c6.cls.toNat) (.int .i64 c6.line) (.int .i64 c6.row) (.int .u8 c6.c.toNat) HA0.out) (by omega)) (by omega))
      · exact blk_dr (blk_set2 (x := .int .i64 0) (y := .int .i64 0) (blk_far15 (by omega) (.int .i64 c6.kind) (txV c6.text) (txV c6.office) (.int .i64 c6.day) (txV c6.src) (txV c6.dst) (.int .i64 c6.minute) (txV c6.last) (txV c6.first) (.int .i64 c6.n) (.int .i64 c6.pax) (.int .u8 c6.cls.toNat) (.int .i64 c6.line) (.int .i64 c6.row) (.int .u8 c6.c.toNat) HA1.out))
      · exact (((low_set15 (Nat.le_refl _) (.int .i64 c6.kind) (txV c6.text) (txV c6.office) (.int .i64 c6.day) (txV c6.src) (txV c6.dst) (.int .i64 c6.minute) (txV c6.last) (txV c6.first) (.int .i64 c6.n) (.int .i64 c6.pax) (.int .u8 c6.cls.toNat) (.int .i64 c6.line) (.int .i64 c6.row) (.int .u8 c6.c.toNat) hlow).setCell (by simp) _).setCell (by simp) _).drew
      · have := hlow.size
        simp [World.setCell]
        omega
      intro w9 hl9
      rw [HOK.out _ _ _ _ h5.out h6.out h7.out]
      exact ⟨rfl, hl9⟩
    · refine leaves_boom w rfl rfl (HB0.out.keep (bl3 (bl3 hx5.out hx6.out) hx7.out) (by omega)) (HB1.out.keep (bl3 (bl3 hx5.out hx6.out) hx7.out) (by omega)) (HB4.out.trans (below_le (bl3 (bl3 hx5.out hx6.out) hx7.out) (by omega))) (by have := (bl3 (bl3 hx5.out hx6.out) hx7.out).size; omega) ?_
      intro w9 hl9
      rw [HMO.out _ _ _ _ h5.out h6.out h7.out]
      exact ⟨rfl, hl9⟩
    · refine leaves_boom w rfl rfl (HB0.out.keep (bl3 hx5.out hx6.out) (by omega)) (HB1.out.keep (bl3 hx5.out hx6.out) (by omega)) (HB4.out.trans (below_le (bl3 hx5.out hx6.out) (by omega))) (by have := (bl3 hx5.out hx6.out).size; omega) ?_
      intro w9 hl9
      rw [HER.out _ _ _ h5.out h6.out]
      exact ⟨rfl, hl9⟩
    · refine leaves_boom w rfl rfl (HB0.out.keep hx5.out (by omega)) (HB1.out.keep hx5.out (by omega)) (HB4.out.trans (below_le hx5.out (by omega))) (by have := hx5.out.size; omega) ?_
      intro w9 hl9
      rw [HNO.out h5.out]
      exact ⟨rfl, hl9⟩
end Go.Proofs.YtjahkaidinahpaaDoor.En
