/- The law's legs: copied, and compared. -/
import Derived.Test.YtjahkaidinahpaaDoorFR
namespace Go.Proofs.YtjahkaidinahpaaDoor
open Go.RowKit Go.ChangeMaps
set_option linter.unusedSimpArgs false
set_option linter.unusedVariables false
set_option maxRecDepth 20000

theorem hasE_far {α : Type} {enc : α → List Value} {W W' : World} {v : Value} {l : List α} {b : Nat} {T : TypeId} {cs : List Value} (h : HasE enc W v l) (hb : Blk W b T cs) (hc : ∀ a, ∀ u ∈ enc a, u ∉ cs) (hg : W.grownBy W' (some b)) : HasE enc W' v l := by
  rcases h with h | ⟨bb, off, c, e, h1, h2, h3⟩
  · exact .inl h
  · refine .inr ⟨bb, off, c, e, h1, h2, fun j u hj => ?_⟩
    have hcell := h3 j u hj
    refine gr_cell hg hcell ?_
    rintro rfl
    rw [hb.cell] at hcell
    obtain ⟨a, _, ha⟩ := List.mem_flatMap.1 (List.mem_of_getElem? hj)
    exact hc a u ha (List.mem_of_getElem? hcell)

theorem own_blk0 {W : World} {b B : Nat} {e : TypeId} {size : Nat} (h : Blk W b e []) (hB : B ≤ b) : W.ownsRow B e size (.slice (some ⟨b, 0, none⟩) 0 0) 0 [] :=
  ⟨by simp, .inr ⟨b, 0, #[], rfl, hB, h, Nat.le_refl _, Nat.zero_le _, by simp, by simp⟩⟩

/-- AT A STEP OF A REGION THAT DRAWS: 'append([]T{}, l...)'. -/
theorem step_copyE {α : Type} {enc : α → List Value} {st : Nat} (hst : ∀ a, (enc a).length = st) (hone : ∀ a, ∀ v ∈ enc a, v.oneCell' = true) (hst0 : 0 < st)
    {w : World} {ops : Array Oper} {o : Oper} {a : Act} {K : Act → World → Prop} {Q : Exit → Act → World → Prop} {E : Prop} (hgd : o.guard = none) (x y : Operand) (t : TypeId)
    (ho : o.op = .call { callee := .builtin .append, args := #[x, y], argTypes := #[t, t] })
    (b : Nat) (e : TypeId) (i : TypeInfo) (z : Value) (bytes : Nat) (ht : Tryd.prog.underlying t = some (.slice e)) (hi : Tryd.prog.info? e = some i) (hz : i.zero = some z)
    (hsize : i.size = st) (hby : i.bytes = bytes) (hzs : z.cells.size = st) (hs : a.eval x = .slice (some ⟨b, 0, none⟩) 0 0) (hb : Blk w b e []) (vs : Value) (l : List α) (hx : a.eval y = vs) (hh : HasE enc w vs l)
    (hlen : l.length ≤ maxLen) (hby2 : l.length * bytes ≤ 140737488355328)
    (h : ∀ v' w', HasE enc w' v' l → w.grownBy w' (some b) → (∀ (β : Type) (enc' : β → List Value) (u : Value) (m : List β), HasE enc' w u m → HasE enc' w' u m) → K (a.put o.dst v') w') :
    if Region.wanted o (yielded ops a.tmps) = true then Oper.wp Tryd.prog o a w K Q else E := by
  have hw : Region.wanted o (yielded ops a.tmps) = true := by simp [Region.wanted, hgd]
  rw [if_pos hw]
  have hown : w.ownsRow b e st (.slice (some ⟨b, 0, none⟩) 0 0) 0 [] := own_blk0 hb (Nat.le_refl _)
  have hlt := hb.lt
  rcases hh with ⟨p, c, rfl, rfl, hpn⟩ | ⟨bb, off, c, rfl, h1, h2, h3⟩
  · cases p with
    | none =>
      have hc := hpn rfl
      subst hc
      have hrun := run_append_owned_none (P := Tryd.prog) (w := w) b t o.type e i st ht hi _ 0 [] hown
      have hk := h (.slice (some ⟨b, 0, none⟩) 0 0) w (.inl ⟨_, _, rfl, rfl, fun h => by cases h⟩) (World.grownBy.refl w _) (fun _ _ _ _ k => k)
      unfold Oper.wp
      simp [execOp, ho, resolve, invoke, builtin, hs, hx, hrun, Result.andThen]
      exact hk
    | some ad =>
      refine wp_append_own (P := Tryd.prog) w x y t ho b e i z st bytes ht hi hz hsize hby hzs hst0 _ 0 [] hs hown ad 0 c [] hx (by simp) (by simp) (by simp) (by simp [maxLen]) (by simp) (Nat.le_of_lt hlt) ?_
      intro v' w' ho' hg' _
      refine h v' w' ?_ hg' (fun _ _ _ _ k => hasE_far k hb (fun _ _ _ => List.not_mem_nil) hg')
      exact HasE.own (l := ([] : List α)) (st := st) ho'
  · refine wp_append_own (P := Tryd.prog) w x y t ho b e i z st bytes ht hi hz hsize hby hzs hst0 _ 0 [] hs hown ⟨bb, off, none⟩ l.length c (l.flatMap enc) hx (cells_len hst l) ?_ ?_ (by omega) (by rw [Nat.zero_add]; exact hby2) (Nat.le_of_lt hlt) ?_
    · intro j u hj
      rw [Addr.add_lit]
      exact h3 j u hj
    · intro u hu
      obtain ⟨a', _, ha'⟩ := List.mem_flatMap.1 hu
      exact hone a' u ha'
    · intro v' w' ho' hg' _
      refine h v' w' ?_ hg' (fun _ _ _ _ k => hasE_far k hb (fun _ _ _ => List.not_mem_nil) hg')
      rw [List.nil_append, Nat.zero_add] at ho'
      exact HasE.own ho'

theorem soldC_no {x : SoldT} {p q : Option Addr} {n c m d : Nat} : ∀ u ∈ soldC x, u ∉ ([.slice p n c, .slice q m d] : List Value) := by
  intro u hu
  simp [soldC] at hu
  rcases hu with rfl | rfl <;> simp
theorem heldC_no {x : HeldT} {p q : Option Addr} {n c m d : Nat} : ∀ u ∈ heldC x, u ∉ ([.slice p n c, .slice q m d] : List Value) := by
  intro u hu
  simp [heldC] at hu
  rcases hu with rfl | rfl | rfl | rfl <;> simp

/-- A row comes back. -/
theorem results_row1 {P : Program} {fn : Func} {p : Tmp} {ty : TypeId} (h : fn.results = #[.cell p ty]) (tmps : Array Value) (w : World) (g : Nat) (t : TypeId) (cs : List Value) (d : TypeDesc)
    (hp : tmps.getD p undef = .pointer (some ⟨g, 0, none⟩)) (hg : Blk w g t cs)
    (hu : P.underlying ty = some d) (hd : (match d with | .struct _ | .array _ _ => true | _ => false) = true) (hi : (P.info? ty).map (·.size) = some cs.length) :
    (results fn tmps).run P w = .ok (.agg cs.toArray) w := by
  have hp' : tmps[p]?.getD undef = .pointer (some ⟨g, 0, none⟩) := by simpa using hp
  simp [results, h, hp', asAddr, run_loadVar_row w g t ty cs.toArray (0, 0) d hg hu hd (by simpa using hi)]

set_option maxHeartbeats 8000000 in
theorem solds_true (l : List SoldT) (va vb : Value) (w : World) (ha : HasE soldC w va l) (hb : HasE soldC w vb l) (hl : l.length ≤ 1000000) :
    Calls Tryd.prog 84 #[va, vb] w fun e w' => e = .returned (.bool true) ∧ Below w.heap.size w w' := by
  obtain ⟨pa, ca, rfl⟩ := ha.len
  obtain ⟨pb, cb, rfl⟩ := hb.len
  have HA := Lib.hid ha
  have HB := Lib.hid hb
  generalize hN : l.length = N at *
  have HN := Lib.hid hN
  clear ha hb hN
  have hne : ((N : Int) != (N : Int)) = false := by simp
  go_enter Tryd.func84, Tryd.ntmps84
  go_wp2
  go_loopg [5] N (fun g i wr => ∃ k : Nat, k ≤ N ∧ g = N - k ∧ i = .int .i64 (k : Int) ∧ Below w.heap.size w wr)
  case atStart => exact ⟨0, Nat.zero_le _, rfl, rfl, Below.refl _ _⟩
  case round =>
    obtain ⟨k, hk, rfl, rfl, hbw⟩ := hrel
    by_cases hlt : k < N
    · have hki : (k : Int) < (N : Int) := by omega
      have hk0 : (0 : Int) ≤ (k : Int) := by omega
      obtain ⟨b1, o1, rfl, _, g0, g1⟩ := sold_at (HA.out.mono hbw) (i := k) (by rw [HN.out]; exact hlt)
      obtain ⟨b2, o2, rfl, _, k0, k1⟩ := sold_at (HB.out.mono hbw) (i := k) (by rw [HN.out]; exact hlt)
      generalize l.getD k s0 = x at *
      go_upto_region 6 with fail
      go_quiet (fail)
      go_wp2
      go_roundg (N - (k + 1))
      case measure => omega
      case rel => exact ⟨k + 1, by omega, rfl, by go_num, below_drewN hbw _⟩
    · have hke : k = N := by omega
      subst hke
      have hki : ¬ (k : Int) < (k : Int) := by omega
      go_wp2
      go_ret
      exact ⟨rfl, hbw⟩

set_option maxHeartbeats 8000000 in
theorem helds_true (l : List HeldT) (va vb : Value) (w : World) (ha : HasE heldC w va l) (hb : HasE heldC w vb l) (hl : l.length ≤ 1000000) :
    Calls Tryd.prog 85 #[va, vb] w fun e w' => e = .returned (.bool true) ∧ Below w.heap.size w w' := by
  obtain ⟨pa, ca, rfl⟩ := ha.len
  obtain ⟨pb, cb, rfl⟩ := hb.len
  have HA := Lib.hid ha
  have HB := Lib.hid hb
  generalize hN : l.length = N at *
  have HN := Lib.hid hN
  clear ha hb hN
  have hne : ((N : Int) != (N : Int)) = false := by simp
  go_enter Tryd.func85, Tryd.ntmps85
  go_wp2
  go_loopg [5] N (fun g i wr => ∃ k : Nat, k ≤ N ∧ g = N - k ∧ i = .int .i64 (k : Int) ∧ Below w.heap.size w wr)
  case atStart => exact ⟨0, Nat.zero_le _, rfl, rfl, Below.refl _ _⟩
  case round =>
    obtain ⟨k, hk, rfl, rfl, hbw⟩ := hrel
    by_cases hlt : k < N
    · have hki : (k : Int) < (N : Int) := by omega
      have hk0 : (0 : Int) ≤ (k : Int) := by omega
      obtain ⟨b1, o1, rfl, _, g0, g1, g2, g3⟩ := held_at (HA.out.mono hbw) (i := k) (by rw [HN.out]; exact hlt)
      obtain ⟨b2, o2, rfl, _, k0, k1, k2, k3⟩ := held_at (HB.out.mono hbw) (i := k) (by rw [HN.out]; exact hlt)
      generalize l.getD k h0 = x at *
      have hks : (x.loc.toList == x.loc.toList) = true := by simp
      go_upto_region 6 with fail
      go_quiet (fail)
      go_wp2
      go_roundg (N - (k + 1))
      case measure => omega
      case rel => exact ⟨k + 1, by omega, rfl, by go_num, below_drewN hbw _⟩
    · have hke : k = N := by omega
      subst hke
      have hki : ¬ (k : Int) < (k : Int) := by omega
      go_wp2
      go_ret
      exact ⟨rfl, hbw⟩

theorem sameLeg_true (s : List SoldT) (h : List HeldT) (va vb va2 vb2 : Value) (w : World) (h1 : HasE soldC w va s) (h2 : HasE heldC w vb h) (h3 : HasE soldC w va2 s) (h4 : HasE heldC w vb2 h) (l1 : s.length ≤ 1000000) (l2 : h.length ≤ 1000000) :
    Calls Tryd.prog 38 #[.agg #[va, vb], .agg #[va2, vb2]] w fun e w' => e = .returned (.bool true) ∧ Below w.heap.size w w' := by
  obtain ⟨p1, c1, rfl⟩ := h1.len
  obtain ⟨p2, c2, rfl⟩ := h2.len
  obtain ⟨p3, c3, rfl⟩ := h3.len
  obtain ⟨p4, c4, rfl⟩ := h4.len
  have HS : RowKit.Hid (∀ W, Below w.heap.size w W → Calls Tryd.prog 84 #[.slice p1 s.length c1, .slice p3 s.length c3] W fun e w' => e = .returned (.bool true) ∧ Below W.heap.size W w') := Lib.hid fun W hb => solds_true s _ _ W (h1.mono hb) (h3.mono hb) l1
  have HH : RowKit.Hid (∀ W, Below w.heap.size w W → Calls Tryd.prog 85 #[.slice p2 h.length c2, .slice p4 h.length c4] W fun e w' => e = .returned (.bool true) ∧ Below W.heap.size W w') := Lib.hid fun W hb => helds_true h _ _ W (h2.mono hb) (h4.mono hb) l2
  clear h1 h2 h3 h4 l1 l2
  have hb2 : Below w.heap.size w ((w.alloc (.cells #[.slice p1 s.length c1, .slice p2 h.length c2] 90)).alloc (.cells #[.slice p3 s.length c3, .slice p4 h.length c4] 88)) := ((Below.refl _ _).alloc (Nat.le_refl _) _).alloc (by simp) _
  have k1 := (Blk.new w 90 [.slice p1 s.length c1, .slice p2 h.length c2]).alloc (.cells #[.slice p3 s.length c3, .slice p4 h.length c4] 88)
  have k2 := Blk.new (w.alloc (.cells #[.slice p1 s.length c1, .slice p2 h.length c2] 90)) 88 [.slice p3 s.length c3, .slice p4 h.length c4]
  have K1 := Lib.hid k1
  have K2 := Lib.hid k2
  have HB2 := Lib.hid hb2
  clear k1 k2 hb2
  generalize s.length = ns at *
  generalize h.length = nh at *
  have hsz : (w.alloc (.cells #[.slice p1 ns c1, .slice p2 nh c2] 90)).heap.size = w.heap.size + 1 := by simp
  rw [hsz] at K2
  clear hsz
  go_enter Tryd.func38, Tryd.ntmps38
  go_upto_region 1 with fail
  generalize (w.alloc (.cells #[.slice p1 ns c1, .slice p2 nh c2] 90)).alloc (.cells #[.slice p3 ns c3, .slice p4 nh c4] 88) = w1 at *
  have a0 : w1.cell? ⟨w.heap.size, 0, none⟩ = some (.slice p1 ns c1) := (K1.out.cell 0).trans rfl
  have a2 : w1.cell? ⟨w.heap.size + 1, 0, none⟩ = some (.slice p3 ns c3) := (K2.out.cell 0).trans rfl
  go_wp2_with (first
    | (go_at_call 84; (with_reducible refine (HS.out _ HB2.out).mono ?_); rintro e w2 ⟨rfl, hb3⟩; have d1 : w2.cell? ⟨w.heap.size, 1, none⟩ = some (.slice p2 nh c2) := ((K1.out.mono hb3).cell 1).trans rfl; have d3 : w2.cell? ⟨w.heap.size + 1, 1, none⟩ = some (.slice p4 nh c4) := ((K2.out.mono hb3).cell 1).trans rfl; have hb4 := bel_trans HB2.out hb3)
    | (go_at_call 85; (with_reducible refine (HH.out _ hb4).mono ?_); rintro e w3 ⟨rfl, hb5⟩))
  go_ret
  exact ⟨rfl, bel_trans hb4 hb5⟩
end Go.Proofs.YtjahkaidinahpaaDoor
