/- The law PlanBits: what the walk is told. -/
import Derived.Test.YtpmmjccdogjncaaDoorPlnBa
namespace Go.Proofs.YtpmmjccdogjncaaDoor
open Go.RowKit Go.ChangeMaps
set_option linter.unusedSimpArgs false
set_option linter.unusedVariables false

/-- 'append(v, vs...)' of a list that may lie anywhere, as long as memory bears. -/
theorem wpList_append_big {α : Type} {enc : α → List Value} {st : Nat} (hst : ∀ a, (enc a).length = st) (hone : ∀ a, ∀ v ∈ enc a, v.oneCell' = true) (hst0 : 0 < st)
    {w : World} {ops : Array Oper} {rest : List Oper} {o : Oper} {a : Act} {Q : Exit → Act → World → Prop} (hgd : o.guard = none) (x y : Operand) (t : TypeId)
    (ho : o.op = .call { callee := .builtin .append, args := #[x, y], argTypes := #[t, t] })
    (base : Nat) (e : TypeId) (i : TypeInfo) (z : Value) (bytes : Nat) (ht : Tryd.prog.underlying t = some (.slice e)) (hi : Tryd.prog.info? e = some i) (hz : i.zero = some z)
    (hsize : i.size = st) (hby : i.bytes = bytes) (hzs : z.cells.size = st)
    (v : Value) (l0 : List α) (hs : a.eval x = v) (hown : w.ownsRow base e st v l0.length (l0.flatMap enc)) (vs : Value) (l : List α) (hx : a.eval y = vs) (hh : HasE enc w vs l)
    (hlen : l0.length + l.length ≤ maxLen) (hby2 : (l0.length + l.length) * bytes ≤ 140737488355328) (hbase : base ≤ w.heap.size)
    (h : ∀ v' w', w'.ownsRow base e st v' (l0 ++ l).length ((l0 ++ l).flatMap enc) → w.grownBy w' v.ownBlock → Below base w w' → wpList Tryd.prog ops Q rest (a.put o.dst v') w') :
    wpList Tryd.prog ops Q (o :: rest) a w := by
  have hgB : ∀ {w' : World}, w.grownBy w' v.ownBlock → Below base w w' := fun hg => (Below.refl base w).grown hg hbase fun k hk => (World.ownsRow.lt hown k hk).1
  rcases hh with ⟨p, c, rfl, rfl, hpn⟩ | ⟨b, off, c, rfl, h1, h2, h3⟩
  · cases p with
    | none =>
      have hc := hpn rfl
      subst hc
      refine wpList_append_own_none hgd x y t ho base e i st ht hi v l0.length _ hs hown hx ?_
      refine h v w ?_ (World.grownBy.refl w _) (Below.refl _ _)
      rw [List.append_nil]
      exact hown
    | some ad =>
      refine wpList_append_own _ hgd x y t ho base e i z st bytes ht hi hz hsize hby hzs hst0 v l0.length _ hs hown ad 0 c [] hx (by simp) (by simp) (by simp) hlen hby2 hbase ?_
      intro v' w' ho' hg' _
      refine h v' w' ?_ hg' (hgB hg')
      rw [List.append_nil] at ho' ⊢
      exact ho'
  · refine wpList_append_own _ hgd x y t ho base e i z st bytes ht hi hz hsize hby hzs hst0 v l0.length _ hs hown ⟨b, off, none⟩ l.length c (l.flatMap enc) hx (cells_len hst l) ?_ ?_ hlen hby2 hbase ?_
    · intro j u hj
      rw [Addr.add_lit]
      exact h3 j u hj
    · intro u hu
      obtain ⟨a', _, ha'⟩ := List.mem_flatMap.1 hu
      exact hone a' u ha'
    · intro v' w' ho' hg' _
      refine h v' w' ?_ hg' (hgB hg')
      rw [List.length_append, List.flatMap_append]
      exact ho'

set_option maxRecDepth 20000 in
set_option maxHeartbeats 16000000 in
/-- The reference's 'Of' of rows of any other length. -/
theorem rof_long (p : Pl) (ve vb vw : Value) (l : List UInt8) (W : List Nat) (w : World) (hk : OkP p l) (hvw : HasE wordC w vw W) (hlw0 : W.length ≠ nWords (placesL p.first p.last l)) :
    Calls Tryd.prog 39 #[planV p ve vb, vw] w fun e w' => ∃ v, e = .returned (.tuple #[v, .int .i64 2]) ∧ OwnS w' w.heap.size v [] ∧ Below w.heap.size w w' := by
  have HPL : RowKit.Hid (∀ W, Calls Tryd.prog 27 #[planV p ve vb] W fun e w' => ∃ v, e = .returned v ∧ OwnS w' W.heap.size v (placesL p.first p.last l) ∧ Below W.heap.size W w') := Lib.hid fun W => places_any p ve vb l W hk.hl hk.szm hk.h1 hk.h2
  have hlen := hk.len
  have HBL := Lib.hid (planC_blk w p ve vb)
  obtain ⟨a, b, tx, x, bk⟩ := p
  obtain ⟨pw, cw, rfl⟩ := hvw.len
  simp only at HPL hlen hlw0 ⊢
  obtain ⟨w1, e1, a0, a1, a2, a3, a4, hb1, hz1⟩ := plan_boxed w a b tx ve vb
  unfold planC at HBL
  simp only at HBL
  rw [e1] at HBL
  have HB := Lib.hid hb1
  unfold planV at HPL ⊢
  generalize placesL a b l = P at *
  have HWN : RowKit.Hid (∀ x : Nat, x = (if 0 < P.length % 64 then P.length / 64 + 1 else P.length / 64) → W.length ≠ x) := Lib.hid fun x h => by
    have : x = nWords P := by unfold nWords; rw [h]; split <;> omega
    rw [this]; exact hlw0
  generalize hN : P.length = N at *
  generalize hM : W.length = M at *
  have HN := Lib.hid hN
  clear hz1 hk hN hM hvw hlw0
  have hwq1 : IntKind.i64.wrap ((N : Int) / 64) = (N : Int) / 64 := IntWalk.i64_in _ ⟨by omega, by omega⟩
  have hwq2 : RowKit.wrap64 ((N : Int) / 64) = (N : Int) / 64 := IntWalk.wrap64_in _ ⟨by omega, by omega⟩
  go_enter Tryd.func39, Tryd.ntmps39
  go_upto_if 20 with (first
    | (refine wpList_load_mid rfl 32 (.tmp 2) rfl w.heap.size 0 rfl _ _ HBL.out.range Tryd.underlying32 rfl info_plan ?_)
    | (go_at_call 27; (with_reducible refine (HPL.out _).mono ?_); rintro e w3 ⟨v3, rfl, ho3, hb3⟩; obtain ⟨p3, c3, rfl⟩ := ho3.has.len; have HV := Lib.hid ho3.has))
  have hb03 := bel_trans HB.out hb3
  have HB3 := Lib.hid hb03
  clear e1 a0 a1 a2 a3 a4 ho3 HBL hb1 hb3 hb03
  rw [HN.out]
  rw [hwq2]
  clear hwq1 hwq2
  have hq64 : (N : Int) / 64 = ((N / 64 : Nat) : Int) := by omega
  have hr64 : (N : Int) % 64 = ((N % 64 : Nat) : Int) := by omega
  have hqq : (N / 64 : Nat) ≤ 100 := by omega
  go_cut [7] from 12 to 69 (fun s7 wx => ∃ nw : Nat, M ≠ nw ∧ nw ≤ 101 ∧ s7 = .int .i64 (nw : Nat) ∧ w3 = wx)
  case first =>
    by_cases hr : 0 < N % 64
    · have hri : (0 : Int) < (N : Int) % 64 := by omega
      have hrd : decide ((0 : Int) < (N : Int) % 64) = true := decide_eq_true hri
      have hrd2 : decide (0 < N % 64) = true := decide_eq_true hr
      have HX := Lib.hid (HWN.out (N / 64 + 1) (by rw [if_pos hr]))
      generalize hd : N / 64 = d at *
      clear hr64 hd
      go_wp2
      go_meet
      exact ⟨d + 1, HX.out, by omega, by go_num, rfl⟩
    · have hri : ¬ (0 : Int) < (N : Int) % 64 := by omega
      have hrd : decide ((0 : Int) < (N : Int) % 64) = false := decide_eq_false hri
      have hrd2 : decide (0 < N % 64) = false := decide_eq_false hr
      have HX := Lib.hid (HWN.out (N / 64) (by rw [if_neg hr]))
      generalize hd : N / 64 = d at *
      clear hr64 hd
      go_wp2
      go_meet
      exact ⟨d, HX.out, by omega, by go_num, rfl⟩
  case rest =>
    obtain ⟨nw, hnw, hnwl, rfl, rfl⟩ := hcut
    have hne : ((M : Int) != (nw : Int)) = true := by rw [bne_iff_ne]; omega
    clear hnw hq64 hr64 hqq
    go_wp2
    go_ret2
    exact ⟨_, rfl, OwnS.nil _ _, HB3.out⟩

/-- The reference's 'Of' of any words. -/
theorem rof_all (p : Pl) (ve vb vw : Value) (l : List UInt8) (W : List Nat) (w : World) (hk : OkP p l) (hb : HasE stC w vb p.bks) (hvw : HasE wordC w vw W)
    (hwf : ∀ x, x ∈ W → x < 18446744073709551616) :
    Calls Tryd.prog 39 #[planV p ve vb, vw] w fun e w' => ∃ v, e = .returned (.tuple #[v, .int .i64 (ofE (placesL p.first p.last l) (hasB p l) W)]) ∧ OwnS w' w.heap.size v (ofR (placesL p.first p.last l) (hasB p l) W) ∧ Below w.heap.size w w' := by
  by_cases hlw : W.length = nWords (placesL p.first p.last l)
  · have := hk.len
    exact rof_any p ve vb vw l W w hk hb hvw (by rw [hlw]; unfold nWords; omega) hwf
  · obtain ⟨e1, e2⟩ := ofE_size (q := hasB p l) hlw
    rw [e1, e2]
    exact rof_long p ve vb vw l W w hk hvw hlw
end Go.Proofs.YtpmmjccdogjncaaDoor
