/- The closure that adds a line (the program's). A region that draws its order, walked once: operations that yield one value each in every world that grew from a base are taken first; an operation that makes memory is carried out when it alone may come up, and gives a new base; the last ones come in one order. (After Derived/Deep/Quiet.lean, Derived/StillTail.lean.) What the lines of a PNR want: the variable of lines, at each stage. -/
import Derived.Test.YtmhhbnnjilbdnaaGreatDoorKA
import Derived.Test.YtmhhbnnjilbdnaaGreatDoorKB
import Derived.Test.YtmhhbnnjilbdnaaGreatDoorKF
import Derived.Test.YtmhhbnnjilbdnaaGreatDoorPlnP
import Derived.Test.YtmhhbnnjilbdnaaGreatDoorKG
import Derived.Test.YtmhhbnnjilbdnaaGreatDoorSA
import Derived.Test.YtmhhbnnjilbdnaaGreatDoorSB
import Derived.Test.YtmhhbnnjilbdnaaGreatDoorSC
import Derived.Test.YtmhhbnnjilbdnaaGreatDoorKJ
import Derived.Test.YtmhhbnnjilbdnaaGreatDoorRows
import Derived.WalkKit
import Derived.WalkSpells
import Derived.WalkLawsBesides
import Derived.Lib.ConvBytes
import Derived.Lib.Hide
import Derived.Lib.SliceRun
import Derived.IntWalk
import Derived.BigQuiet
import Derived.Deep.QuietTactic
import Derived.Deep.RegionWith
import Derived.Deep.RegionHeld3
import Derived.Deep.LoopGhost
import Derived.Deep.CutRange
import Derived.Deep.CutBlock
import Derived.Deep.MidRow
import Derived.Laws.OwnMore
import Derived.OwnWalk
import Derived.Laws.AppendOwnNone
import Derived.Laws.Rows
import Derived.Laws.MakeOwn
import Derived.Laws.CopyOwn
import Derived.Laws.BitsAllLaws
import Derived.DeepKeys5
import Derived.Maps.OwnOps
import Derived.Handy
import Derived.Lib.AppendStr
import Derived.StillTailTactics
import Derived.Deep.AppendLies
import Derived.ProofKit
import Derived.OpenShut
import Derived.SliceStrings
import Derived.Lib.SmallJoins
import Derived.Deep.SlicePairs
import Derived.ChangeSlices
import Derived.WideKeyEntry
import Derived.Tactics2
import Derived.Defers
import Derived.Recover
import Derived.Shelf.Strconv.Itoa0
import Derived.Shelf.Strconv.Itoa1
import Derived.Shelf.LaysM
import Derived.Shelf.Strconv.Itoa2
import Derived.Shelf.Strconv.Itoa3
import Derived.Maps.AppendAt
import Derived.Lib.Bytealg
import Derived.Deep.RegionLaw
import Derived.Shelf.Strings.Builder1
import Derived.Shelf.Strings.Builder2
import Derived.Shelf.Strings.Count
import Derived.Shelf.Strings.Split
import Derived.Shelf.Strings.Replace
import Derived.StillTail
import Derived.Lib.QuietBelow
namespace Go.Proofs.YtmhhbnnjilbdnaaGreatDoor.Sh
open Go.RowKit En Go.ChangeMaps
set_option linter.unusedSimpArgs false
set_option linter.unusedVariables false
set_option maxRecDepth 20000

/-- 'append(v, s)' of one text laid right ahead, in a region that draws: which blocks it touches. -/
theorem step_push_at {w : World} {ops : Array Oper} {o : Oper} {a : Act} {K : Act → World → Prop} {Q : Exit → Act → World → Prop} {E : Prop} (hgd : o.guard = none) (s x : Operand)
    (ho : o.op = .call { callee := .builtin .append, args := #[s, x], argTypes := #[24, 24] })
    (B : Nat) (v : Value) (L : List ByteArray) (hs : a.eval s = v) (hown : OwnL w B v L) (g : Nat) (hx : a.eval x = .slice (some ⟨g, 0, none⟩) 1 1) (S : ByteArray) (hg : w.heap[g]? = some (.cells #[.string S] 9 (0, 0)))
    (hL : L.length ≤ 100000) (hB : B ≤ w.heap.size)
    (h : ∀ p n c w', OwnL w' B (.slice p n c) (L ++ [S]) → w.grownBy w' v.ownBlock → (∀ k, k < w.heap.size → v.ownBlock ≠ some k → (Value.slice p n c).ownBlock ≠ some k) → K (a.put o.dst (.slice p n c)) w') :
    if Region.wanted o (yielded ops a.tmps) = true then Oper.wp Tryz.prog o a w K Q else E := by
  obtain ⟨i0, hi0, hz0, hsz0, hby0⟩ := str_info
  refine step_append_lies _ hgd s x 24 ho B 9 i0 _ 1 16 Tryz.underlying24 hi0 hz0 hsz0 hby0 rfl (by decide) v L.length (strV L) hs hown ⟨g, 0, none⟩ 1 1 [.string S] hx rfl (World.news_of_block (cs := #[.string S]) (t := 9) (fr := (0, 0)) hg) (by intro u hu; rw [List.mem_singleton.1 hu]; rfl) (by decide) (by unfold maxLen; omega) (by omega) hB _ rfl ?_
  intro gq cq w4 ho4 hg4 hat _
  refine h _ _ _ w4 ?_ hg4 fun k hk hne e => ?_
  · unfold OwnL
    rw [List.length_append, List.length_singleton, strV, List.map_append]
    exact ho4
  · have e : some gq = some k := e
    injection e with e
    subst e
    rcases hat with h1 | h1
    · exact hne h1
    · omega

/-- The lines so far: a variable g that holds a list of the call's own. -/
structure OutS (w0 w : World) (g : Nat) (L : List ByteArray) : Prop where
  v : ∃ p n c, Blk w g 24 [.slice p n c] ∧ OwnL w w0.heap.size (.slice p n c) L ∧ (Value.slice p n c).ownBlock ≠ some g
  lo : w0.heap.size ≤ g
  bel : Below w0.heap.size w0 w

theorem OutS.mono {w0 w w' : World} {g : Nat} {L : List ByteArray} (h : OutS w0 w g L) (hb : Below w.heap.size w w') : OutS w0 w' g L := by
  obtain ⟨⟨p, n, c, h1, h2, h5⟩, h3, h4⟩ := h
  exact ⟨⟨p, n, c, h1.mono hb, h2.mono hb, h5⟩, h3, bel_trans h4 hb⟩

/-- A line was added. -/
theorem OutS.push {w0 W w4 : World} {g : Nat} {L L' : List ByteArray} {p p0 : Option Addr} {n c n0 c0 : Nat} (h1 : Blk W g 24 [.slice p0 n0 c0]) (h2 : OwnL W w0.heap.size (.slice p0 n0 c0) L) (h5 : (Value.slice p0 n0 c0).ownBlock ≠ some g) (h3 : w0.heap.size ≤ g) (h4 : Below w0.heap.size w0 W)
    (ho : OwnL w4 w0.heap.size (.slice p n c) L') (hg : W.grownBy w4 (Value.slice p0 n0 c0).ownBlock) (hne : (Value.slice p n c).ownBlock ≠ some g) : OutS w0 (w4.setCell ⟨g, 0, none⟩ (.slice p n c)) g L' := by
  have k1 := h1.far hg (fun e => h5 e.symm)
  have hs : w4.grownBy (w4.setCell ⟨g, 0, none⟩ (.slice p n c)) (some g) := gr_setCell1 (World.grownBy.refl _ _) 0 _
  have hb4 : Below w0.heap.size w0 w4 := h4.grown hg h4.size fun k hk => (World.ownsRow.lt h2 k hk).1
  exact ⟨⟨p, n, c, k1.set 0 _, World.ownsRow.kept ho hs (.inr hne), hne⟩, h3, hb4.grown hs hb4.size (fun k hk => by injection hk with hk; omega)⟩

/-- What is of another kind stays. -/
theorem keep_push {B : Nat} {W w4 : World} {g k : Nat} {tt : TypeId} {cs u : List Value} {L : List ByteArray} {v v4 : Value} (hk : Blk W k tt cs) (ho : OwnL W B v L) (hg1 : Blk W g 24 u) (h4 : W.grownBy w4 v.ownBlock) (t1 : tt ≠ 9) (t2 : tt ≠ 24) : Blk (w4.setCell ⟨g, 0, none⟩ v4) k tt cs := by
  have hne : some k ≠ v.ownBlock := fun e => by
    rcases ho.2 with ⟨e2, _⟩ | ⟨gg, cap, cur, e2, _, e3, _⟩
    · rw [e2] at e; cases e
    · rw [e2] at e
      have e : some k = some gg := e
      injection e with e
      subst e
      have hk' := hk
      unfold Blk at hk'
      rw [e3] at hk'
      injection hk' with hk'
      injection hk' with _ hk' _
      exact t1 hk'.symm
  have hgk : k ≠ g := fun e => by
    subst e
    have hk' := hk
    unfold Blk at hk' hg1
    rw [hg1] at hk'
    injection hk' with hk'
    injection hk' with _ hk' _
    exact t2 hk'.symm
  exact (hk.far h4 hne).far (gr_setCell1 (World.grownBy.refl _ _) 0 _) (fun e => by injection e with e; exact hgk e)

set_option maxHeartbeats 8000000 in
theorem add_any (w0 : World) (a b : ByteArray) (i : Int) (g : Nat) (L : List ByteArray) (w : World) (ha : a.size ≤ 1000) (hb : b.size ≤ 1152921504606840000) (hi : 0 ≤ i ∧ i ≤ 100000) (h : OutS w0 w g L) (hL : L.length ≤ 90000) (hp : PowTab w) :
    Calls Tryz.prog 27 #[.string a, .int .i64 i, .string b, .pointer (some ⟨g, 0, none⟩)] w fun e w' => e = .returned (.tuple #[]) ∧ ∃ S, toL S = toL a ++ (itoaL (i + 1) ++ toL b) ∧ OutS w0 w' g (L ++ [S]) ∧ ∀ k tt cs, Blk w k tt cs → tt ≠ 9 → tt ≠ 24 → Blk w' k tt cs := by
  have HI := itoaH hp (i + 1) (WalkArith.wf_i64 (by omega))
  obtain ⟨⟨p, n, c, hk, ho, hng⟩, hlo, hbel⟩ := h
  have HW : RowKit.Hid (∀ W, Below w.heap.size w W → W.cell? ⟨g, 0, none⟩ = some (.slice p n c) ∧ OwnL W w0.heap.size (.slice p n c) L ∧ w0.heap.size ≤ W.heap.size ∧ g < W.heap.size ∧ Blk W g 24 [.slice p n c] ∧ Below w0.heap.size w0 W) := Lib.hid fun W hW => ⟨((hk.mono hW).cell 0).trans rfl, ho.mono hW, (bel_trans hbel hW).size, (hk.mono hW).lt, hk.mono hW, bel_trans hbel hW⟩
  have HNG := Lib.hid hng
  have HLO := Lib.hid hlo
  have HSA : RowKit.Hid (a.size ≤ 1000 ∧ b.size ≤ 1152921504606840000) := Lib.hid ⟨ha, hb⟩
  clear hk ho hp ha hb hng hlo hbel
  go_enter Tryz.func27, Tryz.ntmps27
  have hd1 : Below w.heap.size w w.drew := (Below.refl _ _).drew
  obtain ⟨z0, _, _, _, _, _⟩ := HW.out _ hd1
  have hwr : IntKind.i64.wrap (i + 1) = i + 1 := IntWalk.i64_in _ (by omega)
  go_region_law (first
    | (go_simp; go_at_call 28; refine (HI.out _ hd1).mono ?_; rintro e w5 ⟨⟨t, rfl, ht, hz⟩, hb5⟩; have h5 := bel_trans hd1 hb5; obtain ⟨y0, yo, yl, yg, yk, yb⟩ := HW.out _ h5; have y0a : (w5.alloc (.cells #[.string (a ++ t ++ b)] 9)).cell? ⟨g, 0, none⟩ = some (.slice p n c) := cell_bel ((Below.refl _ _).alloc (Nat.le_refl _) _) y0; have q1 := sum_ok (a := a.size) (b := t.size) (by have := HSA.out; omega); have q2 := sum_ok (a := a.size + t.size) (b := b.size) (by have := HSA.out; omega))
    | (refine step_push_at (by rfl) _ _ (by rfl) w0.heap.size _ L (by rfl) (World.ownsRow.alloc yo _) _ (by rfl) _ (heap_alloc_new _ _) (by omega) (by simp <;> omega) ?_; intro q4 n4 c4 w4 ho4 hg4 hne4; have hn4 := hne4 g (by simp; omega) HNG.out; have k4 := (yk.alloc (.cells #[.string (a ++ t ++ b)] 9)).far hg4 (fun e => HNG.out e.symm); have k4c := (k4.cell 0).trans rfl; have k4f := k4.frozen 0))
  all_goals (
    have hS : toL (a ++ t ++ b) = toL a ++ (itoaL (i + 1) ++ toL b) := by rw [toL_app, toL_app, ht, List.append_assoc]
    have hfin := OutS.push (yk.alloc (.cells #[.string (a ++ t ++ b)] 9)) (World.ownsRow.alloc yo _) HNG.out HLO.out (yb.alloc yb.size _) ho4 hg4 hn4
    have hkp : ∀ k tt cs, Blk w k tt cs → tt ≠ 9 → tt ≠ 24 → Blk (w4.setCell ⟨g, 0, none⟩ (.slice q4 n4 c4)) k tt cs := fun k tt cs hb t1 t2 => keep_push ((hb.mono h5).alloc _) (World.ownsRow.alloc yo _) (yk.alloc (.cells #[.string (a ++ t ++ b)] 9)) hg4 t1 t2
    have HKP := Lib.hid hkp
    clear hkp
    have HFI := Lib.hid hfin
    have HSS := Lib.hid hS
    clear hfin hS
    go_end0
    exact ⟨rfl, _, HSS.out, HFI.out, HKP.out⟩)
end Go.Proofs.YtmhhbnnjilbdnaaGreatDoor.Sh
namespace Go.Proofs.YtmhhbnnjilbdnaaGreatDoor.Sh
open Go Go.RowKit
set_option linter.unusedSimpArgs false
set_option linter.unusedVariables false

/-- A world that grew from w0. -/
def Cone (w0 w : World) : Prop := ∃ p : Regrown, w = Go.Sort.grow (redrawn w0 p.d) p.os
theorem Cone.bel {w0 w : World} (h : Cone w0 w) : Below w0.heap.size w0 w := by
  obtain ⟨p, rfl⟩ := h
  exact below_regrown w0 p.d p.os
theorem Cone.of {w0 w : World} (h : Below w0.heap.size w0 w) : Cone w0 w := regrown_of_below h
theorem Cone.refl (w : World) : Cone w w := .of (Below.refl _ _)
theorem Cone.trans {a b c : World} (h : Cone a b) (k : Cone b c) : Cone a c := .of (bel_trans h.bel k.bel)

/-- What is asked of an operation's outcome. -/
def upB (P : Program) (w : World) (v : Value) : Result Next → Prop
  | .ok (.value u) w' => w' = w ∧ u = v
  | .ok .skip w' => w' = w ∧ v = undef
  | .ok (.enter f args) w' => w' = w ∧ Calls P f args w (fun e w'' => e = .returned v ∧ Below w.heap.size w w'')
  | _ => False

section
variable {P : Program} {ops : Array Oper} {md : Region.Mode}

/-- One value in every world of the cone. -/
def yB (P : Program) (o : Oper) (a : Act) (w0 : World) (v : Value) : Prop := ∀ w, Cone w0 w → upB P w v ((execOp a.eval o).run P w)
/-- It makes memory, and yields some value. -/
def sB (P : Program) (o : Oper) (a : Act) (w0 : World) (K : Act → World → Prop) : Prop := ∀ w, Cone w0 w → ∃ u w', (execOp a.eval o).run P w = .ok (.value u) w' ∧ Cone w w' ∧ K (a.put o.dst u) w'
theorem yB.sub {o : Oper} {a : Act} {w0 w1 : World} {v : Value} (h : yB P o a w0 v) (hc : Cone w0 w1) : yB P o a w1 v := fun w hw => h w (hc.trans hw)

def gOp (P : Program) (ops : Array Oper) (i : Nat) (K : Act → World → Prop) (a : Act) (w0 : World) : Prop :=
  match ops[i]? with
  | none => K a w0
  | some o => if Region.wanted o (yielded ops a.tmps) = true then (∃ v, yB P o a w0 v ∧ K (a.put o.dst v) w0) ∨ sB P o a w0 K else K (a.put o.dst undef) w0

theorem gOp_mono {i : Nat} {a : Act} {w0 : World} {K K' : Act → World → Prop} (h : ∀ a w, K a w → K' a w) (hh : gOp P ops i K a w0) : gOp P ops i K' a w0 := by
  unfold gOp at *
  split
  · rename_i ho; simp only [ho] at hh; exact h _ _ hh
  · rename_i o ho
    simp only [ho] at hh
    split
    · rename_i hw
      simp only [hw, if_true] at hh
      rcases hh with ⟨v, h1, h2⟩ | hs
      · exact .inl ⟨v, h1, h _ _ h2⟩
      · refine .inr fun w hw' => ?_
        obtain ⟨u, w', k1, k2, k3⟩ := hs w hw'
        exact ⟨u, w', k1, k2, h _ _ k3⟩
    · rename_i hw; simp only [hw] at hh; exact h _ _ hh

theorem wp_of_up {o : Oper} {a : Act} {K' : Act → World → Prop} {Q' : Exit → Act → World → Prop} {w0 w : World} {v : Value} (hw : Cone w0 w) (h1 : upB P w v ((execOp a.eval o).run P w)) (h2 : ∀ w', Cone w0 w' → K' (a.put o.dst v) w') : o.wp P a w K' Q' := by
  unfold Oper.wp
  generalize (execOp a.eval o).run P w = r at *
  cases r with
  | ok n w' =>
    cases n <;> simp only [upB] at h1 <;> simp only [Oper.upon]
    case value u =>
      obtain ⟨e1, e2⟩ := h1
      rw [e1, e2]
      exact h2 _ hw
    case skip =>
      obtain ⟨e1, e2⟩ := h1
      rw [e1, ← e2]
      exact h2 _ hw
    case enter f args =>
      obtain ⟨e1, hc⟩ := h1
      rw [e1]
      exact hc.mono fun e w'' ⟨he, hb⟩ => by subst he; exact h2 _ (hw.trans (.of hb))
  | halt x w' => simp only [upB] at h1

theorem wpOp_of_gOp {i : Nat} {a : Act} {K K' : Act → World → Prop} {Q' : Exit → Act → World → Prop} {w0 w : World} (hC : Cone w0 w) (h : ∀ a w1 w', Cone w1 w' → K a w1 → K' a w') (hh : gOp P ops i K a w0) : wpOp P ops Q' i K' a w := by
  unfold gOp at hh
  unfold wpOp
  split
  · rename_i ho; simp only [ho] at hh; exact h _ _ _ hC hh
  · rename_i o ho
    simp only [ho] at hh
    split
    · rename_i hw
      simp only [hw, if_true] at hh
      refine .inl ?_
      rcases hh with ⟨v, h1, h2⟩ | hs
      · exact wp_of_up hC (h1 w hC) fun w' hw' => h _ _ _ hw' h2
      · obtain ⟨u, w', k1, k2, k3⟩ := hs w hC
        unfold Oper.wp
        rw [k1]
        simp only [Oper.upon]
        exact h _ _ _ (Cone.refl w') k3
    · rename_i hw; simp only [hw] at hh; exact h _ _ _ hC hh

def YB (P : Program) (ops : Array Oper) (w0 : World) (o : Oper) (v : Value) (a : Act) : Prop :=
  (Region.wanted o (yielded ops a.tmps) = true ∧ yB P o a w0 v) ∨ (Region.wanted o (yielded ops a.tmps) = false ∧ v = undef)
theorem YB.sub {o : Oper} {a : Act} {w0 w1 : World} {v : Value} (h : YB P ops w0 o v a) (hc : Cone w0 w1) : YB P ops w1 o v a :=
  h.imp (fun ⟨h1, h2⟩ => ⟨h1, h2.sub hc⟩) id
theorem YB.gOp {i : Nat} {o : Oper} {v : Value} {a : Act} {w0 : World} (hi : ops[i]? = some o) (hy : YB P ops w0 o v a) {K : Act → World → Prop} (h : K (a.put o.dst v) w0) : gOp P ops i K a w0 := by
  unfold Sh.gOp
  simp only [hi]
  rcases hy with ⟨hw, hv⟩ | ⟨hw, rfl⟩
  · simp only [hw, if_true]; exact .inl ⟨v, hv, h⟩
  · simp only [hw, Bool.false_eq_true, if_false]; exact h
theorem YB.of_same {o : Oper} {v : Value} {a a' : Act} {w0 : World} (hy : YB P ops w0 o v a) (he : execOp a'.eval o = execOp a.eval o)
    (hw : Region.wanted o (yielded ops a'.tmps) = Region.wanted o (yielded ops a.tmps)) : YB P ops w0 o v a' := by
  unfold YB yB at *
  rw [he, hw]
  exact hy

theorem gOp_put {j : Nat} {oi oj : Oper} {v : Value} (hj : ops[j]? = some oj) (hap : oi.apart ops oj = true)
    (hsi : ∀ cs b, oi.op ≠ .select cs b) (hsj : ∀ cs b, oj.op ≠ .select cs b) {K : Act → World → Prop} {a : Act} {w0 : World}
    (hy : YB P ops w0 oi v a) (h : gOp P ops j K (a.put oi.dst v) w0) :
    gOp P ops j (fun a' w1 => YB P ops w1 oi v a' ∧ K (a'.put oi.dst v) w1) a w0 := by
  obtain ⟨h1, h2, h3⟩ := Oper.apart_spec hap
  have keep : ∀ (a : Act) w1, YB P ops w1 oi v a → ∀ u, YB P ops w1 oi v (a.put oj.dst u) := fun a w1 hy u =>
    hy.of_same (execOp_put oi hsi a oj.dst u h3) (wanted_put oi a oj.dst u h3)
  unfold gOp at *
  simp only [hj] at *
  rw [wanted_put oj a oi.dst v h1] at h
  split
  · rename_i hw
    simp only [hw, if_true] at h
    rcases h with ⟨u, hu, hn⟩ | hs
    · refine .inl ⟨u, fun w hw' => ?_, keep a w0 hy u, by rw [← Act.put_comm a v u h2]; exact hn⟩
      have := hu w hw'
      rwa [execOp_put oj hsj a oi.dst v h1] at this
    · refine .inr fun w hw' => ?_
      obtain ⟨u, w', k1, k2, k3⟩ := hs w hw'
      rw [execOp_put oj hsj a oi.dst v h1] at k1
      exact ⟨u, w', k1, k2, keep a w' (hy.sub (hw'.trans k2)) u, by rw [← Act.put_comm a v u h2]; exact k3⟩
  · rename_i hw
    simp only [hw] at h
    exact ⟨keep a w0 hy _, by rw [← Act.put_comm a v undef h2]; exact h⟩

def wpAnyG (P : Program) (md : Region.Mode) (ops : Array Oper) (n : Nat) (L : Array Bool → Act → World → Prop) : Nat → Array Bool → Act → World → Prop
  | 0, listed, a, w0 => L listed a w0
  | f + 1, listed, a, w0 =>
    Region.ready md ops listed ≠ [] ∧ ∀ i ∈ Region.ready md ops listed, i < n ∧ gOp P ops i (wpAnyG P md ops n L f (listed.setIfInBounds i true)) a w0

theorem wpAny_of_headG {n g : Nat} {L : Array Bool → Act → World → Prop} {Q' : Exit → Act → World → Prop} (hL : ∀ listed a w0 w, Cone w0 w → L listed a w0 → wpAny P md ops Q' g listed a w) :
    ∀ (f : Nat) (listed : Array Bool) (a : Act) (w0 w : World), Cone w0 w → wpAnyG P md ops n L f listed a w0 → wpAny P md ops Q' (f + g) listed a w
  | 0, listed, a, w0, w, hw, h => by rw [Nat.zero_add]; exact hL _ _ _ _ hw h
  | f + 1, listed, a, w0, w, hw, h => by
    rw [show f + 1 + g = (f + g) + 1 by omega]
    exact ⟨fun h0 => absurd h0 h.1, fun i hi => wpOp_of_gOp hw (fun a' w1 w' hw' h' => wpAny_of_headG hL f _ a' w1 w' hw' h') (h.2 i hi).2⟩

theorem wpAnyG_first {n i : Nat} {oi : Oper} {v : Value} {L : Array Bool → Act → World → Prop} (hi : ops[i]? = some oi) (hsel : ∀ (j : Nat) (o : Oper) cs b, ops[j]? = some o → o.op ≠ .select cs b)
    (hs : Region.sinkB md ops n = true) (hc : Region.chainB md ops n = true) (hn : n < ops.size) (hin : i < n)
    (hdone : ∀ listed a w0, L listed a w0 → ∀ j ∈ Region.ready md ops listed, n ≤ j) :
    ∀ (f : Nat) (listed : Array Bool) (a : Act) (w0 : World), HeadInv md ops n listed →
      (∀ j oj, ops[j]? = some oj → j ≠ i → listed.getD j true = false → (∀ e ∈ oj.after, Region.binds md e = true → e.on ≠ i) → oi.apart ops oj = true) →
      i ∈ Region.ready md ops listed → YB P ops w0 oi v a →
      wpAnyG P md ops n L f (listed.setIfInBounds i true) (a.put oi.dst v) w0 → wpAnyG P md ops n L (f + 1) listed a w0 := by
  intro f
  induction f with
  | zero =>
    intro listed a w0 inv _ hr hy H
    have hun := (mem_ready.1 hr).1
    refine ⟨fun h => (by rw [h] at hr; cases hr), fun j hj => ?_⟩
    have hjn : j < n := by
      rcases Nat.lt_or_ge j n with h | h
      · exact h
      · exact absurd hj (tail_waits hs hc hn inv _ i rfl hin hun j h)
    refine ⟨hjn, ?_⟩
    by_cases hji : j = i
    · subst hji; exact hy.gOp hi H
    · have := hdone _ _ _ H j (ready_mono hj hji)
      omega
  | succ f ih =>
    intro listed a w0 inv hfree hr hy H
    have hun := (mem_ready.1 hr).1
    refine ⟨fun h => (by rw [h] at hr; cases hr), fun j hj => ?_⟩
    have hjn : j < n := by
      rcases Nat.lt_or_ge j n with h | h
      · exact h
      · exact absurd hj (tail_waits hs hc hn inv _ i rfl hin hun j h)
    refine ⟨hjn, ?_⟩
    by_cases hji : j = i
    · subst hji; exact hy.gOp hi H
    · have h1 := (H.2 j (ready_mono hj hji)).2
      obtain ⟨hjun, oj, hoj, hall⟩ := mem_ready.1 hj
      have hnot : ∀ e ∈ oj.after, Region.binds md e = true → e.on ≠ i := fun e he hb heq => by
        have h1 := hall e he hb
        rw [heq, getD_both hun] at h1
        cases h1
      have h2 := gOp_put hoj (hfree j oj hoj hji hjun hnot) (fun cs b => hsel i oi cs b hi) (fun cs b => hsel j oj cs b hoj) hy h1
      have hfree' : ∀ k ok, ops[k]? = some ok → k ≠ i → (listed.setIfInBounds j true).getD k true = false →
          (∀ e ∈ ok.after, Region.binds md e = true → e.on ≠ i) → oi.apart ops ok = true := fun k ok hk hki hun hno => by
        refine hfree k ok hk hki ?_ hno
        by_cases hjk : j = k
        · subst hjk; exact hjun
        · rw [getD_set_ne true hjk] at hun; exact hun
      refine gOp_mono (fun a' w1 h3 => ih (listed.setIfInBounds j true) a' w1 (inv.set hj hjn) hfree' (ready_mono hr (Ne.symm hji)) h3.1 ?_) h2
      rw [Array.setIfInBounds_comm _ _ hji]
      exact h3.2

/-- The walk, in an order of the prover's: 'true' marks what makes memory. -/
def wpOrd (P : Program) (ops : Array Oper) (Q : Act → World → Prop) : List (Oper × Bool) → Act → World → Prop
  | [], a, w0 => Q a w0
  | (o, false) :: rest, a, w0 => if Region.wanted o (yielded ops a.tmps) = true then ∃ v, yB P o a w0 v ∧ wpOrd P ops Q rest (a.put o.dst v) w0 else wpOrd P ops Q rest (a.put o.dst undef) w0
  | (o, true) :: rest, a, w0 => Region.wanted o (yielded ops a.tmps) = true ∧ sB P o a w0 (wpOrd P ops Q rest)
def ordB (md : Region.Mode) (ops : Array Oper) (n g : Nat) : List (Nat × Bool) → Array Bool → Bool
  | [], listed => Region.seqB md ops g n listed
  | (k, b) :: rest, listed => decide (k < n) && (Region.ready md ops listed).contains k && (if b then decide (Region.ready md ops listed = [k]) else Region.free md ops listed k) && ordB md ops n g rest (listed.setIfInBounds k true)
def ordO (l : List Oper) (ord : List (Nat × Bool)) : List (Oper × Bool) := ord.map fun p => (l.getD p.1 { dst := none, op := .move (.const undef), type := 0, pos := "", after := #[], guard := none }, p.2)

theorem wpAnyG_ord {n g : Nat} {l : List Oper} {Lq : Act → World → Prop} (hsel : Region.noSelect l.toArray = true) (hs : Region.sinkB md l.toArray n = true) (hc : Region.chainB md l.toArray n = true) (hn : n < l.toArray.size) :
    ∀ (ord : List (Nat × Bool)) (listed : Array Bool) (a : Act) (w0 : World), HeadInv md l.toArray n listed → ordB md l.toArray n g ord listed = true → wpOrd P l.toArray Lq (ordO l ord) a w0 →
    wpAnyG P md l.toArray n (fun listed' a' w1 => Region.seqB md l.toArray g n listed' = true ∧ Lq a' w1) ord.length listed a w0
  | [], listed, a, w0, _, hB, h => ⟨hB, h⟩
  | (k, b) :: rest, listed, a, w0, inv, hB, h => by
    simp only [ordB, Bool.and_eq_true, decide_eq_true_eq] at hB
    obtain ⟨⟨⟨hkn, hr⟩, hf⟩, hB'⟩ := hB
    have hr' : k ∈ Region.ready md l.toArray listed := by simpa using hr
    obtain ⟨o, hk⟩ : ∃ o, l[k]? = some o := by
      have : k < l.length := by
        have : n < l.length := by simpa using hn
        omega
      exact ⟨_, List.getElem?_eq_getElem this⟩
    have h0 : l.toArray[k]? = some o := by simpa using hk
    have hd : ordO l ((k, b) :: rest) = (o, b) :: ordO l rest := by
      unfold ordO
      rw [List.map_cons]
      simp [List.getD, hk]
    rw [hd] at h
    cases b with
    | false =>
      simp only [Bool.false_eq_true, if_false] at hf
      have hst : ∃ v, YB P l.toArray w0 o v a ∧ wpOrd P l.toArray Lq (ordO l rest) (a.put o.dst v) w0 := by
        unfold wpOrd at h
        by_cases hw : Region.wanted o (yielded l.toArray a.tmps) = true
        · rw [if_pos hw] at h
          obtain ⟨v, h1, h2⟩ := h
          exact ⟨v, .inl ⟨hw, h1⟩, h2⟩
        · rw [if_neg hw] at h
          exact ⟨undef, .inr ⟨by simpa using hw, rfl⟩, h⟩
      obtain ⟨v, hy, hK⟩ := hst
      exact wpAnyG_first h0 (Region.noSelect_spec hsel) hs hc hn hkn (fun listed' a' w1 hL => seqB_ready hL.1) rest.length listed a w0 inv (Region.free_spec h0 hf) hr' hy
        (wpAnyG_ord hsel hs hc hn rest _ _ _ (inv.set hr' hkn) hB' hK)
    | true =>
      simp only [if_true, decide_eq_true_eq] at hf
      unfold wpOrd at h
      refine ⟨fun e => (by rw [hf] at e; cases e), fun j hj => ?_⟩
      rw [hf, List.mem_singleton] at hj
      subst hj
      refine ⟨hkn, ?_⟩
      unfold gOp
      simp only [h0, h.1, if_true]
      refine .inr fun w hw => ?_
      obtain ⟨u, w', k1, k2, k3⟩ := h.2 w hw
      exact ⟨u, w', k1, k2, wpAnyG_ord hsel hs hc hn rest _ _ _ (inv.set hr' hkn) hB' k3⟩

def regB (l : List Oper) (n : Nat) (ord : List (Nat × Bool)) : Bool :=
  Region.noSelect l.toArray && decide (n < l.length) && Region.sinkB .any l.toArray n && Region.chainB .any l.toArray n && decide (ord.length = n) && ordB .any l.toArray n (l.length - n) ord (Array.replicate l.length false)

theorem wp_region_cone {id : Nat} {Q : Exit → Act → World → Prop} {a : Act} {w : World} {l : List Oper} (n : Nat) (ord : List (Nat × Bool)) (hm : P.follows .mixedOrders = true) (hB : regB l n ord = true)
    (h : wpOrd P l.toArray (fun a' w0 => ∀ w', Cone w0 w' → wpList P l.toArray Q (l.drop n) a' w') (ordO l ord) a w) : (Code.region id l.toArray true).wp P Q a w := by
  simp only [regB, Bool.and_eq_true, decide_eq_true_eq] at hB
  obtain ⟨⟨⟨⟨⟨hsel, hn⟩, hs⟩, hc⟩, hlen⟩, hord⟩ := hB
  have hn' : n < l.toArray.size := by simpa using hn
  have hdl : (l.drop n).length = l.length - n := by simp
  have inv0 : HeadInv .any l.toArray n (Array.replicate l.length false) :=
    ⟨by simp, fun j oj _ hl => (by rw [getD_replicate_false] at hl; cases hl), fun t _ ht => getD_in (by simpa using ht) (getD_replicate_false _ _)⟩
  have H := wpAnyG_ord (P := P) (md := .any) (g := l.length - n) hsel hs hc hn' ord (Array.replicate l.length false) a w inv0 hord h
  refine wp_region_any hm ?_
  have := wpAny_of_headG (Q' := Q) (g := l.length - n) (fun listed a' w1 w' hw' hL => by
    have := wpAny_of_seq (md := .any) (Q' := Q) (l.drop n) n listed a' w' (fun j => by simp [List.getElem?_drop]) (by rw [hdl]; exact hL.1) (hL.2 w' hw')
    rwa [hdl] at this) _ _ _ w { w with drawn := w.drawn + 1 } (Cone.of (Below.refl w.heap.size w).drew) H
  rw [hlen, show n + (l.length - n) = l.length by omega] at this
  simpa using this

/-- One quiet step. -/
theorem ord_quiet {Q : Act → World → Prop} {o : Oper} {rest : List (Oper × Bool)} {a : Act} {w0 : World}
    (h : ∀ K : Act → Prop, (∀ a, wpOrd P ops Q rest a w0 → K a) → if Region.wanted o (yielded ops a.tmps) = true then ∃ v, (∀ p : Regrown, upB P (Go.Sort.grow (redrawn w0 p.d) p.os) v ((execOp a.eval o).run P (Go.Sort.grow (redrawn w0 p.d) p.os))) ∧ K (a.put o.dst v) else K (a.put o.dst undef)) : wpOrd P ops Q ((o, false) :: rest) a w0 := by
  have h2 := h (fun a => wpOrd P ops Q rest a w0) (fun _ h => h)
  unfold wpOrd
  split
  · rename_i hw
    rw [if_pos hw] at h2
    obtain ⟨v, k1, k2⟩ := h2
    exact ⟨v, fun w ⟨p, hp⟩ => by subst hp; exact k1 p, k2⟩
  · rename_i hw
    rw [if_neg hw] at h2
    exact h2
/-- One value is laid as a slice of its own. -/
theorem ord_slice {Q : Act → World → Prop} {o : Oper} {rest : List (Oper × Bool)} {a : Act} {w0 : World} (hgd : o.guard = none) {t e : TypeId} {x : Operand} {u : Value} (ho : o.op = .buildSlice t 1 #[(0, x)])
    (hx : a.eval x = u) (hr : ∀ w, (execOp a.eval o).run P w = .ok (.value (.slice (some ⟨w.heap.size, 0, none⟩) 1 1)) (w.alloc (.cells #[u] e)))
    (h : ∀ w, Cone w0 w → wpOrd P ops Q rest (a.put o.dst (.slice (some ⟨w.heap.size, 0, none⟩) 1 1)) (w.alloc (.cells #[u] e))) : wpOrd P ops Q ((o, true) :: rest) a w0 := by
  unfold wpOrd
  exact ⟨by simp [Region.wanted, hgd], fun w hw => ⟨_, _, hr w, .of ((Below.refl _ _).alloc (Nat.le_refl _) _), h w hw⟩⟩
theorem up_val {w : World} {u : Value} : upB P w u (.ok (.value u) w) := ⟨rfl, rfl⟩
theorem up_call {w : World} {v : Value} {f : FuncId} {args : Array Value} (h : Calls P f args w (fun e w'' => e = .returned v ∧ Below w.heap.size w w'')) : upB P w v (.ok (.enter f args) w) := ⟨rfl, h⟩
end
end Go.Proofs.YtmhhbnnjilbdnaaGreatDoor.Sh
namespace Go.Proofs.YtmhhbnnjilbdnaaGreatDoor.Sh
open Go.RowKit En Go.ChangeMaps
set_option linter.unusedSimpArgs false
set_option linter.unusedVariables false
set_option maxRecDepth 20000

/-- The variable of lines, with its first line. -/
def FirstP (w1 : World) (h : List UInt8) (v : Value) (wx : World) : Prop := ∃ g S, v = .pointer (some ⟨g, 0, none⟩) ∧ toL S = h ∧ OutS w1 wx g [S]

theorem out_of {w1 W : World} {g b : Nat} {S : ByteArray} (hg : Blk W g 24 [.slice (some ⟨b, 0, none⟩) 1 1]) (hb : Blk W b 9 [.string S]) (h1 : w1.heap.size ≤ g) (h2 : w1.heap.size ≤ b) (hne : b ≠ g) (h : Below w1.heap.size w1 W) : OutS w1 W g [S] :=
  ⟨⟨_, _, _, hg, ⟨rfl, .inr ⟨b, 1, _, rfl, h2, hb, Nat.le_refl _, by decide, rfl, rfl⟩⟩, fun e => by injection e with e; exact hne e⟩, h1, h⟩
theorem firstA {w1 : World} {S : ByteArray} {h : List UInt8} (hS : toL S = h) : FirstP w1 h (.pointer (some ⟨w1.heap.size, 0, none⟩)) ((w1.alloc (.cells #[.slice (some ⟨w1.heap.size + 1, 0, none⟩) 1 1] 24)).alloc (.cells #[.string S] 9)).drew := by
  have hb := Blk.new (w1.alloc (.cells #[.slice (some ⟨w1.heap.size + 1, 0, none⟩) 1 1] 24)) 9 [.string S]
  rw [show (w1.alloc (.cells #[.slice (some ⟨w1.heap.size + 1, 0, none⟩) 1 1] 24)).heap.size = w1.heap.size + 1 by simp] at hb
  exact ⟨_, S, rfl, hS, out_of ((Blk.new w1 24 [_]).alloc _) hb (Nat.le_refl _) (Nat.le_succ _) (by omega) (bel_trans ((Below.refl _ _).alloc (Nat.le_refl _) _) ((Below.refl _ _).alloc (Nat.le_refl _) _)).drew⟩
theorem firstB {w1 : World} {S : ByteArray} {h : List UInt8} (hS : toL S = h) : FirstP w1 h (.pointer (some ⟨w1.heap.size + 1, 0, none⟩)) ((w1.alloc (.cells #[.string S] 9)).alloc (.cells #[.slice (some ⟨w1.heap.size, 0, none⟩) 1 1] 24)).drew := by
  have hb := Blk.new (w1.alloc (.cells #[.string S] 9)) 24 [.slice (some ⟨w1.heap.size, 0, none⟩) 1 1]
  rw [show (w1.alloc (.cells #[.string S] 9)).heap.size = w1.heap.size + 1 by simp] at hb
  exact ⟨_, S, rfl, hS, out_of hb ((Blk.new w1 9 [_]).alloc _) (Nat.le_succ _) (Nat.le_refl _) (by omega) (bel_trans ((Below.refl _ _).alloc (Nat.le_refl _) _) ((Below.refl _ _).alloc (Nat.le_refl _) _)).drew⟩


/-- The variable of lines holds the lines T. -/
def Stg (w1 wx : World) (g : Nat) (T : List (List UInt8)) : Prop := ∃ L, OutS w1 wx g L ∧ L.map toL = T
theorem Stg.mono {w0 w w' : World} {g : Nat} {T : List (List UInt8)} (h : Stg w0 w g T) (hb : Below w.heap.size w w') : Stg w0 w' g T := by
  obtain ⟨L, h1, h2⟩ := h
  exact ⟨L, h1.mono hb, h2⟩
theorem Stg.bel {w0 w : World} {g : Nat} {T : List (List UInt8)} (h : Stg w0 w g T) : Below w0.heap.size w0 w := by
  obtain ⟨L, h1, h2⟩ := h
  exact h1.bel
theorem Stg.out {w0 w : World} {g : Nat} {T : List (List UInt8)} (h : Stg w0 w g T) : ∃ L p n c, Blk w g 24 [.slice p n c] ∧ OwnL w w0.heap.size (.slice p n c) L ∧ (Value.slice p n c).ownBlock ≠ some g ∧ w0.heap.size ≤ g ∧ Below w0.heap.size w0 w ∧ L.map toL = T ∧ L.length = T.length := by
  obtain ⟨L, ⟨⟨p, n, c, h1, h2, h3⟩, h4, h5⟩, h6⟩ := h
  exact ⟨L, p, n, c, h1, h2, h3, h4, h5, h6, by rw [← h6, List.length_map]⟩
theorem add_stg (w0 : World) (a b : ByteArray) (i : Nat) (g : Nat) (T : List (List UInt8)) (w : World) (ha : a.size ≤ 1000) (hb : b.size ≤ 1152921504606840000) (hi : i ≤ 100000) (h : Stg w0 w g T) (hT : T.length ≤ 90000) (hp : PowTab w) :
    Calls Tryz.prog 27 #[.string a, .int .i64 (i : Int), .string b, .pointer (some ⟨g, 0, none⟩)] w fun e w' => e = .returned (.tuple #[]) ∧ Stg w0 w' g (T ++ [toL a ++ (itoaL ((i : Int) + 1) ++ toL b)]) ∧ ∀ k tt cs, Blk w k tt cs → tt ≠ 9 → tt ≠ 24 → Blk w' k tt cs := by
  obtain ⟨L, h1, h2⟩ := h
  refine (add_any w0 a b (i : Int) g L w ha hb (by omega) h1 (by rw [← h2, List.length_map] at hT; exact hT) hp).mono ?_
  rintro e w' ⟨rfl, S, hS, hO, hK⟩
  exact ⟨rfl, ⟨_, hO, by rw [List.map_append, h2, List.map_singleton, hS]⟩, hK⟩
theorem one_at2 (W : World) (g : Nat) (cl : UInt8) (h0 : W.cell? ⟨g, 0, none⟩ = some (.int .u8 cl.toNat)) : (convert 69 9 (.slice (some ⟨g, 0, none⟩) 1 1)).run Tryz.prog W = .ok (.string ⟨#[cl]⟩) W := by
  refine string_conv [cl] _ g 1 1 rfl fun j hj => ?_
  match j, hj with
  | 0, _ => rw [h0]; rfl

theorem info_name2 : (Tryz.prog.info? 38).map (·.size) = some 2 := by kernel_rfl
theorem info_seg2 : (Tryz.prog.info? 44).map (·.size) = some 5 := by kernel_rfl
theorem info_place2 : (Tryz.prog.info? 72).map (·.size) = some 4 := by kernel_rfl
theorem nameC_one2 (x : NameT) : ∀ v ∈ nameC x, v.oneCell' = true := by
  intro v hv
  simp [nameC] at hv
  rcases hv with rfl | rfl <;> rfl
theorem segC_one2 (x : SegT) : ∀ v ∈ segC x, v.oneCell' = true := by
  intro v hv
  simp [segC] at hv
  rcases hv with rfl | rfl | rfl | rfl | rfl <;> rfl
theorem placeC_one2 (x : PlaceT) : ∀ v ∈ placeC x, v.oneCell' = true := by
  intro v hv
  simp [placeC] at hv
  rcases hv with rfl | rfl | rfl | rfl <;> rfl
theorem text_at2 {w : World} {v : Value} {l : List ByteArray} (h : HasL w v l) {i : Nat} (hi : i < l.length) : ∃ b off n c, v = .slice (some ⟨b, off, none⟩) n c ∧ w.cell? ⟨b, off + i, none⟩ = some (.string (l.getD i ByteArray.empty)) := by
  rcases h with ⟨p, c, rfl, rfl, _⟩ | ⟨b, off, c, rfl, h1, h2, h3⟩
  · simp at hi
  · exact ⟨b, off, _, _, rfl, h3 i hi⟩
theorem hasL_len2 {w : World} {v : Value} {l : List ByteArray} (h : HasL w v l) : ∃ p c, v = .slice p l.length c := by
  rcases h with ⟨p, c, rfl, rfl, _⟩ | ⟨b, off, c, rfl, h1, h2, h3⟩
  · exact ⟨_, _, rfl⟩
  · exact ⟨_, _, rfl⟩

theorem new1 (w : World) (t : TypeId) (v : Value) : (w.alloc (.cells #[v] t)).cell? ⟨w.heap.size, 0, none⟩ = some v := ((Blk.new w t [v]).cell 0).trans rfl

theorem digL_two {n : Nat} (h : n ≤ 99) : (digL n).length ≤ 2 := by
  by_cases h1 : n < 10
  · rw [digL_lt h1]; simp
  · rw [digL_ge (by omega), digL_lt (by omega)]; simp
theorem seatT_le (r : Int) (c : UInt8) : (seatT r c).size ≤ 1000 := by
  unfold seatT
  split
  · next h =>
    rw [ByteArray.size_append, txt_size (digA_list r.toNat)]
    have := digL_two (n := r.toNat) (by omega)
    show _ + 1 ≤ 1000
    omega
  · decide
theorem recv_len (s : ByteArray) : (recvLn s).length ≤ 1 := by
  unfold recvLn
  split <;> simp
theorem own_ty {W : World} {B g : Nat} {v : Value} {L : List ByteArray} {u : List Value} (ho : OwnL W B v L) (hg : Blk W g 24 u) : v.ownBlock ≠ some g := fun e => by
  rcases ho.2 with ⟨e2, _⟩ | ⟨gg, cap, cur, e2, _, e3, _⟩
  · rw [e2] at e; cases e
  · rw [e2] at e
    have e : some gg = some g := e
    injection e with e
    subst e
    unfold Blk at hg
    rw [e3] at hg
    injection hg with hg
    injection hg with _ hg _
    exact absurd hg (by decide)
/-- 'out = append(out, s)' of one text laid right ahead, outside of a region that draws. -/
theorem push_at2 {w : World} {ops : Array Oper} {rest : List Oper} {o : Oper} {a : Act} {Q : Exit → Act → World → Prop} (hgd : o.guard = none) (s x : Operand)
    (ho : o.op = .call { callee := .builtin .append, args := #[s, x], argTypes := #[24, 24] })
    (B : Nat) (v : Value) (L : List ByteArray) (hs : a.eval s = v) (hown : OwnL w B v L) (S : ByteArray) (hx : a.eval x = .slice (some ⟨w.heap.size, 0, none⟩) 1 1)
    (hL : L.length ≤ 100000) (hB : B ≤ w.heap.size) (g : Nat) (u : List Value) (hg : Blk w g 24 u)
    (h : ∀ p n c w', OwnL w' B (.slice p n c) (L ++ [S]) → (w.alloc (.cells #[.string S] 9)).grownBy w' v.ownBlock → (Value.slice p n c).ownBlock ≠ some g → Blk w' g 24 u → wpList Tryz.prog ops Q rest (a.put o.dst (.slice p n c)) w') :
    wpList Tryz.prog ops Q (o :: rest) a (w.alloc (.cells #[.string S] 9)) := by
  obtain ⟨i0, hi0, hz0, hsz0, hby0⟩ := str_info
  refine wpList_pushC hgd s x 24 ho B 9 i0 _ 1 16 Tryz.underlying24 hi0 hz0 hsz0 hby0 rfl (by decide) v L.length (strV L) hs hown [.string S] rfl hx (by intro u hu; rw [List.mem_singleton.1 hu]; rfl) (by unfold maxLen; omega) (by omega) hB ?_
  intro v4 w4 ho4 hb4 hg4
  obtain ⟨p, n, c, rfl⟩ := own_slice ho4
  have ho5 : OwnL w4 B (.slice p n c) (L ++ [S]) := by
    unfold OwnL
    rw [List.length_append, List.length_singleton, strV, List.map_append]
    exact ho4
  have hk := (hg.alloc (.cells #[.string S] 9)).far hg4 (fun e => own_ty hown hg e.symm)
  exact h _ _ _ w4 ho5 hg4 (own_ty ho5 hk) hk

/-- The same, of a text that lies anywhere. -/
theorem push_at3 {w : World} {ops : Array Oper} {rest : List Oper} {o : Oper} {a : Act} {Q : Exit → Act → World → Prop} (hgd : o.guard = none) (s x : Operand)
    (ho : o.op = .call { callee := .builtin .append, args := #[s, x], argTypes := #[24, 24] })
    (B : Nat) (v : Value) (L : List ByteArray) (hs : a.eval s = v) (hown : OwnL w B v L) (gb : Nat) (S : ByteArray) (hx : a.eval x = .slice (some ⟨gb, 0, none⟩) 1 1) (hc : w.cell? ⟨gb, 0, none⟩ = some (.string S))
    (hL : L.length ≤ 100000) (hB : B ≤ w.heap.size)
    (h : ∀ p n c w', OwnL w' B (.slice p n c) (L ++ [S]) → w.grownBy w' v.ownBlock → wpList Tryz.prog ops Q rest (a.put o.dst (.slice p n c)) w') :
    wpList Tryz.prog ops Q (o :: rest) a w := by
  obtain ⟨i0, hi0, hz0, hsz0, hby0⟩ := str_info
  refine wpList_append_own _ hgd s x 24 ho B 9 i0 _ 1 16 Tryz.underlying24 hi0 hz0 hsz0 hby0 rfl (by decide) v L.length (strV L) hs hown ⟨gb, 0, none⟩ 1 1 [.string S] hx rfl (fun j u hj => ?_) (by intro u hu; rw [List.mem_singleton.1 hu]; rfl) (by unfold maxLen; omega) (by omega) hB ?_
  · rw [Addr.add_lit, Nat.zero_add]
    match j, hj with
    | 0, hj => rw [hc]; exact hj
  · intro v4 w4 ho4 hg4 _
    obtain ⟨p, n, c, rfl⟩ := own_slice ho4
    refine h _ _ _ w4 ?_ hg4
    unfold OwnL
    rw [List.length_append, List.length_singleton, strV, List.map_append]
    exact ho4

/-- Texts and numbers of a PNR that can be shown. -/
structure FitB (p : PnrT) : Prop where
  loc : p.loc.size ≤ 1125899906842624
  off : p.off.size ≤ 1125899906842624
  names : ∀ x ∈ p.names, x.last.size ≤ 1125899906842624 ∧ x.first.size ≤ 1125899906842624
  segs : ∀ x ∈ p.segs, x.car.size ≤ 1125899906842624 ∧ (Lit.int .i64 x.num).wf = true
  phones : ∀ x ∈ p.phones, x.size ≤ 1125899906842624
  recv : p.recv.size ≤ 1125899906842624
  remarks : ∀ x ∈ p.remarks, x.size ≤ 1125899906842624
  seats : ∀ x ∈ p.seats, (Lit.int .i64 x.seg).wf = true ∧ (Lit.int .i64 x.pax).wf = true
end Go.Proofs.YtmhhbnnjilbdnaaGreatDoor.Sh
