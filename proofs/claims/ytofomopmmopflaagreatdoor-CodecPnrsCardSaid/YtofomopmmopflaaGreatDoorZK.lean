/- A region that draws its order, walked once (as in the show seat's text). -/
import Derived.Test.YtofomopmmopflaaGreatDoorMA
import Derived.StillTail
import Derived.Deep.QuietTactic
import Derived.Lib.QuietBelow
namespace Go.Proofs.YtofomopmmopflaaGreatDoor
open Go Go.RowKit
set_option linter.unusedSimpArgs false
set_option linter.unusedVariables false

/-- A world that grew from w0. -/
def Cone (w0 w : World) : Prop := ∃ p : Regrown, w = Go.Sort.grow (redrawn w0 p.d) p.os
theorem Cone.bel {w0 w : World} (h : Cone w0 w) : Below w0.heap.size w0 w := by
  obtain ⟨p, rfl⟩ := h
  exact below_regrown w0 p.d p.os
theorem Cone.of {w0 w : World} (h : Below w0.heap.size w0 w) : Cone w0 w := regrown_of_below h
theorem Cone.refl (w : World) : Cone w w := .of (Below.refl _ _)
theorem Cone.trans {a b c : World} (h : Cone a b) (k : Cone b c) : Cone a c := .of (bel_trans h.bel k.bel)

/-- What is asked of an operation's outcome. -/
def upB (P : Program) (w : World) (v : Value) : Result Next → Prop
  | .ok (.value u) w' => w' = w ∧ u = v
  | .ok .skip w' => w' = w ∧ v = undef
  | .ok (.enter f args) w' => w' = w ∧ Calls P f args w (fun e w'' => e = .returned v ∧ Below w.heap.size w w'')
  | _ => False

section
variable {P : Program} {ops : Array Oper} {md : Region.Mode}

/-- One value in every world of the cone. -/
def yB (P : Program) (o : Oper) (a : Act) (w0 : World) (v : Value) : Prop := ∀ w, Cone w0 w → upB P w v ((execOp a.eval o).run P w)
/-- It makes memory, and yields some value. -/
def sB (P : Program) (o : Oper) (a : Act) (w0 : World) (K : Act → World → Prop) : Prop := ∀ w, Cone w0 w → ∃ u w', (execOp a.eval o).run P w = .ok (.value u) w' ∧ Cone w w' ∧ K (a.put o.dst u) w'
theorem yB.sub {o : Oper} {a : Act} {w0 w1 : World} {v : Value} (h : yB P o a w0 v) (hc : Cone w0 w1) : yB P o a w1 v := fun w hw => h w (hc.trans hw)

def gOp (P : Program) (ops : Array Oper) (i : Nat) (K : Act → World → Prop) (a : Act) (w0 : World) : Prop :=
  match ops[i]? with
  | none => K a w0
  | some o => if Region.wanted o (yielded ops a.tmps) = true then (∃ v, yB P o a w0 v ∧ K (a.put o.dst v) w0) ∨ sB P o a w0 K else K (a.put o.dst undef) w0

theorem gOp_mono {i : Nat} {a : Act} {w0 : World} {K K' : Act → World → Prop} (h : ∀ a w, K a w → K' a w) (hh : gOp P ops i K a w0) : gOp P ops i K' a w0 := by
  unfold gOp at *
  split
  · rename_i ho; simp only [ho] at hh; exact h _ _ hh
  · rename_i o ho
    simp only [ho] at hh
    split
    · rename_i hw
      simp only [hw, if_true] at hh
      rcases hh with ⟨v, h1, h2⟩ | hs
      · exact .inl ⟨v, h1, h _ _ h2⟩
      · refine .inr fun w hw' => ?_
        obtain ⟨u, w', k1, k2, k3⟩ := hs w hw'
        exact ⟨u, w', k1, k2, h _ _ k3⟩
    · rename_i hw; simp only [hw] at hh; exact h _ _ hh

theorem wp_of_up {o : Oper} {a : Act} {K' : Act → World → Prop} {Q' : Exit → Act → World → Prop} {w0 w : World} {v : Value} (hw : Cone w0 w) (h1 : upB P w v ((execOp a.eval o).run P w)) (h2 : ∀ w', Cone w0 w' → K' (a.put o.dst v) w') : o.wp P a w K' Q' := by
  unfold Oper.wp
  generalize (execOp a.eval o).run P w = r at *
  cases r with
  | ok n w' =>
    cases n <;> simp only [upB] at h1 <;> simp only [Oper.upon]
    case value u =>
      obtain ⟨e1, e2⟩ := h1
      rw [e1, e2]
      exact h2 _ hw
    case skip =>
      obtain ⟨e1, e2⟩ := h1
      rw [e1, ← e2]
      exact h2 _ hw
    case enter f args =>
      obtain ⟨e1, hc⟩ := h1
      rw [e1]
      exact hc.mono fun e w'' ⟨he, hb⟩ => by subst he; exact h2 _ (hw.trans (.of hb))
  | halt x w' => simp only [upB] at h1

theorem wpOp_of_gOp {i : Nat} {a : Act} {K K' : Act → World → Prop} {Q' : Exit → Act → World → Prop} {w0 w : World} (hC : Cone w0 w) (h : ∀ a w1 w', Cone w1 w' → K a w1 → K' a w') (hh : gOp P ops i K a w0) : wpOp P ops Q' i K' a w := by
  unfold gOp at hh
  unfold wpOp
  split
  · rename_i ho; simp only [ho] at hh; exact h _ _ _ hC hh
  · rename_i o ho
    simp only [ho] at hh
    split
    · rename_i hw
      simp only [hw, if_true] at hh
      refine .inl ?_
      rcases hh with ⟨v, h1, h2⟩ | hs
      · exact wp_of_up hC (h1 w hC) fun w' hw' => h _ _ _ hw' h2
      · obtain ⟨u, w', k1, k2, k3⟩ := hs w hC
        unfold Oper.wp
        rw [k1]
        simp only [Oper.upon]
        exact h _ _ _ (Cone.refl w') k3
    · rename_i hw; simp only [hw] at hh; exact h _ _ _ hC hh

def YB (P : Program) (ops : Array Oper) (w0 : World) (o : Oper) (v : Value) (a : Act) : Prop :=
  (Region.wanted o (yielded ops a.tmps) = true ∧ yB P o a w0 v) ∨ (Region.wanted o (yielded ops a.tmps) = false ∧ v = undef)
theorem YB.sub {o : Oper} {a : Act} {w0 w1 : World} {v : Value} (h : YB P ops w0 o v a) (hc : Cone w0 w1) : YB P ops w1 o v a :=
  h.imp (fun ⟨h1, h2⟩ => ⟨h1, h2.sub hc⟩) id
theorem YB.gOp {i : Nat} {o : Oper} {v : Value} {a : Act} {w0 : World} (hi : ops[i]? = some o) (hy : YB P ops w0 o v a) {K : Act → World → Prop} (h : K (a.put o.dst v) w0) : gOp P ops i K a w0 := by
  unfold Go.Proofs.YtofomopmmopflaaGreatDoor.gOp
  simp only [hi]
  rcases hy with ⟨hw, hv⟩ | ⟨hw, rfl⟩
  · simp only [hw, if_true]; exact .inl ⟨v, hv, h⟩
  · simp only [hw, Bool.false_eq_true, if_false]; exact h
theorem YB.of_same {o : Oper} {v : Value} {a a' : Act} {w0 : World} (hy : YB P ops w0 o v a) (he : execOp a'.eval o = execOp a.eval o)
    (hw : Region.wanted o (yielded ops a'.tmps) = Region.wanted o (yielded ops a.tmps)) : YB P ops w0 o v a' := by
  unfold YB yB at *
  rw [he, hw]
  exact hy

theorem gOp_put {j : Nat} {oi oj : Oper} {v : Value} (hj : ops[j]? = some oj) (hap : oi.apart ops oj = true)
    (hsi : ∀ cs b, oi.op ≠ .select cs b) (hsj : ∀ cs b, oj.op ≠ .select cs b) {K : Act → World → Prop} {a : Act} {w0 : World}
    (hy : YB P ops w0 oi v a) (h : gOp P ops j K (a.put oi.dst v) w0) :
    gOp P ops j (fun a' w1 => YB P ops w1 oi v a' ∧ K (a'.put oi.dst v) w1) a w0 := by
  obtain ⟨h1, h2, h3⟩ := Oper.apart_spec hap
  have keep : ∀ (a : Act) w1, YB P ops w1 oi v a → ∀ u, YB P ops w1 oi v (a.put oj.dst u) := fun a w1 hy u =>
    hy.of_same (execOp_put oi hsi a oj.dst u h3) (wanted_put oi a oj.dst u h3)
  unfold gOp at *
  simp only [hj] at *
  rw [wanted_put oj a oi.dst v h1] at h
  split
  · rename_i hw
    simp only [hw, if_true] at h
    rcases h with ⟨u, hu, hn⟩ | hs
    · refine .inl ⟨u, fun w hw' => ?_, keep a w0 hy u, by rw [← Act.put_comm a v u h2]; exact hn⟩
      have := hu w hw'
      rwa [execOp_put oj hsj a oi.dst v h1] at this
    · refine .inr fun w hw' => ?_
      obtain ⟨u, w', k1, k2, k3⟩ := hs w hw'
      rw [execOp_put oj hsj a oi.dst v h1] at k1
      exact ⟨u, w', k1, k2, keep a w' (hy.sub (hw'.trans k2)) u, by rw [← Act.put_comm a v u h2]; exact k3⟩
  · rename_i hw
    simp only [hw] at h
    exact ⟨keep a w0 hy _, by rw [← Act.put_comm a v undef h2]; exact h⟩

def wpAnyG (P : Program) (md : Region.Mode) (ops : Array Oper) (n : Nat) (L : Array Bool → Act → World → Prop) : Nat → Array Bool → Act → World → Prop
  | 0, listed, a, w0 => L listed a w0
  | f + 1, listed, a, w0 =>
    Region.ready md ops listed ≠ [] ∧ ∀ i ∈ Region.ready md ops listed, i < n ∧ gOp P ops i (wpAnyG P md ops n L f (listed.setIfInBounds i true)) a w0

theorem wpAny_of_headG {n g : Nat} {L : Array Bool → Act → World → Prop} {Q' : Exit → Act → World → Prop} (hL : ∀ listed a w0 w, Cone w0 w → L listed a w0 → wpAny P md ops Q' g listed a w) :
    ∀ (f : Nat) (listed : Array Bool) (a : Act) (w0 w : World), Cone w0 w → wpAnyG P md ops n L f listed a w0 → wpAny P md ops Q' (f + g) listed a w
  | 0, listed, a, w0, w, hw, h => by rw [Nat.zero_add]; exact hL _ _ _ _ hw h
  | f + 1, listed, a, w0, w, hw, h => by
    rw [show f + 1 + g = (f + g) + 1 by omega]
    exact ⟨fun h0 => absurd h0 h.1, fun i hi => wpOp_of_gOp hw (fun a' w1 w' hw' h' => wpAny_of_headG hL f _ a' w1 w' hw' h') (h.2 i hi).2⟩

theorem wpAnyG_first {n i : Nat} {oi : Oper} {v : Value} {L : Array Bool → Act → World → Prop} (hi : ops[i]? = some oi) (hsel : ∀ (j : Nat) (o : Oper) cs b, ops[j]? = some o → o.op ≠ .select cs b)
    (hs : Region.sinkB md ops n = true) (hc : Region.chainB md ops n = true) (hn : n < ops.size) (hin : i < n)
    (hdone : ∀ listed a w0, L listed a w0 → ∀ j ∈ Region.ready md ops listed, n ≤ j) :
    ∀ (f : Nat) (listed : Array Bool) (a : Act) (w0 : World), HeadInv md ops n listed →
      (∀ j oj, ops[j]? = some oj → j ≠ i → listed.getD j true = false → (∀ e ∈ oj.after, Region.binds md e = true → e.on ≠ i) → oi.apart ops oj = true) →
      i ∈ Region.ready md ops listed → YB P ops w0 oi v a →
      wpAnyG P md ops n L f (listed.setIfInBounds i true) (a.put oi.dst v) w0 → wpAnyG P md ops n L (f + 1) listed a w0 := by
  intro f
  induction f with
  | zero =>
    intro listed a w0 inv _ hr hy H
    have hun := (mem_ready.1 hr).1
    refine ⟨fun h => (by rw [h] at hr; cases hr), fun j hj => ?_⟩
    have hjn : j < n := by
      rcases Nat.lt_or_ge j n with h | h
      · exact h
      · exact absurd hj (tail_waits hs hc hn inv _ i rfl hin hun j h)
    refine ⟨hjn, ?_⟩
    by_cases hji : j = i
    · subst hji; exact hy.gOp hi H
    · have := hdone _ _ _ H j (ready_mono hj hji)
      omega
  | succ f ih =>
    intro listed a w0 inv hfree hr hy H
    have hun := (mem_ready.1 hr).1
    refine ⟨fun h => (by rw [h] at hr; cases hr), fun j hj => ?_⟩
    have hjn : j < n := by
      rcases Nat.lt_or_ge j n with h | h
      · exact h
      · exact absurd hj (tail_waits hs hc hn inv _ i rfl hin hun j h)
    refine ⟨hjn, ?_⟩
    by_cases hji : j = i
    · subst hji; exact hy.gOp hi H
    · have h1 := (H.2 j (ready_mono hj hji)).2
      obtain ⟨hjun, oj, hoj, hall⟩ := mem_ready.1 hj
      have hnot : ∀ e ∈ oj.after, Region.binds md e = true → e.on ≠ i := fun e he hb heq => by
        have h1 := hall e he hb
        rw [heq, getD_both hun] at h1
        cases h1
      have h2 := gOp_put hoj (hfree j oj hoj hji hjun hnot) (fun cs b => hsel i oi cs b hi) (fun cs b => hsel j oj cs b hoj) hy h1
      have hfree' : ∀ k ok, ops[k]? = some ok → k ≠ i → (listed.setIfInBounds j true).getD k true = false →
          (∀ e ∈ ok.after, Region.binds md e = true → e.on ≠ i) → oi.apart ops ok = true := fun k ok hk hki hun hno => by
        refine hfree k ok hk hki ?_ hno
        by_cases hjk : j = k
        · subst hjk; exact hjun
        · rw [getD_set_ne true hjk] at hun; exact hun
      refine gOp_mono (fun a' w1 h3 => ih (listed.setIfInBounds j true) a' w1 (inv.set hj hjn) hfree' (ready_mono hr (Ne.symm hji)) h3.1 ?_) h2
      rw [Array.setIfInBounds_comm _ _ hji]
      exact h3.2

/-- The walk, in an order of the prover's: 'true' marks what makes memory. -/
def wpOrd (P : Program) (ops : Array Oper) (Q : Act → World → Prop) : List (Oper × Bool) → Act → World → Prop
  | [], a, w0 => Q a w0
  | (o, false) :: rest, a, w0 => if Region.wanted o (yielded ops a.tmps) = true then ∃ v, yB P o a w0 v ∧ wpOrd P ops Q rest (a.put o.dst v) w0 else wpOrd P ops Q rest (a.put o.dst undef) w0
  | (o, true) :: rest, a, w0 => Region.wanted o (yielded ops a.tmps) = true ∧ sB P o a w0 (wpOrd P ops Q rest)
def ordB (md : Region.Mode) (ops : Array Oper) (n g : Nat) : List (Nat × Bool) → Array Bool → Bool
  | [], listed => Region.seqB md ops g n listed
  | (k, b) :: rest, listed => decide (k < n) && (Region.ready md ops listed).contains k && (if b then decide (Region.ready md ops listed = [k]) else Region.free md ops listed k) && ordB md ops n g rest (listed.setIfInBounds k true)
def ordO (l : List Oper) (ord : List (Nat × Bool)) : List (Oper × Bool) := ord.map fun p => (l.getD p.1 { dst := none, op := .move (.const undef), type := 0, pos := "", after := #[], guard := none }, p.2)

theorem wpAnyG_ord {n g : Nat} {l : List Oper} {Lq : Act → World → Prop} (hsel : Region.noSelect l.toArray = true) (hs : Region.sinkB md l.toArray n = true) (hc : Region.chainB md l.toArray n = true) (hn : n < l.toArray.size) :
    ∀ (ord : List (Nat × Bool)) (listed : Array Bool) (a : Act) (w0 : World), HeadInv md l.toArray n listed → ordB md l.toArray n g ord listed = true → wpOrd P l.toArray Lq (ordO l ord) a w0 →
    wpAnyG P md l.toArray n (fun listed' a' w1 => Region.seqB md l.toArray g n listed' = true ∧ Lq a' w1) ord.length listed a w0
  | [], listed, a, w0, _, hB, h => ⟨hB, h⟩
  | (k, b) :: rest, listed, a, w0, inv, hB, h => by
    simp only [ordB, Bool.and_eq_true, decide_eq_true_eq] at hB
    obtain ⟨⟨⟨hkn, hr⟩, hf⟩, hB'⟩ := hB
    have hr' : k ∈ Region.ready md l.toArray listed := by simpa using hr
    obtain ⟨o, hk⟩ : ∃ o, l[k]? = some o := by
      have : k < l.length := by
        have : n < l.length := by simpa using hn
        omega
      exact ⟨_, List.getElem?_eq_getElem this⟩
    have h0 : l.toArray[k]? = some o := by simpa using hk
    have hd : ordO l ((k, b) :: rest) = (o, b) :: ordO l rest := by
      unfold ordO
      rw [List.map_cons]
      simp [List.getD, hk]
    rw [hd] at h
    cases b with
    | false =>
      simp only [Bool.false_eq_true, if_false] at hf
      have hst : ∃ v, YB P l.toArray w0 o v a ∧ wpOrd P l.toArray Lq (ordO l rest) (a.put o.dst v) w0 := by
        unfold wpOrd at h
        by_cases hw : Region.wanted o (yielded l.toArray a.tmps) = true
        · rw [if_pos hw] at h
          obtain ⟨v, h1, h2⟩ := h
          exact ⟨v, .inl ⟨hw, h1⟩, h2⟩
        · rw [if_neg hw] at h
          exact ⟨undef, .inr ⟨by simpa using hw, rfl⟩, h⟩
      obtain ⟨v, hy, hK⟩ := hst
      exact wpAnyG_first h0 (Region.noSelect_spec hsel) hs hc hn hkn (fun listed' a' w1 hL => seqB_ready hL.1) rest.length listed a w0 inv (Region.free_spec h0 hf) hr' hy
        (wpAnyG_ord hsel hs hc hn rest _ _ _ (inv.set hr' hkn) hB' hK)
    | true =>
      simp only [if_true, decide_eq_true_eq] at hf
      unfold wpOrd at h
      refine ⟨fun e => (by rw [hf] at e; cases e), fun j hj => ?_⟩
      rw [hf, List.mem_singleton] at hj
      subst hj
      refine ⟨hkn, ?_⟩
      unfold gOp
      simp only [h0, h.1, if_true]
      refine .inr fun w hw => ?_
      obtain ⟨u, w', k1, k2, k3⟩ := h.2 w hw
      exact ⟨u, w', k1, k2, wpAnyG_ord hsel hs hc hn rest _ _ _ (inv.set hr' hkn) hB' k3⟩

def regB (l : List Oper) (n : Nat) (ord : List (Nat × Bool)) : Bool :=
  Region.noSelect l.toArray && decide (n < l.length) && Region.sinkB .any l.toArray n && Region.chainB .any l.toArray n && decide (ord.length = n) && ordB .any l.toArray n (l.length - n) ord (Array.replicate l.length false)

theorem wp_region_cone {id : Nat} {Q : Exit → Act → World → Prop} {a : Act} {w : World} {l : List Oper} (n : Nat) (ord : List (Nat × Bool)) (hm : P.follows .mixedOrders = true) (hB : regB l n ord = true)
    (h : wpOrd P l.toArray (fun a' w0 => ∀ w', Cone w0 w' → wpList P l.toArray Q (l.drop n) a' w') (ordO l ord) a w) : (Code.region id l.toArray true).wp P Q a w := by
  simp only [regB, Bool.and_eq_true, decide_eq_true_eq] at hB
  obtain ⟨⟨⟨⟨⟨hsel, hn⟩, hs⟩, hc⟩, hlen⟩, hord⟩ := hB
  have hn' : n < l.toArray.size := by simpa using hn
  have hdl : (l.drop n).length = l.length - n := by simp
  have inv0 : HeadInv .any l.toArray n (Array.replicate l.length false) :=
    ⟨by simp, fun j oj _ hl => (by rw [getD_replicate_false] at hl; cases hl), fun t _ ht => getD_in (by simpa using ht) (getD_replicate_false _ _)⟩
  have H := wpAnyG_ord (P := P) (md := .any) (g := l.length - n) hsel hs hc hn' ord (Array.replicate l.length false) a w inv0 hord h
  refine wp_region_any hm ?_
  have := wpAny_of_headG (Q' := Q) (g := l.length - n) (fun listed a' w1 w' hw' hL => by
    have := wpAny_of_seq (md := .any) (Q' := Q) (l.drop n) n listed a' w' (fun j => by simp [List.getElem?_drop]) (by rw [hdl]; exact hL.1) (hL.2 w' hw')
    rwa [hdl] at this) _ _ _ w { w with drawn := w.drawn + 1 } (Cone.of (Below.refl w.heap.size w).drew) H
  rw [hlen, show n + (l.length - n) = l.length by omega] at this
  simpa using this

/-- One quiet step. -/
theorem ord_quiet {Q : Act → World → Prop} {o : Oper} {rest : List (Oper × Bool)} {a : Act} {w0 : World}
    (h : ∀ K : Act → Prop, (∀ a, wpOrd P ops Q rest a w0 → K a) → if Region.wanted o (yielded ops a.tmps) = true then ∃ v, (∀ p : Regrown, upB P (Go.Sort.grow (redrawn w0 p.d) p.os) v ((execOp a.eval o).run P (Go.Sort.grow (redrawn w0 p.d) p.os))) ∧ K (a.put o.dst v) else K (a.put o.dst undef)) : wpOrd P ops Q ((o, false) :: rest) a w0 := by
  have h2 := h (fun a => wpOrd P ops Q rest a w0) (fun _ h => h)
  unfold wpOrd
  split
  · rename_i hw
    rw [if_pos hw] at h2
    obtain ⟨v, k1, k2⟩ := h2
    exact ⟨v, fun w ⟨p, hp⟩ => by subst hp; exact k1 p, k2⟩
  · rename_i hw
    rw [if_neg hw] at h2
    exact h2
/-- One value is laid as a slice of its own. -/
theorem ord_slice {Q : Act → World → Prop} {o : Oper} {rest : List (Oper × Bool)} {a : Act} {w0 : World} (hgd : o.guard = none) {t e : TypeId} {x : Operand} {u : Value} (ho : o.op = .buildSlice t 1 #[(0, x)])
    (hx : a.eval x = u) (hr : ∀ w, (execOp a.eval o).run P w = .ok (.value (.slice (some ⟨w.heap.size, 0, none⟩) 1 1)) (w.alloc (.cells #[u] e)))
    (h : ∀ w, Cone w0 w → wpOrd P ops Q rest (a.put o.dst (.slice (some ⟨w.heap.size, 0, none⟩) 1 1)) (w.alloc (.cells #[u] e))) : wpOrd P ops Q ((o, true) :: rest) a w0 := by
  unfold wpOrd
  exact ⟨by simp [Region.wanted, hgd], fun w hw => ⟨_, _, hr w, .of ((Below.refl _ _).alloc (Nat.le_refl _) _), h w hw⟩⟩
theorem up_val {w : World} {u : Value} : upB P w u (.ok (.value u) w) := ⟨rfl, rfl⟩
theorem up_call {w : World} {v : Value} {f : FuncId} {args : Array Value} (h : Calls P f args w (fun e w'' => e = .returned v ∧ Below w.heap.size w w'')) : upB P w v (.ok (.enter f args) w) := ⟨rfl, h⟩
end
end Go.Proofs.YtofomopmmopflaaGreatDoor
namespace Go.Proofs.YtofomopmmopflaaGreatDoor
open Go Go.RowKit Go.ChangeMaps
set_option linter.unusedSimpArgs false
set_option linter.unusedVariables false
/-- One object is laid as a slice of its own. -/
theorem ord_sliceN {P : Program} {ops : Array Oper} {Q : Act → World → Prop} {o : Oper} {rest : List (Oper × Bool)} {a : Act} {w0 : World} (hgd : o.guard = none) (n : Nat) (ob : Obj)
    (hr : ∀ w, (execOp a.eval o).run P w = .ok (.value (.slice (some ⟨w.heap.size, 0, none⟩) n n)) (w.alloc ob))
    (h : ∀ w, Cone w0 w → wpOrd P ops Q rest (a.put o.dst (.slice (some ⟨w.heap.size, 0, none⟩) n n)) (w.alloc ob)) : wpOrd P ops Q ((o, true) :: rest) a w0 := by
  unfold wpOrd
  exact ⟨by simp [Region.wanted, hgd], fun w hw => ⟨_, _, hr w, .of ((Below.refl _ _).alloc (Nat.le_refl _) _), h w hw⟩⟩
theorem text_at2 {w : World} {v : Value} {l : List ByteArray} (h : HasL w v l) {i : Nat} (hi : i < l.length) : ∃ b off n c, v = .slice (some ⟨b, off, none⟩) n c ∧ w.cell? ⟨b, off + i, none⟩ = some (.string (l.getD i ByteArray.empty)) := by
  rcases h with ⟨p, c, rfl, rfl, _⟩ | ⟨b, off, c, rfl, h1, h2, h3⟩
  · simp at hi
  · exact ⟨b, off, _, _, rfl, h3 i hi⟩
theorem getD_atZ {α : Type} {l : List α} {i : Nat} (d : α) (h : i < l.length) : l[i]? = some (l.getD i d) := by
  rw [List.getD_eq_getElem?_getD, List.getElem?_eq_getElem h]; rfl
end Go.Proofs.YtofomopmmopflaaGreatDoor
