/- The law CodecRows. -/
import Derived.Test.YtjahkaidinahpaaDoorFA
namespace Go.Proofs.YtjahkaidinahpaaDoor
open Go.RowKit Go.ChangeMaps
set_option linter.unusedSimpArgs false
set_option linter.unusedVariables false
set_option maxRecDepth 20000

def strE (s : ByteArray) : List Value := [.string s]
theorem strE_len (s : ByteArray) : (strE s).length = 1 := rfl
theorem strE_one (s : ByteArray) : ∀ v ∈ strE s, v.oneCell' = true := by
  intro v hv
  simp [strE] at hv
  subst hv
  rfl
theorem flat_strE : ∀ (l : List ByteArray), l.flatMap strE = strV l
  | [] => rfl
  | s :: l => by rw [List.flatMap_cons, flat_strE l]; rfl

theorem has_strE {w : World} {v : Value} {l : List ByteArray} (h : HasL w v l) : HasE strE w v l := by
  rcases h with h | ⟨b, off, c, rfl, h1, h2, h3⟩
  · exact .inl h
  · refine .inr ⟨b, off, c, rfl, h1, h2, fun j u hj => ?_⟩
    rw [flat_strE] at hj
    have hjl : j < l.length := by
      rcases Nat.lt_or_ge j l.length with hlt | hge
      · exact hlt
      · rw [List.getElem?_eq_none (by rw [strV_len]; exact hge)] at hj; cases hj
    rw [strV_get hjl] at hj
    injection hj with hj
    rw [h3 j hjl, hj]

theorem own_lit0 (w : World) (e : TypeId) (size : Nat) (B : Nat) (hB : B ≤ w.heap.size) : (w.alloc (.cells #[] e)).ownsRow B e size (.slice (some ⟨w.heap.size, 0, none⟩) 0 0) 0 [] := by
  refine ⟨by simp, .inr ⟨w.heap.size, 0, #[], rfl, hB, heap_alloc_new w _, Nat.le_refl _, Nat.zero_le _, by simp, by simp⟩⟩

/-- 'append([]string{}, l...)'. -/
theorem wpList_copied_strs {w : World} {ops : Array Oper} {rest : List Oper} {o : Oper} {a : Act} {Q : Exit → Act → World → Prop} (hgd : o.guard = none) (x y : Operand)
    (ho : o.op = .call { callee := .builtin .append, args := #[x, y], argTypes := #[24, 24] })
    (hs : a.eval x = .slice (some ⟨w.heap.size, 0, none⟩) 0 0) (vs : Value) (l : List ByteArray) (hx : a.eval y = vs) (hh : HasL w vs l) (hl : l.length ≤ 1000000)
    (h : ∀ v' w', OwnL w' w.heap.size v' l → Below w.heap.size w w' → wpList Tryd.prog ops Q rest (a.put o.dst v') w') :
    wpList Tryd.prog ops Q (o :: rest) a (w.alloc (.cells #[] 9)) := by
  obtain ⟨i0, hi, hz, hsz, hby⟩ := str_info
  refine wpList_append_big (enc := strE) (st := 1) strE_len strE_one (by decide) hgd x y 24 ho w.heap.size 9 i0 _ 16 Tryd.underlying24 hi hz hsz hby rfl (.slice (some ⟨w.heap.size, 0, none⟩) 0 0) [] hs (own_lit0 _ _ _ _ (Nat.le_refl _)) vs l hx ((has_strE hh).mono ((Below.refl _ _).alloc (Nat.le_refl _) _)) ?_ ?_ (by simp) ?_
  · rw [List.length_nil, Nat.zero_add]; unfold maxLen; omega
  · rw [List.length_nil, Nat.zero_add]; omega
  · intro v' w' ho' _ hb
    rw [List.nil_append, flat_strE] at ho'
    exact h v' w' ho' (((Below.refl _ _).alloc (Nat.le_refl _) _).trans hb)

theorem readQ_few {b : List UInt8} {l : List ByteArray} (h : readQ b = some (l.map toL)) : l.length ≤ 40 := by
  unfold readQ at h
  cases hp : pQueue b with
  | none => rw [hp] at h; cases h
  | some l' =>
    rw [hp] at h
    simp only at h
    by_cases hq : queueF l' = some b
    · rw [if_pos hq] at h
      injection h with h
      subst h
      rcases Nat.lt_or_ge 40 l.length with hlt | hge
      · have := queueB_long hlt
        unfold queueB at this
        rw [this] at hq
        cases hq
      · exact hge
    · rw [if_neg hq] at h; cases h

/-- Texts that came in. -/
def Texts (w : World) (v : Value) (l : List ByteArray) : Prop := HasL w v l ∧ l.length ≤ maxLen ∧ ∀ s ∈ l, s.size ≤ maxLen
/-- Bytes that came in. -/
def Bytes (w : World) (v : Value) (b : List UInt8) : Prop := HasE byteC w v b

theorem toldB {o : Option (List UInt8)} {B : Nat} {e1 e2 : Ending} {w1 : World} (h1 : byP B o e1 w1) (h2 : stP o e2)  :
    ∃ (v : Value) (z : Int) (t : ByteArray) (b : Bool), e1 = .returned (.tuple #[v, .int .i64 z]) ∧ e2 = .returned (.tuple #[.string t, .bool b]) ∧ ∀ W, Below w1.heap.size w1 W → Calls Tryd.prog 20 #[v, .int .i64 z, .string t, .bool b] W fun e w' => e = .returned (.bool true) ∧ W = w' := by
  rcases h1 with ⟨bs, v, ho, rfl, hv⟩ | ⟨ho, rfl⟩
  · rcases h2 with ⟨bs2, ho2, rfl⟩ | ⟨ho2, rfl⟩
    · rw [ho] at ho2
      injection ho2 with ho2
      subst ho2
      exact ⟨_, _, _, _, rfl, rfl, fun W hW => told_yes v bs W (hv.has.mono hW)⟩
    · rw [ho] at ho2; cases ho2
  · rcases h2 with ⟨bs2, ho2, rfl⟩ | ⟨ho2, rfl⟩
    · rw [ho] at ho2; cases ho2
    · exact ⟨_, _, _, _, rfl, rfl, fun W _ => told_no _ W⟩
theorem liP_form {B : Nat} {o : Option (List (List UInt8))} {e : Ending} {w : World} (h : liP B o e w) : ∃ v z, e = .returned (.tuple #[v, .int .i64 z]) := by
  rcases h with ⟨l, v, _, h, _⟩ | ⟨_, h⟩
  · exact ⟨_, _, h⟩
  · exact ⟨_, _, h⟩

theorem ctP_form {o : Option (Nat × Nat)} {e : Ending} (h : ctP o e) : ∃ (n m : Nat) (z : Int), e = .returned (.tuple #[.agg #[.int .i64 n, .int .i64 m], .int .i64 z]) := by
  rcases h with ⟨n, m, _, h⟩ | ⟨_, h⟩
  · exact ⟨n, m, _, h⟩
  · exact ⟨0, 0, _, h⟩

theorem readB {B B2 : Nat} {o : Option (List (List UInt8))} {b : List UInt8} (ho : o = readQ b) {e1 e2 : Ending} {w1 w2 : World} (h1 : liP B o e1 w1) (h2 : rliP B2 o e2 w2) (hb : Below w1.heap.size w1 w2) :
    ∃ (v : Value) (z : Int) (v2 : Value) (y : Bool), e1 = .returned (.tuple #[v, .int .i64 z]) ∧ e2 = .returned (.tuple #[v2, .bool y]) ∧ (∀ W, Below w2.heap.size w2 W → Calls Tryd.prog 25 #[v, v2] W fun e w' => e = .returned (.bool true) ∧ Below W.heap.size W w') ∧ (y = true ∧ z = 0 ∨ y = false ∧ z = 4) := by
  rcases h1 with ⟨l, v, ho1, rfl, hv⟩ | ⟨ho1, rfl⟩
  · rcases h2 with ⟨l2, v2, ho2, rfl, hv2⟩ | ⟨ho2, rfl⟩
    · have hl : l = l2 := by
        rw [ho1] at ho2
        injection ho2 with ho2
        exact (List.map_inj_right (fun a b e => toL_inj e)).1 ho2
      subst hl
      have hf := readQ_few (ho.symm.trans ho1)
      exact ⟨_, _, _, _, rfl, rfl, fun W hW => same_true l v v2 W ((hv.has.mono hb).mono hW) (hv2.has.mono hW) (by omega), .inl ⟨rfl, rfl⟩⟩
    · rw [ho1] at ho2; cases ho2
  · rcases h2 with ⟨l2, v2, ho2, rfl, hv2⟩ | ⟨ho2, rfl⟩
    · rw [ho1] at ho2; cases ho2
    · exact ⟨_, _, _, _, rfl, rfl, fun W hW => same_true [] _ _ W (HasL.nil _) (HasL.nil _) (by simp), .inr ⟨rfl, rfl⟩⟩

theorem countB {o : Option (Nat × Nat)} {e1 e2 : Ending} (h1 : ctP o e1) (h2 : rctP o e2) :
    ∃ (n m : Nat) (z : Int) (y : Bool), e1 = .returned (.tuple #[.agg #[.int .i64 n, .int .i64 m], .int .i64 z]) ∧ e2 = .returned (.tuple #[.int .i64 n, .int .i64 m, .bool y]) ∧ (y = true ∧ z = 0 ∨ y = false ∧ z = 4) := by
  rcases h1 with ⟨n, m, ho1, rfl⟩ | ⟨ho1, rfl⟩
  · rcases h2 with ⟨n2, m2, ho2, rfl⟩ | ⟨ho2, rfl⟩
    · rw [ho1] at ho2
      injection ho2 with ho2
      injection ho2 with ha hb
      subst ha hb
      exact ⟨_, _, _, _, rfl, rfl, .inl ⟨rfl, rfl⟩⟩
    · rw [ho1] at ho2; cases ho2
  · rcases h2 with ⟨n2, m2, ho2, rfl⟩ | ⟨ho2, rfl⟩
    · rw [ho1] at ho2; cases ho2
    · exact ⟨0, 0, _, _, rfl, rfl, .inr ⟨rfl, rfl⟩⟩
end Go.Proofs.YtjahkaidinahpaaDoor
