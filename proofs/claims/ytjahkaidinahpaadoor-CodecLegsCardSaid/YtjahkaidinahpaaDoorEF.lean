/- make([]byte, n, c), copy(out, b). -/
import Derived.Test.YtjahkaidinahpaaDoorEP
import Derived.Laws.CopyOwn
import Derived.Laws.BitsAllLaws
namespace Go.Proofs.YtjahkaidinahpaaDoor
open Go.RowKit
set_option linter.unusedSimpArgs false
set_option linter.unusedVariables false
set_option maxRecDepth 20000

def zerosV (n : Nat) : List Value := List.replicate n (.int .u8 0)

theorem made_bytes (n : Nat) : madeCells #[.int .u8 0] n = (zerosV n).toArray := by
  apply Array.ext'
  simp only [madeCells, zerosV]
  apply List.ext_getElem?
  intro i
  by_cases hi : i < n
  · simp [List.getElem?_replicate, hi, Nat.mod_one]
  · simp [List.getElem?_replicate, hi]

/-- 'make([]byte, n, c)'. -/
theorem wpList_make_bytes {w : World} {ops : Array Oper} {rest : List Oper} {o : Oper} {a : Act} {Q : Exit → Act → World → Prop} (hgd : o.guard = none) (x y : Operand) (ho : o.op = .makeSlice 48 x y)
    (n c : Nat) {z z' : Int} (hx : a.eval x = .int .i64 z) (hy : a.eval y = .int .i64 z') (hzn : z = n) (hzc : z' = c) (hnc : n ≤ c) (hc : c ≤ 100000000)
    (h : ∀ w', Blk w' w.heap.size 5 (zerosV c) → Below w.heap.size w w' → w'.heap.size = w.heap.size + 1 → wpList Tryd.prog ops Q rest (a.put o.dst (.slice (some ⟨w.heap.size, 0, none⟩) n c)) w') :
    wpList Tryd.prog ops Q (o :: rest) a w := by
  subst hzn hzc
  obtain ⟨i0, hi, hz, hsz, hby⟩ := byte_info
  refine wpList_plain hgd fun K' hK' => ?_
  have hr := run_make (P := Tryd.prog) w 48 5 i0 _ Tryd.underlying48 hi hz .i64 .i64 (n : Int) (c : Int) (by omega) (by omega) (by rw [hby]; omega) (by omega)
  rw [hsz, Nat.mul_one] at hr
  simp only [Int.toNat_natCast] at hr
  unfold Oper.wp
  simp only [execOp, ho, hx, hy, hr, Sem.run_bind, Sem.run_pure, Result.andThen_ok, Sem.run_map]
  refine hK' _ _ (h _ ?_ ((Below.refl _ _).alloc (Nat.le_refl _) _) (by simp))
  have := Blk.new w 5 (zerosV c)
  rw [← made_bytes] at this
  exact this

theorem OwnB.of_blk {w : World} {B g c : Nat} {l : List UInt8} {t : List Value} (h : Blk w g 5 (l.flatMap byteC ++ t)) (hB : B ≤ g) (hc : l.length + t.length = c) (hm : c ≤ maxLen) : OwnB w B (.slice (some ⟨g, 0, none⟩) l.length c) l := by
  have hl : (l.flatMap byteC).length = l.length := by rw [cells_len byteC_len, Nat.mul_one]
  refine ⟨by rw [hl, Nat.mul_one], .inr ⟨g, c, _, rfl, hB, h, by omega, hm, by simp [hl]; omega, ?_⟩⟩
  rw [Nat.mul_one]
  simp [← hl]

/-- 'copy(out, b)' into a row that was made. -/
theorem wpList_copy_bytes {w : World} {ops : Array Oper} {rest : List Oper} {o : Oper} {a : Act} {Q : Exit → Act → World → Prop} (hgd : o.guard = none) (d s : Operand)
    (ho : o.op = .call { callee := .builtin .copy, args := #[d, s], argTypes := #[48, 48] })
    (g c : Nat) (vs : Value) (l : List UInt8) (hd : a.eval d = .slice (some ⟨g, 0, none⟩) l.length c) (hs : a.eval s = vs) (hlc : l.length ≤ c) (hc : c ≤ maxLen)
    (hg : Blk w g 5 (zerosV c)) (hh : HasE byteC w vs l) (B : Nat) (hB : B ≤ g)
    (h : ∀ w', OwnB w' B (.slice (some ⟨g, 0, none⟩) l.length c) l → Below B w w' → wpList Tryd.prog ops Q rest (a.put o.dst (.int .i64 (l.length : Nat))) w') :
    wpList Tryd.prog ops Q (o :: rest) a w := by
  have hl : (l.flatMap byteC).length = l.length := by rw [cells_len byteC_len, Nat.mul_one]
  obtain ⟨sp, sc, rfl⟩ := hh.len
  have hz : (zerosV c).length = c := by simp [zerosV]
  refine wpList_copy_splice hgd d s 48 48 ho 5 Tryd.underlying48 (by kernel_rfl) _ sp l.length c l.length sc hd hs g 0 (zerosV c) 5 hg (l.flatMap byteC) (by rw [hl]; exact (Nat.min_self _).symm) ?_ (by rw [hl, hz]; omega) ?_ B w (Below.refl _ _) hB ?_
  · intro hpos
    refine ⟨rfl, ?_⟩
    rcases hh with ⟨p, c', e, rfl, _⟩ | ⟨b, off, c', e, h1, h2, h3⟩
    · simp at hpos
    · injection e with e1 e2 e3
      refine ⟨_, e1, fun j v hj => ?_⟩
      rw [Addr.add_lit]
      exact h3 j v hj
  · intro v hv
    obtain ⟨b, _, hb⟩ := List.mem_flatMap.1 hv
    exact byteC_one b v hb
  · intro w' hid hb
    rw [hl]
    refine h w' ?_ hb
    have e : splice (zerosV c) 0 (l.flatMap byteC) = l.flatMap byteC ++ List.replicate (c - l.length) (.int .u8 0) := by
      simp [splice, zerosV, hl]
    have hid2 := hid.out
    rw [e] at hid2
    refine OwnB.of_blk hid2 hB ?_ hc
    simp
    omega
end Go.Proofs.YtjahkaidinahpaaDoor
