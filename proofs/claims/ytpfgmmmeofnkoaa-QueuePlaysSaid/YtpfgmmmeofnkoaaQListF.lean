/- queue.Remove. -/
import Derived.Test.YtpfgmmmeofnkoaaQListE
import Derived.Shelf.SlicesE.Delete
import Derived.Shelf.SlGeneric
import Derived.Ground.SlgnProg
import Derived.Sort.OwnSorted
namespace Go.Proofs.Ytpfgmmmeofnkoaa
open Go.RowKit Go.Sort Go.Proofs Go.Lib Go.Shelf

def sh_ldel_ren : Go.Shelf.Ren := ⟨fun | 45 => 30 | n => n, fun | 22 => 22 | 23 => 9 | 3 => 3 | 4 => 4 | 0 => 0 | n => n, fun | n => n⟩
theorem sh_ldel : Go.Proofs.SlLaysE.n45 Try.prog sh_ldel_ren := {
  mixed := by kernel_rfl
  f45 := ⟨Try.f30.name, by decide, Try.func30.trans (congrArg some (by kernel_rfl))⟩
  t0 := Try.underlying0
  a0 := Try.isAgg0
  z0 := Try.sizeOf0
  v0 := Try.zeroValue0
  t3 := Try.underlying3
  a3 := Try.isAgg3
  z3 := Try.sizeOf3
  v3 := Try.zeroValue3
  t4 := Try.underlying4
  a4 := Try.isAgg4
  z4 := Try.sizeOf4
  v4 := Try.zeroValue4
  t22 := Try.underlying22
  a22 := Try.isAgg22
  z22 := Try.sizeOf22
  v22 := Try.zeroValue22
  a23 := Try.isAgg9
  z23 := Try.sizeOf9 }

theorem put_heap {w : World} {g n : Nat} {cur : Array Value} {e : TypeId} {fr : Nat × Nat} (d : Array ByteArray) (hb : w.heap[g]? = some (.cells cur e fr)) :
    (putRow Value.string (Sort.ahead w n) g 0 d).heap[g]? = some (.cells (putCells Value.string 0 d cur) e fr) := by
  simp [putRow, mapBlock, Sort.ahead, Array.getElem?_modify, hb, onCells]

theorem put_grown {w : World} {g n : Nat} (d : Array ByteArray) : w.grownBy (putRow Value.string (Sort.ahead w n) g 0 d) (some g) := by
  refine ⟨rfl, rfl, rfl, by simp, fun k hk hne => ?_⟩
  have : g ≠ k := fun e => hne (by rw [e])
  simp [putRow, mapBlock, Sort.ahead, Array.getElem?_modify, this]

theorem put_take (cur : Array Value) (ts us : List ByteArray) (h : ts.length + us.length ≤ cur.size) : (putCells Value.string 0 (ts ++ us).toArray cur).toList.take ts.length = strV ts := by
  apply List.ext_getElem?
  intro j
  by_cases hj : j < ts.length
  · rw [List.getElem?_take_of_lt hj, Array.getElem?_toList]
    simp [putCells, strV, hj, show j < cur.size by omega, show j < ts.length + us.length by omega, List.getElem_append_left hj]
  · rw [List.getElem?_take_eq_none (by omega), List.getElem?_eq_none (by simp [strV]; omega)]

theorem holds_own {w : World} {g : Nat} {cur : Array Value} {e : TypeId} {l : List ByteArray} (hb : w.heap[g]? = some (.cells cur e (0, 0))) (ht : cur.toList.take l.length = strV l) : Holds Value.string w g 0 l.toArray := by
  intro j hj
  have hj' : j < l.length := by simpa using hj
  refine ⟨?_, by simp [World.frozen?, hb]⟩
  have h1 : (cur.toList.take l.length)[j]? = (strV l)[j]? := by rw [ht]
  rw [List.getElem?_take_of_lt hj'] at h1
  simp only [World.cell?, hb, Nat.zero_add]
  simp only [Option.isSome_none, Bool.false_eq_true, if_false]
  rw [← Array.getElem?_toList, h1]
  simp [strV, hj']

theorem delete_any (l : List ByteArray) (k B : Nat) (v : Value) (w : World) (hv : OwnL w B v l) (hk : k < l.length) (hB : B ≤ w.heap.size) :
    Calls Try.prog 30 #[v, .int .i64 k, .int .i64 (k + 1 : Nat)] w fun e w' => ∃ v', e = .returned v' ∧ OwnL w' B v' (cutL l k) ∧ Below B w w' := by
  obtain ⟨i0, hi, hz0, hz1, hz2⟩ := str_info
  rcases hv.2 with ⟨_, h0⟩ | ⟨g, cap, cur, rfl, hbase, hb, hcap, hm, hsz, ht⟩
  · omega
  have hH := holds_own (l := l) hb (by simpa using ht)
  have C := AnyE.slices_Delete sh_ldel Value.string (fun _ => rfl) ⟨#[]⟩ Try.zeroValue9 i0 hi hz1 g 0 cap k (k + 1) l.toArray w hH (by simpa using hcap) (by unfold maxLen at hm; omega) (by omega) (by simp; omega)
  change Calls Try.prog 30 _ _ _ at C
  simp only [List.size_toArray] at C
  refine C.mono ?_
  rintro e w' ⟨rfl, q, rfl⟩
  have e1 : k + 1 - k = 1 := by omega
  have hcl : (cutL l k).length = l.length - 1 := by simp [cutL]; omega
  refine ⟨_, rfl, ?_, ?_⟩
  · unfold OwnL
    rw [hcl, e1]
    refine ⟨by rw [strV_len, hcl]; omega, .inr ⟨g, cap, _, rfl, hbase, put_heap _ hb, by omega, hm, by simp [putCells, hsz], ?_⟩⟩
    rw [Nat.mul_one, ← hcl]
    exact put_take cur (cutL l k) [⟨#[]⟩] (by rw [hcl]; simp; omega)
  · exact (Below.refl B w).grown (put_grown _) hB fun j hj => by injection hj with hj; omega

set_option maxHeartbeats 4000000 in
theorem remove_any (l : List ByteArray) (v : Value) (s : ByteArray) (w : World) (hv : HasL w v l) (hl : l.length ≤ 100000) :
    Calls Try.prog 19 #[v, .string s] w fun e w' => ∃ v', e = .returned (.tuple #[v', .int .i64 (remE l s)]) ∧ OwnL w' w.heap.size v' (remL l s) ∧ Below w.heap.size w w' := by
  have CA := index_any l v s w hv (by omega)
  rcases atL_range l s with h0 | ⟨h0, h1⟩
  · have e1 : remE l s = 9 := by rw [remE, if_pos (by omega)]
    have e2 : remL l s = [] := by rw [remL, if_pos (by omega)]
    rw [e1, e2]
    rw [h0] at CA
    have HA := Lib.hid CA
    clear CA e1 e2 h0 hv
    go_enter Try.func19, Try.ntmps19
    go_wp2_with (go_at_call 29; (with_reducible refine HA.out.mono ?_); rintro e w1 ⟨rfl, rfl⟩)
    go_ret2
    exact ⟨_, rfl, OwnL.nil _ _, Below.refl _ _⟩
  · obtain ⟨k, hk⟩ := Int.eq_ofNat_of_zero_le h0
    rw [hk] at h1 CA
    have hkl : k < l.length := by omega
    have e1 : remE l s = 0 := by rw [remE, if_neg (by omega)]
    have e2 : remL l s = cutL l k := by rw [remL, if_neg (by omega), hk]; rfl
    rw [e1, e2]
    have CC := clone_any l v w hv (by omega)
    have CD : ∀ (W : World) v', OwnL W w.heap.size v' l → w.heap.size ≤ W.heap.size → Calls Try.prog 30 #[v', .int .i64 k, .int .i64 ((k : Int) + 1)] W fun e w' => ∃ v2, e = .returned v2 ∧ OwnL w' w.heap.size v2 (cutL l k) ∧ Below w.heap.size W w' := fun W v' h h2 => delete_any l k w.heap.size v' W h hkl h2
    have HA := Lib.hid CA
    have HC := Lib.hid CC
    have HD := Lib.hid CD
    have hk0 : (0 : Int) ≤ (k : Int) := by omega
    have hk1 : (k : Int) ≤ 100000 := by omega
    clear CA CC CD e1 e2 h0 h1 hk hv
    go_enter Try.func19, Try.ntmps19
    go_wp2_with (first
      | (go_at_call 29; (with_reducible refine HA.out.mono ?_); rintro e w1 ⟨rfl, rfl⟩)
      | (go_at_call 21; (with_reducible refine HC.out.mono ?_); rintro e w2 ⟨v2, rfl, ho2, hb2⟩; have HO := Lib.hid ho2; clear ho2)
      | (go_at_call 30; refine (HD.out _ _ HO.out hb2.size).mono ?_; rintro e w3 ⟨v3, rfl, ho3, hb3⟩; have HO3 := Lib.hid ho3; clear ho3))
    go_ret2
    exact ⟨_, rfl, HO3.out, hb2.trans hb3⟩

theorem putE_room {l : List ByteArray} {s : ByteArray} (h : putE l s = 0) : l.length < 40 := by
  unfold putE at h
  split at h
  · cases h
  · split at h
    · cases h
    · split at h
      · cases h
      · omega

theorem own_apart {wr w1 : World} {B : Nat} {e e' : TypeId} {v v' : Value} {n n' : Nat} {xs xs' : List Value} (h : wr.ownsRow B e 1 v n xs) (h' : w1.ownsRow wr.heap.size e' 1 v' n' xs') : v'.ownBlock = none ∨ v'.ownBlock ≠ v.ownBlock := by
  cases hv : v'.ownBlock with
  | none => exact .inl rfl
  | some k =>
    right
    intro hk
    have h1 := (h.lt k hk.symm).2
    have h2 := (h'.lt k hv).1
    omega

end Go.Proofs.Ytpfgmmmeofnkoaa
