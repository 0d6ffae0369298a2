/- Any number in decimal digits: strconv.Itoa (its contract laid by the shelf's plain mode), jetwayref08.Digits; the command's entry: entry.text. -/
import Derived.Test.YtjahkaidinahpaaDoorNK
import Derived.Shelf.Strconv.Itoa0
import Derived.Shelf.Strconv.Itoa1
import Derived.Shelf.LaysM
import Derived.Shelf.Strconv.Itoa2
import Derived.Shelf.Strconv.Itoa3
namespace Go.Proofs.YtjahkaidinahpaaDoor.En
open Go.Shelf
def itoaRen : Go.Shelf.Ren := ⟨fun | 171 => 149 | 243 => 185 | 246 => 191 | 283 => 194 | 284 => 195 | 285 => 196 | 286 => 197 | 129 => 199 | 317 => 198 | 318 => 200 | 319 => 201 | 320 => 202 | 337 => 203 | 338 => 204 | n => n, fun | 3 => 3 | 9 => 9 | 2 => 2 | 4 => 4 | 171 => 221 | 0 => 0 | 53 => 112 | 37 => 48 | 5 => 5 | 173 => 224 | 212 => 226 | 51 => 205 | 20 => 20 | 213 => 227 | 46 => 157 | 232 => 231 | 233 => 232 | n => n, fun | 17 => 1 | 18 => 2 | 19 => 3 | n => n⟩
theorem itoaLays : Go.Proofs.LaysM.n171 Tryd.prog itoaRen := {
  mixed := by kernel_rfl
  f129 := Tryd.func199.trans (congrArg some (by kernel_rfl))
  f171 := Tryd.func149.trans (congrArg some (by kernel_rfl))
  f243 := Tryd.func185.trans (congrArg some (by kernel_rfl))
  f246 := Tryd.func191.trans (congrArg some (by kernel_rfl))
  f283 := Tryd.func194.trans (congrArg some (by kernel_rfl))
  f284 := Tryd.func195.trans (congrArg some (by kernel_rfl))
  f285 := Tryd.func196.trans (congrArg some (by kernel_rfl))
  f286 := Tryd.func197.trans (congrArg some (by kernel_rfl))
  f317 := Tryd.func198.trans (congrArg some (by kernel_rfl))
  f318 := Tryd.func200.trans (congrArg some (by kernel_rfl))
  f319 := Tryd.func201.trans (congrArg some (by kernel_rfl))
  f320 := Tryd.func202.trans (congrArg some (by kernel_rfl))
  f337 := Tryd.func203.trans (congrArg some (by kernel_rfl))
  f338 := Tryd.func204.trans (congrArg some (by kernel_rfl))
  t0 := Tryd.underlying0
  a0 := Tryd.isAgg0
  z0 := Tryd.sizeOf0
  v0 := Tryd.zeroValue0
  t2 := Tryd.underlying2
  a2 := Tryd.isAgg2
  z2 := Tryd.sizeOf2
  v2 := Tryd.zeroValue2
  t3 := Tryd.underlying3
  a3 := Tryd.isAgg3
  z3 := Tryd.sizeOf3
  v3 := Tryd.zeroValue3
  t4 := Tryd.underlying4
  a4 := Tryd.isAgg4
  z4 := Tryd.sizeOf4
  v4 := Tryd.zeroValue4
  t5 := Tryd.underlying5
  a5 := Tryd.isAgg5
  z5 := Tryd.sizeOf5
  v5 := Tryd.zeroValue5
  t9 := Tryd.underlying9
  a9 := Tryd.isAgg9
  z9 := Tryd.sizeOf9
  v9 := Tryd.zeroValue9
  t20 := Tryd.underlying20
  a20 := Tryd.isAgg20
  z20 := Tryd.sizeOf20
  v20 := Tryd.zeroValue20
  t37 := Tryd.underlying48
  a37 := Tryd.isAgg48
  z37 := Tryd.sizeOf48
  v37 := Tryd.zeroValue48
  t46 := Tryd.underlying157
  a46 := Tryd.isAgg157
  z46 := Tryd.sizeOf157
  v46 := Tryd.zeroValue157
  t51 := Tryd.underlying205
  a51 := Tryd.isAgg205
  z51 := Tryd.sizeOf205
  v51 := Tryd.zeroValue205
  t53 := Tryd.underlying112
  a53 := Tryd.isAgg112
  z53 := Tryd.sizeOf112
  v53 := Tryd.zeroValue112
  t171 := Tryd.underlying221
  a171 := Tryd.isAgg221
  z171 := Tryd.sizeOf221
  v171 := Tryd.zeroValue221
  t173 := Tryd.underlying224
  a173 := Tryd.isAgg224
  z173 := Tryd.sizeOf224
  v173 := Tryd.zeroValue224
  t212 := Tryd.underlying226
  a212 := Tryd.isAgg226
  z212 := Tryd.sizeOf226
  v212 := Tryd.zeroValue226
  t213 := Tryd.underlying227
  a213 := Tryd.isAgg227
  z213 := Tryd.sizeOf227
  t232 := Tryd.underlying231
  a232 := Tryd.isAgg231
  z232 := Tryd.sizeOf231
  v232 := Tryd.zeroValue231
  t233 := Tryd.underlying232
  a233 := Tryd.isAgg232
  z233 := Tryd.sizeOf232
  v233 := Tryd.zeroValue232
  g17 := by kernel_rfl
  g18 := by kernel_rfl
  g19 := by kernel_rfl
  i0 := by kernel_rfl
  i2 := by kernel_rfl
  i3 := by kernel_rfl
  i4 := by kernel_rfl
  i5 := by kernel_rfl
  i9 := by kernel_rfl
  i20 := by kernel_rfl
  i37 := by kernel_rfl
  i46 := by kernel_rfl
  i51 := by kernel_rfl
  i53 := by kernel_rfl
  i171 := by kernel_rfl
  i173 := by kernel_rfl
  i212 := by kernel_rfl
  i232 := by kernel_rfl
  i233 := by kernel_rfl
  m17 := by kernel_rfl
  m18 := by kernel_rfl
  m19 := by kernel_rfl }
open Go.RowKit Go.Sort Go.Lib in
/-- The number in decimal digits. -/
theorem shelfItoa (n : Int) (h0 : -9223372036854775808 ≤ n) (h1 : n ≤ 9223372036854775807) (w : World) (htab : Lib.TabIs Tryd.prog w "internal/strconv.uint64pow10" .u64 Lib.pow10Tab) :
    Calls Tryd.prog 149 #[.int .i64 n] w fun e w' => e = .returned (.string ⟨(Lib.itoa n).toArray⟩) ∧ ∃ k os, w' = grow (w.drewN k) os := Any.strconv_Itoa itoaLays n h0 h1 w htab

open Go.RowKit
set_option linter.unusedSimpArgs false
set_option linter.unusedVariables false
set_option maxRecDepth 100000

/-- The table of powers of ten lies where it lay. -/
def PowTab (w : World) : Prop := Lib.TabIs Tryd.prog w "internal/strconv.uint64pow10" .u64 Lib.pow10Tab
theorem powTab_keep {w w' : World} (h : PowTab w) (hb : Below w.heap.size w w') : PowTab w' := by
  unfold PowTab Lib.TabIs World.var? at h ⊢
  rw [Option.bind_eq_some_iff] at h ⊢
  obtain ⟨g, h1, h2⟩ := h
  refine ⟨g, h1, ?_⟩
  have hg : g < w.heap.size := by
    rcases Nat.lt_or_ge g w.heap.size with h3 | h3
    · exact h3
    · rw [Array.getElem?_eq_none h3] at h2
      cases h2
  rw [hb.block g hg]
  exact h2

theorem dec_dig (n : Nat) : Lib.decDigits n = digL n := by
  induction n using Nat.strongRecOn with
  | ind n ih =>
    rw [Lib.decDigits]
    by_cases h : n < 10
    · rw [dif_pos h, digL_lt h]
      unfold dch
      rw [show n % 10 = n by omega]
    · rw [dif_neg h, digL_ge h, ih (n / 10) (by omega)]
      rfl
theorem itoa_eq (n : Int) : Lib.itoa n = itoaL n := by
  unfold Lib.itoa itoaL
  rw [dec_dig, dec_dig]

theorem below_grow {w : World} (k : Nat) (os : Array Obj) : Below w.heap.size w (Sort.grow (w.drewN k) os) :=
  ⟨rfl, rfl, rfl, by simp [Sort.grow, World.drewN], fun i hi => by simp [Sort.grow, World.drewN, Array.getElem?_append, hi]⟩

theorem itoa_m (n : Int) (hn : (Lit.int .i64 n).wf = true) (w : World) (ht : PowTab w) : Calls Tryd.prog 149 #[.int .i64 n] w fun e w' => e = .returned (txV (itoaL n)) ∧ Below w.heap.size w w' := by
  have hb : -9223372036854775808 ≤ n ∧ n ≤ 9223372036854775807 := by
    have h := hn
    simp [Lit.wf, IntKind.min, IntKind.max, IntKind.signed, IntKind.bits] at h
    omega
  refine (shelfItoa n hb.1 hb.2 w ht).mono ?_
  rintro e w' ⟨rfl, k, os, rfl⟩
  rw [itoa_eq]
  exact ⟨rfl, below_grow k os⟩
end Go.Proofs.YtjahkaidinahpaaDoor.En
