/- ShowAvail: for every input the law returns true, and each argument reads as it read before; the listed tables are tied. -/
import Derived.Test.YtahghakpmjfefaaDoorSLF
import Derived.Test.YtahghakpmjfefaaDoorCards
import Derived.Test.YtahghakpmjfefaaDoorTie
import Derived.WalkKit
import Derived.ProofKit
import Derived.OpenShut
import Derived.ShutString
import Derived.ChangeOld
import Derived.Below
import Derived.Deep.DeepHandedRow
import Derived.Lib.LaidTab
import Derived.Stop.LaidErr
import Derived.Shelf.Vars
namespace Go.Proofs.YtahghakpmjfefaaDoor.showAvail
open Go.ChangeShapes Go.WideShapes Go.ChangeAt Go.RowKit
open Go.ChangeMaps (open_string shut_string)
set_option linter.unusedVariables false

theorem own : ownKnob Tryd.prog.godebug = none := by kernel_rfl
theorem laidOut : laidOutB Tryd.prog = true := by kernel_rfl

theorem cellM {W : World} (h : W.ShapedOpen Tryd.prog) : Sh.MaxCell W :=
  Go.Proofs.cell_of_shapedOpen_int (P := Tryd.prog) (g := 2) (t := 3) (zero := #[.int .i64 0]) h (of_decide_eq_true (by kernel_rfl)) (by kernel_rfl) rfl (by kernel_rfl) (by kernel_rfl) Tryd.underlying3
theorem tableD {W : World} (h : laidMet Tryd.prog Rows.showAvailRow.laid W) : Da.LenTab W := by
  have ht : Lib.TabIs Tryd.prog W "jetway/date.lengths" .i64 [31, 29, 31, 30, 31, 30, 31, 31, 30, 31, 30, 31] :=
    Lib.tabIs_of_head (n := 12) (t := 133) (e := 3) (g := 0) (by kernel_rfl) (by kernel_rfl) Tryd.underlying133 Tryd.underlying3 (by kernel_rfl) (by kernel_rfl) h
  unfold Lib.TabIs World.var? at ht
  rw [show Tryd.prog.globalNamed "jetway/date.lengths" = some 0 by kernel_rfl, Option.bind_some] at ht
  split at ht
  · next cs t fr hg =>
    injection ht with ht
    exact ⟨t, fr, by rw [hg, ht]; rfl⟩
  · cases ht
theorem tableP {W : World} (h : laidMet Tryd.prog Rows.showAvailRow.laid W) : En.PowTab W :=
  Lib.tabIs_of_head (n := 20) (t := 156) (e := 147) (g := 1) (by kernel_rfl) (by kernel_rfl) Tryd.underlying156 Tryd.underlying147 (by kernel_rfl) (by kernel_rfl) (laidMet.tail (laidMet.tail (laidMet.tail h)))

set_option maxRecDepth 100000 in
theorem contract (H : Type) (enc : TypeId × Value → H) (W : World) (base : Nat) (args : Array Value) (ds gs : List (DataW H)) (before : List MemPlace)
    (hval0 : ∀ (j : Nat) t v, Tryd.f4.params[j]? = some t → args[j]? = some v → Value.okWide Tryd.prog W .any base t v)
    (hW : DataW.Whole enc Tryd.prog Tryd.f4.params.toList Rows.showAvailSpec.vars false W args.toList ds gs before) (hL : laidMetH Tryd.prog Rows.showAvailRow.laid W) (hsh : W.ShapedOpen Tryd.prog) :
    Calls Tryd.prog 4 args W fun e W' => ∃ v, e = .returned v ∧ Rows.showAvailSpec.post enc Tryd.prog Tryd.f4 false true false false W args v W' := by
  have hval : ∀ (j : Nat) t v, Tryd.f4.params[j]? = some t → args[j]? = some v → Value.okWide Tryd.prog W .any base t v := hval0
  have hW' := hW
  obtain ⟨p, q, hA0, hV, rfl, hfz, hnd⟩ := hW
  have hA : DataW.TrodAll enc Tryd.prog W 0 (fun _ => true) true Tryd.f4.params.toList args.toList ds p := hA0
  rw [Tryd.params4] at hA hval
  obtain ⟨v0, vs0, d0, ds0, p0, q0, hargs, rfl, rfl, h0, r0⟩ := trodAll_cons hA
  obtain ⟨v1, vs1, d1, ds1, p1, q1, rfl, rfl, rfl, h1, r1⟩ := trodAll_cons r0
  obtain ⟨v2, vs2, d2, ds2, p2, q2, rfl, rfl, rfl, h2, r2⟩ := trodAll_cons r1
  obtain ⟨rfl, rfl, rfl⟩ := trodAll_nil r2
  obtain rfl : args = #[v0, v1, v2] := by cases args; simp_all
  obtain ⟨rfl, rfl⟩ := trodVars_none hV
  obtain ⟨a0, rfl, rfl, rfl, w0⟩ := open_int Tryd.underlying3 (hval 0 3 v0 rfl rfl) h0
  have k1 := h1
  have lt1 : ∀ x ∈ p1, x.block < W.heap.size := by obtain ⟨m, hm⟩ := k1; exact DataW.trod_lt m _ _ _ hm
  obtain ⟨a1, w1⟩ := Sh.open_endsV (hval 1 34 v1 rfl rfl) h1
  obtain ⟨ap2, len2, cap2, rfl⟩ := okWide_slice Tryd.underlying35 (hval 2 35 v2 rfl rfl)
  have k2 := h2
  have lt2 : ∀ x ∈ p2, x.block < W.heap.size := by obtain ⟨m, hm⟩ := k2; exact DataW.trod_lt m _ _ _ hm
  obtain ⟨a2, w2⟩ : ∃ l, Sh.LinesIn W (.slice ap2 len2 cap2) l := by
    obtain ⟨fuel, hf⟩ := h2
    exact Sh.open_linesE hf
  clear hA0 hval0
  have hTD := tableD hL
  have hTP := tableP hL
  have hTM := cellM hsh
  refine (Sh.showAvail_walk a0 w0 v1 a1 (.slice ap2 len2 cap2) a2 W w1 w2 hTD hTP hTM).mono fun e W' ⟨he, bel⟩ => ?_
  subst he
  exact ⟨_, rfl, _, _, _, [], _, [], hW', trodAll_mk1 (shut_bool Tryd.underlying4 _), (trodAll_cons_mk (shut_int Tryd.underlying3 w0) (trodAll_cons_mk (Below.trod laidOut (by kernel_rfl) (of_decide_eq_true (by kernel_rfl)) k1 bel lt1) (trodAll_cons_mk (Below.trod laidOut (by kernel_rfl) (of_decide_eq_true (by kernel_rfl)) k2 bel lt2) trodAll_mk0))), rfl, bel.frame _, fun h => by cases h⟩

def leafV {H : Type} : DataW H → List Value
  | .lit (.int k x) => [.int k x]
  | _ => []
def flat1 {H : Type} : DataW H → List Value
  | .agg ds => ds.flatMap leafV
  | d => leafV d
def flat2 {H : Type} : DataW H → List Value
  | .agg ds => ds.flatMap flat1
  | d => flat1 d
def withCells (cs : List Value) : Obj → Obj
  | .cells _ t frozen => .cells cs.toArray t frozen
  | o => o
noncomputable def laidWorld (os : Os) : World :=
  { World.holding Tryd.prog os ⟨#[], #[], []⟩ with heap := (((((((World.holding Tryd.prog os ⟨#[], #[], []⟩).heap.modify 0 (withCells (flat2 (Rows.laid_jetway_date_lengths : DataW Unit)))).modify 5 (withCells (flat2 (Rows.laid_math_bits_deBruijn32tab : DataW Unit)))).modify 6 (withCells (flat2 (Rows.laid_math_bits_deBruijn64tab : DataW Unit)))).modify 1 (withCells (flat2 (Rows.laid_internal_strconv_uint64pow10 : DataW Unit)))).modify 4 (withCells (flat2 (Rows.laid_unicode_utf8_acceptRanges : DataW Unit)))).modify 3 (withCells (flat2 (Rows.laid_unicode_utf8_first : DataW Unit)))) }
theorem laid_met (os : Os) : laidMet Tryd.prog Rows.showAvailRow.laid ((laidWorld os).forCall (fun _ _ => 0) ⟨#[], #[.int .i64 0, .agg #[.string ByteArray.empty, .string ByteArray.empty], .slice none 0 0], []⟩).memory :=
  laidMet_of_run' 8 (by kernel_rfl) (by kernel_rfl)
theorem reads (os : Os) {H : Type} (enc : TypeId × Value → H) : ∃ places, DataW.whole enc Tryd.prog ((laidWorld os).forCall (fun _ _ => 0) ⟨#[], #[.int .i64 0, .agg #[.string ByteArray.empty, .string ByteArray.empty], .slice none 0 0], []⟩).memory Tryd.f4.params.toList Rows.showAvailSpec.vars false (#[.int .i64 0, .agg #[.string ByteArray.empty, .string ByteArray.empty], .slice none 0 0] : Array Value).toList 8 = some ([.lit (.int .i64 0), .agg [.lit (.string []), .lit (.string [])], .nil], [], places) :=
  ⟨[], by kernel_rfl⟩

set_option maxRecDepth 100000 in
theorem lifted (os : Os) (started : os.Started) (H : Type) (enc : TypeId × Value → H) (F : Stop.Interp) :
    ReturnsInHanded {} Tryd.checked os 4 .any ((OpenSpec.ofChange Rows.showAvailSpec).preRow enc Tryd.prog Tryd.f4 Rows.showAvailRow.domain false Rows.showAvailRow.laid) (((OpenSpec.ofChange Rows.showAvailSpec).at F).post enc Tryd.prog Tryd.f4 false true false false) := by
  obtain ⟨places, hx⟩ := reads os enc
  refine returnsInHanded_of_row (C := Tryd.checked) (s := OpenSpec.ofChange Rows.showAvailSpec) own started (by kernel_rfl) Tryd.func4
    (witness_row_at (enc := enc) (C := Tryd.checked) false (laidWorld os) #[.int .i64 0, .agg #[.string ByteArray.empty, .string ByteArray.empty], .slice none 0 0] rfl (by kernel_rfl) (by kernel_rfl) (by kernel_rfl)
      (OpenSpec.preRow_of_cond 8 hx (by kernel_rfl) (fun k hk => by cases hk) (by kernel_rfl) (laid_met os))) ?_
  intro W base args ds gs before hval hW _ _ hz hL hsh _
  exact contract H enc W base args ds gs before hval hW hL hsh

theorem said : Rows.ShowAvailSaid :=
  OpenClaim.holds_of_cond 4 Tryd.f4 rfl rfl rfl rfl rfl rfl rfl ⟨rfl, rfl, rfl, rfl, rfl⟩ rfl rfl rfl rfl rfl (by kernel_rfl) Tryd.func4 (by kernel_rfl)
    (of_decide_eq_true (by kernel_rfl)) (by unfold Func.isWrapper; first | (rw [if_pos (by decide +kernel)]; kernel_rfl) | (rw [if_neg (by decide +kernel)]; exact ⟨rfl, rfl⟩))
    (fun os started H enc _ F => by rw [OpenClaim.pre_eq_preRow]; exact lifted os started H enc F)

theorem plain (f : FuncId) (fn : Func) (hf : Tryd.pinned.checked.prog.funcNamed "jetway/jetwaylaw22.ShowAvail" = some f) (hfn : Tryd.pinned.checked.prog.funcs[f]? = some fn) :
    false = Tryd.pinned.checked.prog.looks [] ∧ ∀ (j : Nat) t, fn.params[j]? = some t → Tryd.pinned.checked.prog.wantsStandIn t = false := by
  obtain rfl : f = 4 := Option.some.inj ((show Tryd.prog.funcNamed "jetway/jetwaylaw22.ShowAvail" = some 4 by kernel_rfl).symm.trans hf) |>.symm
  obtain rfl : fn = Tryd.f4 := (Option.some.inj (Tryd.func4.symm.trans hfn)).symm
  refine ⟨by kernel_rfl, fun j t ht => ?_⟩
  rw [Tryd.params4] at ht
  have hm := Array.mem_of_getElem? ht
  simp at hm
  rcases hm with rfl | rfl | rfl
  · exact (show Tryd.prog.wantsStandIn 3 = false by kernel_rfl)
  · exact (show Tryd.prog.wantsStandIn 34 = false by kernel_rfl)
  · exact (show Tryd.prog.wantsStandIn 35 = false by kernel_rfl)

theorem proved : Rows.ShowAvailCardSaid :=
  Claim7.holds_tied_plain_at .later [] _ _ _ _ said (fun _ h => by cases h) (by kernel_rfl) (fun _ h => by cases h) showAvail_row_tie rfl ⟨rfl, rfl⟩ (by kernel_rfl) rfl plain (by kernel_rfl)
#print axioms proved
end Go.Proofs.YtahghakpmjfefaaDoor.showAvail
