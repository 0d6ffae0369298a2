/- A command by value that came in: its parts, their ranges, and that its texts take no more than memory bears (printed by gen_ob.py). -/
import Derived.Test.YtjahkaidinahpaaDoorND
import Derived.Test.YtjahkaidinahpaaDoorNO
import Derived.ProofKit
import Derived.OpenShut
import Derived.Lib.SmallJoins
import Derived.Deep.SlicePairs
import Derived.ChangeSlices
namespace Go.Proofs.YtjahkaidinahpaaDoor.En
open Go.RowKit Go.ChangeShapes Go.WideShapes Go.ChangeAt
set_option linter.unusedSimpArgs false
set_option linter.unusedVariables false
set_option maxRecDepth 20000

section
variable {H : Type} {enc : TypeId × Value → H} {W : World}

/-- A command as a datum. -/
def cmdD (a : CmdT) : DataW H := .agg [.lit (.int .i64 a.kind), .lit (.string a.text), .lit (.string a.office), .lit (.int .i64 a.day), .lit (.string a.src), .lit (.string a.dst), .lit (.int .i64 a.minute), .agg [.lit (.string a.last), .lit (.string a.first)], .lit (.int .i64 a.n), .lit (.int .i64 a.pax), .lit (.int .u8 a.cls.toNat), .lit (.int .i64 a.line), .agg [.lit (.int .i64 a.row), .lit (.int .u8 a.c.toNat)]]

/-- The ranges of its numbers. -/
def CmdWf (a : CmdT) : Prop := (Lit.int .i64 a.day).wf = true ∧ (Lit.int .i64 a.minute).wf = true ∧ (Lit.int .i64 a.n).wf = true ∧ (Lit.int .i64 a.pax).wf = true ∧ (Lit.int .i64 a.line).wf = true
/-- A command that came in. -/
def CmdIn (v : Value) (d : DataW H) (a : CmdT) : Prop := v = .agg (cmdC a).toArray ∧ d = cmdD a ∧ CmdWf a

theorem wf_byte {n : Int} (h : (Lit.int .u8 n).wf = true) : ∃ c : UInt8, n = (c.toNat : Int) ∧ UInt8.ofNat n.toNat = c := by
  simp [Lit.wf, IntKind.min, IntKind.max, IntKind.signed, IntKind.bits] at h
  refine ⟨UInt8.ofNat n.toNat, ?_, rfl⟩
  simp
  omega
theorem txV_of (s : ByteArray) : txV s.data.toList = .string s := rfl

theorem seat_one {fuel : Nat} {v0 v1 : Value} {x : DataW H × List MemPlace} (h : DataW.trod enc Tryd.prog W 0 (fun _ => true) true fuel 39 [v0, v1] = some x) :
    ∃ (r : Int) (c : UInt8), v0 = .int .i64 r ∧ v1 = .int .u8 c.toNat ∧ x.1 = .agg [.lit (.int .i64 r), .lit (.int .u8 c.toNat)] := by
  have he : ∃ f0 f1 : Field, Tryd.prog.underlying 39 = some (.struct #[f0, f1]) ∧ f0.offset = 0 ∧ f1.offset = 1 ∧ f0.type = 3 ∧ f1.type = 5 := ⟨_, _, Tryd.underlying39, rfl, rfl, rfl, rfl⟩
  obtain ⟨f0, f1, he, o0, o1, t0, t1⟩ := he
  obtain ⟨y0, y1, n, hx, _, g0, g1⟩ := trod_struct2 he h
  rw [t0, o0, show Tryd.prog.cellsOf 3 = 1 by kernel_rfl] at g0
  rw [t1, o1, show Tryd.prog.cellsOf 5 = 1 by kernel_rfl] at g1
  obtain ⟨r, e0, k0, _⟩ := DataW.trod_int Tryd.underlying3 g0
  obtain ⟨c0, e1, k1, h2⟩ := DataW.trod_int Tryd.underlying5 g1
  obtain ⟨c, hc, _⟩ := wf_byte h2
  simp at e0 e1
  refine ⟨r, c, e0, by rw [e1, hc], ?_⟩
  rw [hx, k0, k1, hc]
theorem name_one {fuel : Nat} {v0 v1 : Value} {x : DataW H × List MemPlace} (h : DataW.trod enc Tryd.prog W 0 (fun _ => true) true fuel 31 [v0, v1] = some x) :
    ∃ r c : ByteArray, v0 = .string r ∧ v1 = .string c ∧ x.1 = .agg [.lit (.string r.data.toList), .lit (.string c.data.toList)] := by
  have he : ∃ f0 f1 : Field, Tryd.prog.underlying 31 = some (.struct #[f0, f1]) ∧ f0.offset = 0 ∧ f1.offset = 1 ∧ f0.type = 9 ∧ f1.type = 9 := ⟨_, _, Tryd.underlying31, rfl, rfl, rfl, rfl⟩
  obtain ⟨f0, f1, he, o0, o1, t0, t1⟩ := he
  obtain ⟨y0, y1, n, hx, _, g0, g1⟩ := trod_struct2 he h
  rw [t0, o0, show Tryd.prog.cellsOf 9 = 1 by kernel_rfl] at g0
  rw [t1, o1, show Tryd.prog.cellsOf 9 = 1 by kernel_rfl] at g1
  obtain ⟨r, e0, k0, _⟩ := DataW.trod_string Tryd.underlying9 g0
  obtain ⟨c, e1, k1, _⟩ := DataW.trod_string Tryd.underlying9 g1
  simp at e0 e1
  refine ⟨r, c, e0, e1, ?_⟩
  rw [hx, k0, k1]

theorem open_cmdV {r : Reach} {b0 : Nat} {v : Value} {d : DataW H} {p : List MemPlace} (hv : Value.okWide Tryd.prog W r b0 71 v) (h : DataW.Trod enc Tryd.prog W 0 (fun _ => true) true 71 v d p) :
    ∃ a, CmdIn v d a := by
  have he : ∃ f0 f1 f2 f3 f4 f5 f6 f7 f8 f9 f10 f11 f12 : Field, Tryd.prog.underlying 71 = some (.struct #[f0, f1, f2, f3, f4, f5, f6, f7, f8, f9, f10, f11, f12]) ∧ (f0.offset = 0 ∧ f1.offset = 1 ∧ f2.offset = 2 ∧ f3.offset = 3 ∧ f4.offset = 4 ∧ f5.offset = 5 ∧ f6.offset = 6 ∧ f7.offset = 7 ∧ f8.offset = 9 ∧ f9.offset = 10 ∧ f10.offset = 11 ∧ f11.offset = 12 ∧ f12.offset = 13) ∧ f0.type = 3 ∧ f1.type = 9 ∧ f2.type = 9 ∧ f3.type = 3 ∧ f4.type = 9 ∧ f5.type = 9 ∧ f6.type = 3 ∧ f7.type = 31 ∧ f8.type = 3 ∧ f9.type = 3 ∧ f10.type = 5 ∧ f11.type = 3 ∧ f12.type = 39 := ⟨_, _, _, _, _, _, _, _, _, _, _, _, _, Tryd.underlying71, ⟨rfl, rfl, rfl, rfl, rfl, rfl, rfl, rfl, rfl, rfl, rfl, rfl, rfl⟩, rfl, rfl, rfl, rfl, rfl, rfl, rfl, rfl, rfl, rfl, rfl, rfl, rfl⟩
  obtain ⟨f0, f1, f2, f3, f4, f5, f6, f7, f8, f9, f10, f11, f12, he, ⟨o0, o1, o2, o3, o4, o5, o6, o7, o8, o9, o10, o11, o12⟩, t0, t1, t2, t3, t4, t5, t6, t7, t8, t9, t10, t11, t12⟩ := he
  have hC : Tryd.prog.cellsOf 71 = 15 := by kernel_rfl
  obtain ⟨cs, rfl, hsz⟩ := okWide_struct he hv
  obtain ⟨l⟩ := cs
  match l, hsz.trans hC with
  | [c0, c1, c2, c3, c4, c5, c6, c7, c8, c9, c10, c11, c12, c13, c14], _ =>
    obtain ⟨fuel, hf⟩ := h
    obtain ⟨xs, n, _, hx, _, hlen, hg⟩ := DataW.trod_struct he hf
    match xs, hlen with
    | [y0, y1, y2, y3, y4, y5, y6, y7, y8, y9, y10, y11, y12], _ =>
      have g0 := hg 0 f0 rfl
      rw [t0, o0, show Tryd.prog.cellsOf 3 = 1 by kernel_rfl] at g0
      have g1 := hg 1 f1 rfl
      rw [t1, o1, show Tryd.prog.cellsOf 9 = 1 by kernel_rfl] at g1
      have g2 := hg 2 f2 rfl
      rw [t2, o2, show Tryd.prog.cellsOf 9 = 1 by kernel_rfl] at g2
      have g3 := hg 3 f3 rfl
      rw [t3, o3, show Tryd.prog.cellsOf 3 = 1 by kernel_rfl] at g3
      have g4 := hg 4 f4 rfl
      rw [t4, o4, show Tryd.prog.cellsOf 9 = 1 by kernel_rfl] at g4
      have g5 := hg 5 f5 rfl
      rw [t5, o5, show Tryd.prog.cellsOf 9 = 1 by kernel_rfl] at g5
      have g6 := hg 6 f6 rfl
      rw [t6, o6, show Tryd.prog.cellsOf 3 = 1 by kernel_rfl] at g6
      have g7 := hg 7 f7 rfl
      rw [t7, o7, show Tryd.prog.cellsOf 31 = 2 by kernel_rfl] at g7
      have g8 := hg 8 f8 rfl
      rw [t8, o8, show Tryd.prog.cellsOf 3 = 1 by kernel_rfl] at g8
      have g9 := hg 9 f9 rfl
      rw [t9, o9, show Tryd.prog.cellsOf 3 = 1 by kernel_rfl] at g9
      have g10 := hg 10 f10 rfl
      rw [t10, o10, show Tryd.prog.cellsOf 5 = 1 by kernel_rfl] at g10
      have g11 := hg 11 f11 rfl
      rw [t11, o11, show Tryd.prog.cellsOf 3 = 1 by kernel_rfl] at g11
      have g12 := hg 12 f12 rfl
      rw [t12, o12, show Tryd.prog.cellsOf 39 = 2 by kernel_rfl] at g12
      obtain ⟨z0, e0, k0, h0⟩ := DataW.trod_int Tryd.underlying3 (show DataW.trod enc Tryd.prog W 0 (fun _ => true) true n 3 [c0] = some y0 from g0)
      obtain ⟨z1, e1, k1, h1⟩ := DataW.trod_string Tryd.underlying9 (show DataW.trod enc Tryd.prog W 0 (fun _ => true) true n 9 [c1] = some y1 from g1)
      obtain ⟨z2, e2, k2, h2⟩ := DataW.trod_string Tryd.underlying9 (show DataW.trod enc Tryd.prog W 0 (fun _ => true) true n 9 [c2] = some y2 from g2)
      obtain ⟨z3, e3, k3, h3⟩ := DataW.trod_int Tryd.underlying3 (show DataW.trod enc Tryd.prog W 0 (fun _ => true) true n 3 [c3] = some y3 from g3)
      obtain ⟨z4, e4, k4, h4⟩ := DataW.trod_string Tryd.underlying9 (show DataW.trod enc Tryd.prog W 0 (fun _ => true) true n 9 [c4] = some y4 from g4)
      obtain ⟨z5, e5, k5, h5⟩ := DataW.trod_string Tryd.underlying9 (show DataW.trod enc Tryd.prog W 0 (fun _ => true) true n 9 [c5] = some y5 from g5)
      obtain ⟨z6, e6, k6, h6⟩ := DataW.trod_int Tryd.underlying3 (show DataW.trod enc Tryd.prog W 0 (fun _ => true) true n 3 [c6] = some y6 from g6)
      obtain ⟨r7, s7, e7, j7, k7⟩ := name_one (show DataW.trod enc Tryd.prog W 0 (fun _ => true) true n 31 [c7, c8] = some y7 from g7)
      obtain ⟨z8, e8, k8, h8⟩ := DataW.trod_int Tryd.underlying3 (show DataW.trod enc Tryd.prog W 0 (fun _ => true) true n 3 [c9] = some y8 from g8)
      obtain ⟨z9, e9, k9, h9⟩ := DataW.trod_int Tryd.underlying3 (show DataW.trod enc Tryd.prog W 0 (fun _ => true) true n 3 [c10] = some y9 from g9)
      obtain ⟨q10, e10, k10, h10⟩ := DataW.trod_int Tryd.underlying5 (show DataW.trod enc Tryd.prog W 0 (fun _ => true) true n 5 [c11] = some y10 from g10)
      obtain ⟨z10, b10, _⟩ := wf_byte h10
      obtain ⟨z11, e11, k11, h11⟩ := DataW.trod_int Tryd.underlying3 (show DataW.trod enc Tryd.prog W 0 (fun _ => true) true n 3 [c12] = some y11 from g11)
      obtain ⟨r12, s12, e12, j12, k12⟩ := seat_one (show DataW.trod enc Tryd.prog W 0 (fun _ => true) true n 39 [c13, c14] = some y12 from g12)
      simp at e0 e1 e2 e3 e4 e5 e6 e8 e9 e10 e11
      obtain ⟨hd, _⟩ := Prod.mk.inj hx
      refine ⟨⟨z0, z1.data.toList, z2.data.toList, z3, z4.data.toList, z5.data.toList, z6, r7.data.toList, s7.data.toList, z8, z9, z10, z11, r12, s12⟩, ?_, ?_, h3, h6, h8, h9, h11⟩
      · rw [e0, e1, e2, e3, e4, e5, e6, e8, e9, e10, e11, b10, e7, j7, e12, j12]; rfl
      · rw [hd]; unfold cmdD; simp only [List.map, k0, k1, k2, k3, k4, k5, k6, k7, k8, k9, k10, k11, k12, b10]

theorem all_ap {l m : List Nat} (h : (l ++ m).all (· ≤ reachBytes) = true) : l.all (· ≤ reachBytes) = true ∧ m.all (· ≤ reachBytes) = true := by
  rwa [List.all_append, Bool.and_eq_true] at h
/-- A command in the first place whose weights memory bears. -/
theorem cmd_fits {ts : List TypeId} {ds : List (DataW H)} {v : Value} {d : DataW H} {a : CmdT} (hc : CmdIn v d a) (h : (DataW.weightsEach Tryd.prog (71 :: ts) (d :: ds)).all (· ≤ reachBytes) = true) : Fits a := by
  obtain ⟨_, rfl, w1, w2, w3, w4, w5⟩ := hc
  have hr : reachBytes = 140737488351232 := rfl
  rw [DataW.weightsEach] at h
  obtain ⟨h, _⟩ := all_ap h
  unfold cmdD at h
  rw [DataW.weights, Tryd.underlying71] at h
  simp [DataW.weightsEach, DataW.weights, Tryd.underlying31, hr] at h
  exact ⟨by omega, by omega, by omega, by omega, by omega, by omega, w1, w2, w3, w4, w5⟩
end
end Go.Proofs.YtjahkaidinahpaaDoor.En
