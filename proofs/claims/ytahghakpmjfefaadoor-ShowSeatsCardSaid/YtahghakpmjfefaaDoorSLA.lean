/- The statement about errors and faults: its walk. -/
import Derived.Test.YtahghakpmjfefaaDoorSAW
import Derived.Test.YtahghakpmjfefaaDoorSH
namespace Go.Proofs.YtahghakpmjfefaaDoor.Sh
open Go.RowKit Go.ChangeMaps En
set_option linter.unusedSimpArgs false
set_option linter.unusedVariables false
set_option maxRecDepth 20000

theorem str_self (s : ByteArray) : (s.toList == s.toList) = true := beq_self_eq_true _

set_option maxHeartbeats 8000000 in
theorem showErrors_walk (k : Int) (hk : (Lit.int .i64 k).wf = true) (a : Int) (ha : (Lit.int .i64 a).wf = true) (w : World) (ht : Da.LenTab w) (hp : PowTab w) (hm : MaxCell w) :
    Calls Tryd.prog 7 #[.int .i64 k, .int .i64 a] w fun e w' => e = .returned (.bool true) ∧ Below w.heap.size w w' := by
  have HAW := Lib.hid (awake_any w hm ht hp)
  have fixs : ∀ {l : List UInt8} {s : ByteArray}, toL s = l → s = mkB l := fun {l s} h => toL_inj (h.trans (toL_mkB l).symm)
  have HN : RowKit.Hid (∀ W, Below w.heap.size w W → Calls Tryd.prog 20 #[.int .i64 k] W fun e w' => e = .returned (.string (mkB (nmL k))) ∧ Below w.heap.size w w') := Lib.hid fun W hW => (name_any k W (hm.keep hW)).mono fun e w' ⟨⟨s, h1, h2⟩, hb⟩ => ⟨by rw [h1, fixs h2], bel_trans hW hb⟩
  have HRN : RowKit.Hid (∀ W, Below w.heap.size w W → Calls Tryd.prog 21 #[.int .i64 k] W fun e w' => e = .returned (.string (mkB (nmL k))) ∧ Below w.heap.size w w') := Lib.hid fun W hW => (rname_any k W).mono fun e w' ⟨⟨s, h1, h2⟩, hb⟩ => ⟨by rw [h1, fixs h2], hb ▸ hW⟩
  have HE : RowKit.Hid (∀ W, Below w.heap.size w W → Calls Tryd.prog 22 #[.int .i64 k] W fun e w' => (∃ v, e = .returned v ∧ OwnL w' W.heap.size v [mkB (errLn k)]) ∧ Below W.heap.size W w') := Lib.hid fun W hW => (error_any k W hk (hm.keep hW)).mono fun e w' ⟨h1, h2⟩ => ⟨one_own h1, h2⟩
  have HRE : RowKit.Hid (∀ W, Calls Tryd.prog 23 #[.int .i64 k] W fun e w' => (∃ v, e = .returned v ∧ OwnL w' W.heap.size v [mkB (errLn k)]) ∧ Below W.heap.size W w') := Lib.hid fun W => (rerror_any k W hk).mono fun e w' ⟨h1, h2⟩ => ⟨one_own h1, h2⟩
  have HF : RowKit.Hid (∀ W, Below w.heap.size w W → Calls Tryd.prog 24 #[.agg #[.int .i64 k, .int .i64 a]] W fun e w' => (∃ v, e = .returned v ∧ OwnL w' W.heap.size v [mkB (faultLn k a)]) ∧ Below W.heap.size W w') := Lib.hid fun W hW => (fault_any k a W hk ha (hm.keep hW) (powTab_keep hp hW)).mono fun e w' ⟨h1, h2⟩ => ⟨one_own h1, h2⟩
  have HRF : RowKit.Hid (∀ W, Calls Tryd.prog 25 #[.int .i64 k, .int .i64 a] W fun e w' => (∃ v, e = .returned v ∧ OwnL w' W.heap.size v [mkB (faultLn k a)]) ∧ Below W.heap.size W w') := Lib.hid fun W => (rfault_any k a W hk ha).mono fun e w' ⟨h1, h2⟩ => ⟨one_own h1, h2⟩
  have HS : RowKit.Hid (∀ va vb (s : ByteArray) W, HasL W va [s] → HasL W vb [s] → Calls Tryd.prog 11 #[va, vb] W fun e w' => e = .returned (.bool true) ∧ Below W.heap.size W w') := Lib.hid fun va vb s W h1 h2 => same_true [s] va vb W h1 h2 (by simp)
  generalize mkB (nmL k) = nm at *
  generalize mkB (errLn k) = er at *
  generalize mkB (faultLn k a) = fa at *
  have hnn := str_self nm
  clear ht hp hm hk ha fixs
  go_enter Tryd.func7, Tryd.ntmps7
  go_wp2_with (first
    | (go_at_call 9; (with_reducible refine HAW.out.mono ?_); rintro e w1 ⟨rfl, hb1⟩)
    | (go_at_call 20; (with_reducible refine (HN.out _ hb1).mono ?_); rintro e w2 ⟨rfl, hb2⟩)
    | (go_at_call 21; (with_reducible refine (HRN.out _ hb2).mono ?_); rintro e w3 ⟨rfl, hb3⟩)
    | (go_at_call 22; (with_reducible refine (HE.out _ hb3).mono ?_); rintro e w4 ⟨⟨v4, rfl, ho4⟩, hb4⟩; have hB4 := bel_trans hb3 hb4)
    | (go_at_call 23; (with_reducible refine (HRE.out _).mono ?_); rintro e w5 ⟨⟨v5, rfl, ho5⟩, hb5⟩; have hB5 := bel_trans hB4 hb5; have hc1 := OwnL.has (OwnL.mono ho4 hb5); have hc2 := OwnL.has ho5)
    | (go_at_call 11; (with_reducible refine (HS.out _ _ _ _ hc1 hc2).mono ?_); rintro e w6 ⟨rfl, hb6⟩; have hB6 := bel_trans hB5 hb6)
    | (go_at_call 24; (with_reducible refine (HF.out _ hB6).mono ?_); rintro e w7 ⟨⟨v7, rfl, ho7⟩, hb7⟩; have hB7 := bel_trans hB6 hb7)
    | (go_at_call 25; (with_reducible refine (HRF.out _).mono ?_); rintro e w8 ⟨⟨v8, rfl, ho8⟩, hb8⟩; have hB8 := bel_trans hB7 hb8; have hc3 := OwnL.has (OwnL.mono ho7 hb8); have hc4 := OwnL.has ho8)
    | (go_at_call 11; (with_reducible refine (HS.out _ _ _ _ hc3 hc4).mono ?_); rintro e w9 ⟨rfl, hb9⟩; have hB9 := bel_trans hB8 hb9))
  go_ret
  exact ⟨rfl, hB9⟩
end Go.Proofs.YtahghakpmjfefaaDoor.Sh
