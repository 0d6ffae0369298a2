/- The state of a list of lines; a number's text. -/
import Derived.Test.YtahghakpmjfefaaDoorKL
import Derived.Test.YtahghakpmjfefaaDoorKO
namespace Go.Proofs.YtahghakpmjfefaaDoor.Sh
open Go.RowKit En Go.ChangeMaps
set_option linter.unusedSimpArgs false
set_option linter.unusedVariables false
set_option maxRecDepth 20000

/-- The list holds the lines T. -/
def StgR (w1 : World) (s : Value) (wx : World) (T : List (List UInt8)) : Prop := ∃ p n c L, s = .slice p n c ∧ OwnL wx w1.heap.size (.slice p n c) L ∧ L.map toL = T ∧ Below w1.heap.size w1 wx
theorem StgR.mono {w1 w w' : World} {s : Value} {T : List (List UInt8)} (h : StgR w1 s w T) (hb : Below w.heap.size w w') : StgR w1 s w' T := by
  obtain ⟨p, n, c, L, h1, h2, h3, h4⟩ := h
  exact ⟨p, n, c, L, h1, OwnL.mono h2 hb, h3, bel_trans h4 hb⟩
theorem StgR.push {w1 w w' : World} {p : Option Addr} {n c : Nat} {v : Value} {L : List ByteArray} {S : ByteArray} {T : List (List UInt8)} {x : List UInt8} (ho : OwnL w w1.heap.size v L) (hm : L.map toL = T) (hb : Below w1.heap.size w1 w) (h1 : OwnL w' w1.heap.size (.slice p n c) (L ++ [S])) (hg : w.grownBy w' v.ownBlock) (hs : toL S = x) : StgR w1 (.slice p n c) w' (T ++ [x]) :=
  ⟨p, n, c, _, rfl, h1, by rw [List.map_append, hm, List.map_singleton, hs], hb.grown hg hb.size (fun k hk => (World.ownsRow.lt ho k hk).1)⟩
/-- The number's text, one value. -/
theorem num_one (n : Int) (hn : (Lit.int .i64 n).wf = true) : ∃ t : ByteArray, toL t = itoaL n ∧ t.size ≤ 20 ∧ RowKit.Hid (∀ W, Calls Tryd.prog 35 #[.int .i64 n] W fun e w' => e = .returned (.string t) ∧ Below W.heap.size W w') :=
  ⟨⟨(itoaL n).toArray⟩, toL_mk _, txt_le (toL_mk _) (itoaL_len n hn), Lib.hid fun W => (number_any n W hn).mono fun e w' ⟨⟨s, h1, h2⟩, hb⟩ => ⟨by rw [h1, show s = ⟨(itoaL n).toArray⟩ from toL_inj (h2.trans (toL_mk _).symm)], hb⟩⟩

end Go.Proofs.YtahghakpmjfefaaDoor.Sh
