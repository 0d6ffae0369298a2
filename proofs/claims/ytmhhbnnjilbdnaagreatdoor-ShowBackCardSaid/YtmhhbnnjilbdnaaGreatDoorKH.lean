/- The lines of errors and faults (program and reference). The lines of queues' sizes: the program's. -/
import Derived.Test.YtmhhbnnjilbdnaaGreatDoorKA
import Derived.Test.YtmhhbnnjilbdnaaGreatDoorKB
import Derived.Test.YtmhhbnnjilbdnaaGreatDoorKF
import Derived.Test.YtmhhbnnjilbdnaaGreatDoorPlnP
import Derived.Test.YtmhhbnnjilbdnaaGreatDoorKG
import Derived.Test.YtmhhbnnjilbdnaaGreatDoorSB
import Derived.Test.YtmhhbnnjilbdnaaGreatDoorSD
import Derived.Test.YtmhhbnnjilbdnaaGreatDoorSC
import Derived.Test.YtmhhbnnjilbdnaaGreatDoorRows
import Derived.WalkKit
import Derived.WalkSpells
import Derived.WalkLawsBesides
import Derived.Lib.ConvBytes
import Derived.Lib.Hide
import Derived.Lib.SliceRun
import Derived.IntWalk
import Derived.BigQuiet
import Derived.Deep.QuietTactic
import Derived.Deep.RegionWith
import Derived.Deep.RegionHeld3
import Derived.Deep.LoopGhost
import Derived.Deep.CutRange
import Derived.Deep.CutBlock
import Derived.Deep.MidRow
import Derived.Laws.OwnMore
import Derived.OwnWalk
import Derived.Laws.AppendOwnNone
import Derived.Laws.Rows
import Derived.Laws.MakeOwn
import Derived.Laws.CopyOwn
import Derived.Laws.BitsAllLaws
import Derived.DeepKeys5
import Derived.Maps.OwnOps
import Derived.Handy
import Derived.Lib.AppendStr
import Derived.StillTailTactics
import Derived.Deep.AppendLies
import Derived.ProofKit
import Derived.OpenShut
import Derived.SliceStrings
import Derived.Lib.SmallJoins
import Derived.Deep.SlicePairs
import Derived.ChangeSlices
import Derived.WideKeyEntry
import Derived.Tactics2
import Derived.Defers
import Derived.Recover
import Derived.Shelf.Strconv.Itoa0
import Derived.Shelf.Strconv.Itoa1
import Derived.Shelf.LaysM
import Derived.Shelf.Strconv.Itoa2
import Derived.Shelf.Strconv.Itoa3
import Derived.Maps.AppendAt
import Derived.Lib.Bytealg
import Derived.Deep.RegionLaw
import Derived.Shelf.Strings.Builder1
import Derived.Shelf.Strings.Builder2
import Derived.Shelf.Strings.Count
import Derived.Shelf.Strings.Split
import Derived.Shelf.Strings.Replace
namespace Go.Proofs.YtmhhbnnjilbdnaaGreatDoor.Sh
open Go.RowKit En
set_option linter.unusedSimpArgs false
set_option linter.unusedVariables false
set_option maxRecDepth 20000

theorem errL_len (k : Int) (hk : (Lit.int .i64 k).wf = true) : (errL k).length ≤ 21 := by
  have h := itoaL_len k hk
  unfold errL
  unfold itoaL at h
  split
  · simp
  · next hn => rw [if_neg hn] at h; simp; omega
theorem nmL_len (k : Int) : (nmL k).length ≤ 32 := by
  unfold nmL
  rcases hf : nmT.find? (fun x => x.1 == k) with _ | x
  · rw [hf]; show (5 : Nat) ≤ 32; decide
  · have hx := List.mem_of_find?_eq_some hf
    rw [hf]
    have h := List.all_eq_true.1 (show (nmT.all fun x => decide (x.2.length ≤ 32)) = true by decide +kernel) x hx
    exact of_decide_eq_true h

def errLn (k : Int) : List UInt8 := errL k ++ (32 :: nmL k)
/-- A list of one text, in a block of its own. -/
def OneE (B : Nat) (l : List UInt8) (e : Ending) (w : World) : Prop := ∃ (g : Nat) (s : ByteArray), e = .returned (.slice (some ⟨g, 0, none⟩) 1 1) ∧ Blk w g 9 [.string s] ∧ B ≤ g ∧ toL s = l
theorem OneE.own {B : Nat} {l : List UInt8} {e : Ending} {w : World} (h : OneE B l e w) : ∃ v s, e = .returned v ∧ OwnL w B v [s] ∧ toL s = l := by
  obtain ⟨g, s, rfl, hb, hg, hs⟩ := h
  refine ⟨_, s, rfl, ⟨rfl, .inr ⟨g, 1, _, rfl, hg, hb, Nat.le_refl _, by decide, rfl, rfl⟩⟩, hs⟩

set_option maxHeartbeats 4000000 in
theorem error_any (k : Int) (w : World) (hk : (Lit.int .i64 k).wf = true) (hm : MaxCell w) :
    Calls Tryz.prog 14 #[.int .i64 k] w fun e w' => OneE w.heap.size (errLn k) e w' ∧ Below w.heap.size w w' := by
  have HE : RowKit.Hid (Calls Tryz.prog 40 #[.int .i64 k] w fun e w' => (∃ s : ByteArray, e = .returned (.string s) ∧ toL s = errL k ∧ s.size ≤ 21) ∧ Below w.heap.size w w') := Lib.hid ((errno_any k w hk).mono fun e w' ⟨⟨s, h1, h2⟩, hb⟩ => ⟨⟨s, h1, h2, txt_le h2 (errL_len k hk)⟩, hb⟩)
  have HN : RowKit.Hid (∀ W, Below w.heap.size w W → Calls Tryz.prog 41 #[.int .i64 k] W fun e w' => (∃ s : ByteArray, e = .returned (.string s) ∧ toL s = nmL k ∧ s.size ≤ 32) ∧ Below W.heap.size W w') := Lib.hid fun W hW => (name_any k W (hm.keep hW)).mono fun e w' ⟨⟨s, h1, h2⟩, hb⟩ => ⟨⟨s, h1, h2, txt_le h2 (nmL_len k)⟩, hb⟩
  clear hm hk
  go_enter Tryz.func14, Tryz.ntmps14
  go_wp2_with (first
    | (go_at_call 40; (with_reducible refine HE.out.mono ?_); rintro e w1 ⟨⟨s, rfl, hs, hz⟩, hb1⟩)
    | (go_at_call 41; (with_reducible refine (HN.out _ hb1).mono ?_); rintro e w2 ⟨⟨t, rfl, ht, hy⟩, hb2⟩))
  go_ret
  have hb := bel_trans hb1 hb2
  exact ⟨⟨_, _, rfl, Blk.new w2 9 [_], hb.size, by rw [toL_app, toL_app, hs, ht]; unfold errLn; simp [toL_lit]⟩, bel_trans hb ((Below.refl _ _).alloc (Nat.le_refl _) _)⟩

end Go.Proofs.YtmhhbnnjilbdnaaGreatDoor.Sh
namespace Go.Proofs.YtmhhbnnjilbdnaaGreatDoor.Sh
open Go.RowKit En Go.ChangeMaps
set_option linter.unusedSimpArgs false
set_option linter.unusedVariables false
set_option maxRecDepth 20000

/-- 'append(v, s)' of one text that was laid right ahead, in a region that draws. -/
theorem step_push_txt {w : World} {ops : Array Oper} {o : Oper} {a : Act} {K : Act → World → Prop} {Q : Exit → Act → World → Prop} {E : Prop} (hgd : o.guard = none) (s x : Operand)
    (ho : o.op = .call { callee := .builtin .append, args := #[s, x], argTypes := #[24, 24] })
    (B : Nat) (v : Value) (L : List ByteArray) (hs : a.eval s = v) (hown : OwnL w B v L) (g : Nat) (hx : a.eval x = .slice (some ⟨g, 0, none⟩) 1 1) (S : ByteArray) (hg : w.heap[g]? = some (.cells #[.string S] 9 (0, 0)))
    (hL : L.length ≤ 100000) (hB : B ≤ w.heap.size)
    (h : ∀ p n c w', OwnL w' B (.slice p n c) (L ++ [S]) → Below B w w' → K (a.put o.dst (.slice p n c)) w') :
    if Region.wanted o (yielded ops a.tmps) = true then Oper.wp Tryz.prog o a w K Q else E := by
  obtain ⟨i0, hi0, hz0, hsz0, hby0⟩ := str_info
  refine step_append_lies _ hgd s x 24 ho B 9 i0 _ 1 16 Tryz.underlying24 hi0 hz0 hsz0 hby0 rfl (by decide) v L.length (strV L) hs hown ⟨g, 0, none⟩ 1 1 [.string S] hx rfl (World.news_of_block (cs := #[.string S]) (t := 9) (fr := (0, 0)) hg) (by intro u hu; rw [List.mem_singleton.1 hu]; rfl) (by decide) (by unfold maxLen; omega) (by omega) hB _ rfl ?_
  intro gq cq w4 ho4 hg4 _ _
  refine h _ _ _ w4 ?_ ?_
  · unfold OwnL
    rw [List.length_append, List.length_singleton, strV, List.map_append]
    exact ho4
  · exact (Below.refl B w).grown hg4 hB fun k hk => (World.ownsRow.lt hown k hk).1

/-- The same outside of such a region. -/
theorem push_txt {w : World} {ops : Array Oper} {rest : List Oper} {o : Oper} {a : Act} {Q : Exit → Act → World → Prop} (hgd : o.guard = none) (s x : Operand)
    (ho : o.op = .call { callee := .builtin .append, args := #[s, x], argTypes := #[24, 24] })
    (B : Nat) (v : Value) (L : List ByteArray) (hs : a.eval s = v) (hown : OwnL w B v L) (S : ByteArray) (hx : a.eval x = .slice (some ⟨w.heap.size, 0, none⟩) 1 1)
    (hL : L.length ≤ 100000) (hB : B ≤ w.heap.size)
    (h : ∀ p n c w', OwnL w' B (.slice p n c) (L ++ [S]) → Below B w w' → wpList Tryz.prog ops Q rest (a.put o.dst (.slice p n c)) w') :
    wpList Tryz.prog ops Q (o :: rest) a (w.alloc (.cells #[.string S] 9)) := by
  obtain ⟨i0, hi0, hz0, hsz0, hby0⟩ := str_info
  refine wpList_pushC hgd s x 24 ho B 9 i0 _ 1 16 Tryz.underlying24 hi0 hz0 hsz0 hby0 rfl (by decide) v L.length (strV L) hs hown [.string S] rfl hx (by intro u hu; rw [List.mem_singleton.1 hu]; rfl) (by unfold maxLen; omega) (by omega) hB ?_
  intro v4 w4 ho4 hb4 _
  obtain ⟨p, n, c, rfl⟩ := own_slice ho4
  refine h _ _ _ w4 ?_ hb4
  unfold OwnL
  rw [List.length_append, List.length_singleton, strV, List.map_append]
  exact ho4

/-- A list of texts that reads as lines. -/
def LinesE (B : Nat) (L : List (List UInt8)) (e : Ending) (w : World) : Prop := ∃ v l, e = .returned v ∧ OwnL w B v l ∧ l.map toL = L

/- Sizes. -/
def szC (x : Int × Int) : List Value := [.int .i64 x.1, .int .i64 x.2]
def szLn (x : Int × Int) : List UInt8 := Da.two (x.1.natAbs % 100) ++ (32 :: itoaL x.2)
def sizesL (office : List UInt8) (l : List (Int × Int)) : List (List UInt8) := ([81, 85, 69, 85, 69, 83, 32] ++ office) :: (if l = [] then [[69, 77, 80, 84, 89]] else l.map szLn)
theorem szC_one (x : Int × Int) : ∀ v ∈ szC x, v.oneCell' = true := by
  intro v hv
  simp [szC] at hv
  rcases hv with rfl | rfl <;> rfl
theorem info_size : (Tryz.prog.info? 105).map (·.size) = some 2 := by kernel_rfl
theorem sz_at {w : World} {p : Option Addr} {n c : Nat} {l : List (Int × Int)} (h : HasE szC w (.slice p n c) l) {i : Nat} (hi : i < l.length) : ∃ b off, p = some ⟨b, off, none⟩ ∧ w.rangeAt b (off + i * 2) (szC (l.getD i (0, 0))) ∧ w.cell? ⟨b, off + i * 2, none⟩ = some (.int .i64 (l.getD i (0, 0)).1) ∧ w.cell? ⟨b, off + i * 2 + 1, none⟩ = some (.int .i64 (l.getD i (0, 0)).2) := by
  obtain ⟨b, off, rfl, hc⟩ := HasE.at (st := 2) (fun _ => rfl) h (getD_at (0, 0) hi)
  refine ⟨b, off, rfl, fun j u hj => ?_, ?_, ?_⟩
  · have hj2 : j < 2 := (List.getElem?_eq_some_iff.1 hj).1
    have := hc j u hj2 hj
    rwa [show off + (i * 2 + j) = off + i * 2 + j by omega] at this
  · have := hc 0 _ (by decide) rfl
    simpa using this
  · have := hc 1 _ (by decide) rfl
    rwa [show off + (i * 2 + 1) = off + i * 2 + 1 by omega] at this

theorem take_map_snoc {α β : Type} (f : α → β) (d : α) {l : List α} {i : Nat} (h : i < l.length) : (l.take (i + 1)).map f = (l.take i).map f ++ [f (l.getD i d)] := by
  rw [List.take_succ_eq_append_getElem h, List.map_append]
  simp [List.getD, h]
end Go.Proofs.YtmhhbnnjilbdnaaGreatDoor.Sh
