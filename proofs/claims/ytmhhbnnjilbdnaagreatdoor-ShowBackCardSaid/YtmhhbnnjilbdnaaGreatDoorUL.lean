/- Any line of a PNR is read; the lines of a PNR are read. -/
import Derived.Test.YtmhhbnnjilbdnaaGreatDoorUF
import Derived.Test.YtmhhbnnjilbdnaaGreatDoorUH
import Derived.Test.YtmhhbnnjilbdnaaGreatDoorUJ
import Derived.Test.YtmhhbnnjilbdnaaGreatDoorUK
namespace Go.Proofs.YtmhhbnnjilbdnaaGreatDoor.Sh
open Go.RowKit En Go.ChangeMaps
set_option linter.unusedSimpArgs false
set_option linter.unusedVariables false
set_option maxRecDepth 20000

theorem line_item (B : Nat) (p : PnrT) (vn vs vp vr vx : Value) (it : It) (w : World) (h : RdP w B p vn vs vp vr vx) (hB : B ≤ w.heap.size) (ho : okI it) (hf : cntP p + 1 ≤ 1000) :
    Calls Tryz.prog 34 #[.agg (pnrC p vn vs vp vr vx).toArray, .string (mkB (lnI it))] w fun e w' => LineE B (putI p it) e w' ∧ Below B w w' := by
  unfold cntP at hf
  cases it with
  | nm i x => exact line_name B p vn vs vp vr vx i x ho.2 ho.1 (by omega) w h hB
  | sg i x => exact line_seg B p vn vs vp vr vx i x ho.2 ho.1 (by omega) w h hB
  | ph i s => exact line_phone B p vn vs vp vr vx i s w h hB ho.2 ho.1 (by omega)
  | tk q =>
    rcases ho with ⟨a1, a2, a3⟩ | ⟨a1, a2, a3, a4 | a4⟩
    · have e : putI p (.tk q) = { p with tk := 1, td := q.td, tm := q.tm, queued := q.queued } := if_pos a1
      rw [e]
      cases hq : q.queued
      · have k := line_limit B p vn vs vp vr vx q a1 a2 a3 hq w h hB
        exact k
      · have k := line_queued B p vn vs vp vr vx q a1 a2 a3 hq w h hB
        exact k
    · have e : putI p (.tk q) = { p with tk := 2 } := by
        show putT p q = _
        unfold putT
        rw [if_neg (by rw [a4]; decide), if_pos a4]
      have el : lnI (.tk q) = [84, 32] ++ [68, 79, 78, 69] := by
        show tickLn q = _
        unfold tickLn
        rw [if_neg (by rw [a4]; decide), if_pos a4]
        rfl
      rw [e, el]
      exact line_done B p vn vs vp vr vx w h hB
    · have e : putI p (.tk q) = p := by
        show putT p q = _
        unfold putT
        rw [if_neg (by rw [a4]; decide), if_neg (by rw [a4]; decide)]
      have el : lnI (.tk q) = [84, 32] ++ [78, 79, 78, 69] := by
        show tickLn q = _
        unfold tickLn
        rw [if_pos a4]
        rfl
      rw [e, el]
      exact line_none B p vn vs vp vr vx w h hB
  | rc s => exact line_recv B p vn vs vp vr vx s w h hB ho
  | rm i s => exact line_remark B p vn vs vp vr vx i s w h hB ho.2 ho.1 (by omega)
  | st x => exact line_seat B p vn vs vp vr vx x ho.1 ho.2.1 ho.2.2 (by omega) w h hB

theorem cnt_put (p : PnrT) (it : It) : cntP (putI p it) ≤ cntP p + 1 := by
  cases it with
  | tk q =>
    show cntP (putT p q) ≤ _
    unfold putT
    split
    · exact Nat.le_succ _
    · split
      · exact Nat.le_succ _
      · exact Nat.le_succ _
  | nm i x => simp only [cntP, putI, List.length_append, List.length_singleton]; omega
  | sg i x => simp only [cntP, putI, List.length_append, List.length_singleton]; omega
  | ph i x => simp only [cntP, putI, List.length_append, List.length_singleton]; omega
  | rc x => exact Nat.le_succ _
  | rm i x => simp only [cntP, putI, List.length_append, List.length_singleton]; omega
  | st x => simp only [cntP, putI, List.length_append, List.length_singleton]; omega
theorem cnt_fold : ∀ (l : List It) (p : PnrT), cntP (l.foldl putI p) ≤ cntP p + l.length
  | [], p => Nat.le_refl _
  | it :: l, p => by
    rw [List.foldl_cons, List.length_cons]
    have h1 := cnt_fold l (putI p it)
    have h2 := cnt_put p it
    omega

/-- The PNR of the first lines. -/
def partP (p : PnrT) (k : Nat) : PnrT := ((items p).take k).foldl putI (baseP p.loc p.off)
theorem part_zero (p : PnrT) : partP p 0 = baseP p.loc p.off := rfl
theorem part_step {p : PnrT} {k : Nat} {it : It} (h : (items p)[k]? = some it) : partP p (k + 1) = putI (partP p k) it := by
  unfold partP
  have hk := (List.getElem?_eq_some_iff.1 h).1
  have e : (items p)[k] = it := (List.getElem?_eq_some_iff.1 h).2
  rw [List.take_succ_eq_append_getElem hk, List.foldl_append, e]
  rfl
theorem part_all {p : PnrT} (h : SoundP p) : partP p (items p).length = p := by
  unfold partP
  rw [List.take_of_length_le (Nat.le_refl _), items_fold h]
theorem part_cnt (p : PnrT) (k : Nat) : cntP (partP p k) ≤ k := by
  have := cnt_fold ((items p).take k) (baseP p.loc p.off)
  have h0 : cntP (baseP p.loc p.off) = 0 := rfl
  have hl : ((items p).take k).length ≤ k := by rw [List.length_take]; omega
  unfold partP
  omega

theorem txts_at {p : PnrT} {k : Nat} {it : It} (h : (items p)[k]? = some it) : (txtsP p).getD (k + 1) ByteArray.empty = mkB (lnI it) := by
  unfold txtsP showP
  rw [List.map_cons, List.getD_cons_succ, ← items_lines, List.map_map]
  simp only [List.getD_eq_getElem?_getD, List.getElem?_map, h]
  rfl
theorem txts_first (p : PnrT) : (txtsP p).getD 0 ByteArray.empty = mkB (headLn p) := rfl
theorem txts_count (p : PnrT) : (txtsP p).length = (items p).length + 1 := by
  unfold txtsP showP
  rw [List.length_map, List.length_cons, ← items_lines, List.length_map]

theorem pin_of {W : World} {B : Nat} {p : PnrT} {vn vs vp vr vx : Value} (h : RdP W B p vn vs vp vr vx) (hf : FineP p) : PIn W p vn vs vp vr vx where
  n := HasE.own h.n
  s := HasE.own h.s
  ph := HasL.own h.ph
  rm := HasL.own h.rm
  x := HasE.own h.x
  fit := by
    have k := hf.fit
    have q : ∀ {n : Nat}, n ≤ 1125899906842624 → n ≤ maxLen := fun h => by unfold maxLen; omega
    exact ⟨q k.loc, q k.off, fun x hx => ⟨q (k.names x hx).1, q (k.names x hx).2⟩, fun x hx => q (k.segs x hx).1, fun x hx => q (k.phones x hx), q k.recv, fun x hx => q (k.remarks x hx)⟩
  wf := hf.wf
  few := h.few

/-- What the reader of a PNR's lines comes to. -/
def ReadE (p : PnrT) (e : Ending) (w : World) : Prop := ∃ vn vs vp vr vx, e = .returned (.tuple #[.agg (pnrC p vn vs vp vr vx).toArray, .bool true]) ∧ PIn w p vn vs vp vr vx
theorem read_back {fn : Func} {p q : Tmp} {pp : PnrT} {B : Nat} (hf : fn.results = #[.cell p 29, .tmp q]) {a : Act} {w w0 : World} {g : Nat} {cs : List Value}
    (hp : a.tmps.getD p undef = .pointer (some ⟨g, 0, none⟩)) (hq : a.tmps.getD q undef = .bool true) (hd : a.defers = []) (hg : Blk w g 29 cs) (hl : cs.length = 12) (hw : Below B w0 w)
    (h : ∃ vn vs vp vr vx, cs = pnrC pp vn vs vp vr vx ∧ PIn w pp vn vs vp vr vx) :
    bodyPost Tryz.prog fn (fun e w' => ReadE pp e w' ∧ Below B w0 w') .ret a w := by
  refine bodyPost_ret (results_row_tmp hf a.tmps w g 29 cs _ hp hg Tryz.underlying29 rfl (by rw [hl]; exact info_pnr)) hd ?_
  rw [hq]
  obtain ⟨vn, vs, vp, vr, vx, rfl, h2⟩ := h
  exact ⟨⟨vn, vs, vp, vr, vx, rfl, h2⟩, hw⟩
end Go.Proofs.YtmhhbnnjilbdnaaGreatDoor.Sh
