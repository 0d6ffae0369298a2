/- screen.Render. -/
import Derived.Test.YtmhhbnnjilbdnaaGreatDoorKA
import Derived.Test.YtmhhbnnjilbdnaaGreatDoorKB
import Derived.Test.YtmhhbnnjilbdnaaGreatDoorKE
import Derived.Test.YtmhhbnnjilbdnaaGreatDoorKF
import Derived.Test.YtmhhbnnjilbdnaaGreatDoorPlnP
import Derived.Test.YtmhhbnnjilbdnaaGreatDoorKG
import Derived.Test.YtmhhbnnjilbdnaaGreatDoorKJ
import Derived.Test.YtmhhbnnjilbdnaaGreatDoorKL
import Derived.Test.YtmhhbnnjilbdnaaGreatDoorKM
import Derived.Test.YtmhhbnnjilbdnaaGreatDoorLA
import Derived.Test.YtmhhbnnjilbdnaaGreatDoorLD
import Derived.Test.YtmhhbnnjilbdnaaGreatDoorLE
import Derived.Test.YtmhhbnnjilbdnaaGreatDoorRows
import Derived.WalkKit
import Derived.WalkSpells
import Derived.WalkLawsBesides
import Derived.Lib.ConvBytes
import Derived.Lib.Hide
import Derived.Lib.SliceRun
import Derived.IntWalk
import Derived.BigQuiet
import Derived.Deep.QuietTactic
import Derived.Deep.RegionWith
import Derived.Deep.RegionHeld3
import Derived.Deep.LoopGhost
import Derived.Deep.CutRange
import Derived.Deep.CutBlock
import Derived.Deep.MidRow
import Derived.Laws.OwnMore
import Derived.OwnWalk
import Derived.Laws.AppendOwnNone
import Derived.Maps.AppendAt
import Derived.Lib.LazyBuf
namespace Go.Proofs.YtmhhbnnjilbdnaaGreatDoor
open Go.RowKit
set_option linter.unusedSimpArgs false

theorem zero_screen : (Tryz.prog.info? 81).bind (·.zero) = some (.agg (byteV (List.replicate 1536 0)).toArray) := by kernel_rfl

theorem size_alloc (w : World) (o : Obj) : (w.alloc o).heap.size = w.heap.size + 1 := by simp

/-- A variable of a screen's type is laid. -/
theorem wpList_alloc_scr {w : World} {ops : Array Oper} {rest : List Oper} {op : Oper} {a : Act} {Q : Exit → Act → World → Prop} (hgd : op.guard = none) (ho : op.op = .alloc 81)
    (h : ∀ w', Arr w' w.heap.size 81 (List.replicate 1536 0) → Below w.heap.size w w' → w'.heap.size = w.heap.size + 1 → wpList Tryz.prog ops Q rest (a.put op.dst (.pointer (some ⟨w.heap.size, 0, none⟩))) w') : wpList Tryz.prog ops Q (op :: rest) a w := by
  refine wpList_plain hgd fun K hK => ?_
  have hz := zero_screen
  rw [Option.bind_eq_some_iff] at hz
  obtain ⟨i, hi, hz⟩ := hz
  have hk := hK _ _ (h (w.alloc (.cells (byteV (List.replicate 1536 0)).toArray 81)) (heap_alloc_new w _) ((Below.refl _ _).alloc (Nat.le_refl _) _) (size_alloc _ _))
  generalize byteV (List.replicate 1536 0) = zs at *
  unfold Oper.wp
  simp [execOp, ho, Instr.alloc, zeroValue, typeInfo, hi, hz, Result.andThen]
  exact hk

/-- Bytes laid over others from a place on. -/
def overL : List UInt8 → Nat → List UInt8 → List UInt8
  | l, _, [] => l
  | l, o, x :: m => overL (l.set o x) (o + 1) m

theorem overL_len : ∀ (m l : List UInt8) (o : Nat), (overL l o m).length = l.length
  | [], _, _ => rfl
  | x :: m, l, o => by rw [overL, overL_len m]; simp

theorem overL_get : ∀ (m l : List UInt8) (o j : Nat), o + m.length ≤ l.length → (overL l o m).getD j 0 = if o ≤ j ∧ j < o + m.length then m.getD (j - o) 0 else l.getD j 0
  | [], l, o, j, _ => by rw [overL, if_neg (by simp only [List.length_nil]; omega)]
  | x :: m, l, o, j, h => by
    simp only [List.length_cons] at h ⊢
    rw [overL, overL_get m (l.set o x) (o + 1) j (by simp; omega), getD_set8 _ _ _ _ (by omega)]
    by_cases h1 : j = o
    · subst h1
      rw [if_neg (by omega), if_pos rfl, if_pos (by omega), Nat.sub_self]
      rfl
    · by_cases h2 : o + 1 ≤ j ∧ j < o + 1 + m.length
      · rw [if_pos h2, if_pos (by omega), show j - o = (j - (o + 1)) + 1 by omega]
        rfl
      · rw [if_neg h2, if_neg h1, if_neg (by omega)]

theorem Arr.over {b : Nat} {T : TypeId} : ∀ (m : List UInt8) (l : List UInt8) (o : Nat) (w : World), Arr w b T l → Arr (w.setCells b o (byteV m)) b T (overL l o m)
  | [], _, _, _, h => h
  | x :: m, l, o, _, h => Arr.over m (l.set o x) (o + 1) _ (h.set o x)

theorem Arr.there {w : World} {b : Nat} {T : TypeId} {l : List UInt8} (h : Arr w b T l) (o n : Nat) (hn : o + n ≤ l.length) : w.there b o n := fun j hj =>
  ⟨by rw [h.cell (by omega)]; rfl, h.frozen _⟩

/-- A page brought into those that there are. -/
def pgN (page : Int) (n : Nat) : Nat := if page < 0 then 0 else if (n : Int) - 1 < page then n - 1 else page.toNat

/-- What stands in the i-th row of a page, ahead of its being filled. -/
def cellK (rows : List ByteArray) (pg i : Nat) : ByteArray :=
  if i < 23 then (if pg * 23 + i < rows.length then rows.getD (pg * 23 + i) ByteArray.empty else ⟨#[]⟩)
  else if 1 < pagesN rows.length then ⟨#[80, 65, 71, 69, 32]⟩ ++ digA (pg + 1) ++ ⟨#[47]⟩ ++ digA (pagesN rows.length) else ⟨#[]⟩

/-- The bytes of a page. -/
def pageL (rows : List ByteArray) (pg : Nat) : List UInt8 := (List.range 24).flatMap fun i => rowL (cellK rows pg i).data.toList

theorem linesS_size (l : List ByteArray) : ∀ s ∈ linesS l, s.size = 64 := by
  intro s hs
  unfold linesS linesN chunks at hs
  simp only [List.mem_flatMap, List.mem_map] at hs
  obtain ⟨_, _, i, _, rfl⟩ := hs
  exact rowL_len _

theorem size1 (w : World) : (Go.sizeOf 5).run Tryz.prog w = .ok 1 w := by kernel_rfl

theorem conv_run (s : ByteArray) (w : World) : (convert 9 69 (.string s)).run Tryz.prog w = .ok (.slice (some ⟨w.heap.size, 0, none⟩) s.size (grownCap w s.size 0 5)) (Lib.bytesWorld w 5 s) :=
  Lib.run_convert_string_bytes (P := Tryz.prog) w 9 69 5 s Tryz.underlying9 Tryz.underlying69 Tryz.underlying5
theorem conv_below (s : ByteArray) (w : World) : Below w.heap.size w (Lib.bytesWorld w 5 s) := ⟨rfl, rfl, rfl, by rw [Lib.bytesWorld_size]; omega, fun i hi => Lib.bytesWorld_at_old _ _ _ _ hi⟩
theorem conv_has_c (s : ByteArray) (w : World) (hs : s.size ≤ maxLen) : HasB (Lib.bytesWorld w 5 s) (.slice (some ⟨w.heap.size, 0, none⟩) s.size (grownCap w s.size 0 5)) s.data.toList := by
  have hl : s.data.toList.length = s.size := by simp
  refine ⟨_, _, by rw [hl], by rw [hl]; exact grownCap_ge _ _ _ _, grownCap_le_maxLen _ _ _ _ hs, fun j hj => ⟨_, _, rfl, ?_⟩⟩
  rw [Nat.zero_add]
  exact Lib.bytesWorld_cell _ _ _ _ (by rw [← hl]; exact hj)

theorem rows_over {cur R : List UInt8} {k : Nat} {f : Nat → List UInt8} (h : ∀ i, i < k → rowK cur i = f i) (hc : cur.length = 1536) (hk : k < 24) (hR : R.length = 64) (hf : f k = R) :
    ∀ i, i < k + 1 → rowK (overL cur (k * 64) R) i = f i := by
  intro i hi
  apply list_eq8
  · rw [rowK_len (by rw [overL_len, hc]) (by omega)]
    by_cases e : i = k
    · rw [e, hf, hR]
    · rw [← h i (by omega), rowK_len hc (by omega)]
  · intro j hj
    rw [rowK_len (by rw [overL_len, hc]) (by omega)] at hj
    rw [rowK_get hj, overL_get _ _ _ _ (by omega)]
    by_cases e : i = k
    · subst e
      rw [if_pos (by omega), hf]
      congr 1
      omega
    · rw [if_neg (by omega), ← h i (by omega), rowK_get hj]

/-- The rows of a screen make it. -/
theorem rows_all {cur : List UInt8} {f : Nat → List UInt8} (h : ∀ i, i < 24 → rowK cur i = f i) (hc : cur.length = 1536) : cur = (List.range 24).flatMap f := by
  have e : ∀ n, n ≤ 24 → cur.take (64 * n) = (List.range n).flatMap f := by
    intro n
    induction n with
    | zero => intro _; rfl
    | succ n ih =>
      intro hn
      have e1 : ([n] : List Nat).flatMap f = f n := by simp
      rw [List.range_succ, List.flatMap_append, ← ih (by omega), e1, ← h n (by omega)]
      unfold rowK
      rw [show 64 * (n + 1) = 64 * n + 64 by omega, List.take_add]
  rw [← e 24 (Nat.le_refl _), List.take_of_length_le (by omega)]

theorem overL_whole {l0 l : List UInt8} (h : l.length = l0.length) : overL l0 0 l = l := by
  apply list_eq8
  · rw [overL_len, h]
  · intro j hj
    rw [overL_len] at hj
    rw [overL_get _ _ _ _ (by omega), if_pos (by omega), Nat.sub_zero]

/-- A whole array is stored into a variable that holds one. -/
theorem wpList_store_arr {P : Program} {w : World} {ops : Array Oper} {rest : List Oper} {op : Oper} {a : Act} {Q : Exit → Act → World → Prop} (hgd : op.guard = none) (ty : TypeId) (x y : Operand) (ho : op.op = .store ty x y)
    (b : Nat) (T : TypeId) (l0 l : List UInt8) (hx : a.eval x = .pointer (some ⟨b, 0, none⟩)) (hy : a.eval y = .agg (byteV l).toArray)
    (ha : Arr w b T l0) (hl : l.length = l0.length) (hi : (P.info? ty).map (·.size) = some l.length)
    (h : ∀ w', Arr w' b T l → Below b w w' → wpList P ops Q rest (a.put op.dst undef) w') : wpList P ops Q (op :: rest) a w := by
  have e1 : (byteV l).toArray.size = l.length := by simp [byteV]
  refine wpList_store_mid hgd ty x y ho b 0 (byteV l).toArray hx hy (by rw [e1]; exact ha.there 0 _ (by omega)) (by rw [e1]; exact hi) (all_oneCell_toArray byteV_one) (h _ ?_ ?_)
  · have := Arr.over l l0 0 w ha
    rwa [overL_whole hl] at this
  · exact bel_setCells (Nat.le_refl _) _ _ _ (Below.refl _ _)

set_option maxRecDepth 20000 in
set_option maxHeartbeats 8000000 in
theorem Render_any (page : Int) (l : List ByteArray) (v : Value) (w : World) (hv : HasL w v l) (hz : ∀ s ∈ l, s.size ≤ 30000) (hpg : pagesN (linesS l).length < 100) :
    Calls Tryz.prog 39 #[.int .i64 page, v] w fun e w' => e = .returned (scrV (pageL (linesS l) (pgN page (pagesN (linesS l).length)))) ∧ Below w.heap.size w w' := by
  have hlen := linesS_len l hz
  have HLI : RowKit.Hid (∀ W, Below w.heap.size w W → _) := Lib.hid fun W h => lines_any l v W (hv.mono h) hz
  have hp1 : 1 ≤ pagesN (linesS l).length := by unfold pagesN; omega
  clear hz hv
  have hrz := linesS_size l
  generalize linesS l = rows at *
  obtain ⟨N, hN⟩ : ∃ N, N = pagesN rows.length := ⟨_, rfl⟩
  rw [← hN] at hp1 hpg ⊢
  have HNN := Lib.hid hN
  clear hN
  go_enter Tryz.func39, Tryz.ntmps39
  go_upto_region 3 with (first
    | (refine wpList_alloc_scr rfl rfl ?_; intro w1 ha1 hb1 hz1)
    | (go_at_call 11; (with_reducible refine (HLI.out _ hb1).mono ?_); rintro e w2 ⟨v2, rfl, ho2, hb2⟩; obtain ⟨p2, c2, rfl⟩ := own_len ho2.has; have hpp := pages_any rows.length p2 c2 w2 (by omega); rw [← HNN.out] at hpp; have HP := Lib.hid hpp; clear hpp; have HO2 := Lib.hid ho2)
    | (go_at_call 68; refine HP.out.mono ?_; rintro e w3 ⟨rfl, rfl⟩))
  clear HP HLI
  have hNi : (1 : Int) ≤ (N : Int) ∧ (N : Int) < 100 := by omega
  obtain ⟨hNi1, hNi2⟩ := hNi
  go_cut [0] from 15 (fun s0 wx => s0 = .int .i64 ((pgN page N : Nat) : Int) ∧ w2 = wx)
  case first =>
    by_cases h1 : page < 0
    · have HE : RowKit.Hid (pgN page N = 0) := Lib.hid (by unfold pgN; rw [if_pos h1])
      go_wp2_with fail
      all_goals (
        go_meet
        exact ⟨by (first | (rw [HE.out]; rfl) | (rw [HE.out]; congr 1; omega)), rfl⟩)
    · by_cases h2 : (N : Int) - 1 < page
      · have HE : RowKit.Hid (((pgN page N : Nat) : Int) = (N : Int) - 1) := Lib.hid (by unfold pgN; rw [if_neg h1, if_pos h2]; omega)
        go_wp2_with fail
        all_goals (
          go_meet
          exact ⟨by (first | (rw [HE.out]; done) | (rw [HE.out]; congr 1; omega)), rfl⟩)
      · have HE : RowKit.Hid (((pgN page N : Nat) : Int) = page) := Lib.hid (by unfold pgN; rw [if_neg h1, if_neg h2]; omega)
        go_wp2_with fail
        all_goals (
          go_meet
          exact ⟨by (first | (rw [HE.out]; done) | (rw [HE.out]; congr 1; omega)), rfl⟩)
  case rest =>
    obtain ⟨rfl, rfl⟩ := hcut
    obtain ⟨pg, hpg0⟩ : ∃ pg, pg = pgN page N := ⟨_, rfl⟩
    rw [← hpg0]
    have hpgN : pg < N := by
      rw [hpg0]; unfold pgN
      split
      · omega
      · split <;> omega
    have HRZ : RowKit.Hid (∀ j, j < rows.length → (rows.getD j ByteArray.empty).size = 64) := Lib.hid fun j hj => by
      have e : rows.getD j ByteArray.empty = rows[j] := by simp [List.getD, hj]
      rw [e]; exact hrz _ (List.getElem_mem hj)
    have HRL : RowKit.Hid (∀ (W : World), HasL W (.slice p2 rows.length c2) rows → ∀ k, k < rows.length → ∃ b off, p2 = some ⟨b, off, none⟩ ∧ W.cell? ⟨b, off + k, none⟩ = some (.string (rows.getD k ByteArray.empty))) := Lib.hid fun W h k hk => by
      rcases h with ⟨_, _, _, rfl, _⟩ | ⟨b, off, c, e, _, _, h3⟩
      · simp at hk
      · injection e with e1 e2 e3
        exact ⟨b, off, e1, h3 k hk⟩
    have HCK : RowKit.Hid (∀ i, cellK rows pg i = if i < 23 then (if pg * 23 + i < rows.length then rows.getD (pg * 23 + i) ByteArray.empty else ⟨#[]⟩) else if 1 < N then ⟨#[80, 65, 71, 69, 32]⟩ ++ digA (pg + 1) ++ ⟨#[47]⟩ ++ digA N else ⟨#[]⟩) := Lib.hid fun i => by
      rw [HNN.out]; rfl
    have HPG := Lib.hid hpg0
    clear hpg0 hrz
    go_wp2_with (first
      | (refine wpList_alloc_scr rfl rfl ?_; intro w4 ha4 hb4 hz4))
    have HA4 := Lib.hid ha4
    clear ha4
    go_loopg [20] 24 (fun g i wr => ∃ (k : Nat) (cur : List UInt8), k ≤ 24 ∧ g = 24 - k ∧ i = .int .i64 k ∧ Below w2.heap.size w2 wr ∧ Arr wr w2.heap.size 81 cur ∧ cur.length = 1536 ∧ ∀ i, i < k → rowK cur i = rowL (cellK rows pg i).data.toList)
    case atStart => exact ⟨0, _, Nat.zero_le _, rfl, rfl, hb4, HA4.out, List.length_replicate .., fun j hj => absurd hj (Nat.not_lt_zero _)⟩
    case round =>
      obtain ⟨k, cur, hk, rfl, rfl, hb, hc, hcl, hcr⟩ := hrel
      have HC := Lib.hid hc
      have HCR := Lib.hid hcr
      clear hc hcr
      by_cases hlt : k < 24
      · have hki : (k : Int) < 24 := by omega
        have hk0 : (0 : Int) ≤ (k : Int) := by omega
        have hckk := HCK.out k
        by_cases h23 : k < 23
        · have h23i : (k : Int) < 23 := by omega
          have h23b : ((k : Int) == 23) = false := by rw [beq_eq_false_iff_ne]; omega
          rw [if_pos h23] at hckk
          by_cases hin : pg * 23 + k < rows.length
          · have hini : (pg : Int) * 23 + (k : Int) < (rows.length : Int) := by omega
            have hin0 : (0 : Int) ≤ (pg : Int) * 23 + (k : Int) := by omega
            rw [if_pos hin] at hckk
            obtain ⟨b5, off5, rfl, c1⟩ := HRL.out _ (HO2.out.has.mono hb) (pg * 23 + k) hin
            have hz5 := HRZ.out (pg * 23 + k) hin
            generalize rows.getD (pg * 23 + k) ByteArray.empty = T at *
            have HT : RowKit.Hid (cellK rows pg k = T) := Lib.hid hckk
            have hTm : T.size ≤ maxLen := by rw [hz5]; decide
            have HCV := conv_run T
            clear hckk hz5
            go_wp2_with fail
            have hhb : Below wr.heap.size wr (Lib.bytesWorld wr.drew 5 T) := (Below.refl _ wr).drew.trans (conv_below T wr.drew)
            have HRW : Calls Tryz.prog 36 #[.slice (some ⟨wr.heap.size, 0, none⟩) T.size (grownCap wr.drew T.size 0 5)] (Lib.bytesWorld wr.drew 5 T) fun e w' => e = .returned (.string (strOf (rowL T.data.toList))) ∧ Below (Lib.bytesWorld wr.drew 5 T).heap.size (Lib.bytesWorld wr.drew 5 T) w' := row_any _ _ _ (conv_has_c T wr.drew hTm)
            have HRW := Lib.hid HRW
            refine wp_region_noPanic ?_
            refine wp_region_held_drew (S := fun _ => True) (by kernel_rfl) trivial (fun hHeld => ?_)
            refine wpAnyH_take (i := 0) (oi := _) (v := ?_) rfl (by kernel_rfl) (by kernel_rfl) (by kernel_rfl) (fun _ _ _ h => h) (Or.inl ⟨by rfl, ?_⟩) (by assumption) ?_
            rotate_left
            · intro w hSw
              (try dsimp only at hSw)
              go_simp
              (try with_reducible rfl)
            try simp only [Act.put, List.getElem_toArray, List.getElem_cons_succ, List.getElem_cons_zero, List.setIfInBounds_toArray, List.set_cons_zero, List.set_cons_succ]
            refine wpAnyH_take (i := 1) (oi := _) (v := ?_) rfl (by kernel_rfl) (by kernel_rfl) (by kernel_rfl) (fun _ _ _ h => h) (Or.inl ⟨by rfl, ?_⟩) (by assumption) ?_
            rotate_left
            · intro w hSw
              (try dsimp only at hSw)
              go_simp
              (try with_reducible rfl)
            try simp only [Act.put, List.getElem_toArray, List.getElem_cons_succ, List.getElem_cons_zero, List.setIfInBounds_toArray, List.set_cons_zero, List.set_cons_succ]
            refine wpAnyH_take (i := 2) (oi := _) (v := ?_) rfl (by kernel_rfl) (by kernel_rfl) (by kernel_rfl) (fun _ _ _ h => h) (Or.inl ⟨by rfl, ?_⟩) (by assumption) ?_
            rotate_left
            · intro w hSw
              (try dsimp only at hSw)
              go_simp
              (try with_reducible rfl)
            try simp only [Act.put, List.getElem_toArray, List.getElem_cons_succ, List.getElem_cons_zero, List.setIfInBounds_toArray, List.set_cons_zero, List.set_cons_succ]
            refine wpAnyH_take (i := 3) (oi := _) (v := ?_) rfl (by kernel_rfl) (by kernel_rfl) (by kernel_rfl) (fun _ _ _ h => h) (Or.inl ⟨by rfl, ?_⟩) (by assumption) ?_
            rotate_left
            · intro w hSw
              (try dsimp only at hSw)
              go_simp
              (try with_reducible rfl)
            try simp only [Act.put, List.getElem_toArray, List.getElem_cons_succ, List.getElem_cons_zero, List.setIfInBounds_toArray, List.set_cons_zero, List.set_cons_succ]
            refine wpAnyH_ready (rs := [4]) (by kernel_rfl) (by simp) ?_
            refine AllReadyH.cons (o := _) rfl (fun K hK => ?_) AllReadyH.nil
            go_simp
            refine hK.out _ _ trivial (fun hHeld => ?_)
            clear hK K
            try simp only [Act.put, List.getElem_toArray, List.getElem_cons_succ, List.getElem_cons_zero, List.setIfInBounds_toArray, List.set_cons_zero, List.set_cons_succ]
            refine wpAnyH_ready (rs := [5]) (by kernel_rfl) (by simp) ?_
            refine AllReadyH.cons (o := _) rfl (fun K hK => ?_) AllReadyH.nil
            go_simp
            go_at_call 36
            (with_reducible refine HRW.out.mono ?_)
            rintro e w5 ⟨rfl, hb5⟩
            have hb6 := bel_trans hhb hb5
            have HAR := Lib.hid (HC.out.mono hb6)
            go_simp
            refine hK.out _ _ trivial (fun hHeld => ?_)
            clear hK K
            try simp only [Act.put, List.getElem_toArray, List.getElem_cons_succ, List.getElem_cons_zero, List.setIfInBounds_toArray, List.set_cons_zero, List.set_cons_succ]
            refine wpAnyH_ready (rs := [6]) (by kernel_rfl) (by simp) ?_
            refine AllReadyH.cons (o := _) rfl (fun K hK => ?_) AllReadyH.nil
            refine step_copy_string rfl (.tmp 55) (.tmp 58) 69 9 rfl 5 Tryz.underlying69 size1 w2.heap.size (k * 64) 64 _ rfl (strOf (rowL T.data.toList)) rfl (by show (rowL T.data.toList).length ≤ 64; rw [rowL_len]; exact Nat.le_refl _) (fun j hj => (HAR.out.there (k * 64) 64 (by omega) j (by have e : (strOf (rowL T.data.toList)).size = (rowL T.data.toList).length := rfl; rw [e, rowL_len] at hj; exact hj)).1) (fun j hj => HAR.out.frozen _) ?_
            refine hK.out _ _ trivial (fun hHeld => ?_)
            clear hK K
            try simp only [Act.put, List.getElem_toArray, List.getElem_cons_succ, List.getElem_cons_zero, List.setIfInBounds_toArray, List.set_cons_zero, List.set_cons_succ]
            refine wpAnyH_done (by kernel_rfl) ?_ _
            refine NoPanic.normal ?_
            go_wp2
            go_roundg (24 - (k + 1))
            case measure => omega
            case rel =>
              have hwb := hb.size
              refine ⟨k + 1, overL cur (k * 64) (rowL T.data.toList), by omega, rfl, by go_num, bel_setCells (Nat.le_refl _) _ _ _ (hb.trans (hb6.mono hwb)), HAR.out.over _ _ _, by rw [overL_len, hcl], rows_over HCR.out hcl hlt (rowL_len _) (by rw [HT.out])⟩
          · have hini : ¬ (pg : Int) * 23 + (k : Int) < (rows.length : Int) := by omega
            rw [if_neg hin] at hckk
            have HT := Lib.hid hckk
            obtain ⟨T, hT⟩ : ∃ T : ByteArray, T = ⟨#[]⟩ := ⟨_, rfl⟩
            have hTm : T.size ≤ maxLen := by rw [hT]; decide
            have HCV := conv_run T
            clear hckk hin
            go_wp2_with fail
            rw [← hT]
            have HT : RowKit.Hid (cellK rows pg k = T) := Lib.hid (by rw [HT.out, hT])
            clear hT
            have hhb : Below wr.heap.size wr (Lib.bytesWorld wr.drew 5 T) := (Below.refl _ wr).drew.trans (conv_below T wr.drew)
            have HRW : Calls Tryz.prog 36 #[.slice (some ⟨wr.heap.size, 0, none⟩) T.size (grownCap wr.drew T.size 0 5)] (Lib.bytesWorld wr.drew 5 T) fun e w' => e = .returned (.string (strOf (rowL T.data.toList))) ∧ Below (Lib.bytesWorld wr.drew 5 T).heap.size (Lib.bytesWorld wr.drew 5 T) w' := row_any _ _ _ (conv_has_c T wr.drew hTm)
            have HRW := Lib.hid HRW
            refine wp_region_noPanic ?_
            refine wp_region_held_drew (S := fun _ => True) (by kernel_rfl) trivial (fun hHeld => ?_)
            refine wpAnyH_take (i := 0) (oi := _) (v := ?_) rfl (by kernel_rfl) (by kernel_rfl) (by kernel_rfl) (fun _ _ _ h => h) (Or.inl ⟨by rfl, ?_⟩) (by assumption) ?_
            rotate_left
            · intro w hSw
              (try dsimp only at hSw)
              go_simp
              (try with_reducible rfl)
            try simp only [Act.put, List.getElem_toArray, List.getElem_cons_succ, List.getElem_cons_zero, List.setIfInBounds_toArray, List.set_cons_zero, List.set_cons_succ]
            refine wpAnyH_take (i := 1) (oi := _) (v := ?_) rfl (by kernel_rfl) (by kernel_rfl) (by kernel_rfl) (fun _ _ _ h => h) (Or.inl ⟨by rfl, ?_⟩) (by assumption) ?_
            rotate_left
            · intro w hSw
              (try dsimp only at hSw)
              go_simp
              (try with_reducible rfl)
            try simp only [Act.put, List.getElem_toArray, List.getElem_cons_succ, List.getElem_cons_zero, List.setIfInBounds_toArray, List.set_cons_zero, List.set_cons_succ]
            refine wpAnyH_take (i := 2) (oi := _) (v := ?_) rfl (by kernel_rfl) (by kernel_rfl) (by kernel_rfl) (fun _ _ _ h => h) (Or.inl ⟨by rfl, ?_⟩) (by assumption) ?_
            rotate_left
            · intro w hSw
              (try dsimp only at hSw)
              go_simp
              (try with_reducible rfl)
            try simp only [Act.put, List.getElem_toArray, List.getElem_cons_succ, List.getElem_cons_zero, List.setIfInBounds_toArray, List.set_cons_zero, List.set_cons_succ]
            refine wpAnyH_take (i := 3) (oi := _) (v := ?_) rfl (by kernel_rfl) (by kernel_rfl) (by kernel_rfl) (fun _ _ _ h => h) (Or.inl ⟨by rfl, ?_⟩) (by assumption) ?_
            rotate_left
            · intro w hSw
              (try dsimp only at hSw)
              go_simp
              (try with_reducible rfl)
            try simp only [Act.put, List.getElem_toArray, List.getElem_cons_succ, List.getElem_cons_zero, List.setIfInBounds_toArray, List.set_cons_zero, List.set_cons_succ]
            refine wpAnyH_ready (rs := [4]) (by kernel_rfl) (by simp) ?_
            refine AllReadyH.cons (o := _) rfl (fun K hK => ?_) AllReadyH.nil
            go_simp
            refine hK.out _ _ trivial (fun hHeld => ?_)
            clear hK K
            try simp only [Act.put, List.getElem_toArray, List.getElem_cons_succ, List.getElem_cons_zero, List.setIfInBounds_toArray, List.set_cons_zero, List.set_cons_succ]
            refine wpAnyH_ready (rs := [5]) (by kernel_rfl) (by simp) ?_
            refine AllReadyH.cons (o := _) rfl (fun K hK => ?_) AllReadyH.nil
            go_simp
            go_at_call 36
            (with_reducible refine HRW.out.mono ?_)
            rintro e w5 ⟨rfl, hb5⟩
            have hb6 := bel_trans hhb hb5
            have HAR := Lib.hid (HC.out.mono hb6)
            go_simp
            refine hK.out _ _ trivial (fun hHeld => ?_)
            clear hK K
            try simp only [Act.put, List.getElem_toArray, List.getElem_cons_succ, List.getElem_cons_zero, List.setIfInBounds_toArray, List.set_cons_zero, List.set_cons_succ]
            refine wpAnyH_ready (rs := [6]) (by kernel_rfl) (by simp) ?_
            refine AllReadyH.cons (o := _) rfl (fun K hK => ?_) AllReadyH.nil
            refine step_copy_string rfl (.tmp 55) (.tmp 58) 69 9 rfl 5 Tryz.underlying69 size1 w2.heap.size (k * 64) 64 _ rfl (strOf (rowL T.data.toList)) rfl (by show (rowL T.data.toList).length ≤ 64; rw [rowL_len]; exact Nat.le_refl _) (fun j hj => (HAR.out.there (k * 64) 64 (by omega) j (by have e : (strOf (rowL T.data.toList)).size = (rowL T.data.toList).length := rfl; rw [e, rowL_len] at hj; exact hj)).1) (fun j hj => HAR.out.frozen _) ?_
            refine hK.out _ _ trivial (fun hHeld => ?_)
            clear hK K
            try simp only [Act.put, List.getElem_toArray, List.getElem_cons_succ, List.getElem_cons_zero, List.setIfInBounds_toArray, List.set_cons_zero, List.set_cons_succ]
            refine wpAnyH_done (by kernel_rfl) ?_ _
            refine NoPanic.normal ?_
            go_wp2
            go_roundg (24 - (k + 1))
            case measure => omega
            case rel =>
              have hwb := hb.size
              refine ⟨k + 1, overL cur (k * 64) (rowL T.data.toList), by omega, rfl, by go_num, bel_setCells (Nat.le_refl _) _ _ _ (hb.trans (hb6.mono hwb)), HAR.out.over _ _ _, by rw [overL_len, hcl], rows_over HCR.out hcl hlt (rowL_len _) (by rw [HT.out])⟩
        · have hk23 : k = 23 := by omega
          have h23i : ¬ (k : Int) < 23 := by omega
          have h23b : ((k : Int) == 23) = true := by rw [hk23]; rfl
          rw [if_neg h23] at hckk
          by_cases hN1 : 1 < N
          · have hN1i : (1 : Int) < (N : Int) := by omega
            rw [if_pos hN1] at hckk
            have d1 := digA_size (n := pg + 1) (by omega)
            have d2 := digA_size (n := N) hpg
            have HI1 : RowKit.Hid (∀ W, Calls Tryz.prog 28 #[.int .i64 ((pg : Int) + 1)] W fun e w' => e = .returned (.string (digA (pg + 1))) ∧ W = w') := Lib.hid fun W => by
              have := itoa_any (pg + 1) W (by omega)
              rwa [Int.natCast_add] at this
            have HI2 : RowKit.Hid (∀ W, Calls Tryz.prog 28 #[.int .i64 (N : Int)] W fun e w' => e = .returned (.string (digA N)) ∧ W = w') := Lib.hid fun W => itoa_any N W hpg
            have hpgi : (pg : Int) < 100 := by omega
            have HK := Lib.hid hk23
            generalize digA (pg + 1) = D1 at *
            generalize digA N = D2 at *
            have HCKK := Lib.hid hckk
            clear hckk hk23 h23
            go_wp2_with (first
              | (go_at_call 28; (with_reducible refine (HI1.out _).mono ?_); rintro e w' ⟨rfl, rfl⟩)
              | (go_at_call 28; (with_reducible refine (HI2.out _).mono ?_); rintro e w' ⟨rfl, rfl⟩))
            obtain ⟨T, hT⟩ : ∃ T : ByteArray, T = ⟨#[80, 65, 71, 69, 32]⟩ ++ D1 ++ ⟨#[47]⟩ ++ D2 := ⟨_, rfl⟩
            rw [← hT]
            have HT : RowKit.Hid (cellK rows pg k = T) := Lib.hid (by rw [HCKK.out, hT])
            have hTm : T.size ≤ maxLen := by
              rw [hT, ByteArray.size_append, ByteArray.size_append, ByteArray.size_append]
              show 5 + D1.size + 1 + D2.size ≤ maxLen
              unfold maxLen
              omega
            have HCV := conv_run T
            clear hT
            have hhb : Below wr.heap.size wr (Lib.bytesWorld wr.drew 5 T) := (Below.refl _ wr).drew.trans (conv_below T wr.drew)
            have HRW : Calls Tryz.prog 36 #[.slice (some ⟨wr.heap.size, 0, none⟩) T.size (grownCap wr.drew T.size 0 5)] (Lib.bytesWorld wr.drew 5 T) fun e w' => e = .returned (.string (strOf (rowL T.data.toList))) ∧ Below (Lib.bytesWorld wr.drew 5 T).heap.size (Lib.bytesWorld wr.drew 5 T) w' := row_any _ _ _ (conv_has_c T wr.drew hTm)
            have HRW := Lib.hid HRW
            refine wp_region_noPanic ?_
            refine wp_region_held_drew (S := fun _ => True) (by kernel_rfl) trivial (fun hHeld => ?_)
            refine wpAnyH_take (i := 0) (oi := _) (v := ?_) rfl (by kernel_rfl) (by kernel_rfl) (by kernel_rfl) (fun _ _ _ h => h) (Or.inl ⟨by rfl, ?_⟩) (by assumption) ?_
            rotate_left
            · intro w hSw
              (try dsimp only at hSw)
              go_simp
              (try with_reducible rfl)
            try simp only [Act.put, List.getElem_toArray, List.getElem_cons_succ, List.getElem_cons_zero, List.setIfInBounds_toArray, List.set_cons_zero, List.set_cons_succ]
            refine wpAnyH_take (i := 1) (oi := _) (v := ?_) rfl (by kernel_rfl) (by kernel_rfl) (by kernel_rfl) (fun _ _ _ h => h) (Or.inl ⟨by rfl, ?_⟩) (by assumption) ?_
            rotate_left
            · intro w hSw
              (try dsimp only at hSw)
              go_simp
              (try with_reducible rfl)
            try simp only [Act.put, List.getElem_toArray, List.getElem_cons_succ, List.getElem_cons_zero, List.setIfInBounds_toArray, List.set_cons_zero, List.set_cons_succ]
            refine wpAnyH_take (i := 2) (oi := _) (v := ?_) rfl (by kernel_rfl) (by kernel_rfl) (by kernel_rfl) (fun _ _ _ h => h) (Or.inl ⟨by rfl, ?_⟩) (by assumption) ?_
            rotate_left
            · intro w hSw
              (try dsimp only at hSw)
              go_simp
              (try with_reducible rfl)
            try simp only [Act.put, List.getElem_toArray, List.getElem_cons_succ, List.getElem_cons_zero, List.setIfInBounds_toArray, List.set_cons_zero, List.set_cons_succ]
            refine wpAnyH_take (i := 3) (oi := _) (v := ?_) rfl (by kernel_rfl) (by kernel_rfl) (by kernel_rfl) (fun _ _ _ h => h) (Or.inl ⟨by rfl, ?_⟩) (by assumption) ?_
            rotate_left
            · intro w hSw
              (try dsimp only at hSw)
              go_simp
              (try with_reducible rfl)
            try simp only [Act.put, List.getElem_toArray, List.getElem_cons_succ, List.getElem_cons_zero, List.setIfInBounds_toArray, List.set_cons_zero, List.set_cons_succ]
            refine wpAnyH_ready (rs := [4]) (by kernel_rfl) (by simp) ?_
            refine AllReadyH.cons (o := _) rfl (fun K hK => ?_) AllReadyH.nil
            go_simp
            refine hK.out _ _ trivial (fun hHeld => ?_)
            clear hK K
            try simp only [Act.put, List.getElem_toArray, List.getElem_cons_succ, List.getElem_cons_zero, List.setIfInBounds_toArray, List.set_cons_zero, List.set_cons_succ]
            refine wpAnyH_ready (rs := [5]) (by kernel_rfl) (by simp) ?_
            refine AllReadyH.cons (o := _) rfl (fun K hK => ?_) AllReadyH.nil
            go_simp
            go_at_call 36
            (with_reducible refine HRW.out.mono ?_)
            rintro e w5 ⟨rfl, hb5⟩
            have hb6 := bel_trans hhb hb5
            have HAR := Lib.hid (HC.out.mono hb6)
            go_simp
            refine hK.out _ _ trivial (fun hHeld => ?_)
            clear hK K
            try simp only [Act.put, List.getElem_toArray, List.getElem_cons_succ, List.getElem_cons_zero, List.setIfInBounds_toArray, List.set_cons_zero, List.set_cons_succ]
            refine wpAnyH_ready (rs := [6]) (by kernel_rfl) (by simp) ?_
            refine AllReadyH.cons (o := _) rfl (fun K hK => ?_) AllReadyH.nil
            refine step_copy_string rfl (.tmp 55) (.tmp 58) 69 9 rfl 5 Tryz.underlying69 size1 w2.heap.size (k * 64) 64 _ rfl (strOf (rowL T.data.toList)) rfl (by show (rowL T.data.toList).length ≤ 64; rw [rowL_len]; exact Nat.le_refl _) (fun j hj => (HAR.out.there (k * 64) 64 (by omega) j (by have e : (strOf (rowL T.data.toList)).size = (rowL T.data.toList).length := rfl; rw [e, rowL_len] at hj; exact hj)).1) (fun j hj => HAR.out.frozen _) ?_
            refine hK.out _ _ trivial (fun hHeld => ?_)
            clear hK K
            try simp only [Act.put, List.getElem_toArray, List.getElem_cons_succ, List.getElem_cons_zero, List.setIfInBounds_toArray, List.set_cons_zero, List.set_cons_succ]
            refine wpAnyH_done (by kernel_rfl) ?_ _
            refine NoPanic.normal ?_
            go_wp2
            go_roundg (24 - (k + 1))
            case measure => omega
            case rel =>
              have hwb := hb.size
              refine ⟨k + 1, overL cur (k * 64) (rowL T.data.toList), by omega, rfl, by go_num, bel_setCells (Nat.le_refl _) _ _ _ (hb.trans (hb6.mono hwb)), HAR.out.over _ _ _, by rw [overL_len, hcl], rows_over HCR.out hcl hlt (rowL_len _) (by rw [HT.out])⟩
          · have hN1i : ¬ (1 : Int) < (N : Int) := by omega
            rw [if_neg hN1] at hckk
            have HCKK := Lib.hid hckk
            obtain ⟨T, hT⟩ : ∃ T : ByteArray, T = ⟨#[]⟩ := ⟨_, rfl⟩
            have hTm : T.size ≤ maxLen := by rw [hT]; decide
            have HCV := conv_run T
            have HK := Lib.hid hk23
            clear hckk hk23 h23
            go_wp2_with fail
            rw [← hT]
            have HT : RowKit.Hid (cellK rows pg k = T) := Lib.hid (by rw [HCKK.out, hT])
            clear hT
            have hhb : Below wr.heap.size wr (Lib.bytesWorld wr.drew 5 T) := (Below.refl _ wr).drew.trans (conv_below T wr.drew)
            have HRW : Calls Tryz.prog 36 #[.slice (some ⟨wr.heap.size, 0, none⟩) T.size (grownCap wr.drew T.size 0 5)] (Lib.bytesWorld wr.drew 5 T) fun e w' => e = .returned (.string (strOf (rowL T.data.toList))) ∧ Below (Lib.bytesWorld wr.drew 5 T).heap.size (Lib.bytesWorld wr.drew 5 T) w' := row_any _ _ _ (conv_has_c T wr.drew hTm)
            have HRW := Lib.hid HRW
            refine wp_region_noPanic ?_
            refine wp_region_held_drew (S := fun _ => True) (by kernel_rfl) trivial (fun hHeld => ?_)
            refine wpAnyH_take (i := 0) (oi := _) (v := ?_) rfl (by kernel_rfl) (by kernel_rfl) (by kernel_rfl) (fun _ _ _ h => h) (Or.inl ⟨by rfl, ?_⟩) (by assumption) ?_
            rotate_left
            · intro w hSw
              (try dsimp only at hSw)
              go_simp
              (try with_reducible rfl)
            try simp only [Act.put, List.getElem_toArray, List.getElem_cons_succ, List.getElem_cons_zero, List.setIfInBounds_toArray, List.set_cons_zero, List.set_cons_succ]
            refine wpAnyH_take (i := 1) (oi := _) (v := ?_) rfl (by kernel_rfl) (by kernel_rfl) (by kernel_rfl) (fun _ _ _ h => h) (Or.inl ⟨by rfl, ?_⟩) (by assumption) ?_
            rotate_left
            · intro w hSw
              (try dsimp only at hSw)
              go_simp
              (try with_reducible rfl)
            try simp only [Act.put, List.getElem_toArray, List.getElem_cons_succ, List.getElem_cons_zero, List.setIfInBounds_toArray, List.set_cons_zero, List.set_cons_succ]
            refine wpAnyH_take (i := 2) (oi := _) (v := ?_) rfl (by kernel_rfl) (by kernel_rfl) (by kernel_rfl) (fun _ _ _ h => h) (Or.inl ⟨by rfl, ?_⟩) (by assumption) ?_
            rotate_left
            · intro w hSw
              (try dsimp only at hSw)
              go_simp
              (try with_reducible rfl)
            try simp only [Act.put, List.getElem_toArray, List.getElem_cons_succ, List.getElem_cons_zero, List.setIfInBounds_toArray, List.set_cons_zero, List.set_cons_succ]
            refine wpAnyH_take (i := 3) (oi := _) (v := ?_) rfl (by kernel_rfl) (by kernel_rfl) (by kernel_rfl) (fun _ _ _ h => h) (Or.inl ⟨by rfl, ?_⟩) (by assumption) ?_
            rotate_left
            · intro w hSw
              (try dsimp only at hSw)
              go_simp
              (try with_reducible rfl)
            try simp only [Act.put, List.getElem_toArray, List.getElem_cons_succ, List.getElem_cons_zero, List.setIfInBounds_toArray, List.set_cons_zero, List.set_cons_succ]
            refine wpAnyH_ready (rs := [4]) (by kernel_rfl) (by simp) ?_
            refine AllReadyH.cons (o := _) rfl (fun K hK => ?_) AllReadyH.nil
            go_simp
            refine hK.out _ _ trivial (fun hHeld => ?_)
            clear hK K
            try simp only [Act.put, List.getElem_toArray, List.getElem_cons_succ, List.getElem_cons_zero, List.setIfInBounds_toArray, List.set_cons_zero, List.set_cons_succ]
            refine wpAnyH_ready (rs := [5]) (by kernel_rfl) (by simp) ?_
            refine AllReadyH.cons (o := _) rfl (fun K hK => ?_) AllReadyH.nil
            go_simp
            go_at_call 36
            (with_reducible refine HRW.out.mono ?_)
            rintro e w5 ⟨rfl, hb5⟩
            have hb6 := bel_trans hhb hb5
            have HAR := Lib.hid (HC.out.mono hb6)
            go_simp
            refine hK.out _ _ trivial (fun hHeld => ?_)
            clear hK K
            try simp only [Act.put, List.getElem_toArray, List.getElem_cons_succ, List.getElem_cons_zero, List.setIfInBounds_toArray, List.set_cons_zero, List.set_cons_succ]
            refine wpAnyH_ready (rs := [6]) (by kernel_rfl) (by simp) ?_
            refine AllReadyH.cons (o := _) rfl (fun K hK => ?_) AllReadyH.nil
            refine step_copy_string rfl (.tmp 55) (.tmp 58) 69 9 rfl 5 Tryz.underlying69 size1 w2.heap.size (k * 64) 64 _ rfl (strOf (rowL T.data.toList)) rfl (by show (rowL T.data.toList).length ≤ 64; rw [rowL_len]; exact Nat.le_refl _) (fun j hj => (HAR.out.there (k * 64) 64 (by omega) j (by have e : (strOf (rowL T.data.toList)).size = (rowL T.data.toList).length := rfl; rw [e, rowL_len] at hj; exact hj)).1) (fun j hj => HAR.out.frozen _) ?_
            refine hK.out _ _ trivial (fun hHeld => ?_)
            clear hK K
            try simp only [Act.put, List.getElem_toArray, List.getElem_cons_succ, List.getElem_cons_zero, List.setIfInBounds_toArray, List.set_cons_zero, List.set_cons_succ]
            refine wpAnyH_done (by kernel_rfl) ?_ _
            refine NoPanic.normal ?_
            go_wp2
            go_roundg (24 - (k + 1))
            case measure => omega
            case rel =>
              have hwb := hb.size
              refine ⟨k + 1, overL cur (k * 64) (rowL T.data.toList), by omega, rfl, by go_num, bel_setCells (Nat.le_refl _) _ _ _ (hb.trans (hb6.mono hwb)), HAR.out.over _ _ _, by rw [overL_len, hcl], rows_over HCR.out hcl hlt (rowL_len _) (by rw [HT.out])⟩
      · have hk24 : k = 24 := by omega
        subst hk24
        have HF : RowKit.Hid (cur = pageL rows pg) := Lib.hid (rows_all HCR.out hcl)
        have HR := Lib.hid HC.out.range
        have hsz : (Tryz.prog.info? 81).map (·.size) = some (byteV cur).length := by rw [byteV_len, hcl]; exact info_screen
        have HI := Lib.hid hsz
        have hb12 := hb1.trans (hb2.mono hb1.size)
        have HA1 := Lib.hid ((ha1.mono hb2).mono hb)
        have HI2 : RowKit.Hid ((Tryz.prog.info? 81).map (·.size) = some cur.length) := Lib.hid (by rw [hcl]; exact info_screen)
        have HCL : RowKit.Hid (cur.length = (List.replicate 1536 (0 : UInt8)).length) := Lib.hid (by rw [hcl, List.length_replicate])
        clear hsz
        go_wp2_with (first
          | (refine wpList_load_mid rfl 81 (.tmp 7) rfl _ 0 rfl (byteV cur) _ HR.out Tryz.underlying81 rfl HI.out ?_)
          | (refine wpList_store_arr rfl 81 (.tmp 4) (.tmp 61) rfl w.heap.size 81 (List.replicate 1536 0) cur rfl rfl HA1.out HCL.out HI2.out ?_; intro w9 ha9 hb9))
        refine bodyPost_ret_by (results_cell_row rfl _ _ w.heap.size 81 (byteV cur).toArray (0, 0) _ rfl ha9 Tryz.underlying81 rfl (by have e := HI2.out; simpa [byteV] using e)) rfl ⟨?_, ?_⟩
        · rw [HF.out, HPG.out]; rfl
        · exact (hb12.trans (hb.mono (by have := hb12.size; omega))).trans (hb9.mono (Nat.le_refl _))
end Go.Proofs.YtmhhbnnjilbdnaaGreatDoor
