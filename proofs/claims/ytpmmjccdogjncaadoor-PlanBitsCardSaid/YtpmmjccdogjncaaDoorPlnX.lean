/- The map's Bits. -/
import Derived.Test.YtpmmjccdogjncaaDoorPlnW
import Derived.Laws.MakeOwn
import Derived.Laws.BitsAllLaws
namespace Go.Proofs.YtpmmjccdogjncaaDoor
open Go.RowKit Go.ChangeMaps
set_option linter.unusedSimpArgs false

def wordV (W : List Nat) : List Value := W.map fun x => .int .u64 (x : Nat)

theorem wordV_flat (W : List Nat) : W.flatMap wordC = wordV W := by
  induction W with
  | nil => rfl
  | cons x W ih => rw [List.flatMap_cons, ih]; rfl

theorem wordV_len (W : List Nat) : (wordV W).length = W.length := by simp [wordV]

theorem wordV_get {W : List Nat} {j : Nat} (h : j < W.length) : (wordV W)[j]? = some (.int .u64 (W.getD j 0 : Nat)) := by
  simp [wordV, List.getD, h]

theorem wordV_set (W : List Nat) (j : Nat) (x : Nat) : (wordV W).set j (.int .u64 (x : Nat)) = wordV (W.set j x) := by
  simp [wordV, List.map_set]

theorem word_info : ∃ i0 : TypeInfo, Tryd.prog.info? 80 = some i0 ∧ i0.zero = some (.int .u64 0) ∧ i0.size = 1 ∧ i0.bytes = 8 := by
  have hbyte : (Tryd.prog.info? 80).map (fun i => (i.zero, i.size, i.bytes)) = some (some (.int .u64 0), 1, 8) := by kernel_rfl
  rw [Option.map_eq_some_iff] at hbyte
  obtain ⟨i0, h1, h2⟩ := hbyte
  simp only [Prod.mk.injEq] at h2
  exact ⟨i0, h1, h2.1, h2.2.1, h2.2.2⟩

/-- A list of words in memory from B on, or nil. -/
def OwnW (w : World) (B : Nat) (v : Value) (l : List Nat) : Prop := w.ownsRow B 80 1 v l.length (l.flatMap wordC)

theorem OwnW.has {w : World} {B : Nat} {v : Value} {l : List Nat} (h : OwnW w B v l) : HasE wordC w v l := HasE.own h
theorem OwnW.nil (w : World) (B : Nat) : OwnW w B (.slice none 0 0) [] := World.ownsRow_nil _ _ _ _
theorem OwnW.mono {w w' : World} {B : Nat} {v : Value} {l : List Nat} (h : OwnW w B v l) (hb : Below w.heap.size w w') : OwnW w' B v l :=
  World.ownsRow.kept h (gr_of_below hb none) (by cases hv : v.ownBlock <;> simp)

/-- A block of words, handed back. -/
theorem blk_own {w : World} {B g : Nat} {W : List Nat} (h : Blk w g 80 (wordV W)) (hB : B ≤ g) (hl : W.length ≤ maxLen) : OwnW w B (.slice (some ⟨g, 0, none⟩) W.length W.length) W := by
  refine ⟨by rw [wordV_flat, wordV_len]; omega, .inr ⟨g, W.length, _, rfl, hB, h, Nat.le_refl _, hl, by simp [wordV_len], ?_⟩⟩
  rw [wordV_flat]
  simp [wordV_len, List.take_of_length_le]

theorem made_words (n : Nat) : madeCells #[.int .u64 0] n = (wordV (List.replicate n 0)).toArray := by
  apply Array.ext'
  simp only [madeCells, wordV, List.map_replicate]
  apply List.ext_getElem?
  intro i
  by_cases hi : i < n
  · simp [List.getElem?_replicate, hi, Nat.mod_one]
  · simp [List.getElem?_replicate, hi]

/-- 'make([]uint64, n)'. -/
theorem wpList_make_words {w : World} {ops : Array Oper} {rest : List Oper} {o : Oper} {a : Act} {Q : Exit → Act → World → Prop} (hgd : o.guard = none) (x y : Operand) (ho : o.op = .makeSlice 49 x y)
    (n : Nat) {z : Int} (hx : a.eval x = .int .i64 z) (hy : a.eval y = .int .i64 z) (hzn : z = n) (hn : n ≤ 1000)
    (h : ∀ w', Blk w' w.heap.size 80 (wordV (List.replicate n 0)) → Below w.heap.size w w' → wpList Tryd.prog ops Q rest (a.put o.dst (.slice (some ⟨w.heap.size, 0, none⟩) n n)) w') :
    wpList Tryd.prog ops Q (o :: rest) a w := by
  subst hzn
  obtain ⟨i0, hi, hz, hsz, hby⟩ := word_info
  refine wpList_plain hgd fun K' hK' => ?_
  have hr := run_make (P := Tryd.prog) w 49 80 i0 _ Tryd.underlying49 hi hz .i64 .i64 (n : Int) (n : Int) (by omega) (by omega) (by rw [hby]; omega) (by omega)
  rw [hsz, Nat.mul_one] at hr
  simp only [Int.toNat_natCast] at hr
  unfold Oper.wp
  simp only [execOp, ho, hx, hy, hr, Sem.run_bind, Sem.run_pure, Result.andThen_ok, Sem.run_map]
  refine hK' _ _ (h _ ?_ ((Below.refl _ _).alloc (Nat.le_refl _) _))
  have := Blk.new w 80 (wordV (List.replicate n 0))
  rw [← made_words] at this
  exact this

theorem and63 (n : Nat) (h : n < 18446744073709551616) : bits .and .u64 (n : Int) 63 = ((n % 64 : Nat) : Int) := by
  rw [show (63 : Int) = ((63 : Nat) : Int) from rfl, u64_and_nat n 63 h (by omega), nat_mask6]

theorem and1 (n : Nat) (h : n < 18446744073709551616) : bits .and .u64 (n : Int) 1 = ((n % 2 : Nat) : Int) := by
  rw [show (1 : Int) = ((1 : Nat) : Int) from rfl, u64_and_nat n 1 h (by omega), nat_mask1]

theorem div_cast (n c : Nat) : (n : Int) / 2 ^ c = ((n / 2 ^ c : Nat) : Int) := by
  rw [Int.natCast_ediv, Int.natCast_pow]
  rfl

theorem pow_cast (c : Nat) : (2 : Int) ^ c = ((2 ^ c : Nat) : Int) := by
  rw [Int.natCast_pow]
  rfl

theorem pow_low {c : Nat} (hc : c < 64) : 2 ^ c < 18446744073709551616 := Nat.lt_of_lt_of_le (Nat.pow_lt_pow_right (by omega) hc) (by decide)

theorem wrap_pow {c : Nat} (hc : c < 64) : IntKind.u64.wrap ((2 : Int) ^ c) = ((2 ^ c : Nat) : Int) := by
  have h3 := pow_low hc
  rw [pow_cast, IntKind.wrap_u64]
  generalize 2 ^ c = x at *
  omega

theorem or_pow {n c : Nat} (hn : n < 18446744073709551616) (hc : c < 64) : bits .or .u64 (n : Int) (IntKind.u64.wrap ((2 : Int) ^ c)) = ((n ||| 2 ^ c : Nat) : Int) := by
  rw [wrap_pow hc, u64_or_nat _ _ hn (pow_low hc)]

theorem bit_mod (n c : Nat) : (n / 2 ^ c % 2 = 1) ↔ n.testBit c = true := by
  rw [Nat.testBit_eq_decide_div_mod_eq, decide_eq_true_eq]

/-- Is a place of a map a seat? -/
def obQ (P : List St) (f : St → Mk) (s : St) : Bool := decide (s ∈ P) && !(lkF P f s).blk

set_option maxRecDepth 20000 in
set_option maxHeartbeats 16000000 in
theorem bits_ob (g b : Nat) (vl vs : Value) (P : List St) (f : St → Mk) (L : List St) (w : World) (h : Ob w g b P f) (hv : w.cell? ⟨g, 1, none⟩ = some vl) (hvl : HasE stC w vl P) (hvs : HasE stC w vs L) (hP : P.length ≤ 1000) (hL : L.length ≤ 100000)
    (hnum : ∀ s, s ∈ P → (f s).num = atL P s) (hok : ∀ s, s ∈ L → okRow s.1) (hnd : P.Nodup) :
    Calls Tryd.prog 35 #[.pointer (some ⟨g, 0, none⟩), vs] w fun e w' => ∃ v, e = .returned (.tuple #[v, .int .i64 (bitsE (obQ P f) L)]) ∧ OwnW w' w.heap.size v (bitsR P (obQ P f) L) ∧ Below w.heap.size w w' := by
  obtain ⟨pl, cl, rfl⟩ := hvl.len
  obtain ⟨ps, cs, rfl⟩ := hvs.len
  have HO := Lib.hid h
  have HS := Lib.hid hvs
  have HHS : RowKit.Hid (∀ W s, Below w.heap.size w W → okRow s.1 → Calls Tryd.prog 28 #[.pointer (some ⟨g, 0, none⟩), .agg #[.int .i64 s.1, .int .u8 s.2.toNat]] W fun e w' => e = .returned (.bool (obQ P f s)) ∧ Below W.heap.size W w') := Lib.hid fun W s h1 h2 => has_ob g b P f s W (h.mono h1) h2
  have HQ : RowKit.Hid (∀ s, obQ P f s = true → s ∈ P) := Lib.hid fun s h => by
    unfold obQ at h
    rw [Bool.and_eq_true, decide_eq_true_eq] at h
    exact h.1
  have HE1 : RowKit.Hid (∀ k, k < L.length → obQ P f (L.getD k st0) = false → bitsE (obQ P f) L = 15) := Lib.hid fun k h1 h2 => bitsE_seat h1 h2
  have HE2 : RowKit.Hid ((∀ k, k < L.length → obQ P f (L.getD k st0) = true) → ∀ k, k < L.length → L.getD k st0 ∈ L.take k → bitsE (obQ P f) L = 8) := Lib.hid fun h k h1 h2 => bitsE_twice (all_of h) h1 h2
  have HE3 : RowKit.Hid ((∀ k, k < L.length → obQ P f (L.getD k st0) = true) → (L.take L.length).Nodup → bitsE (obQ P f) L = 0) := Lib.hid fun h h1 => bitsE_ok (all_of h) h1
  have hwn : ((P.length : Int) + 63) / 64 = (nWords P : Nat) := by unfold nWords; omega
  have hwn2 : nWords P ≤ 1000 := by unfold nWords; omega
  have HR0 := Lib.hid (@bitsR_ok P (obQ P f) L)
  have HRN : RowKit.Hid (∀ e, bitsE (obQ P f) L = e → e ≠ 0 → bitsR P (obQ P f) L = []) := Lib.hid fun e h1 h2 => bitsR_no h1 h2
  generalize obQ P f = q at *
  generalize hN : P.length = N at *
  generalize hM : L.length = M at *
  have HN := Lib.hid hN
  have HM := Lib.hid hM
  clear h hvl hvs hN hM
  go_enter Tryd.func35, Tryd.ntmps35
  go_wp2_with (first
    | (at_make; refine wpList_make_words rfl _ _ rfl (nWords P) rfl rfl hwn hwn2 ?_; intro w1 hbk1 hb1))
  have HWN := Lib.hid hwn
  generalize hW : nWords P = W at *
  clear hwn
  go_loopg [22] M (fun g0 i wr => ∃ (k : Nat), k ≤ M ∧ g0 = M - k ∧ i = .int .i64 (k : Int) ∧ Below w.heap.size w wr ∧ Blk wr w.heap.size 80 (wordV (List.replicate W 0)) ∧ ∀ i, i < k → q (L.getD i st0) = true)
  case atStart => exact ⟨0, Nat.zero_le _, rfl, rfl, hb1, hbk1, fun i hi => absurd hi (Nat.not_lt_zero _)⟩
  case round =>
    obtain ⟨k, hk, rfl, rfl, hb2, hbk2, hall⟩ := hrel
    have HALL := Lib.hid hall
    have HBK := Lib.hid hbk2
    clear hall hbk2
    by_cases hlt : k < M
    · have hki : (k : Int) < (M : Int) := by omega
      have hk0 : (0 : Int) ≤ (k : Int) := by omega
      obtain ⟨bb, off, rfl, hr, _, _⟩ := st_at (HS.out.mono hb2) (i := k) (by rw [HM.out]; exact hlt)
      have hokk := hok (L.getD k st0) (List.mem_of_getElem? (getD_get (by rw [HM.out]; exact hlt)))
      have HE1k := Lib.hid (HE1.out k hlt)
      have HNX : RowKit.Hid (q (L.getD k st0) = true → ∀ i, i < k + 1 → q (L.getD i st0) = true) := Lib.hid fun h i hi => by
        rcases Nat.lt_or_ge i k with h1 | h1
        · exact HALL.out i h1
        · rw [show i = k by omega]; exact h
      generalize L.getD k st0 = s at *
      cases hqs : q s
      · have HF := Lib.hid (HE1k.out hqs)
        have HF2 := Lib.hid (HRN.out 15 HF.out (by decide))
        go_wp2_with (first
          | (refine wpList_load_mid rfl 23 _ rfl bb (off + k * 2) rfl [.int .i64 s.1, .int .u8 s.2.toNat] _ hr Tryd.underlying23 rfl info_seat ?_)
          | (refine wpList_store_blk rfl 23 (.tmp 8) (.tmp 25) rfl wr.heap.size 23 (seatC 0 0) [.int .i64 s.1, .int .u8 s.2.toNat] rfl rfl (Blk.new wr 23 (seatC 0 0)) rfl info_seat seatC_one ?_; intro w8 ha8 hb8 _; have hb18 : Below wr.heap.size wr w8 := (((Below.refl _ _).alloc (Nat.le_refl _) _).trans hb8))
          | (refine wpList_load_mid rfl 23 (.tmp 8) rfl wr.heap.size 0 rfl [.int .i64 s.1, .int .u8 s.2.toNat] _ ha8.range Tryd.underlying23 rfl info_seat ?_)
          | (go_at_call 28; (with_reducible refine (HHS.out _ s (below_low hb2 hb2.size hb18) hokk).mono ?_); rintro e w9 ⟨rfl, hb9⟩; rw [hqs]))
        go_ret2
        exact ⟨_, by rw [HF.out]; rfl, by rw [HF2.out]; exact OwnW.nil _ _, below_low (below_low hb2 hb2.size hb18) (below_low hb2 hb2.size hb18).size hb9⟩
      · have HY := Lib.hid (HNX.out hqs)
        go_wp2_with (first
          | (refine wpList_load_mid rfl 23 _ rfl bb (off + k * 2) rfl [.int .i64 s.1, .int .u8 s.2.toNat] _ hr Tryd.underlying23 rfl info_seat ?_)
          | (refine wpList_store_blk rfl 23 (.tmp 8) (.tmp 25) rfl wr.heap.size 23 (seatC 0 0) [.int .i64 s.1, .int .u8 s.2.toNat] rfl rfl (Blk.new wr 23 (seatC 0 0)) rfl info_seat seatC_one ?_; intro w8 ha8 hb8 _; have hb18 : Below wr.heap.size wr w8 := (((Below.refl _ _).alloc (Nat.le_refl _) _).trans hb8))
          | (refine wpList_load_mid rfl 23 (.tmp 8) rfl wr.heap.size 0 rfl [.int .i64 s.1, .int .u8 s.2.toNat] _ ha8.range Tryd.underlying23 rfl info_seat ?_)
          | (go_at_call 28; (with_reducible refine (HHS.out _ s (below_low hb2 hb2.size hb18) hokk).mono ?_); rintro e w9 ⟨rfl, hb9⟩; rw [hqs]))
        go_roundg (M - (k + 1))
        case measure => omega
        case rel => exact ⟨k + 1, by omega, rfl, by go_num, below_low (below_low hb2 hb2.size hb18) (below_low hb2 hb2.size hb18).size hb9, (HBK.out.mono hb18).mono hb9, HY.out⟩
    · have hkM : k = M := by omega
      subst hkM
      have hki : ¬ (k : Int) < (k : Int) := by omega
      have HE2k := Lib.hid (HE2.out HALL.out)
      have HE3k := Lib.hid (HE3.out HALL.out)
      have HBK2 : RowKit.Hid (Blk wr w.heap.size 80 (wordV (wordsN P []))) := Lib.hid (by rw [wordsN_nil, hW]; exact HBK.out)
      go_wp2
      go_loopg [33] k (fun g0 i wr => ∃ (m : Nat), m ≤ k ∧ g0 = k - m ∧ i = .int .i64 (m : Int) ∧ Below w.heap.size w wr ∧ Blk wr w.heap.size 80 (wordV (wordsN P (L.take m))) ∧ (L.take m).Nodup)
      case atStart => exact ⟨0, Nat.zero_le _, rfl, rfl, hb2, HBK2.out, List.nodup_nil⟩
      case round =>
        obtain ⟨m, hm, rfl, rfl, hb3, hbk3, hnd3⟩ := hrel
        have HBK3 := Lib.hid hbk3
        have HND3 := Lib.hid hnd3
        clear hbk3 hnd3
        by_cases hlt2 : m < k
        · have hmi : (m : Int) < (k : Int) := by omega
          have hm0 : (0 : Int) ≤ (m : Int) := by omega
          obtain ⟨bb, off, rfl, hr, _, _⟩ := st_at (HS.out.mono hb3) (i := m) (by rw [HM.out]; exact hlt2)
          have hgm : L[m]? = some (L.getD m st0) := getD_get (by rw [HM.out]; exact hlt2)
          have hqs := HALL.out m hlt2
          have hsP := HQ.out _ hqs
          have hokm := hok _ (List.mem_of_getElem? hgm)
          have hgi := get_idxOf hsP
          have hfn := hnum _ hsP
          have hlk : lkF P f (L.getD m st0) = f (L.getD m st0) := if_pos hsP
          have HE2m := Lib.hid (HE2k.out m hlt2)
          have HST := Lib.hid (nodup_step (l := L) (k := m) (by rw [HM.out]; exact hlt2) HND3.out)
          have HTP := Lib.hid (take_push (l := L) (k := m) (by rw [HM.out]; exact hlt2))
          generalize L.getD m st0 = s at *
          have hat : atL P s = (P.idxOf s : Nat) := by unfold atL; rw [if_pos hsP]
          rw [hat] at hfn
          generalize P.idxOf s = n0 at *
          have hn0N : n0 < N := by rw [← HN.out]; exact (List.getElem?_eq_some_iff.1 hgi).1
          have HPU := Lib.hid (wordsN_push hnd hgi (L.take m))
          have HTB : RowKit.Hid ((wordN P (L.take m) (n0 / 64)).testBit (n0 % 64) = decide (s ∈ L.take m)) := Lib.hid (by
            rw [wordN_bit _ _ _ _ (Nat.mod_lt _ (by omega)), show 64 * (n0 / 64) + n0 % 64 = n0 by omega, inL_at hgi])
          have hjW : n0 / 64 < W := by
            rw [← hW]; unfold nWords; rw [HN.out]; omega
          have hcw : wr.cell? ⟨w.heap.size, n0 / 64, none⟩ = some (.int .u64 (wordN P (L.take m) (n0 / 64) : Nat)) := by
            rw [HBK3.out.cell, wordV_get (by rw [wordsN_len, hW]; exact hjW), wordsN_getD (by rw [hW]; exact hjW)]
          have hwlt := wordN_lt P (L.take m) (n0 / 64)
          clear hgm hqs hsP hgi hat
          generalize wordN P (L.take m) (n0 / 64) = wd at *
          go_upto_region 11 with (first
            | (refine wpList_load_mid rfl 23 _ rfl bb (off + m * 2) rfl [.int .i64 s.1, .int .u8 s.2.toNat] _ hr Tryd.underlying23 rfl info_seat ?_)
            | (refine wpList_store_blk rfl 23 (.tmp 10) (.tmp 36) rfl wr.heap.size 23 (seatC 0 0) [.int .i64 s.1, .int .u8 s.2.toNat] rfl rfl (Blk.new wr 23 (seatC 0 0)) rfl info_seat seatC_one ?_; intro w8 ha8 hb8 _))
          dsimp only [Act.put]
          have hb18 : Below wr.heap.size wr w8 := (((Below.refl _ _).alloc (Nat.le_refl _) _).trans hb8)
          have hb08 := below_low hb3 hb3.size hb18
          have ho8 := HO.out.mono hb08
          have c0 := ho8.cell
          have s0 : w8.cell? ⟨wr.heap.size, 0, none⟩ = some (.int .i64 s.1) := (ha8.cell 0).trans rfl
          have s1 : w8.cell? ⟨wr.heap.size, 1, none⟩ = some (.int .u8 s.2.toNat) := (ha8.cell 1).trans rfl
          have hl1 : ∀ n, _ := fun n => (ho8.mono (below_drewN (Below.refl w8.heap.size w8) n)).map.look1 s hokm
          rw [hlk, hfn] at hl1
          have hcw8 := cell_bel hb18 hcw
          have HBK8 := Lib.hid (HBK3.out.mono hb18)
          generalize (f s).blk = fb at *
          generalize (f s).txt = ft at *
          have hfl : ∀ W, (Instr.field 90 (.agg #[.int .i64 (n0 : Nat), .bool fb, .string ft]) 0).run Tryd.prog W = .ok (.int .i64 (n0 : Nat)) W := fun W => by
            first
              | (rfl)
              | (kernel_rfl)
              | (simp [Instr.field, go_sem, run_underlying Tryd.underlying90])
          clear hb8 ho8 hlk hcw hfn
          go_quiet (fail)
          have hcw9 : (w8.drewN nq).cell? ⟨w.heap.size, n0 / 64, none⟩ = some (.int .u64 (wd : Nat)) := cell_bel (below_drewN (Below.refl w8.heap.size w8) nq) hcw8
          have HBK9 := Lib.hid (HBK8.out.mono (below_drewN (Below.refl w8.heap.size w8) nq))
          have hb09 := below_drewN hb08 nq
          have hfz9 : (w8.drewN nq).frozen? ⟨w.heap.size, n0 / 64, none⟩ = false := HBK9.out.frozen _
          generalize w8.drewN nq = w9 at *
          clear hl1 hfl s0 s1 c0 ha8 hcw8
          have hj0 : ((n0 : Int) / 64) = ((n0 / 64 : Nat) : Int) := by omega
          have ha63 := and63 n0 (by omega)
          have hc64 : n0 % 64 < 64 := Nat.mod_lt _ (by omega)
          generalize n0 / 64 = j at *
          generalize n0 % 64 = c at *
          have hjWi : (j : Int) < (W : Int) := by omega
          have hw1 : wd / 2 ^ c < 18446744073709551616 := Nat.lt_of_le_of_lt (Nat.div_le_self _ _) hwlt
          have ha1 := and1 (wd / 2 ^ c) hw1
          rw [← div_cast] at ha1
          have hor := or_pow hwlt hc64
          have hbm := bit_mod wd c
          by_cases htw : s ∈ L.take m
          · have HF := Lib.hid (HE2m.out htw)
            have HF2 := Lib.hid (HRN.out 8 HF.out (by decide))
            have h1 : ((wd / 2 ^ c % 2 : Nat) : Int) = 1 := by
              have := hbm.2 (by rw [HTB.out]; exact decide_eq_true htw)
              omega
            rw [h1] at ha1
            clear htw h1 hbm hor
            go_wp2
            go_ret2
            exact ⟨_, by rw [HF.out]; rfl, by rw [HF2.out]; exact OwnW.nil _ _, hb09⟩
          · have hnn := HST.out htw
            have h1 : ((wd / 2 ^ c % 2 : Nat) : Int) = 0 := by
              have h2 : ¬ wd / 2 ^ c % 2 = 1 := fun h => by
                have := hbm.1 h
                rw [HTB.out] at this
                exact htw (of_decide_eq_true this)
              omega
            rw [h1] at ha1
            have HBN : RowKit.Hid (Blk (w9.setCell ⟨w.heap.size, j, none⟩ (.int .u64 ((wd ||| 2 ^ c : Nat) : Int))) w.heap.size 80 (wordV (wordsN P (L.take (m + 1))))) := Lib.hid (by
              rw [HTP.out, HPU.out, ← wordV_set]
              exact HBK9.out.set j _)
            have hbN : Below w.heap.size w (w9.setCell ⟨w.heap.size, j, none⟩ (.int .u64 ((wd ||| 2 ^ c : Nat) : Int))) := hb09.setCell (p := ⟨w.heap.size, j, none⟩) (Nat.le_refl _) _
            have HNN := Lib.hid hnn
            generalize wd ||| 2 ^ c = wx at *
            clear htw h1 hbm hnn
            go_wp2
            go_roundg (k - (m + 1))
            case measure => omega
            case rel => exact ⟨m + 1, by omega, rfl, by go_num, hbN, HBN.out, HNN.out⟩
        · have hmk : m = k := by omega
          subst hmk
          have hmi : ¬ (m : Int) < (m : Int) := by omega
          have HF := Lib.hid (HE3k.out HND3.out)
          have HF2 := Lib.hid (HR0.out HF.out)
          go_wp2
          go_ret2
          refine ⟨_, by rw [HF.out]; rfl, ?_, hb3⟩
          rw [HF2.out]
          have hb4 := blk_own HBK3.out (Nat.le_refl _) (by rw [wordsN_len, hW]; unfold maxLen; omega)
          rw [wordsN_len, hW] at hb4
          exact HM.out ▸ (by rw [← HM.out, List.take_length] at hb4; exact hb4)
end Go.Proofs.YtpmmjccdogjncaaDoor
