/- The lines of a formed PNR can be shown as they are; screens of such lines tell them apart (plain). -/
import Derived.Test.YtmhhbnnjilbdnaaGreatDoorSA
import Derived.Test.YtmhhbnnjilbdnaaGreatDoorKL
import Derived.Test.YtmhhbnnjilbdnaaGreatDoorLD
import Derived.Test.YtmhhbnnjilbdnaaGreatDoorLF
import Derived.Test.YtmhhbnnjilbdnaaGreatDoorSAW
namespace Go.Proofs.YtmhhbnnjilbdnaaGreatDoor.Sh
open Go.RowKit En
set_option linter.unusedSimpArgs false
set_option linter.unusedVariables false
set_option maxRecDepth 20000

/-- All bytes can be shown. -/
def okL (l : List UInt8) : Prop := ∀ c ∈ l, 32 ≤ c.toNat ∧ c.toNat ≤ 126
/-- There is a last byte, and it is no blank. -/
def endL (l : List UInt8) : Prop := ∃ a c, l = a ++ [c] ∧ c ≠ 32
theorem okL.app {a b : List UInt8} (ha : okL a) (hb : okL b) : okL (a ++ b) := fun c hc => by
  rcases List.mem_append.1 hc with h | h
  · exact ha c h
  · exact hb c h
theorem okL.cons {c : UInt8} {l : List UInt8} (h : 32 ≤ c.toNat ∧ c.toNat ≤ 126) (hl : okL l) : okL (c :: l) := fun d hd => by
  rcases List.mem_cons.1 hd with rfl | k
  · exact h
  · exact hl d k
theorem okL.nil : okL [] := fun c hc => by cases hc
theorem endL.app {a b : List UInt8} (h : endL b) : endL (a ++ b) := by
  obtain ⟨x, c, rfl, hc⟩ := h
  exact ⟨a ++ x, c, by simp, hc⟩
theorem endL.cons {d : UInt8} {b : List UInt8} (h : endL b) : endL (d :: b) := endL.app (a := [d]) h
theorem endL.of {l : List UInt8} (hne : l ≠ []) (h : ∀ c ∈ l, c ≠ 32) : endL l := by
  have e := List.dropLast_concat_getLast hne
  exact ⟨l.dropLast, l.getLast hne, e.symm, h _ (List.getLast_mem hne)⟩

/-- A line that can be shown in one row. -/
structure LnOk (l : List UInt8) : Prop where
  ok : okL l
  en : endL l
  le : l.length ≤ 64

theorem bL_ok {c : UInt8} (h : bL c = true) : 65 ≤ c.toNat ∧ c.toNat ≤ 90 := by
  have := of_decide_eq_true (show decide (65 ≤ (c.toNat : Int) ∧ (c.toNat : Int) ≤ 90) = true from h)
  omega
theorem bD_ok {c : UInt8} (h : bD c = true) : 48 ≤ c.toNat ∧ c.toNat ≤ 57 := by
  have := of_decide_eq_true (show decide (48 ≤ (c.toNat : Int) ∧ (c.toNat : Int) ≤ 57) = true from h)
  omega
theorem ne32 {c : UInt8} (h : 33 ≤ c.toNat) : c ≠ 32 := fun e => by subst e; exact absurd h (by decide)
theorem letters_all {l : List UInt8} {a b : Int} (h : lettersS l a b = true) : ∀ c ∈ l, 65 ≤ c.toNat ∧ c.toNat ≤ 90 := fun c hc => by
  unfold lettersS at h
  rw [Bool.and_eq_true] at h
  exact bL_ok (List.all_eq_true.1 h.2 c hc)
theorem letters_le {l : List UInt8} {a b : Int} (h : lettersS l a b = true) : a ≤ (l.length : Int) ∧ (l.length : Int) ≤ b := by
  unfold lettersS at h
  rw [Bool.and_eq_true] at h
  exact of_decide_eq_true h.1
theorem letters_ok {l : List UInt8} {a b : Int} (h : lettersS l a b = true) : okL l := fun c hc => by have := letters_all h c hc; omega
theorem letters_end {l : List UInt8} {a b : Int} (ha : 1 ≤ a) (h : lettersS l a b = true) : endL l :=
  endL.of (fun e => by have := letters_le h; rw [e] at this; simp at this; omega) fun c hc => ne32 (by have := letters_all h c hc; omega)

theorem bF_ok {c : UInt8} (h : bF c = true) : 33 ≤ c.toNat ∧ c.toNat ≤ 126 := by
  unfold bF at h
  simp only [Bool.or_eq_true, beq_iff_eq] at h
  rcases h with (((h | h) | h) | h) | h
  · have := bL_ok h; omega
  · have := bD_ok h; omega
  · omega
  · omega
  · omega

theorem free_parts {s : ByteArray} (h : freeP s) : okL (toL s) ∧ endL (toL s) ∧ 1 ≤ (toL s).length ∧ (toL s).length ≤ 40 := by
  unfold freeP at h
  rw [free_eq] at h
  generalize toL s = l at *
  unfold refFreeS at h
  simp only [Bool.and_eq_true, Bool.not_eq_true', beq_eq_false_iff_ne] at h
  obtain ⟨⟨⟨h1, h2⟩, h3⟩, h4⟩ := h
  have h1 := of_decide_eq_true h1
  have hne : l ≠ [] := fun e => by rw [e] at h1; simp at h1
  refine ⟨fun c hc => ?_, ⟨l.dropLast, l.getLast hne, (List.dropLast_concat_getLast hne).symm, fun e => h3 ?_⟩, h1⟩
  · obtain ⟨k, hk, rfl⟩ := List.mem_iff_getElem.1 hc
    have := List.all_eq_true.1 h4 k (List.mem_range.2 hk)
    unfold okAt at this
    rw [Bool.and_eq_true, Bool.or_eq_true] at this
    have e : l.getD k 0 = l[k] := by simp [List.getD, hk]
    rw [e] at this
    rcases this.2 with h | h
    · have := bF_ok h; omega
    · have := beq_iff_eq.1 h; omega
  · have e2 : l.getD (l.length - 1) 0 = l.getLast hne := by
      rw [List.getLast_eq_getElem]
      simp [List.getD, show l.length - 1 < l.length by omega]
    rw [e2, e]; rfl

theorem itoa_ok (n : Int) : okL (itoaL n) := fun c hc => by have := itoa_all hc; omega
theorem digL_le : ∀ (k n : Nat), n < 10 ^ (k + 1) → (digL n).length ≤ k + 1
  | 0, n, h => by rw [digL_lt (by simpa using h)]; simp
  | k + 1, n, h => by
    by_cases h1 : n < 10
    · rw [digL_lt h1]; simp
    · rw [digL_ge h1, List.length_append]
      have := digL_le k (n / 10) (by rw [Nat.pow_succ] at h; omega)
      simp only [List.length_singleton]
      omega
theorem itoa_le20 {n : Int} (h : (Lit.int .i64 n).wf = true) : (itoaL n).length ≤ 20 := by
  have hb : -9223372036854775808 ≤ n ∧ n ≤ 9223372036854775807 := by
    simp [Lit.wf, IntKind.min, IntKind.max, IntKind.signed, IntKind.bits] at h
    exact h
  unfold itoaL
  split
  · have := digL_le 18 n.natAbs (by have : (10 : Nat) ^ 19 = 10000000000000000000 := by decide
                                    omega)
    simp only [List.length_cons]
    omega
  · have := digL_le 18 n.toNat (by have : (10 : Nat) ^ 19 = 10000000000000000000 := by decide
                                   omega)
    omega
theorem itoa_le4 {n : Int} (h0 : 0 ≤ n) (h : n < 10000) : (itoaL n).length ≤ 4 := by
  unfold itoaL
  rw [if_neg (by omega)]
  exact digL_le 3 n.toNat (by have : (10 : Nat) ^ 4 = 10000 := by decide
                              omega)

theorem day_shown : ∀ d, d < 366 → (Da.dtxt d).all (fun c => decide (32 ≤ c.toNat ∧ c.toNat ≤ 126)) = true := by decide +kernel
theorem clk_shown : ∀ d, d < 1440 → (Da.ctxt d).all (fun c => decide (33 ≤ c.toNat ∧ c.toNat ≤ 126)) = true := by decide +kernel
theorem day_ok {a : Int} (ha : 0 ≤ a ∧ a < 366) : okL (dTx a) := fun c hc => by
  unfold dTx at hc
  rw [if_pos ha] at hc
  exact of_decide_eq_true (List.all_eq_true.1 (day_shown a.toNat (by omega)) c hc)
theorem clk_33 {a : Int} (ha : 0 ≤ a ∧ a < 1440) : ∀ c ∈ cTx a, 33 ≤ c.toNat ∧ c.toNat ≤ 126 := fun c hc => by
  unfold cTx at hc
  rw [if_pos ha] at hc
  exact of_decide_eq_true (List.all_eq_true.1 (clk_shown a.toNat (by omega)) c hc)
theorem clk_ok {a : Int} (ha : 0 ≤ a ∧ a < 1440) : okL (cTx a) := fun c hc => by have := clk_33 ha c hc; omega

/-- A formed PNR that is shown. -/
structure FineP (p : PnrT) : Prop where
  loc : toL p.loc = [] ∨ lettersS (toL p.loc) 6 6 = true
  off : toL p.off = [] ∨ lettersS (toL p.off) 3 3 = true
  fm : FmdP p
  cnt : cntP p ≤ 300
  wf : ∀ x ∈ p.seats, (Lit.int .i64 x.seg).wf = true

theorem FineP.seen {p : PnrT} (h : FineP p) : SeenP p := ⟨h.loc, h.off, h.fm.nm, h.fm.sg, h.fm.tk, fun x hx => (h.fm.st x hx).1⟩
theorem toL_size (s : ByteArray) : (toL s).length = s.size := by simp [toL]
theorem car_len {s : ByteArray} (h : carrierS (toL s) = true) : (toL s).length = 2 ∧ okL (toL s) := by
  generalize toL s = l at *
  unfold carrierS at h
  split at h
  · next a b =>
    refine ⟨rfl, ?_⟩
    simp only [Bool.or_eq_true, Bool.and_eq_true] at h
    have ha : 32 ≤ a.toNat ∧ a.toNat ≤ 126 := by
      rcases h with ⟨h, _⟩ | ⟨h, _⟩
      · have := bL_ok h; omega
      · have := bD_ok h; omega
    have hb : 32 ≤ b.toNat ∧ b.toNat ≤ 126 := by
      rcases h with ⟨_, h | h⟩ | ⟨_, h⟩
      · have := bL_ok h; omega
      · have := bD_ok h; omega
      · have := bL_ok h; omega
    exact okL.cons ha (okL.cons hb okL.nil)
  · cases h

theorem FineP.fit {p : PnrT} (h : FineP p) : FitB p where
  loc := by
    rcases h.loc with k | k
    · rw [← toL_size, k]; simp
    · have := letters_le k; rw [toL_size] at this; omega
  off := by
    rcases h.off with k | k
    · rw [← toL_size, k]; simp
    · have := letters_le k; rw [toL_size] at this; omega
  names := fun x hx => by
    have k := h.fm.nm x hx
    have k1 := letters_le k.1
    have k2 := letters_le k.2
    rw [toL_size] at k1 k2
    omega
  segs := fun x hx => by
    have k := h.fm.sg x hx
    have k1 := (car_len k.1).1
    have k2 := k.2.1
    rw [toL_size] at k1
    refine ⟨by omega, ?_⟩
    simp [Lit.wf, IntKind.min, IntKind.max, IntKind.signed, IntKind.bits]
    omega
  phones := fun x hx => by have := (free_parts (h.fm.ph x hx)).2.2; rw [toL_size] at this; omega
  recv := by
    rcases h.fm.rc with k | k
    · rw [← toL_size, k]; simp
    · have := (free_parts k).2.2; rw [toL_size] at this; omega
  remarks := fun x hx => by have := (free_parts (h.fm.rm x hx)).2.2; rw [toL_size] at this; omega
  seats := fun x hx => ⟨h.wf x hx, (h.fm.st x hx).2⟩

theorem or_ok {s : ByteArray} {o : List UInt8} {a : Int} (h1 : 1 ≤ a) (ha : a ≤ 6) (ho : okL o ∧ endL o ∧ o.length ≤ 6) (h : toL s = [] ∨ lettersS (toL s) a a = true) : okL (orL s o) ∧ endL (orL s o) ∧ (orL s o).length ≤ 6 := by
  unfold orL
  split
  · exact ho
  · next hn =>
    have k := h.resolve_left hn
    exact ⟨letters_ok k, letters_end h1 k, by have := letters_le k; omega⟩

theorem head_ok {p : PnrT} (h : FineP p) : LnOk (headLn p) := by
  have h1 := or_ok (o := [78, 69, 87]) (by decide) (by decide) ⟨by unfold okL; decide, ⟨[78, 69], 87, rfl, by decide⟩, by decide⟩ h.loc
  have h2 := or_ok (o := [45]) (by decide) (by decide) ⟨by unfold okL; decide, ⟨[], 45, rfl, by decide⟩, by decide⟩ h.off
  unfold headLn
  refine ⟨?_, ?_, ?_⟩
  · exact okL.app (by unfold okL; decide) (okL.app h1.1 (okL.cons (by decide) h2.1))
  · exact endL.app (endL.app (endL.cons h2.2.1))
  · simp only [List.length_append, List.length_cons, List.length_nil]; omega

theorem name_ok {i : Nat} {x : NameT} (hi : i < 9999) (h : nameOk x) : LnOk (nameLn i x) := by
  have h1 := letters_le h.1
  have h2 := letters_le h.2
  have h3 := itoa_le4 (n := (i : Int) + 1) (by omega) (by omega)
  unfold nameLn
  refine ⟨?_, ?_, ?_⟩
  · exact okL.app (itoa_ok _) (okL.cons (by decide) (okL.app (letters_ok h.1) (okL.cons (by decide) (letters_ok h.2))))
  · exact endL.app (endL.cons (endL.app (endL.cons (letters_end (by decide) h.2))))
  · simp only [List.length_append, List.length_cons]; omega

theorem fl_ok {x : SegT} (h : segOk x) : okL (flTx x.car x.num) ∧ (flTx x.car x.num).length ≤ 6 := by
  have h1 := car_len h.1
  have h2 := itoa_le4 (n := x.num) (by have := h.2.1; omega) (by have := h.2.1; omega)
  unfold flTx
  split
  · exact ⟨h1.2, by omega⟩
  · exact ⟨okL.app h1.2 (itoa_ok _), by rw [List.length_append]; omega⟩

theorem seg_ok {i : Nat} {x : SegT} (hi : i < 9999) (h : segOk x) : LnOk (segLn i x) := by
  have h1 := fl_ok h
  have h3 := itoa_le4 (n := (i : Int) + 1) (by omega) (by omega)
  have h4 := day_len h.2.2.1
  have h5 := bL_ok h.2.2.2
  have e : ∀ b : Bool, okL (if b then ([32, 72, 75] : List UInt8) else [32, 88, 88]) ∧ endL (if b then ([32, 72, 75] : List UInt8) else [32, 88, 88]) ∧ (if b then ([32, 72, 75] : List UInt8) else [32, 88, 88]).length = 3 := fun b => by
    cases b
    · exact ⟨by unfold okL; decide, ⟨[32, 88], 88, rfl, by decide⟩, rfl⟩
    · exact ⟨by unfold okL; decide, ⟨[32, 72], 75, rfl, by decide⟩, rfl⟩
  have he := e x.live
  unfold segLn
  refine ⟨?_, ?_, ?_⟩
  · exact okL.cons (by decide) (okL.app (itoa_ok _) (okL.cons (by decide) (okL.app h1.1 (okL.cons (by decide) (okL.cons (by omega) (okL.cons (by decide) (okL.app (day_ok h.2.2.1) he.1)))))))
  · exact endL.cons (endL.app (endL.cons (endL.app (endL.cons (endL.cons (endL.cons (endL.app he.2.1)))))))
  · simp only [List.length_append, List.length_cons, he.2.2, h4]; omega

theorem text_ok {c : UInt8} {i : Nat} {s : ByteArray} (hc : 32 ≤ c.toNat ∧ c.toNat ≤ 126) (hi : i < 9999) (h : freeP s) : LnOk (textLn c i s) := by
  obtain ⟨h1, h2, h4, h5⟩ := free_parts h
  have h3 := itoa_le4 (n := (i : Int) + 1) (by omega) (by omega)
  unfold textLn
  refine ⟨?_, ?_, ?_⟩
  · exact okL.cons hc (okL.app (itoa_ok _) (okL.cons (by decide) h1))
  · exact endL.cons (endL.app (endL.cons h2))
  · simp only [List.length_append, List.length_cons]; omega

theorem tick_ok {p : PnrT} (h : tickOk p.tk p.td p.tm p.queued) : LnOk (tickLn p) := by
  unfold tickLn
  rcases h with ⟨a1, a2, a3⟩ | ⟨a1, a2, a3, a4 | a4⟩
  · rw [a1, if_neg (by decide), if_neg (by decide), if_pos rfl]
    have h4 := day_len a2
    have h5 := clk_len a3
    have hE : endL (cTx p.tm) := endL.of (fun e => by rw [e] at h5; simp at h5) fun c hc => ne32 (clk_33 a3 c hc).1
    cases p.queued
    · refine ⟨?_, ?_, ?_⟩
      · exact okL.app (by unfold okL; decide) (okL.app (day_ok a2) (okL.cons (by decide) (okL.app (clk_ok a3) okL.nil)))
      · exact endL.app (endL.app (endL.cons (by simpa using hE)))
      · simp [h4, h5]
    · refine ⟨?_, ?_, ?_⟩
      · exact okL.app (by unfold okL; decide) (okL.app (day_ok a2) (okL.cons (by decide) (okL.app (clk_ok a3) (by unfold okL; decide))))
      · exact endL.app (endL.app (endL.cons (endL.app ⟨[32, 81, 85, 69, 85, 69], 68, rfl, by decide⟩)))
      · simp [h4, h5]
  · rw [a4, if_neg (by decide), if_pos rfl]
    exact ⟨by unfold okL; decide, ⟨[84, 32, 68, 79, 78], 69, rfl, by decide⟩, by decide⟩
  · rw [a4, if_pos rfl]
    exact ⟨by unfold okL; decide, ⟨[84, 32, 78, 79, 78], 69, rfl, by decide⟩, by decide⟩

theorem recv_ok {s : ByteArray} (h : toL s = [] ∨ freeP s) : ∀ x ∈ recvLn s, LnOk x := fun x hx => by
  unfold recvLn at hx
  split at hx
  · cases hx
  · next hn =>
    rw [List.mem_singleton] at hx
    subst hx
    obtain ⟨h1, h2, h4, h5⟩ := free_parts (h.resolve_left hn)
    exact ⟨okL.cons (by decide) (okL.cons (by decide) h1), endL.cons (endL.cons h2), by simp only [List.length_cons]; omega⟩

theorem seatT_toL {r : Int} {c : UInt8} (h : 1 ≤ r ∧ r ≤ 99 ∧ bL c = true) : toL (seatT r c) = digL r.toNat ++ [c] := by
  unfold seatT
  rw [if_pos (show 1 ≤ r ∧ r ≤ 99 ∧ isL c.toNat = true from h)]
  unfold toL digA
  simp
theorem seat_ok {x : PlaceT} (h : 1 ≤ x.row ∧ x.row ≤ 99 ∧ bL x.c = true) (h1 : (Lit.int .i64 x.seg).wf = true) (h2 : (Lit.int .i64 x.pax).wf = true) : LnOk (seatLn x) := by
  have k1 := itoa_le20 h1
  have k2 := itoa_le20 h2
  have k3 := digL_two (n := x.row.toNat) (by omega)
  have k4 := bL_ok h.2.2
  unfold seatLn
  rw [seatT_toL h]
  refine ⟨?_, ?_, ?_⟩
  · exact okL.cons (by decide) (okL.cons (by decide) (okL.cons (by decide) (okL.app (itoa_ok _) (okL.cons (by decide) (okL.cons (by decide) (okL.app (itoa_ok _) (okL.cons (by decide) (okL.app (fun c hc => by have := dig_all _ _ hc; omega) (okL.cons (by omega) okL.nil)))))))))
  · exact endL.cons (endL.cons (endL.cons (endL.app (endL.cons (endL.cons (endL.app (endL.cons (endL.app ⟨[], x.c, rfl, ne32 (by omega)⟩))))))))
  · simp only [List.length_append, List.length_cons, List.length_nil]; omega

theorem show_ok {p : PnrT} (h : FineP p) : ∀ x ∈ showP p, LnOk x := by
  have hc := h.cnt
  unfold cntP at hc
  have hm : ∀ {α : Type} {f : Nat → α → List UInt8} {l : List α}, (∀ i x, i < 9999 → x ∈ l → LnOk (f i x)) → l.length ≤ 300 → ∀ x ∈ l.mapIdx f, LnOk x := fun {α f l} hf hl x hx => by
    rw [List.mem_mapIdx] at hx
    obtain ⟨i, hi, rfl⟩ := hx
    exact hf i _ (by omega) (List.getElem_mem hi)
  intro x hx
  unfold showP tailP at hx
  rcases List.mem_cons.1 hx with rfl | hx
  · exact head_ok h
  refine all_app (hm (fun i x hi hx => name_ok hi (h.fm.nm x hx)) (by omega)) (all_app (hm (fun i x hi hx => seg_ok hi (h.fm.sg x hx)) (by omega)) (all_app (hm (fun i x hi hx => text_ok (by decide) hi (h.fm.ph x hx)) (by omega)) (all_app (fun x hx => ?_) (all_app (recv_ok h.fm.rc) (all_app (hm (fun i x hi hx => text_ok (by decide) hi (h.fm.rm x hx)) (by omega)) (fun x hx => ?_)))))) x hx
  · rw [List.mem_singleton.1 hx]; exact tick_ok h.fm.tk
  · obtain ⟨y, hy, rfl⟩ := List.mem_map.1 hx
    exact seat_ok (h.fm.st y hy).1 (h.wf y hy) (h.fm.st y hy).2

theorem show_len (p : PnrT) : (showP p).length ≤ cntP p + 3 := by
  have := recv_len p.recv
  unfold showP tailP cntP
  simp only [List.length_cons, List.length_append, List.length_mapIdx, List.length_map, List.length_nil]
  omega

/- The lines as texts. -/
def txtsP (p : PnrT) : List ByteArray := (showP p).map mkB
theorem mkB_size (l : List UInt8) : (mkB l).size = l.length := by rw [← toL_size, toL_mkB]
theorem mkB_data (l : List UInt8) : (mkB l).data.toList = l := toL_mkB l
theorem ln_good {l : List UInt8} (h : LnOk l) : goodS (mkB l) = true ∧ (mkB l).size ≠ 0 := by
  obtain ⟨a, c, e, hc⟩ := h.en
  have hl : (mkB l).size ≠ 0 := by rw [mkB_size, e]; simp
  refine ⟨?_, hl⟩
  unfold goodS
  simp only [Bool.and_eq_true, decide_eq_true_eq, Bool.or_eq_true, bne_iff_ne]
  refine ⟨⟨by rw [mkB_size]; exact h.le, .inr ?_⟩, List.all_eq_true.2 fun x hx => ?_⟩
  · rw [mkB_data, mkB_size, e]
    simpa [List.getD] using hc
  · rw [mkB_data] at hx
    have := h.ok x hx
    unfold okByte
    rw [decide_eq_true_eq]
    omega
theorem txts_good {p : PnrT} (h : FineP p) : plainB (txtsP p) = true ∧ (∀ s ∈ txtsP p, s.size ≠ 0) ∧ (txtsP p).length ≤ 303 ∧ ∀ s ∈ txtsP p, s.size ≤ 30000 := by
  have hl := show_len p
  have hc := h.cnt
  have hln : (txtsP p).length ≤ 303 := by unfold txtsP; rw [List.length_map]; omega
  have k : ∀ s ∈ txtsP p, goodS s = true ∧ s.size ≠ 0 := fun s hs => by
    obtain ⟨l, hl, rfl⟩ := List.mem_map.1 hs
    exact ln_good (show_ok h l hl)
  refine ⟨List.all_eq_true.2 fun s hs => ?_, fun s hs => (k s hs).2, hln, fun s hs => ?_⟩
  · rw [Bool.and_eq_true, decide_eq_true_eq]
    exact ⟨by omega, (k s hs).1⟩
  · have := (good_trim (k s hs).1).2
    omega

/- Screens tell such lines apart, as many or not. -/
theorem not_more {a b : List ByteArray} (ha : plainB a = true) (hb : plainB b = true) (nb : ∀ s ∈ b, s.size ≠ 0) (hp : pagesN (linesS a).length = pagesN (linesS b).length) (h : ∀ j, j < pagesN (linesS a).length → pageL (linesS a) j = pageL (linesS b) j) : ¬ a.length < b.length := fun hlt => by
  have la : (linesS a).length = a.length := by rw [plain_lines ha, List.length_map]
  have lb : (linesS b).length = b.length := by rw [plain_lines hb, List.length_map]
  have hj : a.length / 23 < pagesN (linesS a).length := by rw [hp, lb]; unfold pagesN; omega
  have e := h _ hj
  have hr : a.length % 23 < 24 := by omega
  have e1 := rowK_page (linesS a) (a.length / 23) hr
  have e2 := rowK_page (linesS b) (a.length / 23) hr
  rw [e, e2] at e1
  have ca : (cellK (linesS a) (a.length / 23) (a.length % 23)).data.toList = [] := by
    unfold cellK
    rw [if_pos (by omega), if_neg (by rw [la]; omega)]
  have cb : rowL (cellK (linesS b) (a.length / 23) (a.length % 23)).data.toList = rowL (b.getD a.length ByteArray.empty).data.toList := by
    unfold cellK
    rw [if_pos (by omega), if_pos (by rw [lb]; omega), show a.length / 23 * 23 + a.length % 23 = a.length by omega, plain_lines hb]
    have e : (b.map fun s => strOf (rowL s.data.toList)).getD a.length ByteArray.empty = strOf (rowL (b.getD a.length ByteArray.empty).data.toList) := by
      simp [List.getD, hlt]
    rw [e, show ∀ m, (strOf m).data.toList = m from fun m => by simp [strOf], rowL_twice]
  rw [ca, cb] at e1
  have hm := getD_mem hlt
  have gb := good_trim ((plain_parts hb).2 _ hm)
  rw [e1] at gb
  have hz := nb _ hm
  have e0 : trimL (rowL []) = [] := by
    rw [rowL_fill _ (by simp)]
    exact trim_blanks [] 64
  rw [e0] at gb
  have := congrArg List.length gb.1
  simp at this
  exact hz this.symm

theorem apart {a b : List ByteArray} (ha : plainB a = true) (hb : plainB b = true) (na : ∀ s ∈ a, s.size ≠ 0) (nb : ∀ s ∈ b, s.size ≠ 0) (hp : pagesN (linesS a).length = pagesN (linesS b).length) (h : ∀ j, j < pagesN (linesS a).length → pageL (linesS a) j = pageL (linesS b) j) : a = b := by
  have h1 := not_more ha hb nb hp h
  have h2 := not_more hb ha na hp.symm (fun j hj => (h j (by rw [hp]; exact hj)).symm)
  exact unlike ha hb (by omega) h

theorem shown_apart {p q : PnrT} (hp : FineP p) (hq : FineP q) (h1 : pagesN (linesS (txtsP p)).length = pagesN (linesS (txtsP q)).length) (h : ∀ j, j < pagesN (linesS (txtsP p)).length → pageL (linesS (txtsP p)) j = pageL (linesS (txtsP q)) j) : p = q := by
  have e := apart (txts_good hp).1 (txts_good hq).1 (txts_good hp).2.1 (txts_good hq).2.1 h1 h
  refine show_inj hp.seen hq.seen ?_
  have := congrArg (List.map toL) e
  unfold txtsP at this
  rw [List.map_map, List.map_map] at this
  have hf : (toL ∘ mkB) = id := funext fun l => toL_mkB l
  rw [hf, List.map_id, List.map_id] at this
  exact this

theorem fine_of {p : PnrT} (h : SoundP p) (hw : ∀ x ∈ p.seats, (Lit.int .i64 x.seg).wf = true) (hs : p.seats.length ≤ 200) : FineP p where
  loc := h.loc
  off := h.off
  fm := {
    nm := h.names.2
    sg := h.segs.2.1
    ph := h.phones.2
    rm := h.remarks.2
    rc := h.recv
    tk := h.tick
    st := fun x hx => by
      obtain ⟨i, hi⟩ := List.getElem?_of_mem hx
      have k := (h.seats.1 i x hi).1
      refine ⟨k.2.2, ?_⟩
      have h9 := h.names.1
      have k2 := k.2.1
      simp [Lit.wf, IntKind.min, IntKind.max, IntKind.signed, IntKind.bits]
      omega }
  cnt := by
    have := h.names.1
    have := h.segs.1
    have := h.phones.1
    have := h.remarks.1
    unfold cntP
    omega
  wf := hw
theorem FineP.kept {p x : PnrT} (h : FineP p) (hc : cntP p < 300) (hk : Kept p x) (hw : ∀ y ∈ x.seats, (Lit.int .i64 y.seg).wf = true) : FineP x :=
  ⟨by rw [hk.1]; exact h.loc, by rw [hk.2.1]; exact h.off, hk.2.2.2 h.fm, by have := hk.2.2.1; omega, hw⟩
end Go.Proofs.YtmhhbnnjilbdnaaGreatDoor.Sh
