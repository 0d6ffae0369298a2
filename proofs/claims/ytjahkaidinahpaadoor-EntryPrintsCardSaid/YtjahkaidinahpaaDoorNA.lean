/- The scanner over any block whose first two cells are a text and a place: ahead, of, Run, End, Rest, HasPrefix, Word, Bytes, Number; the reference's Place, Word, Bytes, of, Run, Number. -/
import Derived.Test.YtjahkaidinahpaaDoorGA
import Derived.Deep.RegionHeld3
namespace Go.Proofs.YtjahkaidinahpaaDoor.En
open Go.RowKit
set_option linter.unusedSimpArgs false
set_option linter.unusedVariables false
set_option maxRecDepth 20000

/-- Block b, of type T, begins with a text and a place. -/
def Cur (T : TypeId) (xs : List Value) (w : World) (b : Nat) (s : ByteArray) (p : Int) : Prop := Blk w b T (.string s :: .int .i64 p :: xs)

section
variable {T : TypeId} {xs : List Value} {w w' : World} {b : Nat} {s : ByteArray} {p : Int}
theorem Cur.lt (h : Cur T xs w b s p) : b < w.heap.size := Blk.lt h
theorem Cur.text (h : Cur T xs w b s p) : w.cell? ⟨b, 0, none⟩ = some (.string s) := Blk.cell h 0
theorem Cur.at_ (h : Cur T xs w b s p) : w.cell? ⟨b, 1, none⟩ = some (.int .i64 p) := Blk.cell h 1
theorem Cur.frozen (h : Cur T xs w b s p) (i : Nat) : w.frozen? ⟨b, i, none⟩ = false := Blk.frozen h i
theorem Cur.drew (h : Cur T xs w b s p) : Cur T xs w.drew b s p := h
theorem Cur.drewN (h : Cur T xs w b s p) (n : Nat) : Cur T xs (w.drewN n) b s p := h
theorem Cur.alloc (h : Cur T xs w b s p) (o : Obj) : Cur T xs (w.alloc o) b s p := Blk.alloc h o
theorem Cur.set_ (h : Cur T xs w b s p) (q : Int) : Cur T xs (w.setCell ⟨b, 1, none⟩ (.int .i64 q)) b s q := Blk.set h 1 (.int .i64 q)
theorem Cur.below {B : Nat} (h : Cur T xs w b s p) (hb : Below B w w') (hg : b < B) : Cur T xs w' b s p := Blk.keep h hb hg
end

variable {T : TypeId} {xs : List Value}

section
variable {w w' : World} {b : Nat} {s : ByteArray} {p : Int}
end
section
variable {a w w' : World} {g : Nat}
theorem gr_drewN {row : Option Nat} (h : a.grownBy w row) (n : Nat) : a.grownBy (w.drewN n) row := ⟨h.os, h.tape, h.output, h.size, h.block⟩

theorem gr_drew {row : Option Nat} (h : a.grownBy w row) : a.grownBy w.drew row := ⟨h.os, h.tape, h.output, h.size, h.block⟩

theorem gr_alloc {row : Option Nat} (h : a.grownBy w row) (o : Obj) : a.grownBy (w.alloc o) row :=
  ⟨h.os, h.tape, h.output, Nat.le_trans h.size (by simp), fun i hi hne => (Below.heap_alloc w o i (Nat.lt_of_lt_of_le hi h.size)).trans (h.block i hi hne)⟩

theorem gr_setCell (h : a.grownBy w (some g)) {p : Addr} (hp : p.block = g ∨ a.heap.size ≤ p.block) (u : Value) : a.grownBy (w.setCell p u) (some g) :=
  ⟨h.os, h.tape, h.output, by simpa [World.setCell] using h.size, fun i hi hne => (Below.heap_setCell w p u i (by
    rintro rfl
    rcases hp with hp | hp
    · exact hne (by rw [hp])
    · omega)).trans (h.block i hi hne)⟩

theorem gr_trans {row : Option Nat} (h : a.grownBy w row) (k : w.grownBy w' row) : a.grownBy w' row :=
  ⟨k.os.trans h.os, k.tape.trans h.tape, k.output.trans h.output, Nat.le_trans h.size k.size, fun i hi hne => (k.block i (Nat.lt_of_lt_of_le hi h.size) hne).trans (h.block i hi hne)⟩

/-- Only blocks from B on have turned. -/
theorem bel_gr {B : Nat} (h : Below B a w) (hB : B ≤ w.heap.size) (k : w.grownBy w' (some g)) (hg : B ≤ g) : Below B a w' := h.grown k hB (fun _ hk => by injection hk with hk; omega)

end
/-- A place brought into a text. -/
def place (n : Nat) (p : Int) : Int := if p < 0 then 0 else if (n : Int) < p then n else p

theorem place_ge (n : Nat) (p : Int) : 0 ≤ place n p := by unfold place; split <;> (try split) <;> omega

theorem place_le (n : Nat) (p : Int) : place n p ≤ n := by unfold place; split <;> (try split) <;> omega

theorem place_in (n : Nat) (p : Int) (h0 : 0 ≤ p) (h1 : p ≤ n) : place n p = p := by unfold place; split <;> (try split) <;> omega

theorem place_id (n : Nat) (p : Int) : place n (place n p) = place n p := place_in n _ (place_ge n p) (place_le n p)

theorem ahead_any (b : Nat) (s : ByteArray) (p : Int) (w : World) (hs : s.size ≤ maxLen) (hc : Cur T xs w b s p) :
    Calls Tryd.prog 138 #[.pointer (some ⟨b, 0, none⟩)] w fun e w' => e = .returned (.string (s.extract (place s.size p).toNat s.size)) ∧ Cur T xs w' b s (place s.size p) ∧ w.grownBy w' (some b) := by
  unfold maxLen at hs
  have h1 := hc.text
  have h2 := hc.at_
  have h3 := hc.frozen 1
  have hset := hc.set_
  by_cases hp : p < 0
  · have e : place s.size p = 0 := by unfold place; rw [if_pos hp]
    rw [e]
    have HS := Lib.hid hset
    clear e hset
    go_enter Tryd.func138, Tryd.ntmps138
    go_wp2
    go_region
    go_wp2
    go_quiet (fail)
    go_wp2
    go_ret
    exact ⟨ret_str (by simp), (HS.out 0).drewN nq, gr_drewN (gr_drew (gr_setCell (p := ⟨b, 1, none⟩) (World.grownBy.refl w _) (.inl rfl) _)) _⟩
  by_cases hq : (s.size : Int) < p
  · have e : place s.size p = s.size := by unfold place; rw [if_neg hp, if_pos hq]
    rw [e]
    have HS := Lib.hid hset
    clear e hset
    go_enter Tryd.func138, Tryd.ntmps138
    go_wp2
    go_region
    go_wp2
    go_quiet (fail)
    go_wp2
    go_ret
    exact ⟨ret_str (by simp), (HS.out s.size).drewN nq, gr_drewN (gr_drew (gr_setCell (p := ⟨b, 1, none⟩) (World.grownBy.refl w _) (.inl rfl) _)) _⟩
  · have e : place s.size p = p := by unfold place; rw [if_neg hp, if_neg hq]
    rw [e]
    have HS := Lib.hid hset
    clear e hset
    have hp0 : 0 ≤ p := by omega
    have hp1 : p ≤ (s.size : Int) := by omega
    obtain ⟨k, rfl⟩ := Int.eq_ofNat_of_zero_le hp0
    have hk : k ≤ s.size := by omega
    go_enter Tryd.func138, Tryd.ntmps138
    go_wp2
    go_region
    go_wp2
    go_quiet (fail)
    go_wp2
    go_ret
    exact ⟨rfl, (HS.out k).drewN nq, gr_drewN (gr_drew (gr_setCell (p := ⟨b, 1, none⟩) (World.grownBy.refl w _) (.inl rfl) _)) _⟩

/-- Is a byte of kind k? -/
def kOk (k : Int) (c : UInt8) : Bool := (decide (k = 1 ∨ k = 3) && bL c) || (decide (k = 2 ∨ k = 3) && bD c)

def runL (k : Int) (l : List UInt8) : List UInt8 := l.takeWhile (kOk k)

theorem takeWhile_at {p : UInt8 → Bool} {l : List UInt8} {n : Nat} (ha : (l.take n).all p = true) (he : n = l.length ∨ p (l.getD n 0) = false) : l.takeWhile p = l.take n := by
  have h1 : l = l.take n ++ l.drop n := (List.take_append_drop n l).symm
  have h2 : (l.drop n).takeWhile p = [] := by
    rcases he with he | he
    · rw [List.drop_of_length_le (by omega)]; rfl
    · rcases Nat.lt_or_ge n l.length with hlt | hge
      · rw [drop_cons _ _ hlt, List.takeWhile_cons, he]; rfl
      · rw [List.drop_of_length_le hge]; rfl
  rw [List.all_eq_true] at ha
  conv => lhs; rw [h1]
  rw [List.takeWhile_append_of_pos ha, h2, List.append_nil]

theorem of_any (k c : Int) (w : World) (hk0 : 1 ≤ k) (hk3 : k ≤ 3) (b : UInt8) (hc : (b.toNat : Int) = c) :
    Calls Tryd.prog 173 #[.int .i64 k, .int .u8 c] w fun e w' => e = .returned (.bool (kOk k b)) ∧ w = w' := by
  subst hc
  have h0 := byte_hi b
  have h1 : (0 : Int) ≤ (b.toNat : Int) := by omega
  have m22 : (bits BinOp.and IntKind.i64 2 2 != 0) = true := by decide
  have m31 : (bits BinOp.and IntKind.i64 3 1 != 0) = true := by decide
  have m32 : (bits BinOp.and IntKind.i64 3 2 != 0) = true := by decide
  rcases (by omega : k = 1 ∨ k = 2 ∨ k = 3) with rfl | rfl | rfl
  · have e : kOk 1 b = isL (b.toNat : Int) := by unfold kOk bL; simp
    rw [e]
    cases hB : isL (b.toNat : Int)
    all_goals
      go_enter Tryd.func173, Tryd.ntmps173
      go_wp2_with (go_at_call 132; refine (class_any _ _ h1 h0).mono ?_; rintro e w1 ⟨rfl, rfl⟩)
      go_ret
      exact ⟨rfl, rfl⟩
  · have e : kOk 2 b = isD (b.toNat : Int) := by unfold kOk bD; simp
    rw [e]
    cases hD : isD (b.toNat : Int)
    · have hd2 : ¬ ((b.toNat : Int) - 48) % 256 < 10 := by simp [isD] at hD; omega
      go_enter Tryd.func173, Tryd.ntmps173
      go_wp2_with (go_at_call 132; refine (class_any _ _ h1 h0).mono ?_; rintro e w1 ⟨rfl, rfl⟩)
      go_ret
      exact ⟨rfl, rfl⟩
    · have hd2 : ((b.toNat : Int) - 48) % 256 < 10 := by simp [isD] at hD; omega
      go_enter Tryd.func173, Tryd.ntmps173
      go_wp2_with (go_at_call 132; refine (class_any _ _ h1 h0).mono ?_; rintro e w1 ⟨rfl, rfl⟩)
      go_ret
      exact ⟨ret_bool (decide_eq_true (by omega)), rfl⟩
  · have e : kOk 3 b = (isL (b.toNat : Int) || isD (b.toNat : Int)) := by unfold kOk bL bD; simp
    rw [e]
    cases hB : isL (b.toNat : Int)
    · cases hD : isD (b.toNat : Int)
      · have hd2 : ¬ ((b.toNat : Int) - 48) % 256 < 10 := by simp [isD] at hD; omega
        go_enter Tryd.func173, Tryd.ntmps173
        go_wp2_with (go_at_call 132; refine (class_any _ _ h1 h0).mono ?_; rintro e w1 ⟨rfl, rfl⟩)
        go_ret
        exact ⟨ret_bool (decide_eq_false (by omega)), rfl⟩
      · have hd2 : ((b.toNat : Int) - 48) % 256 < 10 := by simp [isD] at hD; omega
        go_enter Tryd.func173, Tryd.ntmps173
        go_wp2_with (go_at_call 132; refine (class_any _ _ h1 h0).mono ?_; rintro e w1 ⟨rfl, rfl⟩)
        go_ret
        exact ⟨ret_bool (decide_eq_true (by omega)), rfl⟩
    · go_enter Tryd.func173, Tryd.ntmps173
      go_wp2_with (go_at_call 132; refine (class_any _ _ h1 h0).mono ?_; rintro e w1 ⟨rfl, rfl⟩)
      go_ret
      exact ⟨rfl, rfl⟩

def runA (s : ByteArray) (p : Nat) (k : Int) : ByteArray := ⟨(runL k (s.data.toList.drop p)).toArray⟩

theorem runA_list (s : ByteArray) (p : Nat) (k : Int) : (runA s p k).data.toList = runL k (s.data.toList.drop p) := by simp [runA]

theorem runA_size (s : ByteArray) (p : Nat) (k : Int) : (runA s p k).size = (runL k (s.data.toList.drop p)).length := rfl

theorem runL_le (k : Int) (l : List UInt8) : (runL k l).length ≤ l.length := (List.takeWhile_sublist _).length_le

theorem kOk_out {k : Int} (h : k < 1 ∨ 3 < k) (c : UInt8) : kOk k c = false := by
  unfold kOk
  rw [decide_eq_false (by omega), decide_eq_false (by omega)]; rfl

theorem rest_list (s : ByteArray) (p : Nat) : (s.extract p s.size).data.toList = s.data.toList.drop p := by
  simp
  exact List.take_of_length_le (by simp)

set_option maxHeartbeats 1000000 in
theorem run_any (b : Nat) (s : ByteArray) (p k : Int) (w : World) (hs : s.size ≤ maxLen) (hc : Cur T xs w b s p) :
    Calls Tryd.prog 124 #[.pointer (some ⟨b, 0, none⟩), .int .i64 k] w fun e w' =>
      e = .returned (.string (runA s (place s.size p).toNat k)) ∧ Cur T xs w' b s (place s.size p + (runA s (place s.size p).toNat k).size) ∧ w.grownBy w' (some b) := by
  have hp0 := place_ge s.size p
  have hp1 := place_le s.size p
  have hpp := ahead_any b s p w hs hc
  generalize place s.size p = q at hp0 hp1 hpp ⊢
  obtain ⟨j, rfl⟩ := Int.eq_ofNat_of_zero_le hp0
  rw [Int.toNat_natCast] at hpp ⊢
  have hj : j ≤ s.size := by omega
  have hrl := rest_list s j
  have hrs : (s.extract j s.size).size = s.size - j := by simp
  have hA := runA_list s j k
  have hAs := runA_size s j k
  rw [← hrl] at hA hAs
  unfold maxLen at hs
  have HP := Lib.hid hpp
  have HA := Lib.hid hA
  have HAS := Lib.hid hAs
  have HRS := Lib.hid hrs
  have hrsz : (s.extract j s.size).size ≤ s.size := by omega
  clear hpp hA hAs hrs hrl
  go_enter Tryd.func124, Tryd.ntmps124
  go_wp2_with (go_at_call 138; refine HP.out.mono ?_; rintro e w1 ⟨rfl, hc1, hg1⟩)
  generalize s.extract j s.size = r at HA HAS HRS hrsz ⊢
  go_loop [6] (fun n => ∃ m : Nat, m ≤ r.size ∧ n = .int .i64 m ∧ (r.data.toList.take m).all (kOk k) = true) (fun n => r.size - (intOf n).toNat)
  case atStart => exact ⟨0, Nat.zero_le _, rfl, rfl⟩
  case round =>
    obtain ⟨m, hm, rfl, hall⟩ := hrel
    have HALL := Lib.hid hall
    clear hall
    have fin : (m = r.data.toList.length ∨ kOk k (r.data.toList.getD m 0) = false) → r.extract 0 m = runA s j k ∧ (runA s j k).size = m := by
      intro he
      have h1 := takeWhile_at (p := kOk k) (l := r.data.toList) (n := m) HALL.out he
      constructor
      · apply bytes_inj
        rw [HA.out]
        unfold runL
        rw [h1]
        simp
      · rw [HAS.out]
        unfold runL
        rw [h1]
        simp; omega
    have FIN := Lib.hid fin
    clear fin
    have hjm : (j : Int) + (m : Int) ≤ (s.size : Int) := by have := HRS.out; omega
    by_cases hlt : m < r.size
    · by_cases hk1 : 1 ≤ k
      · by_cases hk2 : k ≤ 3
        · have hix := get_list r m hlt
          generalize hg : r.data.toList.getD m 0 = c at hix FIN
          have HG := Lib.hid hg
          clear hg
          cases hok : kOk k c
          · obtain ⟨f1, f2⟩ := FIN.out (.inr hok)
            have F1 := Lib.hid f1
            have F2 := Lib.hid f2
            have hcell := hc1.at_
            have hfr := hc1.frozen 1
            clear f1 f2
            go_wp2_with (go_at_call 173; refine (of_any k _ _ hk1 hk2 c rfl).mono ?_; rintro e w2 ⟨rfl, rfl⟩)
            go_ret
            exact ⟨by rw [← F1.out]; rfl, by rw [F2.out]; exact hc1.set_ _, gr_trans hg1 (gr_setCell (p := ⟨b, 1, none⟩) (World.grownBy.refl _ _) (.inl rfl) _)⟩
          · have hst := all_take_succ (kOk k) r.data.toList m (by simpa using hlt)
            rw [HALL.out, HG.out, hok] at hst
            have HST := Lib.hid hst
            clear hst
            go_wp2_with (go_at_call 173; refine (of_any k _ _ hk1 hk2 c rfl).mono ?_; rintro e w2 ⟨rfl, rfl⟩)
            go_round
            case rel => exact ⟨m + 1, by omega, by go_num, HST.out⟩
            case measure => simp [intOf]; omega
        · obtain ⟨f1, f2⟩ := FIN.out (.inr (kOk_out (by omega) _))
          have F1 := Lib.hid f1
          have F2 := Lib.hid f2
          have hcell := hc1.at_
          have hfr := hc1.frozen 1
          clear f1 f2
          go_wp2
          go_ret
          exact ⟨by rw [← F1.out]; rfl, by rw [F2.out]; exact hc1.set_ _, gr_trans hg1 (gr_setCell (p := ⟨b, 1, none⟩) (World.grownBy.refl _ _) (.inl rfl) _)⟩
      · obtain ⟨f1, f2⟩ := FIN.out (.inr (kOk_out (by omega) _))
        have F1 := Lib.hid f1
        have F2 := Lib.hid f2
        have hcell := hc1.at_
        have hfr := hc1.frozen 1
        clear f1 f2
        go_wp2
        go_ret
        exact ⟨by rw [← F1.out]; rfl, by rw [F2.out]; exact hc1.set_ _, gr_trans hg1 (gr_setCell (p := ⟨b, 1, none⟩) (World.grownBy.refl _ _) (.inl rfl) _)⟩
    · obtain ⟨f1, f2⟩ := FIN.out (.inl (by simp; omega))
      have F1 := Lib.hid f1
      have F2 := Lib.hid f2
      have hcell := hc1.at_
      have hfr := hc1.frozen 1
      clear f1 f2
      go_wp2
      go_ret
      exact ⟨by rw [← F1.out]; rfl, by rw [F2.out]; exact hc1.set_ _, gr_trans hg1 (gr_setCell (p := ⟨b, 1, none⟩) (World.grownBy.refl _ _) (.inl rfl) _)⟩

theorem empty_of_size {s : ByteArray} (h : s.size = 0) : s = ⟨#[]⟩ := by
  obtain ⟨d⟩ := s
  simp [ByteArray.size] at h
  rw [h]

theorem isEmpty_of {s : ByteArray} (h : s.size ≠ 0) : s.toList.isEmpty = false := by
  rw [ByteArray.toList_eq]
  have hl : s.data.toList.length = s.size := by simp
  cases hq : s.data.toList with
  | nil => rw [hq] at hl; simp at hl; omega
  | cons a t => rfl

theorem end_any (b : Nat) (s : ByteArray) (p : Int) (w : World) (hs : s.size ≤ maxLen) (hc : Cur T xs w b s p) :
    Calls Tryd.prog 63 #[.pointer (some ⟨b, 0, none⟩)] w fun e w' => e = .returned (.bool (place s.size p == (s.size : Int))) ∧ Cur T xs w' b s (place s.size p) ∧ w.grownBy w' (some b) := by
  have hpp := ahead_any b s p w hs hc
  have hp0 := place_ge s.size p
  have hp1 := place_le s.size p
  generalize place s.size p = q at hp0 hp1 hpp ⊢
  obtain ⟨j, rfl⟩ := Int.eq_ofNat_of_zero_le hp0
  rw [Int.toNat_natCast] at hpp
  have hrs : (s.extract j s.size).size = s.size - j := by simp
  have HP := Lib.hid hpp
  clear hpp
  by_cases hj : j = s.size
  · have he : s.extract j s.size = ⟨#[]⟩ := empty_of_size (by omega)
    rw [he] at HP
    have HJ := Lib.hid hj
    clear hj he hrs
    go_enter Tryd.func63, Tryd.ntmps63
    go_wp2_with (go_at_call 138; refine HP.out.mono ?_; rintro e w1 ⟨rfl, hc1, hg1⟩)
    go_ret
    exact ⟨ret_bool (by rw [HJ.out]; simp), hc1, hg1⟩
  · have he := isEmpty_of (s := s.extract j s.size) (by omega)
    generalize s.extract j s.size = r at he HP
    have HJ := Lib.hid hj
    clear hj hrs
    go_enter Tryd.func63, Tryd.ntmps63
    go_wp2_with (go_at_call 138; refine HP.out.mono ?_; rintro e w1 ⟨rfl, hc1, hg1⟩)
    go_ret
    have hj := HJ.out
    exact ⟨ret_bool (by symm; rw [beq_eq_false_iff_ne]; omega), hc1, hg1⟩

theorem rest_any (b : Nat) (s : ByteArray) (p : Int) (w : World) (hs : s.size ≤ maxLen) (hc : Cur T xs w b s p) :
    Calls Tryd.prog 121 #[.pointer (some ⟨b, 0, none⟩)] w fun e w' => e = .returned (.string (s.extract (place s.size p).toNat s.size)) ∧ Cur T xs w' b s s.size ∧ w.grownBy w' (some b) := by
  have hpp := ahead_any b s p w hs hc
  generalize s.extract (place s.size p).toNat s.size = r at hpp ⊢
  have HP := Lib.hid hpp
  clear hpp
  go_enter Tryd.func121, Tryd.ntmps121
  go_wp2_with (go_at_call 138; refine HP.out.mono ?_; rintro e w1 ⟨rfl, hc1, hg1⟩; have k1 := hc1.text; have k2 := hc1.at_; have k3 := hc1.frozen 1)
  go_ret
  exact ⟨rfl, hc1.set_ _, gr_trans hg1 (gr_setCell (p := ⟨b, 1, none⟩) (World.grownBy.refl _ _) (.inl rfl) _)⟩

/-- Does a text begin with a word? -/
def isPre (q l : List UInt8) : Bool := l.take q.length == q

theorem isPre_len {q l : List UInt8} (h : isPre q l = true) : q.length ≤ l.length := by
  unfold isPre at h
  rw [beq_iff_eq] at h
  have := congrArg List.length h
  rw [List.length_take] at this
  omega

theorem lite_any (s q : ByteArray) (w : World) (_hs : s.size ≤ maxLen) (_hq : q.size ≤ maxLen) :
    Calls Tryd.prog 188 #[.string s, .string q] w fun e w' => e = .returned (.bool (isPre q.data.toList s.data.toList)) ∧ w = w' := by
  have hql : q.data.toList.length = q.size := by simp
  have hsl : s.data.toList.length = s.size := by simp
  by_cases h : q.size ≤ s.size
  · have h2 : (q.size : Int) ≤ (s.size : Int) := by omega
    have e : ((s.extract 0 q.size).toList == q.toList) = isPre q.data.toList s.data.toList := by
      rw [ByteArray.toList_eq, ByteArray.toList_eq]
      unfold isPre
      rw [hql]
      simp
    have e2 := e.symm
    cases hv : ((s.extract 0 q.size).toList == q.toList)
    all_goals
      rw [hv] at e2
      have E := Lib.hid e2
      clear e e2 hql hsl
      go_enter Tryd.func188, Tryd.ntmps188
      go_wp2
      go_ret
      exact ⟨ret_bool E.out.symm, rfl⟩
  · have h2 : ¬ (q.size : Int) ≤ (s.size : Int) := by omega
    have e : isPre q.data.toList s.data.toList = false := by
      cases hp : isPre q.data.toList s.data.toList
      · rfl
      · have := isPre_len hp; omega
    have E := Lib.hid e
    clear e hql hsl h
    go_enter Tryd.func188, Tryd.ntmps188
    go_wp2
    go_ret
    exact ⟨ret_bool E.out.symm, rfl⟩

theorem hasPrefix_any (s q : ByteArray) (w : World) (hs : s.size ≤ maxLen) (hq : q.size ≤ maxLen) :
    Calls Tryd.prog 172 #[.string s, .string q] w fun e w' => e = .returned (.bool (isPre q.data.toList s.data.toList)) ∧ w = w' := by
  go_enter Tryd.func172, Tryd.ntmps172
  go_wp2_with (go_at_call 188; refine (lite_any s q _ hs hq).mono ?_; rintro e w1 ⟨rfl, rfl⟩)
  go_ret
  exact ⟨rfl, rfl⟩

/-- The place behind a word, if it is ahead. -/
def wordP (s : ByteArray) (j : Nat) (q : ByteArray) : Nat := if isPre q.data.toList (s.data.toList.drop j) then j + q.size else j

theorem word_any (b : Nat) (s : ByteArray) (p : Int) (q : ByteArray) (w : World) (hs : s.size ≤ maxLen) (hq : q.size ≤ maxLen) (hc : Cur T xs w b s p) :
    Calls Tryd.prog 123 #[.pointer (some ⟨b, 0, none⟩), .string q] w fun e w' =>
      e = .returned (.bool (isPre q.data.toList (s.data.toList.drop (place s.size p).toNat))) ∧ Cur T xs w' b s (wordP s (place s.size p).toNat q) ∧ w.grownBy w' (some b) := by
  have hpp := ahead_any b s p w hs hc
  have hp0 := place_ge s.size p
  have hp1 := place_le s.size p
  generalize place s.size p = x at hp0 hp1 hpp ⊢
  obtain ⟨j, rfl⟩ := Int.eq_ofNat_of_zero_le hp0
  rw [Int.toNat_natCast] at hpp ⊢
  have hrl := rest_list s j
  have hrs : (s.extract j s.size).size ≤ maxLen := by simp; omega
  have hh := fun W => hasPrefix_any (s.extract j s.size) q W hrs hq
  rw [hrl] at hh
  have hw : wordP s j q = if isPre q.data.toList (s.data.toList.drop j) then j + q.size else j := rfl
  have hlen : isPre q.data.toList (s.data.toList.drop j) = true → j + q.size ≤ s.size := by
    intro h
    have := isPre_len h
    simp at this
    omega
  rw [hw]
  generalize s.extract j s.size = r at hpp hh
  unfold maxLen at hs
  cases hv : isPre q.data.toList (s.data.toList.drop j)
  · rw [hv] at hh
    have HP := Lib.hid hpp
    have HH := Lib.hid hh
    clear hpp hh hw hv hlen hrl hrs
    go_enter Tryd.func123, Tryd.ntmps123
    go_wp2_with (first
      | (go_at_call 138; refine HP.out.mono ?_; rintro e w1 ⟨rfl, hc1, hg1⟩)
      | (go_at_call 172; refine (HH.out _).mono ?_; rintro e w2 ⟨rfl, rfl⟩))
    go_ret
    exact ⟨rfl, hc1, hg1⟩
  · rw [hv] at hh
    have hl := hlen hv
    have HP := Lib.hid hpp
    have HH := Lib.hid hh
    clear hpp hh hw hv hlen hrl hrs
    go_enter Tryd.func123, Tryd.ntmps123
    go_wp2_with (first
      | (go_at_call 138; refine HP.out.mono ?_; rintro e w1 ⟨rfl, hc1, hg1⟩; have k1 := hc1.text; have k2 := hc1.at_; have k3 := hc1.frozen 1)
      | (go_at_call 172; refine (HH.out _).mono ?_; rintro e w2 ⟨rfl, rfl⟩))
    go_ret
    exact ⟨rfl, hc1.set_ _, gr_trans hg1 (gr_setCell (p := ⟨b, 1, none⟩) (World.grownBy.refl _ _) (.inl rfl) _)⟩

theorem bytes_yes (b : Nat) (s : ByteArray) (p : Int) (n : Nat) (w : World) (hs : s.size ≤ maxLen) (hc : Cur T xs w b s p) (hn : (place s.size p).toNat + n ≤ s.size) :
    Calls Tryd.prog 176 #[.pointer (some ⟨b, 0, none⟩), .int .i64 n] w fun e w' =>
      e = .returned (.tuple #[.string (s.extract (place s.size p).toNat ((place s.size p).toNat + n)), .bool true]) ∧ Cur T xs w' b s ((place s.size p).toNat + n : Nat) ∧ w.grownBy w' (some b) := by
  have hpp := ahead_any b s p w hs hc
  have hp0 := place_ge s.size p
  generalize place s.size p = x at hp0 hpp hn ⊢
  obtain ⟨j, rfl⟩ := Int.eq_ofNat_of_zero_le hp0
  rw [Int.toNat_natCast] at hpp hn ⊢
  have hrs : (s.extract j s.size).size = s.size - j := by simp
  have hcut : (s.extract j s.size).extract 0 n = s.extract j (j + n) := by
    apply bytes_inj
    simp
    congr 1
    omega
  have hsz : n ≤ (s.extract j s.size).size := by omega
  generalize s.extract j s.size = r at hpp hcut hsz
  unfold maxLen at hs
  have hsz2 : (n : Int) ≤ (r.size : Int) := by omega
  have HP := Lib.hid hpp
  have HC := Lib.hid hcut
  clear hpp hcut hrs
  go_enter Tryd.func176, Tryd.ntmps176
  go_wp2_with (go_at_call 138; refine HP.out.mono ?_; rintro e w1 ⟨rfl, hc1, hg1⟩; have k1 := hc1.text; have k2 := hc1.at_; have k3 := hc1.frozen 1)
  go_ret2
  exact ⟨by rw [← HC.out]; rfl, hc1.set_ _, gr_trans hg1 (gr_setCell (p := ⟨b, 1, none⟩) (World.grownBy.refl _ _) (.inl rfl) _)⟩

theorem bytes_no (b : Nat) (s : ByteArray) (p n : Int) (w : World) (hs : s.size ≤ maxLen) (hc : Cur T xs w b s p) (hn : n < 0 ∨ (s.size : Int) - place s.size p < n) :
    Calls Tryd.prog 176 #[.pointer (some ⟨b, 0, none⟩), .int .i64 n] w fun e w' =>
      e = .returned (.tuple #[.string ⟨#[]⟩, .bool false]) ∧ Cur T xs w' b s (place s.size p) ∧ w.grownBy w' (some b) := by
  have hpp := ahead_any b s p w hs hc
  have hp0 := place_ge s.size p
  have hp1 := place_le s.size p
  generalize place s.size p = x at hp0 hp1 hpp hn ⊢
  obtain ⟨j, rfl⟩ := Int.eq_ofNat_of_zero_le hp0
  rw [Int.toNat_natCast] at hpp
  have hrs : (s.extract j s.size).size = s.size - j := by simp
  have hn2 : n < 0 ∨ (((s.extract j s.size).size : Nat) : Int) < n := by omega
  generalize s.extract j s.size = r at hpp hn2
  unfold maxLen at hs
  have HP := Lib.hid hpp
  clear hpp hrs hn
  rcases hn2 with h | h
  · go_enter Tryd.func176, Tryd.ntmps176
    go_wp2_with (go_at_call 138; refine HP.out.mono ?_; rintro e w1 ⟨rfl, hc1, hg1⟩)
    go_ret2
    exact ⟨rfl, hc1, hg1⟩
  · have h2 : ¬ n < 0 := by omega
    go_enter Tryd.func176, Tryd.ntmps176
    go_wp2_with (go_at_call 138; refine HP.out.mono ?_; rintro e w1 ⟨rfl, hc1, hg1⟩)
    go_ret2
    exact ⟨rfl, hc1, hg1⟩

def numV (l : List UInt8) : Nat := l.foldl (fun n c => n * 10 + (c.toNat - 48)) 0

/-- Is a row of digits a number of one to nine digits, the first of several not 0, not above the bound? -/
def numOk (l : List UInt8) (most : Int) : Bool := decide (1 ≤ l.length ∧ l.length ≤ 9) && !(decide (1 < l.length) && ((l.getD 0 0).toNat == 48)) && decide ((numV l : Int) ≤ most)

theorem numV_take (l : List UInt8) (k : Nat) (h : k < l.length) : numV (l.take (k + 1)) = numV (l.take k) * 10 + ((l.getD k 0).toNat - 48) := by
  unfold numV
  rw [List.take_succ_eq_append_getElem h, List.foldl_append]
  simp [List.getD, h]

theorem run_digit {l : List UInt8} {k : Nat} (h : k < (runL 2 l).length) : 48 ≤ ((runL 2 l).getD k 0).toNat ∧ ((runL 2 l).getD k 0).toNat ≤ 57 := by
  have hm : (runL 2 l).getD k 0 ∈ runL 2 l := by simp [List.getD, h]
  have := List.all_eq_true.1 (List.all_takeWhile (p := kOk 2) (l := l)) _ hm
  generalize (runL 2 l).getD k 0 = c at this ⊢
  generalize (runL 2 l).getD k 0 = c at this ⊢
  generalize (runL 2 l).getD k 0 = c at this ⊢
  unfold kOk bD isD at this
  simp at this
  omega

theorem numV_lt (l : List UInt8) : ∀ k, k ≤ l.length → (∀ j, j < l.length → (l.getD j 0).toNat ≤ 57) → numV (l.take k) < 10 ^ k := by
  intro k
  induction k with
  | zero => intro _ _; rw [List.take_zero]; decide
  | succ k ih =>
    intro hk hd
    rw [numV_take l k (by omega), Nat.pow_succ]
    have h1 := ih (by omega) hd
    have h2 := hd k (by omega)
    omega

theorem numV_9 (l : List UInt8) (k : Nat) (hk : k ≤ l.length) (h9 : k ≤ 9) (hd : ∀ j, j < l.length → (l.getD j 0).toNat ≤ 57) : numV (l.take k) < 1000000000 := by
  have h := numV_lt l k hk hd
  have : 10 ^ k ≤ 10 ^ 9 := Nat.pow_le_pow_right (by decide) h9
  omega

theorem numOk_no1 {l : List UInt8} (m : Int) (h : l.length = 0) : numOk l m = false := by unfold numOk; rw [decide_eq_false (by omega)]; rfl

theorem numOk_no9 {l : List UInt8} (m : Int) (h : 9 < l.length) : numOk l m = false := by unfold numOk; rw [decide_eq_false (by omega)]; rfl

theorem numOk_no0 {l : List UInt8} (m : Int) (h : 1 < l.length) (h0 : (l.getD 0 0).toNat = 48) : numOk l m = false := by unfold numOk; rw [h0, decide_eq_true h]; simp

theorem numOk_noM {l : List UInt8} (m : Int) (h : m < numV l) : numOk l m = false := by unfold numOk; rw [decide_eq_false (show ¬ (numV l : Int) ≤ m by omega)]; simp

theorem numOk_yes {l : List UInt8} (m : Int) (h1 : 1 ≤ l.length) (h9 : l.length ≤ 9) (h0 : ¬ (1 < l.length ∧ (l.getD 0 0).toNat = 48)) (hm : (numV l : Int) ≤ m) : numOk l m = true := by
  unfold numOk
  rw [decide_eq_true ⟨h1, h9⟩, decide_eq_true hm]
  by_cases h : 1 < l.length
  · have : (l.getD 0 0).toNat ≠ 48 := fun e => h0 ⟨h, e⟩
    rw [beq_eq_false_iff_ne.2 this]; simp
  · rw [decide_eq_false h]; simp

def numRes (l : List UInt8) (most : Int) : Int := if numOk l most then (numV l : Int) else 0

def numAt (x : Int) (l : List UInt8) (most : Int) : Int := if numOk l most then x + l.length else x

theorem numRes_no {l : List UInt8} {m : Int} (h : numOk l m = false) : numRes l m = 0 := by unfold numRes; rw [h]; rfl

theorem numAt_no {x : Int} {l : List UInt8} {m : Int} (h : numOk l m = false) : numAt x l m = x := by unfold numAt; rw [h]; rfl

theorem numRes_yes {l : List UInt8} {m : Int} (h : numOk l m = true) : numRes l m = numV l := by unfold numRes; rw [h]; rfl

theorem numAt_yes {x : Int} {l : List UInt8} {m : Int} (h : numOk l m = true) : numAt x l m = x + l.length := by unfold numAt; rw [h]; rfl

set_option maxHeartbeats 4000000 in
theorem number_any (b : Nat) (s : ByteArray) (p most : Int) (w : World) (hs : s.size ≤ maxLen) (hc : Cur T xs w b s p) :
    Calls Tryd.prog 177 #[.pointer (some ⟨b, 0, none⟩), .int .i64 most] w fun e w' =>
      e = .returned (.tuple #[.int .i64 (numRes (runL 2 (s.data.toList.drop (place s.size p).toNat)) most), .bool (numOk (runL 2 (s.data.toList.drop (place s.size p).toNat)) most)]) ∧
      Cur T xs w' b s (numAt (place s.size p) (runL 2 (s.data.toList.drop (place s.size p).toNat)) most) ∧ w.grownBy w' (some b) := by
  have hpp := ahead_any b s p w hs hc
  have hrr := fun W (hW : Cur T xs W b s (place s.size p)) => run_any b s (place s.size p) 2 W hs hW
  rw [place_id] at hrr
  have hrl := runA_list s (place s.size p).toNat 2
  have hrs := runA_size s (place s.size p).toNat 2
  have hdig := fun k => @run_digit (s.data.toList.drop (place s.size p).toNat) k
  have hp1 := place_le s.size p
  have hsub : (runA s (place s.size p).toNat 2).size ≤ s.size := by
    have := runL_le 2 (s.data.toList.drop (place s.size p).toNat)
    simp at this
    omega
  rw [hrs] at hsub
  generalize place s.size p = x at *
  generalize s.extract x.toNat s.size = r0 at hpp
  generalize runL 2 (s.data.toList.drop x.toNat) = L at *
  generalize runA s x.toNat 2 = r at *
  unfold maxLen at hs
  have HP := Lib.hid hpp
  have HR := Lib.hid hrr
  have HRL := Lib.hid hrl
  have HRS := Lib.hid hrs
  have HD := Lib.hid hdig
  have hrsz : r.size ≤ s.size := by omega
  clear hpp hrr hrl hrs hdig
  have hv9 : ∀ k, k ≤ L.length → k ≤ 9 → numV (L.take k) < 1000000000 := fun k h1 h2 => numV_9 L k h1 h2 (fun j hj => (HD.out j hj).2)
  have hx0 : (0 : Int) ≤ (r.size : Int) := by omega
  by_cases h9 : r.size ≤ 9
  · have hv9' : ∀ k, k ≤ r.size → numV (L.take k) < 1000000000 := fun k h1 => hv9 k (by have := HRS.out; omega) (by omega)
    have HV9 := Lib.hid hv9'
    clear hv9 hv9'
    go_enter Tryd.func177, Tryd.ntmps177
    go_wp2_with (first
      | (go_at_call 138; refine HP.out.mono ?_; rintro e w1 ⟨rfl, hc1, hg1⟩; have k1 := hc1.text; have k2 := hc1.at_; have k3 := hc1.frozen 1)
      | (go_at_call 124; refine (HR.out _ hc1).mono ?_; rintro e w2 ⟨rfl, hc2, hg2⟩; obtain ⟨w3, cap, hcv, hb3, hz3, hcell⟩ := bytes_conv r w2; have hc3 := hc2.below hb3 hc2.lt))
    have hg3 : w.grownBy w3 (some b) := gr_trans (gr_trans hg1 hg2) (gr_of_below hb3 _)
    go_loop [8, 26] (fun n i => ∃ k : Nat, k ≤ r.size ∧ i = .int .i64 k ∧ n = .int .i64 (numV (L.take k) : Nat)) (fun _ i => r.size - (intOf i).toNat)
    case atStart => exact ⟨0, Nat.zero_le _, rfl, rfl⟩
    case round =>
      obtain ⟨k, hk, rfl, rfl⟩ := hrel
      by_cases hlt : k < r.size
      · have hcl := hcell k (by exact hlt)
        have hkL : k < L.length := by have := HRS.out; omega
        have hLk : r.data.toList.getD k 0 = L.getD k 0 := by rw [HRL.out]
        rw [hLk] at hcl
        have hst := numV_take L k hkL
        obtain ⟨d1, d2⟩ := HD.out k hkL
        have hv := HV9.out k (by omega)
        generalize L.getD k 0 = c at hcl hst d1 d2
        generalize numV (L.take k) = x0 at hst hv ⊢
        have HST := Lib.hid hst
        have e1 : (48 : Int) ≤ (c.toNat : Int) := by omega
        have e2 : (c.toNat : Int) ≤ 57 := by omega
        clear hst hcell hLk d1 d2
        go_wp2
        go_round
        case rel => exact ⟨k + 1, by omega, by go_num, by rw [HST.out]; go_num⟩
        case measure => simp [intOf]; omega
      · have hkr : k = r.size := by omega
        have hLt : L.take k = L := List.take_of_length_le (by have := HRS.out; omega)
        rw [hLt]
        have hvm := HV9.out r.size (Nat.le_refl _)
        rw [← hkr, hLt] at hvm
        have hLr := HRS.out
        have k1' := hc3.text
        have k2' := hc3.at_
        have k3' := hc3.frozen 1
        clear hLt hcell hkr
        by_cases hz : r.size = 0
        · have N := Lib.hid (numOk_no1 (l := L) most (by omega))
          have hre : r = ⟨#[]⟩ := empty_of_size hz
          have hem : r.toList.isEmpty = true := by rw [hre, ByteArray.toList_eq]; rfl
          have HRR := Lib.hid hre
          clear hLr hz hre
          generalize numV L = V at hvm ⊢
          go_wp2
          go_ret2
          exact ⟨by rw [numRes_no N.out, N.out]; rfl, by rw [numAt_no N.out]; exact hc3.set_ _, gr_trans hg3 (gr_setCell (p := ⟨b, 1, none⟩) (World.grownBy.refl _ _) (.inl rfl) _)⟩
        · have hne := isEmpty_of hz
          have g0 : 0 < r.size := by omega
          have hix := get_list r 0 g0
          rw [HRL.out] at hix
          have h0 := numOk_no0 (l := L) most
          generalize hg0 : L.getD 0 0 = c0 at hix h0
          have HG0 := Lib.hid hg0
          have H0 := Lib.hid h0
          have NM := Lib.hid (numOk_noM (l := L) most)
          have hyes := numOk_yes (l := L) most
          have HY := Lib.hid hyes
          have HLR := Lib.hid hLr
          clear hg0 h0 hyes hLr
          generalize hV : numV L = V at hvm NM HY ⊢
          have HV := Lib.hid hV
          clear hV
          by_cases h1 : 1 < r.size
          · have h1i : (1 : Int) < (r.size : Int) := by omega
            by_cases hc48 : c0.toNat = 48
            · have N := Lib.hid (H0.out (by rw [← HLR.out]; exact h1) hc48)
              have g48 : ((c0.toNat : Int) == 48) = true := by rw [hc48]; rfl
              clear hc48
              go_wp2
              go_ret2
              exact ⟨by rw [numRes_no N.out, N.out]; rfl, by rw [numAt_no N.out]; exact hc3.set_ _, gr_trans hg3 (gr_setCell (p := ⟨b, 1, none⟩) (World.grownBy.refl _ _) (.inl rfl) _)⟩
            · have g48 : ((c0.toNat : Int) == 48) = false := by rw [beq_eq_false_iff_ne]; omega
              by_cases hmo : most < (V : Int)
              · have N := Lib.hid (NM.out hmo)
                clear hc48
                go_wp2
                go_ret2
                exact ⟨by rw [numRes_no N.out, N.out]; rfl, by rw [numAt_no N.out]; exact hc3.set_ _, gr_trans hg3 (gr_setCell (p := ⟨b, 1, none⟩) (World.grownBy.refl _ _) (.inl rfl) _)⟩
              · have N := Lib.hid (HY.out (by rw [← HLR.out]; omega) (by rw [← HLR.out]; exact h9) (fun h => hc48 (by rw [← HG0.out]; exact h.2)) (by omega))
                clear hc48
                go_wp2
                go_ret2
                exact ⟨by rw [numRes_yes N.out, N.out, HV.out]; rfl, by rw [numAt_yes N.out, HRS.out.symm]; exact hc3, hg3⟩
          · have h1i : ¬ (1 : Int) < (r.size : Int) := by omega
            by_cases hmo : most < (V : Int)
            · have N := Lib.hid (NM.out hmo)
              go_wp2
              go_ret2
              exact ⟨by rw [numRes_no N.out, N.out]; rfl, by rw [numAt_no N.out]; exact hc3.set_ _, gr_trans hg3 (gr_setCell (p := ⟨b, 1, none⟩) (World.grownBy.refl _ _) (.inl rfl) _)⟩
            · have N := Lib.hid (HY.out (by rw [← HLR.out]; omega) (by rw [← HLR.out]; exact h9) (fun h => h1 (by rw [HLR.out]; exact h.1)) (by omega))
              go_wp2
              go_ret2
              exact ⟨by rw [numRes_yes N.out, N.out, HV.out]; rfl, by rw [numAt_yes N.out, HRS.out.symm]; exact hc3, hg3⟩
  · have hv9' : ∀ k, k ≤ 9 → numV (L.take k) < 1000000000 := fun k h1 => hv9 k (by have := HRS.out; omega) h1
    have HV9 := Lib.hid hv9'
    have h9i : (9 : Int) < (r.size : Int) := by omega
    have hes : (r.extract 0 9).size = 9 := by simp; omega
    have HES := Lib.hid hes
    have hel : ∀ k, k < 9 → (r.extract 0 9).data.toList.getD k 0 = L.getD k 0 := by
      intro k hk
      have : (r.extract 0 9).data.toList = L.take 9 := by rw [← HRL.out]; simp
      rw [this]
      simp [List.getD, hk]
    have HEL := Lib.hid hel
    clear hv9 hv9' hes hel
    go_enter Tryd.func177, Tryd.ntmps177
    go_wp2_with (first
      | (go_at_call 138; refine HP.out.mono ?_; rintro e w1 ⟨rfl, hc1, hg1⟩; have k1 := hc1.text; have k2 := hc1.at_; have k3 := hc1.frozen 1)
      | (go_at_call 124; refine (HR.out _ hc1).mono ?_; rintro e w2 ⟨rfl, hc2, hg2⟩; obtain ⟨w3, cap, hcv, hb3, hz3, hcell⟩ := bytes_conv (r.extract 0 9) w2; have hc3 := hc2.below hb3 hc2.lt))
    rw [HES.out] at hcell
    have hg3 : w.grownBy w3 (some b) := gr_trans (gr_trans hg1 hg2) (gr_of_below hb3 _)
    go_loop [8, 26] (fun n i => ∃ k : Nat, k ≤ 9 ∧ i = .int .i64 k ∧ n = .int .i64 (numV (L.take k) : Nat)) (fun _ i => 9 - (intOf i).toNat)
    case atStart => exact ⟨0, Nat.zero_le _, rfl, rfl⟩
    case round =>
      obtain ⟨k, hk, rfl, rfl⟩ := hrel
      by_cases hlt : k < 9
      · have hcl := hcell k (by exact hlt)
        have hkL : k < L.length := by have := HRS.out; omega
        have hLk : (r.extract 0 9).data.toList.getD k 0 = L.getD k 0 := by exact HEL.out k hlt
        rw [hLk] at hcl
        have hst := numV_take L k hkL
        obtain ⟨d1, d2⟩ := HD.out k hkL
        have hv := HV9.out k (by omega)
        generalize L.getD k 0 = c at hcl hst d1 d2
        generalize numV (L.take k) = x0 at hst hv ⊢
        have HST := Lib.hid hst
        have e1 : (48 : Int) ≤ (c.toNat : Int) := by omega
        have e2 : (c.toNat : Int) ≤ 57 := by omega
        clear hst hcell hLk d1 d2
        go_wp2
        go_round
        case rel => exact ⟨k + 1, by omega, by go_num, by rw [HST.out]; go_num⟩
        case measure => simp [intOf]; omega
      · have N := Lib.hid (numOk_no9 (l := L) most (by have := HRS.out; omega))
        have hne := isEmpty_of (s := r) (by omega)
        have k1' := hc3.text
        have k2' := hc3.at_
        have k3' := hc3.frozen 1
        clear hcell
        have hv := HV9.out k (by omega)
        generalize numV (L.take k) = V at hv ⊢
        go_wp2
        go_ret2
        exact ⟨by rw [numRes_no N.out, N.out]; rfl, by rw [numAt_no N.out]; exact hc3.set_ _, gr_trans hg3 (gr_setCell (p := ⟨b, 1, none⟩) (World.grownBy.refl _ _) (.inl rfl) _)⟩

theorem rplace_any (s : ByteArray) (p : Int) (w : World) (_hs : s.size ≤ maxLen) :
    Calls Tryd.prog 192 #[.string s, .int .i64 p] w fun e w' => e = .returned (.int .i64 (place s.size p)) ∧ w = w' := by
  by_cases h1 : p < 0
  · go_enter Tryd.func192, Tryd.ntmps192
    go_wp2
    go_ret
    exact ⟨ret_int (by unfold place; rw [if_pos h1]), rfl⟩
  by_cases h2 : (s.size : Int) < p
  · go_enter Tryd.func192, Tryd.ntmps192
    go_wp2
    go_ret
    exact ⟨ret_int (by unfold place; rw [if_neg (by omega), if_pos (by omega)]), rfl⟩
  go_enter Tryd.func192, Tryd.ntmps192
  go_wp2
  go_ret
  exact ⟨ret_int (by unfold place; rw [if_neg (by omega), if_neg (by omega)]), rfl⟩

theorem rof_any (c k : Int) (w : World) (b : UInt8) (hc : (b.toNat : Int) = c) :
    Calls Tryd.prog 193 #[.int .u8 c, .int .i64 k] w fun e w' => e = .returned (.bool (kOk k b)) ∧ w = w' := by
  subst hc
  have h0 := byte_hi b
  have h1 : (0 : Int) ≤ (b.toNat : Int) := by omega
  have arms : ∀ v1 v2 v3 : Bool, (k == 1) = v1 → (k == 2) = v2 → (k == 3) = v3 → kOk k b = ((v1 || v3) && isL (b.toNat : Int) || (v2 || v3) && isD (b.toNat : Int)) := by
    intro v1 v2 v3 e1 e2 e3
    subst e1 e2 e3
    unfold kOk bL bD
    congr 1 <;> congr 1 <;> (rw [Bool.eq_iff_iff]; simp)
  have HA := Lib.hid arms
  clear arms
  cases e1 : (k == 1) <;> cases e2 : (k == 2) <;> cases e3 : (k == 3)
  all_goals
    first
      | (exfalso; simp at e1 e2 e3; omega)
      | (have HK := Lib.hid (HA.out _ _ _ e1 e2 e3)
         cases hB : isL (b.toNat : Int) <;> cases hD : isD (b.toNat : Int)
         all_goals
           rw [hB, hD] at HK
           go_enter Tryd.func193, Tryd.ntmps193
           go_wp2_with (first
             | (go_at_call 153; refine (refLetter_any _ _ h1 h0).mono ?_; rintro e w1 ⟨rfl, rfl⟩)
             | (go_at_call 167; refine (refDigit_any _ _ h1 h0).mono ?_; rintro e w1 ⟨rfl, rfl⟩))
           go_ret
           exact ⟨ret_bool HK.out.symm, rfl⟩)

set_option maxHeartbeats 1000000 in
theorem rrun_any (s : ByteArray) (p k : Int) (w : World) (hs : s.size ≤ maxLen) :
    Calls Tryd.prog 190 #[.string s, .int .i64 p, .int .i64 k] w fun e w' =>
      e = .returned (.tuple #[.string (runA s (place s.size p).toNat k), .int .i64 (place s.size p + (runA s (place s.size p).toNat k).size)]) ∧ w = w' := by
  have hpp := fun W => rplace_any s p W hs
  have hp0 := place_ge s.size p
  have hp1 := place_le s.size p
  generalize place s.size p = q at hp0 hp1 hpp ⊢
  obtain ⟨j, rfl⟩ := Int.eq_ofNat_of_zero_le hp0
  rw [Int.toNat_natCast]
  have hj : j ≤ s.size := by omega
  have hA := runA_list s j k
  have hAs := runA_size s j k
  unfold maxLen at hs
  have HP := Lib.hid hpp
  have HA := Lib.hid hA
  have HAS := Lib.hid hAs
  clear hpp hA hAs
  go_enter Tryd.func190, Tryd.ntmps190
  go_wp2_with (go_at_call 192; refine (HP.out _).mono ?_; rintro e w1 ⟨rfl, rfl⟩)
  go_loop [9] (fun n => ∃ m : Nat, j + m ≤ s.size ∧ n = .int .i64 ((j + m : Nat) : Int) ∧ ((s.data.toList.drop j).take m).all (kOk k) = true) (fun n => s.size - (intOf n).toNat)
  case atStart => exact ⟨0, hj, rfl, rfl⟩
  case round =>
    obtain ⟨m, hm, rfl, hall⟩ := hrel
    have HALL := Lib.hid hall
    clear hall
    have fin : (m = (s.data.toList.drop j).length ∨ kOk k ((s.data.toList.drop j).getD m 0) = false) → s.extract j (j + m) = runA s j k ∧ (runA s j k).size = m := by
      intro he
      have h1 := takeWhile_at (p := kOk k) (l := s.data.toList.drop j) (n := m) HALL.out he
      constructor
      · apply bytes_inj
        rw [HA.out]
        unfold runL
        rw [h1]
        simp
      · rw [HAS.out]
        unfold runL
        rw [h1]
        simp; omega
    have FIN := Lib.hid fin
    clear fin
    by_cases hlt : j + m < s.size
    · have hix := get_list s (j + m) hlt
      have hgg : (s.data.toList.drop j).getD m 0 = s.data.toList.getD (j + m) 0 := by simp [List.getD]
      rw [← hgg] at hix
      clear hgg
      have hlt2 : (j : Int) + (m : Int) < (s.size : Int) := by omega
      generalize hg : (s.data.toList.drop j).getD m 0 = c at hix FIN
      have HG := Lib.hid hg
      clear hg
      cases hok : kOk k c
      · obtain ⟨f1, f2⟩ := FIN.out (.inr hok)
        have F1 := Lib.hid f1
        have F2 := Lib.hid f2
        clear f1 f2
        go_wp2_with (go_at_call 193; refine (rof_any _ k _ c rfl).mono ?_; rintro e w2 ⟨rfl, rfl⟩)
        go_ret2
        exact ⟨by rw [F2.out, ← F1.out]; rfl, rfl⟩
      · have hst := all_take_succ (kOk k) (s.data.toList.drop j) m (by simp; omega)
        rw [HALL.out, HG.out, hok] at hst
        have HST := Lib.hid hst
        clear hst
        go_wp2_with (go_at_call 193; refine (rof_any _ k _ c rfl).mono ?_; rintro e w2 ⟨rfl, rfl⟩)
        go_round
        case rel => exact ⟨m + 1, by omega, by go_num, HST.out⟩
        case measure => simp [intOf]; omega
    · obtain ⟨f1, f2⟩ := FIN.out (.inl (by simp; omega))
      have F1 := Lib.hid f1
      have F2 := Lib.hid f2
      have hlt2 : ¬ (j : Int) + (m : Int) < (s.size : Int) := by omega
      clear f1 f2
      go_wp2
      go_ret2
      exact ⟨by rw [F2.out, ← F1.out]; rfl, rfl⟩

end Go.Proofs.YtjahkaidinahpaaDoor.En
