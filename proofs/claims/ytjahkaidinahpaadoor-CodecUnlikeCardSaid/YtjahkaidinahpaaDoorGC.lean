/- What was written is read as it was: numbers, locators, rows; legs, queues, counts (plain). -/
import Derived.Test.YtjahkaidinahpaaDoorME
import Derived.Test.YtjahkaidinahpaaDoorMB
namespace Go.Proofs.YtjahkaidinahpaaDoor
open Go.RowKit Go.ChangeMaps
set_option linter.unusedSimpArgs false
set_option linter.unusedVariables false
set_option maxRecDepth 20000

theorem ofNat_toNat {n : Nat} (h : n < 256) : (UInt8.ofNat n).toNat = n := by rw [UInt8.toNat_ofNat']; omega

/-- A number read behind i bytes. -/
theorem rvL_varL : ∀ (k n i acc : Nat) (t : List UInt8), n < 2 ^ (7 * (k + 1)) → (0 < n ∨ i = 0) → i + k ≤ 8 → acc < 2 ^ (7 * i) → rvL i acc (varL n ++ t) = some (acc + n * 2 ^ (7 * i), i + (varL n).length)
  | 0, n, i, acc, t, hn, h0, hk, ha => by
    have hn' : n < 128 := by simpa using hn
    rw [varL_small hn', List.singleton_append]
    have hx := ofNat_toNat (n := n) (by omega)
    rw [rvL_end (by rw [hx]; omega) (by rw [hx]; exact hn'), hx, Nat.mod_eq_of_lt hn']
    rfl
  | k + 1, n, i, acc, t, hn, h0, hk, ha => by
    by_cases hs : n < 128
    · rw [varL_small hs, List.singleton_append]
      have hx := ofNat_toNat (n := n) (by omega)
      rw [rvL_end (by rw [hx]; omega) (by rw [hx]; exact hs), hx, Nat.mod_eq_of_lt hs]
      rfl
    · rw [varL_big hs, List.cons_append]
      have hx := ofNat_toNat (n := n % 128 + 128) (by omega)
      have hd : n / 128 < 2 ^ (7 * (k + 1)) := by
        rw [show 7 * (k + 1 + 1) = 7 * (k + 1) + 7 by omega, Nat.pow_add] at hn
        exact Nat.div_lt_of_lt_mul (by rw [Nat.mul_comm]; exact hn)
      have hm : (n % 128 + 128) % 128 = n % 128 := by omega
      rw [rvL_on (by rw [hx]; omega) (by rw [hx]; omega), hx, hm, rvL_varL k (n / 128) (i + 1) _ t hd (.inl (by omega)) (by omega) (next_lt ha (Nat.mod_lt _ (by decide)))]
      congr 2
      · rw [show 7 * (i + 1) = 7 * i + 7 by omega, Nat.pow_add, Nat.add_assoc]
        congr 1
        have e : n = n / 128 * 128 + n % 128 := (Nat.div_add_mod' n 128).symm
        generalize 2 ^ (7 * i) = P at *
        rw [show P * 2 ^ 7 = 128 * P by omega, ← Nat.mul_assoc, ← Nat.add_mul]
        congr 1
        omega
      · rw [List.length_cons]; omega

theorem pNum_varL {most n : Nat} (t : List UInt8) (h : n ≤ most) (hm : most ≤ 4000000000) : pNum most (varL n ++ t) = some (n, t) := by
  have h1 : n < 2 ^ (7 * (4 + 1)) := Nat.lt_of_le_of_lt (Nat.le_trans h hm) (by decide)
  unfold pNum
  rw [rvL_varL 4 n 0 0 t h1 (.inr rfl) (by omega) (by decide)]
  simp [h]

theorem valB_beL : ∀ (k n : Nat), n < 256 ^ k → valB (beL n k) = n
  | 0, n, h => by
    have : n = 0 := by simpa using h
    subst this
    rfl
  | k + 1, n, h => by
    have hd : n / 256 < 256 ^ k := Nat.div_lt_of_lt_mul (by rw [Nat.mul_comm]; rw [Nat.pow_succ] at h; exact h)
    rw [beL]
    unfold valB
    rw [List.foldl_append]
    have ih := valB_beL k (n / 256) hd
    unfold valB at ih
    rw [ih]
    simp only [List.foldl_cons, List.foldl_nil]
    rw [ofNat_toNat (Nat.mod_lt _ (by decide))]
    omega

theorem pFix_beL {k n : Nat} (t : List UInt8) (h : n < 256 ^ k) : pFix k (beL n k ++ t) = some (n, t) := by
  unfold pFix
  rw [if_pos (by rw [List.length_append, beL_len]; omega), List.take_left' (beL_len n k), List.drop_left' (beL_len n k), valB_beL k n h]

theorem turn_num {l : List UInt8} (h : lettersS l 6 6 = true) : txt (turnN (numN (valL l))) = l := by
  obtain ⟨h1, h2⟩ := txt_val l h
  have := back_turn (valL l) h2
  unfold numN
  rw [this]
  exact h1

theorem pLoc_beL {l : List UInt8} (t : List UInt8) (h : lettersS l 6 6 = true) : pLoc (beL (numN (valL l)) 4 ++ t) = some (l, t) := by
  unfold pLoc
  rw [pFix_beL t (Nat.lt_of_lt_of_le (numN_lt _) (by decide))]
  show (if numN (valL l) < 308915776 then some (txt (turnN (numN (valL l))), t) else none) = _
  rw [if_pos (numN_lt _), turn_num h]

/-- Rows that were written one behind the other are read so. -/
theorem pRun_back {α β : Type} {f : List UInt8 → Option (α × List UInt8)} {fB : α → List UInt8} {K : List α → List UInt8 → Option β} : ∀ {l : List α} {acc : List α} {r : List UInt8}, (∀ x ∈ l, ∀ t, f (fB x ++ t) = some (x, t)) → pRun f K l.length acc (l.flatMap fB ++ r) = K (acc ++ l) r
  | [], acc, r, _ => by simp [pRun]
  | x :: l, acc, r, h => by
    rw [List.length_cons, pRun, List.flatMap_cons, List.append_assoc, bindP_some (h x (List.mem_cons_self ..) _), pRun_back fun y hy => h y (List.mem_cons_of_mem _ hy)]
    simp

theorem pSold_back {x : SoldT} (h : oneS x) (t : List UInt8) : pSold (soldB x ++ t) = some (x, t) := by
  unfold pSold soldB
  rw [List.cons_append, bindP_some pFix_one, bindP_some (pNum_varL t (by have := h.2.1; have := h.2.2; omega) (by omega))]
  have e : ((x.n.toNat : Nat) : Int) = x.n := by have := h.2.1; omega
  have e2 : UInt8.ofNat x.c.toNat = x.c := by simp
  rw [e, e2]

theorem bits_back {pax row : Int} {c : UInt8} (h : 1 ≤ row ∧ row ≤ 99 ∧ bL c = true) (h1 : 1 ≤ pax) (h2 : pax ≤ 9) : ((bitsN pax row c / 32 % 128 : Nat) : Int) = row ∧ UInt8.ofNat (65 + bitsN pax row c % 32) = c ∧ ((bitsN pax row c / 4096 : Nat) : Int) = pax := by
  have hb := bL_lo h.2.2
  have hbn : bitsN pax row c = pax.toNat * 4096 + row.toNat * 32 + (c.toNat - 65) := by unfold bitsN; omega
  rw [hbn]
  refine ⟨by omega, ?_, by omega⟩
  have e : 65 + (pax.toNat * 4096 + row.toNat * 32 + (c.toNat - 65)) % 32 = c.toNat := by omega
  rw [e]
  simp

theorem pHeld_back {x : HeldT} (h : oneH x) (t : List UInt8) : pHeld (heldB x ++ t) = some (x, t) := by
  obtain ⟨h1, h2, h3, h4⟩ := h
  have hb : bitsN x.pax x.row x.c < 65536 := by
    have := bL_lo h1.2.2
    unfold bitsN
    omega
  unfold pHeld heldB
  rw [List.append_assoc, bindP_some (pFix_beL _ (Nat.lt_of_lt_of_le hb (by decide))), bindP_some (pLoc_beL t h2)]
  obtain ⟨e1, e2, e3⟩ := bits_back h1 h3 h4
  have e4 : (⟨(toL x.loc).toArray⟩ : ByteArray) = x.loc := strA_of x.loc
  rw [e1, e2, e3, e4]

/-- A sound leg is read back. -/
theorem pLeg_back {s : List SoldT} {h : List HeldT} (k : SoundL s h) : pLeg (legB s h) = some (s, h) := by
  obtain ⟨k1, k2, k3, k4⟩ := k
  unfold pLeg legB
  rw [show ((76 :: varL s.length ++ s.flatMap soldB) ++ varL h.length ++ h.flatMap heldB) = 76 :: (varL s.length ++ (s.flatMap soldB ++ (varL h.length ++ (h.flatMap heldB ++ [])))) by simp]
  rw [bindP_some (pTag_yes rfl)]
  unfold pLegS
  rw [bindP_some (pNum_varL _ k1 (by omega)), pRun_back fun x hx t => pSold_back (k3.one hx) t]
  unfold pLegH
  rw [bindP_some (pNum_varL _ k2 (by omega)), pRun_back fun x hx t => pHeld_back (k4.one hx) t]
  simp

theorem leg_back {s : List SoldT} {h : List HeldT} (k : SoundL s h) : readLg (legB s h) = some (s, h) := readLg_some (pLeg_back k) (legF_yes k)

/-- A queue is read back. -/
theorem pLocs_back (m : List (List UInt8)) : ∀ (r : List UInt8), (∀ s ∈ m.reverse, lettersS s 6 6 = true) → pLocs m.reverse.length (m.reverse.flatMap (fun s => beL (numN (valL s)) 4) ++ r) = some (m.reverse, r) := by
  induction m with
  | nil =>
    intro r _
    rw [List.reverse_nil, List.flatMap_nil, List.nil_append, List.length_nil, pLocs]
  | cons x m ih =>
    intro r h
    rw [List.reverse_cons] at h ⊢
    have hx : lettersS x 6 6 = true := h x (List.mem_append_right _ (List.mem_singleton.2 rfl))
    have hi := ih (beL (numN (valL x)) 4 ++ r) fun s hs => h s (List.mem_append_left _ hs)
    have hl := pLoc_beL r hx
    have e : (m.reverse ++ [x]).flatMap (fun s => beL (numN (valL s)) 4) ++ r = m.reverse.flatMap (fun s => beL (numN (valL s)) 4) ++ (beL (numN (valL x)) 4 ++ r) := by
      rw [List.flatMap_append, List.append_assoc, List.flatMap_cons, List.flatMap_nil, List.append_nil]
    rw [e, List.length_append, List.length_singleton]
    exact pLocs_on hi hl

theorem queue_back {l : List (List UInt8)} {b : List UInt8} (h : queueF l = some b) : readQ b = some l := by
  have hc : l.length ≤ 40 ∧ (l.all fun s => lettersS s 6 6) = true ∧ l.Nodup := by
    unfold queueF at h
    by_cases hc : l.length ≤ 40 ∧ (l.all fun s => lettersS s 6 6) = true ∧ l.Nodup
    · exact hc
    · rw [if_neg hc] at h; cases h
  have hb : b = 81 :: varL l.length ++ l.flatMap fun s => beL (numN (valL s)) 4 := by
    unfold queueF at h
    rw [if_pos hc] at h
    exact (Option.some.inj h).symm
  have hp : pQueue b = some l := by
    subst hb
    show (match pNum 40 (varL l.length ++ l.flatMap fun s => beL (numN (valL s)) 4) with | some (n, r') => ((pLocs n r').map fun x : List (List UInt8) × List UInt8 => x.1) | none => none) = _
    rw [pNum_varL _ hc.1 (by omega)]
    have := pLocs_back l.reverse [] (by rw [List.reverse_reverse]; exact List.all_eq_true.1 hc.2.1)
    rw [List.append_nil, List.reverse_reverse] at this
    show (pLocs l.length (l.flatMap fun s => beL (numN (valL s)) 4)).map _ = _
    rw [this]
    rfl
  unfold readQ
  rw [hp]
  exact if_pos h

theorem count_back {n m : Int} {b : List UInt8} (h : countF n m = some b) : readCt b = some (n.toNat, m.toNat) ∧ 0 ≤ n ∧ 0 ≤ m := by
  have hc : 0 ≤ n ∧ n ≤ 308915776 ∧ 0 ≤ m ∧ m < 527040 := by
    unfold countF at h
    by_cases hc : 0 ≤ n ∧ n ≤ 308915776 ∧ 0 ≤ m ∧ m < 527040
    · exact hc
    · rw [if_neg hc] at h; cases h
  have hb : b = 67 :: varL n.toNat ++ varL m.toNat := by
    unfold countF at h
    rw [if_pos hc] at h
    exact (Option.some.inj h).symm
  refine ⟨?_, hc.1, hc.2.2.1⟩
  have hp : pCount b = some (n.toNat, m.toNat) := by
    subst hb
    refine pCount_at (r := varL n.toNat ++ varL m.toNat) (r1 := varL m.toNat) (r2 := []) rfl (pNum_varL _ (by omega) (by omega)) ?_
    have := pNum_varL (most := 527039) [] (n := m.toNat) (by omega) (by omega)
    rwa [List.append_nil] at this
  refine readCt_some hp ?_
  have e1 : ((n.toNat : Nat) : Int) = n := by omega
  have e2 : ((m.toNat : Nat) : Int) = m := by omega
  rw [e1, e2]
  exact h
end Go.Proofs.YtjahkaidinahpaaDoor
