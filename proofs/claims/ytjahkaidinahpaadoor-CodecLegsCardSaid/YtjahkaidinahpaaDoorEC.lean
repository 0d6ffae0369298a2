/- Locators: locator.Text, Number, inverse; the reference Text. -/
import Derived.Test.YtjahkaidinahpaaDoorEB
namespace Go.Proofs.YtjahkaidinahpaaDoor
open Go.RowKit
set_option linter.unusedSimpArgs false
set_option linter.unusedVariables false
set_option maxRecDepth 20000

def chr (k : Nat) : UInt8 := UInt8.ofNat (65 + k % 26)

theorem chr_toNat (k : Nat) : (chr k).toNat = 65 + k % 26 := by
  unfold chr
  rw [UInt8.toNat_ofNat']
  omega

/-- The six letters of a number. -/
def txt (x : Nat) : List UInt8 := [chr (x / 26 / 26 / 26 / 26 / 26), chr (x / 26 / 26 / 26 / 26), chr (x / 26 / 26 / 26), chr (x / 26 / 26), chr (x / 26), chr x]

/-- The number of letters. -/
def valL (l : List UInt8) : Nat := l.foldl (fun x c => x * 26 + (c.toNat - 65)) 0

/-- What a number is turned to. -/
def turnN (n : Nat) : Nat := (n * 123456789 + 98765432) % 308915776

theorem val_txt (x : Nat) (h : x < 308915776) : valL (txt x) = x := by
  simp only [valL, txt, List.foldl, chr_toNat]
  omega

theorem txt_bL (x : Nat) : (txt x).all bL = true := by
  have hc : ∀ k, bL (chr k) = true := fun k => by unfold bL isL; apply decide_eq_true; rw [chr_toNat]; omega
  simp [txt, hc]

theorem txt_len (x : Nat) : (txt x).length = 6 := rfl

theorem txt_letters (x : Nat) : lettersS (txt x) 6 6 = true := by
  unfold lettersS
  rw [txt_bL, txt_len]; rfl

theorem turn_lt (n : Nat) : turnN n < 308915776 := Nat.mod_lt _ (by decide)

theorem turn_back (n : Nat) (h : n < 308915776) : (turnN n + 308915776 - 98765432) % 308915776 * 76133565 % 308915776 = n := by
  unfold turnN
  omega

theorem back_turn (x : Nat) (h : x < 308915776) : turnN ((x + 308915776 - 98765432) % 308915776 * 76133565 % 308915776) = x := by
  unfold turnN
  omega

theorem chr_back {c : UInt8} (h : bL c = true) (y : Nat) : chr (y * 26 + (c.toNat - 65)) = c := by
  unfold bL isL at h
  rw [decide_eq_true_eq] at h
  apply UInt8.toNat_inj.1
  rw [chr_toNat]
  omega

theorem val_step {c : UInt8} (h : bL c = true) (y : Nat) : (y * 26 + (c.toNat - 65)) / 26 = y := by
  unfold bL isL at h
  rw [decide_eq_true_eq] at h
  omega

theorem val_hi {c : UInt8} (h : bL c = true) : c.toNat - 65 < 26 := by
  unfold bL isL at h
  rw [decide_eq_true_eq] at h
  omega

theorem letters_len {l : List UInt8} {n : Nat} (h : lettersS l n n = true) : l.length = n := by
  unfold lettersS at h
  rw [Bool.and_eq_true, decide_eq_true_eq] at h
  omega

theorem txt_val (l : List UInt8) (h : lettersS l 6 6 = true) : txt (valL l) = l ∧ valL l < 308915776 := by
  have hl := letters_len (n := 6) h
  unfold lettersS at h
  rw [Bool.and_eq_true] at h
  match l, hl with
  | [a, b, c, d, e, f], _ =>
    have h2 := h.2
    simp only [List.all_cons, List.all_nil, Bool.and_true, Bool.and_eq_true] at h2
    obtain ⟨ha, hb, hc, hd, he, hf⟩ := h2
    constructor
    · simp only [valL, List.foldl, txt, val_step hb, val_step hc, val_step hd, val_step he, val_step hf, chr_back ha, chr_back hb, chr_back hc, chr_back hd, chr_back he, chr_back hf]
    · have := val_hi ha; have := val_hi hb; have := val_hi hc; have := val_hi hd; have := val_hi he; have := val_hi hf
      simp only [valL, List.foldl]
      omega

theorem chr_int (k : Nat) : ((chr k).toNat : Int) = 65 + (k : Int) % 26 := by rw [chr_toNat]; omega

theorem txt_conv (x : Nat) (w : World) :
    (convert 48 9 (.slice (some ⟨w.heap.size, 0, none⟩) 6 6)).run Tryd.prog (w.alloc (.cells #[.int .u8 (65 + (x : Int) / 26 / 26 / 26 / 26 / 26 % 26), .int .u8 (65 + (x : Int) / 26 / 26 / 26 / 26 % 26),
      .int .u8 (65 + (x : Int) / 26 / 26 / 26 % 26), .int .u8 (65 + (x : Int) / 26 / 26 % 26), .int .u8 (65 + (x : Int) / 26 % 26), .int .u8 (65 + (x : Int) % 26)] 206)) =
    .ok (.string ⟨(txt x).toArray⟩) (w.alloc (.cells #[.int .u8 (65 + (x : Int) / 26 / 26 / 26 / 26 / 26 % 26), .int .u8 (65 + (x : Int) / 26 / 26 / 26 / 26 % 26),
      .int .u8 (65 + (x : Int) / 26 / 26 / 26 % 26), .int .u8 (65 + (x : Int) / 26 / 26 % 26), .int .u8 (65 + (x : Int) / 26 % 26), .int .u8 (65 + (x : Int) % 26)] 206)) := by
  refine string_conv (txt x) _ w.heap.size 6 6 rfl fun j hj => ?_
  rw [World.cell?_alloc_new]
  match j, hj with
  | 0, _ => show some (Value.int .u8 _) = some (Value.int .u8 ((chr _).toNat : Int)); rw [chr_int]; congr 2
  | 1, _ => show some (Value.int .u8 _) = some (Value.int .u8 ((chr _).toNat : Int)); rw [chr_int]; congr 2
  | 2, _ => show some (Value.int .u8 _) = some (Value.int .u8 ((chr _).toNat : Int)); rw [chr_int]; congr 2
  | 3, _ => show some (Value.int .u8 _) = some (Value.int .u8 ((chr _).toNat : Int)); rw [chr_int]; congr 2
  | 4, _ => show some (Value.int .u8 _) = some (Value.int .u8 ((chr _).toNat : Int)); rw [chr_int]; congr 2
  | 5, _ => show some (Value.int .u8 _) = some (Value.int .u8 ((chr _).toNat : Int)); rw [chr_int]

theorem ltext_yes (n : Nat) (w : World) (h : n < 308915776) :
    Calls Tryd.prog 116 #[.int .i64 n] w fun e w' => e = .returned (.tuple #[.string ⟨(txt (turnN n)).toArray⟩, .int .i64 0]) ∧ Below w.heap.size w w' := by
  have hx : ((n : Int) * 123456789 + 98765432) % 308915776 = (turnN n : Int) := by unfold turnN; omega
  have hlt := turn_lt n
  generalize turnN n = x at hx hlt
  have hcv := txt_conv x w
  go_enter Tryd.func116, Tryd.ntmps116
  go_wp2
  refine wp_loop_rounds 7 ?_
  iterate 7 (rw [rounds_succ]; go_wp2)
  go_ret2
  exact ⟨rfl, (Below.refl _ _).alloc (Nat.le_refl _) _⟩

theorem ltext_no (n : Int) (w : World) (h : n < 0 ∨ 308915776 ≤ n) :
    Calls Tryd.prog 116 #[.int .i64 n] w fun e w' => e = .returned (.tuple #[.string ⟨#[]⟩, .int .i64 1]) ∧ Below w.heap.size w w' := by
  rcases h with h | h
  · go_enter Tryd.func116, Tryd.ntmps116
    go_wp2
    go_ret2
    exact ⟨rfl, Below.refl _ _⟩
  · have h2 : ¬ n < 0 := by omega
    go_enter Tryd.func116, Tryd.ntmps116
    go_wp2
    go_ret2
    exact ⟨rfl, Below.refl _ _⟩

def shr (x : Nat) : Nat → Nat
  | 0 => x
  | k + 1 => shr x k / 26

theorem shr_succ (x k : Nat) : shr x (k + 1) = shr x k / 26 := rfl

theorem shr_le (x k : Nat) : shr x k ≤ x := by
  induction k with
  | zero => exact Nat.le_refl _
  | succ k ih => exact Nat.le_trans (Nat.div_le_self _ _) ih

theorem txt_drop (x k : Nat) (h : k < 6) : (⟨#[chr (shr x k)]⟩ : ByteArray) ++ ⟨((txt x).drop (6 - k)).toArray⟩ = ⟨((txt x).drop (6 - (k + 1))).toArray⟩ := by
  match k, h with
  | 0, _ => rfl
  | 1, _ => rfl
  | 2, _ => rfl
  | 3, _ => rfl
  | 4, _ => rfl
  | 5, _ => rfl

theorem chr_conv (y : Nat) (w : World) :
    (convert 48 9 (.slice (some ⟨w.heap.size, 0, none⟩) 1 1)).run Tryd.prog (w.alloc (.cells #[.int .u8 (65 + (y : Int) % 26)] 5)) = .ok (.string ⟨#[chr y]⟩) (w.alloc (.cells #[.int .u8 (65 + (y : Int) % 26)] 5)) := by
  refine string_conv [chr y] _ w.heap.size 1 1 rfl fun j hj => ?_
  rw [World.cell?_alloc_new]
  match j, hj with
  | 0, _ => show some (Value.int .u8 _) = some (Value.int .u8 ((chr _).toNat : Int)); rw [chr_int]

theorem rtext_yes (n : Nat) (w : World) (h : n < 308915776) :
    Calls Tryd.prog 120 #[.int .i64 n] w fun e w' => e = .returned (.tuple #[.string ⟨(txt (turnN n)).toArray⟩, .int .i64 0]) ∧ Below w.heap.size w w' := by
  have hx : ((n : Int) * 123456789 + 98765432) % 308915776 = (turnN n : Int) := by unfold turnN; omega
  have hlt := turn_lt n
  generalize turnN n = x at hx hlt
  have HX := Lib.hid hx
  clear hx
  go_enter Tryd.func120, Tryd.ntmps120
  go_wp2
  go_loopw [4, 5, 6] (fun y s i wr => ∃ k : Nat, k ≤ 6 ∧ i = .int .i64 k ∧ Below w.heap.size w wr ∧ y = .int .u64 ((shr x k : Nat) : Int) ∧ s = .string ⟨((txt x).drop (6 - k)).toArray⟩) (fun _ _ i _ => 6 - (intOf i).toNat)
  case atStart => exact ⟨0, by omega, rfl, Below.refl _ _, by rw [HX.out]; rfl, rfl⟩
  case round =>
    obtain ⟨k, hk, rfl, hb, rfl, rfl⟩ := hrel
    by_cases hlt2 : k < 6
    · have hs := txt_drop x k hlt2
      have hsx := shr_le x k
      have hts : ((txt x).drop (6 - k)).toArray.size ≤ 6 := by simp [txt_len]
      generalize ((txt x).drop (6 - k)).toArray = t0 at hs hts
      have HS := Lib.hid hs
      have hss := shr_succ x k
      have HSS := Lib.hid hss
      clear hs hss
      generalize shr x k = y at HS hsx HSS
      have hc := chr_conv y wr
      go_wp2
      refine ⟨⟨k + 1, by omega, by go_num, hb.alloc hb.size _, ?_, ?_⟩, by simp [intOf]; omega⟩
      · rw [HSS.out]; go_num
      · rw [HS.out]
    · go_wp2
      go_ret2
      have : k = 6 := by omega
      subst this
      exact ⟨rfl, hb⟩

theorem rtext_no (n : Int) (w : World) (h : n < 0 ∨ 308915776 ≤ n) :
    Calls Tryd.prog 120 #[.int .i64 n] w fun e w' => e = .returned (.tuple #[.string ⟨#[]⟩, .int .i64 1]) ∧ Below w.heap.size w w' := by
  rcases h with h | h
  · go_enter Tryd.func120, Tryd.ntmps120
    go_wp2
    go_ret2
    exact ⟨rfl, Below.refl _ _⟩
  · have h2 : ¬ n < 0 := by omega
    go_enter Tryd.func120, Tryd.ntmps120
    go_wp2
    go_ret2
    exact ⟨rfl, Below.refl _ _⟩

theorem inverse_any (w : World) : Calls Tryd.prog 171 #[] w fun e w' => e = .returned (.int .u64 76133565) ∧ w = w' := by
  go_enter Tryd.func171, Tryd.ntmps171
  go_wp2
  refine wp_loop_rounds 17 ?_
  iterate 17 (rw [rounds_succ]; go_wp2)
  go_ret
  exact ⟨rfl, rfl⟩

def numN (x : Nat) : Nat := (x + 308915776 - 98765432) % 308915776 * 76133565 % 308915776

theorem valL_take (l : List UInt8) (k : Nat) (h : k < l.length) : valL (l.take (k + 1)) = valL (l.take k) * 26 + ((l.getD k 0).toNat - 65) := by
  unfold valL
  rw [List.take_succ_eq_append_getElem h, List.foldl_append]
  simp [List.getD, h]

theorem foldl_ge (l : List UInt8) : ∀ x, x ≤ l.foldl (fun x c => x * 26 + (c.toNat - 65)) x := by
  induction l with
  | nil => intro x; exact Nat.le_refl _
  | cons c t ih => intro x; rw [List.foldl_cons]; exact Nat.le_trans (by omega) (ih _)

theorem valL_take_le (l : List UInt8) (k : Nat) : valL (l.take k) ≤ valL l := by
  have h : l.take k ++ l.drop k = l := List.take_append_drop k l
  have : valL l = (l.drop k).foldl (fun x c => x * 26 + (c.toNat - 65)) (valL (l.take k)) := by
    unfold valL
    rw [← List.foldl_append, h]
  rw [this]
  exact foldl_ge _ _

theorem letter_at {l : List UInt8} (h : l.all bL = true) (k : Nat) (hk : k < l.length) : 65 ≤ (l.getD k 0).toNat ∧ (l.getD k 0).toNat ≤ 90 := by
  rw [List.all_eq_true] at h
  have := h (l.getD k 0) (by simp [List.getD, hk])
  unfold bL isL at this
  rw [decide_eq_true_eq] at this
  omega

theorem numN_int (x : Nat) : ((x : Int) + 308915776 - 98765432) % 308915776 * 76133565 % 308915776 = (numN x : Int) := by
  unfold numN
  rw [Int.natCast_emod, Int.natCast_mul, Int.natCast_emod]
  have e : ((x + 308915776 - 98765432 : Nat) : Int) = (x : Int) + 308915776 - 98765432 := by omega
  rw [e]
  rfl

theorem ret_num {a b : Int} (h : a = b) : Ending.returned (.tuple #[.int .i64 a, .bool true]) = .returned (.tuple #[.int .i64 (if true = true then b else 0), .bool true]) := by rw [if_pos rfl, h]

theorem lnum_any (s : ByteArray) (w : World) (hs : s.size ≤ maxLen) :
    Calls Tryd.prog 111 #[.string s] w fun e w' =>
      e = .returned (.tuple #[.int .i64 (if lettersS s.data.toList 6 6 then (numN (valL s.data.toList) : Int) else 0), .bool (lettersS s.data.toList 6 6)]) ∧ Below w.heap.size w w' := by
  cases hl : lettersS s.data.toList 6 6
  · have HL := Lib.hid hl
    have hc := fun W => locator_any s W hs
    rw [hl] at hc
    have HC := Lib.hid hc
    clear hl hc
    go_enter Tryd.func111, Tryd.ntmps111
    go_wp2_with (go_at_call 45; refine (HC.out _).mono ?_; rintro e w1 ⟨rfl, hb⟩)
    go_ret2
    exact ⟨rfl, hb⟩
  · have hc := fun W => locator_any s W hs
    rw [hl] at hc
    have HC := Lib.hid hc
    have hx := (txt_val _ hl).2
    have hlen := letters_len (n := 6) hl
    have hall : s.data.toList.all bL = true := by unfold lettersS at hl; rw [Bool.and_eq_true] at hl; exact hl.2
    have HL := Lib.hid hl
    have hsz : s.size = 6 := by simpa using hlen
    have HLEN := Lib.hid hlen
    have HALL := Lib.hid hall
    have HSZ := Lib.hid hsz
    have hs6 : s.size ≤ 6 := by omega
    have hs7 : 6 ≤ s.size := by omega
    clear hl hc hlen hall hsz
    go_enter Tryd.func111, Tryd.ntmps111
    go_wp2_with (go_at_call 45; refine (HC.out _).mono ?_; rintro e w1 ⟨rfl, hb1⟩; obtain ⟨w2, cap, hcv, hb2, hz, hcell⟩ := bytes_conv s w1)
    have hb := bel_trans hb1 hb2
    go_loop [4, 13] (fun x i => ∃ k : Nat, k ≤ s.size ∧ i = .int .i64 k ∧ x = .int .u64 (valL (s.data.toList.take k) : Nat)) (fun _ i => s.size - (intOf i).toNat)
    case atStart => exact ⟨0, Nat.zero_le _, rfl, rfl⟩
    case round =>
      obtain ⟨k, hk, rfl, rfl⟩ := hrel
      by_cases hlt : k < s.size
      · have hc := hcell k hlt
        have hkl : k < s.data.toList.length := by rw [HLEN.out]; omega
        have hst := valL_take s.data.toList k hkl
        have hle := valL_take_le s.data.toList k
        have hla := letter_at HALL.out k hkl
        generalize s.data.toList.getD k 0 = b at hc hst hla
        generalize valL (s.data.toList.take k) = x at hst hle ⊢
        have HST := Lib.hid hst
        clear hst hkl hcell
        obtain ⟨hl1, hl2⟩ := hla
        have hb1 : (65 : Int) ≤ (b.toNat : Int) := by omega
        have hb2 : (b.toNat : Int) ≤ 90 := by omega
        clear hl1 hl2
        go_wp2
        go_round
        case rel => exact ⟨k + 1, by omega, by go_num, by rw [HST.out]; go_num⟩
        case measure => simp [intOf]; omega
      · have hk6 : s.data.toList.take k = s.data.toList := List.take_of_length_le (by rw [HLEN.out]; omega)
        rw [hk6]
        clear hk6
        generalize hv : valL s.data.toList = x at hx ⊢
        have HV := Lib.hid hv
        clear hv
        go_wp2_with (go_at_call 171; refine (inverse_any _).mono ?_; rintro e w3 ⟨rfl, rfl⟩)
        go_ret2
        exact ⟨by rw [HV.out]; exact ret_num (numN_int x), hb⟩

end Go.Proofs.YtjahkaidinahpaaDoor
