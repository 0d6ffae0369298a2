/- Locators: the plain numbers and letters, and the contracts of locator.Text, inverse, Number. -/
import Derived.Test.YtlaieijlengojaaLawCodeA
namespace Go.Proofs.Ytlaieijlengojaa
open Go.RowKit

def chr (k : Nat) : UInt8 := UInt8.ofNat (65 + k % 26)
theorem chr_toNat (k : Nat) : (chr k).toNat = 65 + k % 26 := by
  unfold chr
  rw [UInt8.toNat_ofNat']
  omega
/-- The six letters of a number. -/
def txt (x : Nat) : List UInt8 := [chr (x / 26 / 26 / 26 / 26 / 26), chr (x / 26 / 26 / 26 / 26), chr (x / 26 / 26 / 26), chr (x / 26 / 26), chr (x / 26), chr x]
/-- The number of letters. -/
def valL (l : List UInt8) : Nat := l.foldl (fun x c => x * 26 + (c.toNat - 65)) 0
/-- What a number is turned to. -/
def turnN (n : Nat) : Nat := (n * 123456789 + 98765432) % 308915776

theorem val_txt (x : Nat) (h : x < 308915776) : valL (txt x) = x := by
  simp only [valL, txt, List.foldl, chr_toNat]
  omega
theorem txt_bL (x : Nat) : (txt x).all bL = true := by
  have hc : ∀ k, bL (chr k) = true := fun k => by unfold bL isL; apply decide_eq_true; rw [chr_toNat]; omega
  simp [txt, hc]
theorem txt_len (x : Nat) : (txt x).length = 6 := rfl
theorem txt_letters (x : Nat) : lettersS (txt x) 6 6 = true := by
  unfold lettersS
  rw [txt_bL, txt_len]; rfl
theorem turn_lt (n : Nat) : turnN n < 308915776 := Nat.mod_lt _ (by decide)
theorem turn_back (n : Nat) (h : n < 308915776) : (turnN n + 308915776 - 98765432) % 308915776 * 76133565 % 308915776 = n := by
  unfold turnN
  omega
theorem back_turn (x : Nat) (h : x < 308915776) : turnN ((x + 308915776 - 98765432) % 308915776 * 76133565 % 308915776) = x := by
  unfold turnN
  omega
theorem chr_back {c : UInt8} (h : bL c = true) (y : Nat) : chr (y * 26 + (c.toNat - 65)) = c := by
  unfold bL isL at h
  rw [decide_eq_true_eq] at h
  apply UInt8.toNat_inj.1
  rw [chr_toNat]
  omega
theorem val_step {c : UInt8} (h : bL c = true) (y : Nat) : (y * 26 + (c.toNat - 65)) / 26 = y := by
  unfold bL isL at h
  rw [decide_eq_true_eq] at h
  omega
theorem val_hi {c : UInt8} (h : bL c = true) : c.toNat - 65 < 26 := by
  unfold bL isL at h
  rw [decide_eq_true_eq] at h
  omega
theorem letters_len {l : List UInt8} {n : Nat} (h : lettersS l n n = true) : l.length = n := by
  unfold lettersS at h
  rw [Bool.and_eq_true, decide_eq_true_eq] at h
  omega
theorem txt_val (l : List UInt8) (h : lettersS l 6 6 = true) : txt (valL l) = l ∧ valL l < 308915776 := by
  have hl := letters_len (n := 6) h
  unfold lettersS at h
  rw [Bool.and_eq_true] at h
  match l, hl with
  | [a, b, c, d, e, f], _ =>
    have h2 := h.2
    simp only [List.all_cons, List.all_nil, Bool.and_true, Bool.and_eq_true] at h2
    obtain ⟨ha, hb, hc, hd, he, hf⟩ := h2
    constructor
    · simp only [valL, List.foldl, txt, val_step hb, val_step hc, val_step hd, val_step he, val_step hf, chr_back ha, chr_back hb, chr_back hc, chr_back hd, chr_back he, chr_back hf]
    · have := val_hi ha; have := val_hi hb; have := val_hi hc; have := val_hi hd; have := val_hi he; have := val_hi hf
      simp only [valL, List.foldl]
      omega
end Go.Proofs.Ytlaieijlengojaa
