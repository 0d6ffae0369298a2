/- The contracts of locator.Text, inverse, Number and of the reference's Text. -/
import Derived.Test.YtlaieijlengojaaLocA
namespace Go.Proofs.Ytlaieijlengojaa
open Go.RowKit

theorem chr_int (k : Nat) : ((chr k).toNat : Int) = 65 + (k : Int) % 26 := by rw [chr_toNat]; omega

theorem txt_conv (x : Nat) (w : World) :
    (convert 54 9 (.slice (some ⟨w.heap.size, 0, none⟩) 6 6)).run Try.prog (w.alloc (.cells #[.int .u8 (65 + (x : Int) / 26 / 26 / 26 / 26 / 26 % 26), .int .u8 (65 + (x : Int) / 26 / 26 / 26 / 26 % 26),
      .int .u8 (65 + (x : Int) / 26 / 26 / 26 % 26), .int .u8 (65 + (x : Int) / 26 / 26 % 26), .int .u8 (65 + (x : Int) / 26 % 26), .int .u8 (65 + (x : Int) % 26)] 57)) =
    .ok (.string ⟨(txt x).toArray⟩) (w.alloc (.cells #[.int .u8 (65 + (x : Int) / 26 / 26 / 26 / 26 / 26 % 26), .int .u8 (65 + (x : Int) / 26 / 26 / 26 / 26 % 26),
      .int .u8 (65 + (x : Int) / 26 / 26 / 26 % 26), .int .u8 (65 + (x : Int) / 26 / 26 % 26), .int .u8 (65 + (x : Int) / 26 % 26), .int .u8 (65 + (x : Int) % 26)] 57)) := by
  refine string_conv (txt x) _ w.heap.size 6 6 rfl fun j hj => ?_
  rw [World.cell?_alloc_new]
  match j, hj with
  | 0, _ => show some (Value.int .u8 _) = some (Value.int .u8 ((chr _).toNat : Int)); rw [chr_int]; congr 2
  | 1, _ => show some (Value.int .u8 _) = some (Value.int .u8 ((chr _).toNat : Int)); rw [chr_int]; congr 2
  | 2, _ => show some (Value.int .u8 _) = some (Value.int .u8 ((chr _).toNat : Int)); rw [chr_int]; congr 2
  | 3, _ => show some (Value.int .u8 _) = some (Value.int .u8 ((chr _).toNat : Int)); rw [chr_int]; congr 2
  | 4, _ => show some (Value.int .u8 _) = some (Value.int .u8 ((chr _).toNat : Int)); rw [chr_int]; congr 2
  | 5, _ => show some (Value.int .u8 _) = some (Value.int .u8 ((chr _).toNat : Int)); rw [chr_int]

theorem ltext_yes (n : Nat) (w : World) (h : n < 308915776) :
    Calls Try.prog 19 #[.int .i64 n] w fun e w' => e = .returned (.tuple #[.string ⟨(txt (turnN n)).toArray⟩, .int .i64 0]) ∧ Below w.heap.size w w' := by
  have hx : ((n : Int) * 123456789 + 98765432) % 308915776 = (turnN n : Int) := by unfold turnN; omega
  have hlt := turn_lt n
  generalize turnN n = x at hx hlt
  have hcv := txt_conv x w
  go_enter Try.func19, Try.ntmps19
  go_wp2
  refine wp_loop_rounds 7 ?_
  iterate 7 (rw [rounds_succ]; go_wp2)
  go_ret2
  exact ⟨rfl, (Below.refl _ _).alloc (Nat.le_refl _) _⟩

theorem ltext_no (n : Int) (w : World) (h : n < 0 ∨ 308915776 ≤ n) :
    Calls Try.prog 19 #[.int .i64 n] w fun e w' => e = .returned (.tuple #[.string ⟨#[]⟩, .int .i64 1]) ∧ Below w.heap.size w w' := by
  rcases h with h | h
  · go_enter Try.func19, Try.ntmps19
    go_wp2
    go_ret2
    exact ⟨rfl, Below.refl _ _⟩
  · have h2 : ¬ n < 0 := by omega
    go_enter Try.func19, Try.ntmps19
    go_wp2
    go_ret2
    exact ⟨rfl, Below.refl _ _⟩

def shr (x : Nat) : Nat → Nat
  | 0 => x
  | k + 1 => shr x k / 26
theorem shr_succ (x k : Nat) : shr x (k + 1) = shr x k / 26 := rfl
theorem shr_le (x k : Nat) : shr x k ≤ x := by
  induction k with
  | zero => exact Nat.le_refl _
  | succ k ih => exact Nat.le_trans (Nat.div_le_self _ _) ih
theorem txt_drop (x k : Nat) (h : k < 6) : (⟨#[chr (shr x k)]⟩ : ByteArray) ++ ⟨((txt x).drop (6 - k)).toArray⟩ = ⟨((txt x).drop (6 - (k + 1))).toArray⟩ := by
  match k, h with
  | 0, _ => rfl
  | 1, _ => rfl
  | 2, _ => rfl
  | 3, _ => rfl
  | 4, _ => rfl
  | 5, _ => rfl
theorem chr_conv (y : Nat) (w : World) :
    (convert 54 9 (.slice (some ⟨w.heap.size, 0, none⟩) 1 1)).run Try.prog (w.alloc (.cells #[.int .u8 (65 + (y : Int) % 26)] 5)) = .ok (.string ⟨#[chr y]⟩) (w.alloc (.cells #[.int .u8 (65 + (y : Int) % 26)] 5)) := by
  refine string_conv [chr y] _ w.heap.size 1 1 rfl fun j hj => ?_
  rw [World.cell?_alloc_new]
  match j, hj with
  | 0, _ => show some (Value.int .u8 _) = some (Value.int .u8 ((chr _).toNat : Int)); rw [chr_int]

theorem rtext_yes (n : Nat) (w : World) (h : n < 308915776) :
    Calls Try.prog 20 #[.int .i64 n] w fun e w' => e = .returned (.tuple #[.string ⟨(txt (turnN n)).toArray⟩, .int .i64 0]) ∧ Below w.heap.size w w' := by
  have hx : ((n : Int) * 123456789 + 98765432) % 308915776 = (turnN n : Int) := by unfold turnN; omega
  have hlt := turn_lt n
  generalize turnN n = x at hx hlt
  have HX := Lib.hid hx
  clear hx
  go_enter Try.func20, Try.ntmps20
  go_wp2
  go_loopw [4, 5, 6] (fun y s i wr => ∃ k : Nat, k ≤ 6 ∧ i = .int .i64 k ∧ Below w.heap.size w wr ∧ y = .int .u64 ((shr x k : Nat) : Int) ∧ s = .string ⟨((txt x).drop (6 - k)).toArray⟩) (fun _ _ i _ => 6 - (intOf i).toNat)
  case atStart => exact ⟨0, by omega, rfl, Below.refl _ _, by rw [HX.out]; rfl, rfl⟩
  case round =>
    obtain ⟨k, hk, rfl, hb, rfl, rfl⟩ := hrel
    by_cases hlt2 : k < 6
    · have hs := txt_drop x k hlt2
      have hsx := shr_le x k
      have hts : ((txt x).drop (6 - k)).toArray.size ≤ 6 := by simp [txt_len]
      generalize ((txt x).drop (6 - k)).toArray = t0 at hs hts
      have HS := Lib.hid hs
      have hss := shr_succ x k
      have HSS := Lib.hid hss
      clear hs hss
      generalize shr x k = y at HS hsx HSS
      have hc := chr_conv y wr
      go_wp2
      refine ⟨⟨k + 1, by omega, by go_num, hb.alloc hb.size _, ?_, ?_⟩, by simp [intOf]; omega⟩
      · rw [HSS.out]; go_num
      · rw [HS.out]
    · go_wp2
      go_ret2
      have : k = 6 := by omega
      subst this
      exact ⟨rfl, hb⟩

theorem rtext_no (n : Int) (w : World) (h : n < 0 ∨ 308915776 ≤ n) :
    Calls Try.prog 20 #[.int .i64 n] w fun e w' => e = .returned (.tuple #[.string ⟨#[]⟩, .int .i64 1]) ∧ Below w.heap.size w w' := by
  rcases h with h | h
  · go_enter Try.func20, Try.ntmps20
    go_wp2
    go_ret2
    exact ⟨rfl, Below.refl _ _⟩
  · have h2 : ¬ n < 0 := by omega
    go_enter Try.func20, Try.ntmps20
    go_wp2
    go_ret2
    exact ⟨rfl, Below.refl _ _⟩

theorem inverse_any (w : World) : Calls Try.prog 46 #[] w fun e w' => e = .returned (.int .u64 76133565) ∧ w = w' := by
  go_enter Try.func46, Try.ntmps46
  go_wp2
  refine wp_loop_rounds 17 ?_
  iterate 17 (rw [rounds_succ]; go_wp2)
  go_ret
  exact ⟨rfl, rfl⟩
end Go.Proofs.Ytlaieijlengojaa
