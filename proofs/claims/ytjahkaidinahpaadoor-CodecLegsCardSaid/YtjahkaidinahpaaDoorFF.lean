/- Steps of both readers, whatever comes. -/
import Derived.Test.YtjahkaidinahpaaDoorFE
import Derived.Test.YtjahkaidinahpaaDoorEW
namespace Go.Proofs.YtjahkaidinahpaaDoor
open Go.RowKit Go.ChangeMaps
set_option linter.unusedSimpArgs false
set_option linter.unusedVariables false
set_option maxRecDepth 20000

theorem pFix_one {x : UInt8} {r : List UInt8} : pFix 1 (x :: r) = some (x.toNat, r) := by
  unfold pFix
  rw [if_pos (by rw [List.length_cons]; omega)]
  simp [valB]

theorem pFix_lt {k n : Nat} {l r : List UInt8} (h : pFix k l = some (n, r)) (hk : k ≤ 4) : n < 256 ^ k ∧ r.length ≤ l.length := by
  obtain ⟨h1, h2, h3⟩ := pFix_some h
  have := valB_lt (l.take k)
  rw [List.length_take, show min k l.length = k by omega] at this
  exact ⟨by rw [h2]; exact this, by rw [h3, List.length_drop]; omega⟩

/-- The program's reader: so many bytes as a number. -/
theorem rfix_any (g : Nat) (l : List UInt8) (bad : Bool) (k : Nat) (w0 w : World) (h : RS w0 w g l bad) (h1 : 1 ≤ k) (h4 : k ≤ 4) (hl : l.length ≤ 1000000) :
    Calls Tryd.prog 82 #[.pointer (some ⟨g, 0, none⟩), .int .i64 k] w fun e w' => ∃ (n : Nat) (r : List UInt8) (b2 : Bool), e = .returned (.int .i64 n) ∧ n < 256 ^ k ∧ RS w0 w' g r b2 ∧ r.length ≤ 1000000 ∧ (b2 = false → bad = false ∧ pFix k l = some (n, r)) ∧ (b2 = true → bad = true ∨ pFix k l = none) ∧ w.grownBy w' (some g) := by
  cases hp : pFix k l with
  | none =>
    refine (rfix_no g l bad k w0 w h h1 h4 hp).mono ?_
    rintro e w' ⟨rfl, h2, h3⟩
    exact ⟨0, [], true, rfl, Nat.pow_pos (by decide), h2, Nat.zero_le _, (fun h => by cases h), (fun _ => .inr rfl), h3⟩
  | some x =>
    obtain ⟨n, r⟩ := x
    obtain ⟨k1, k2⟩ := pFix_lt hp h4
    refine (rfix_yes g l r bad k n w0 w h h1 h4 hl hp).mono ?_
    rintro e w' ⟨rfl, h2, h3⟩
    exact ⟨n, r, bad, rfl, k1, h2, by omega, fun h => ⟨h, rfl⟩, fun h => .inl h, h3⟩

/-- One byte. -/
theorem rone_any (g : Nat) (l : List UInt8) (bad : Bool) (w0 w : World) (h : RS w0 w g l bad) (hl : l.length ≤ 1000000) :
    Calls Tryd.prog 80 #[.pointer (some ⟨g, 0, none⟩), .int .i64 1] w fun e w' => ∃ (x : UInt8) (r : List UInt8) (b2 : Bool) (b off c : Nat), e = .returned (.slice (some ⟨b, off, none⟩) 1 c) ∧ w'.cell? ⟨b, off, none⟩ = some (.int .u8 x.toNat) ∧ RS w0 w' g r b2 ∧ r.length ≤ 1000000 ∧ (b2 = false → bad = false ∧ pFix 1 l = some (x.toNat, r)) ∧ (b2 = true → bad = true ∨ pFix 1 l = none) ∧ w.grownBy w' (some g) := by
  cases l with
  | nil =>
    refine (rbytes_no g [] bad 1 w0 w h (Nat.le_refl _) (by omega) (by decide)).mono ?_
    rintro e w' ⟨⟨v, rfl, hv⟩, h2, h3⟩
    obtain ⟨p, c, rfl⟩ := hv.len
    obtain ⟨b, off, rfl, k0⟩ := byte_at hv (i := 0) (by simp)
    exact ⟨0, [], true, b, off, c, rfl, k0, h2, Nat.zero_le _, (fun h => by cases h), (fun _ => .inr rfl), h3⟩
  | cons x r =>
    rw [List.length_cons] at hl
    refine (rbytes_yes g (x :: r) bad 1 w0 w h (Nat.le_refl _) (by rw [List.length_cons]; omega) (by rw [List.length_cons]; omega)).mono ?_
    rintro e w' ⟨⟨v, rfl, hv⟩, h2, h3⟩
    obtain ⟨p, c, rfl⟩ := hv.len
    obtain ⟨b, off, rfl, k0⟩ := byte_at hv (i := 0) (by simp)
    exact ⟨x, r, bad, b, off, c, rfl, k0, h2, by omega, fun h => ⟨h, pFix_one⟩, fun h => .inl h, h3⟩

/-- What the reference's 'byte' tells. -/
def ByteP (g : Nat) (s : ByteArray) (k : Nat) (bad : Bool) (w : World) (e : Ending) (w' : World) : Prop :=
  ∃ (x : UInt8) (k2 : Nat) (b2 : Bool), e = .returned (.int .i64 x.toNat) ∧ CS w' g s k2 b2 ∧ (b2 = false → bad = false ∧ pFix 1 ((toL s).drop k) = some (x.toNat, (toL s).drop k2)) ∧ (b2 = true → bad = true ∨ pFix 1 ((toL s).drop k) = none) ∧ w.grownBy w' (some g)

theorem byte_any (g : Nat) (s : ByteArray) (k : Nat) (bad : Bool) (w : World) (h : CS w g s k bad) (hl : s.size ≤ 1000000) :
    Calls Tryd.prog 57 #[.pointer (some ⟨g, 0, none⟩)] w fun e w' => ByteP g s k bad w e w' := by
  by_cases hy : bad = false ∧ k < s.size
  · obtain ⟨rfl, hk⟩ := hy
    refine (byte_yes g s k w h hl hk).mono ?_
    rintro e w' ⟨rfl, h1, h2⟩
    refine ⟨_, k + 1, false, rfl, h1, fun _ => ⟨rfl, ?_⟩, fun h => .inl h, h2⟩
    rw [drop_cons (toL s) k (by rw [size_toL]; exact hk)]
    exact pFix_one
  · have hn : bad = true ∨ s.size ≤ k := by
      cases bad with
      | true => exact .inl rfl
      | false => exact .inr (by rcases Nat.lt_or_ge k s.size with h | h; exact absurd ⟨rfl, h⟩ hy; exact h)
    refine (byte_no g s k bad w h hl hn).mono ?_
    rintro e w' ⟨rfl, h1, h2⟩
    refine ⟨0, k, true, rfl, h1, (fun h => by cases h), fun _ => ?_, h2⟩
    rcases hn with hn | hn
    · exact .inl hn
    · refine .inr ?_
      rw [List.drop_eq_nil_of_le (by rw [size_toL]; exact hn)]
      rfl

/-- Small numbers laid out: what unpacked tells. -/
theorem held_small {x : Nat} (h : x < 65536) : x / 4096 < 16 ∧ x / 32 % 128 < 128 ∧ x % 32 < 32 := ⟨by omega, by omega, by omega⟩

theorem let_of {x : Nat} : ((UInt8.ofNat (65 + x % 32)).toNat : Int) = 65 + (x : Int) % 32 := by rw [UInt8.toNat_ofNat']; omega
end Go.Proofs.YtjahkaidinahpaaDoor
