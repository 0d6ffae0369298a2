/- awake; the law QueueKeys. -/
import Derived.Test.YtpfgmmmeofnkoaaQListC
namespace Go.Proofs.Ytpfgmmmeofnkoaa
open Go.RowKit

theorem key_lon : kS ⟨#[76, 79, 78]⟩ 9 = ⟨#[81, 76, 79, 78, 48, 57]⟩ ∧ kE ⟨#[76, 79, 78]⟩ 9 = 0 := by
  constructor <;> rfl

theorem put_abc : putE [] ⟨#[65, 66, 67, 68, 69, 70]⟩ = 0 ∧ putL [] ⟨#[65, 66, 67, 68, 69, 70]⟩ = [⟨#[65, 66, 67, 68, 69, 70]⟩] := by
  constructor <;> rfl

theorem own_len {w : World} {v : Value} {l : List ByteArray} (h : HasL w v l) : ∃ p c, v = .slice p l.length c := by
  rcases h with ⟨_, _, rfl, rfl, _⟩ | ⟨b, off, c, rfl, _⟩
  · exact ⟨_, _, rfl⟩
  · exact ⟨_, _, rfl⟩

set_option maxHeartbeats 4000000 in
theorem awake_any (w : World) : Calls Try.prog 7 #[] w fun e w' => e = .returned (.bool true) ∧ Below w.heap.size w w' := by
  have C1 : ∀ W : World, Calls Try.prog 12 #[.string ⟨#[76, 79, 78]⟩, .int .i64 9] W fun e w' => e = .returned (.tuple #[.string ⟨#[81, 76, 79, 78, 48, 57]⟩, .int .i64 0]) ∧ Below W.heap.size W w' := fun W => by
    have h := key_any ⟨#[76, 79, 78]⟩ 9 W (by decide)
    rw [key_lon.1, key_lon.2] at h
    exact h
  have C2 : ∀ W : World, Calls Try.prog 16 #[.slice none 0 0, .string ⟨#[65, 66, 67, 68, 69, 70]⟩] W fun e w' => ∃ p c, e = .returned (.tuple #[.slice p 1 c, .int .i64 0]) ∧ HasL w' (.slice p 1 c) [⟨#[65, 66, 67, 68, 69, 70]⟩] ∧ Below W.heap.size W w' := fun W => by
    have h := put_any [] (.slice none 0 0) ⟨#[65, 66, 67, 68, 69, 70]⟩ W (HasL.nil _) (by simp) (by decide)
    rw [put_abc.1, put_abc.2] at h
    refine h.mono ?_
    rintro e w' ⟨v', rfl, ho, hb⟩
    obtain ⟨p, c, rfl⟩ := own_len ho.has
    exact ⟨p, c, rfl, ho.has, hb⟩
  have C3 : ∀ (W : World) p c, HasL W (.slice p 1 c) [⟨#[65, 66, 67, 68, 69, 70]⟩] → Calls Try.prog 9 #[.slice p 1 c] W fun e w' => e = .returned (.tuple #[.string ⟨#[65, 66, 67, 68, 69, 70]⟩, .bool true]) ∧ W = w' := fun W p c h => by
    have h := head_any _ _ W h (by simp)
    exact h
  have C4 : ∀ (W : World) p c, HasL W (.slice p 1 c) [⟨#[65, 66, 67, 68, 69, 70]⟩] → Calls Try.prog 10 #[.slice p 1 c] W fun e w' => ∃ p' c', e = .returned (.slice p' 1 c') ∧ Below W.heap.size W w' := fun W p c h => by
    have h := next_any _ _ W h (by simp)
    refine h.mono ?_
    rintro e w' ⟨v', rfl, ho, hb⟩
    obtain ⟨p', c', rfl⟩ := own_len ho.has
    exact ⟨p', c', rfl, hb⟩
  have H1 := Lib.hid C1
  have H2 := Lib.hid C2
  have H3 := Lib.hid C3
  have H4 := Lib.hid C4
  clear C1 C2 C3 C4
  go_enter Try.func7, Try.ntmps7
  go_wp2_with (first
    | (go_at_call 12; (with_reducible refine (H1.out _).mono ?_); rintro e w1 ⟨rfl, hb1⟩)
    | (go_at_call 16; (with_reducible refine (H2.out _).mono ?_); rintro e w2 ⟨p, c, rfl, hh, hb2⟩; have HH := Lib.hid hh; clear hh)
    | (go_at_call 9; (with_reducible refine (H3.out _ _ _ HH.out).mono ?_); rintro e w3 ⟨rfl, rfl⟩)
    | (go_at_call 10; (with_reducible refine (H4.out _ _ _ HH.out).mono ?_); rintro e w4 ⟨p4, c4, rfl, hb4⟩))
  go_ret
  exact ⟨rfl, (hb1.trans (hb2.mono hb1.size)).trans (hb4.mono (Nat.le_trans hb1.size hb2.size))⟩

/-- What is read of a key that was told. -/
theorem key_back {o : ByteArray} {n : Int} (ho : lettersS o.data.toList 3 3 = true) (hn : 0 ≤ n ∧ n < 100) : keyOk (keyA o n.toNat) = true ∧ rS (keyA o n.toNat) = o ∧ rN (keyA o n.toNat) = n := by
  have hl := letters_len ho
  have hx : (keyA o n.toNat).extract 1 4 = o := by
    apply bytes_inj
    have : ((keyA o n.toNat).extract 1 4).data.toList = ((keyA o n.toNat).data.toList.drop 1).take 3 := by simp
    rw [this, keyA_list, List.drop_succ_cons, List.drop_zero, List.take_append_of_le_length (Nat.le_of_eq hl.symm), List.take_of_length_le (Nat.le_of_eq hl)]
  have h6 : (keyA o n.toNat).size = 6 := by
    have : (keyA o n.toNat).size = (keyA o n.toNat).data.toList.length := by simp
    rw [this, keyA_list]
    simp only [List.length_cons, List.length_append, hl]
    rfl
  have hk := (key_eq (s := keyA o n.toNat) (n := n.toNat) (by omega) h6 (by rw [hx]; exact ho)).1 (by rw [hx])
  obtain ⟨e1, e2⟩ := rS_yes hk.1
  refine ⟨hk.1, by rw [e1, hx], by rw [e2, hk.2]; omega⟩

set_option maxHeartbeats 4000000 in
theorem queueKeys_any (o : ByteArray) (wo : o.size ≤ maxLen) (n : Int) (_wn : (Lit.int .i64 n).wf = true) (key : ByteArray) (_wk : key.size ≤ maxLen) (w : World) :
    Calls Try.prog 4 #[.string o, .int .i64 n, .string key] w fun e w' => e = .returned (.bool true) ∧ Below w.heap.size w w' := by
  have CA := fun W => awake_any W
  have CK := fun W => key_any o n W wo
  have CR := fun W => rkey_any o n W wo
  have CQ := fun s W => qread_any s W
  have CX := fun s W => rread_any s W
  have HA := Lib.hid CA
  have HX := Lib.hid CX
  have HQ := Lib.hid CQ
  clear CA CX CQ
  by_cases hbig : o.size ≤ 1000 ∧ key.size ≤ 1000
  · have b1 : ¬ (1000 : Int) < (o.size : Int) := by omega
    have b2 : ¬ (1000 : Int) < (key.size : Int) := by omega
    have hp : (kE o n = 0 ∧ keyOk (kS o n) = true ∧ rS (kS o n) = o ∧ rN (kS o n) = n) ∨ ((kE o n == 0) = false ∧ keyOk (kS o n) = false) := by
      cases ho : lettersS o.data.toList 3 3
      · obtain ⟨e1, e2⟩ := kS_form n ho
        right; rw [e1, e2]; exact ⟨rfl, rfl⟩
      · by_cases hn : 0 ≤ n ∧ n < 100
        · obtain ⟨e1, e2⟩ := kS_yes ho hn
          left; rw [e1, e2]; exact ⟨rfl, key_back ho hn⟩
        · obtain ⟨e1, e2⟩ := kS_range ho hn
          right; rw [e1, e2]; exact ⟨rfl, rfl⟩
    have h1 := HQ.out key
    have h2 := HX.out key
    have h3 := HQ.out (kS o n)
    generalize kS o n = k at *
    generalize kE o n = e0 at *
    generalize rS key = x at *
    generalize rN key = y at *
    generalize keyOk key = z at *
    have D1 := Lib.hid h1
    have D2 := Lib.hid h2
    have D4 := Lib.hid CK
    have D5 := Lib.hid CR
    rcases hp with ⟨rfl, p2, p3, p4⟩ | ⟨p1, p2⟩
    · rw [p2, p3, p4] at h3
      have D3 := Lib.hid h3
      clear h1 h2 h3 CK CR p2 p3 p4 hbig
      go_enter Try.func4, Try.ntmps4
      go_wp2_with (first
        | (go_at_call 7; (with_reducible refine (HA.out _).mono ?_); rintro e w1 ⟨rfl, hb1⟩)
        | (go_at_call 12; (with_reducible refine (D4.out _).mono ?_); rintro e w2 ⟨rfl, hb2⟩)
        | (go_at_call 13; (with_reducible refine (D5.out _).mono ?_); rintro e w3 ⟨rfl, hb3⟩)
        | (go_at_call 14; (with_reducible refine (D1.out _).mono ?_); rintro e w4 ⟨rfl, hb4⟩)
        | (go_at_call 15; (with_reducible refine (D2.out _).mono ?_); rintro e w5 ⟨rfl, hb5⟩)
        | (go_at_call 14; (with_reducible refine (D3.out _).mono ?_); rintro e w6 ⟨rfl, hb6⟩))
      go_ret
      exact ⟨rfl, bel_trans (bel_trans (bel_trans (bel_trans (bel_trans hb1 hb2) hb3) hb4) hb5) hb6⟩
    · rw [p2] at h3
      have D3 := Lib.hid h3
      clear h1 h2 h3 CK CR p2 hbig
      go_enter Try.func4, Try.ntmps4
      go_wp2_with (first
        | (go_at_call 7; (with_reducible refine (HA.out _).mono ?_); rintro e w1 ⟨rfl, hb1⟩)
        | (go_at_call 12; (with_reducible refine (D4.out _).mono ?_); rintro e w2 ⟨rfl, hb2⟩)
        | (go_at_call 13; (with_reducible refine (D5.out _).mono ?_); rintro e w3 ⟨rfl, hb3⟩)
        | (go_at_call 14; (with_reducible refine (D1.out _).mono ?_); rintro e w4 ⟨rfl, hb4⟩)
        | (go_at_call 15; (with_reducible refine (D2.out _).mono ?_); rintro e w5 ⟨rfl, hb5⟩)
        | (go_at_call 14; (with_reducible refine (D3.out _).mono ?_); rintro e w6 ⟨rfl, hb6⟩))
      go_ret
      exact ⟨rfl, bel_trans (bel_trans (bel_trans (bel_trans (bel_trans hb1 hb2) hb3) hb4) hb5) hb6⟩
  · clear CK CR
    by_cases b1 : o.size ≤ 1000
    · have b3 : ¬ (1000 : Int) < (o.size : Int) := by omega
      have b4 : (1000 : Int) < (key.size : Int) := by omega
      clear hbig
      go_enter Try.func4, Try.ntmps4
      go_wp2_with (go_at_call 7; (with_reducible refine (HA.out _).mono ?_); rintro e w1 ⟨rfl, hb1⟩)
      go_ret
      exact ⟨rfl, hb1⟩
    · have b3 : (1000 : Int) < (o.size : Int) := by omega
      clear hbig
      go_enter Try.func4, Try.ntmps4
      go_wp2_with (go_at_call 7; (with_reducible refine (HA.out _).mono ?_); rintro e w1 ⟨rfl, hb1⟩)
      go_ret
      exact ⟨rfl, hb1⟩
end Go.Proofs.Ytpfgmmmeofnkoaa
