/- Entries: the reference's methods wrong, take, run, sign, text (printed by gen_rtext.py). -/
import Derived.Test.YtjahkaidinahpaaDoorOC
import Derived.Test.YtjahkaidinahpaaDoorNF
namespace Go.Proofs.YtjahkaidinahpaaDoor.En
open Go.RowKit
set_option linter.unusedSimpArgs false
set_option linter.unusedVariables false
set_option maxRecDepth 20000

/-- The reference's reading in memory: its text, its place, the command so far, the first fault and its place. -/
def RS (w : World) (b : Nat) (s : ByteArray) (p : Nat) (c : CmdT) (x : ErrS) : Prop := Cur 136 (cmdC c ++ [.int .i64 x.1, .int .i64 (x.2 : Int)]) w b s (p : Int)

section
variable {w w' : World} {b : Nat} {s : ByteArray} {p : Nat} {c : CmdT} {x : ErrS}
theorem RS.lt (h : RS w b s p c x) : b < w.heap.size := Blk.lt h
theorem RS.at_ (h : RS w b s p c x) : w.cell? ⟨b, 1, none⟩ = some (.int .i64 (p : Int)) := Cur.at_ h
theorem RS.text (h : RS w b s p c x) : w.cell? ⟨b, 0, none⟩ = some (.string s) := Cur.text h
theorem RS.err (h : RS w b s p c x) : w.cell? ⟨b, 17, none⟩ = some (.int .i64 x.1) := Blk.cell h 17
theorem RS.from_ (h : RS w b s p c x) : w.cell? ⟨b, 18, none⟩ = some (.int .i64 (x.2 : Int)) := Blk.cell h 18
theorem RS.frozen (h : RS w b s p c x) (i : Nat) : w.frozen? ⟨b, i, none⟩ = false := Cur.frozen h i
theorem RS.mono (h : RS w b s p c x) (hb : Below w.heap.size w w') : RS w' b s p c x := Blk.mono h hb
theorem RS.setAt (h : RS w b s p c x) (q : Nat) : RS (w.setCell ⟨b, 1, none⟩ (.int .i64 (q : Int))) b s q c x := Cur.set_ h q
theorem RS.setE (h : RS w b s p c x) (k : Int) (q : Nat) : RS ((w.setCell ⟨b, 17, none⟩ (.int .i64 k)).setCell ⟨b, 18, none⟩ (.int .i64 (q : Int))) b s p c (k, q) := Blk.set (Blk.set h 17 (.int .i64 k)) 18 (.int .i64 (q : Int))
theorem RS.drew (h : RS w b s p c x) : RS w.drew b s p c x := h
theorem RS.drewN (h : RS w b s p c x) (n : Nat) : RS (w.drewN n) b s p c x := h
end

theorem undrewN {w w' : World} {b n : Nat} (h : Below b (w.drewN n) w') : Below b w w' := ⟨h.os, h.tape, h.output, h.size, h.block⟩

theorem rClass_any (c : Int) (w : World) (h0 : 0 ≤ c) (h1 : c ≤ 255) :
    Calls Tryd.prog 155 #[.int .u8 c] w fun e w' => e = .returned (.bool (isL c)) ∧ w = w' := by
  have HL := Lib.hid (refLetter_any c w h0 h1)
  go_enter Tryd.func155, Tryd.ntmps155
  go_wp2_with (first
    | (go_at_call 153; (with_reducible refine HL.out.mono ?_); rintro e w9 ⟨rfl, rfl⟩))
  go_ret
  exact ⟨rfl, rfl⟩

theorem wrong_m (b : Nat) (s : ByteArray) (p : Nat) (c : CmdT) (x : ErrS) (k : Int) (q : Nat) (w : World) (hc : RS w b s p c x) :
    Calls Tryd.prog 67 #[.pointer (some ⟨b, 0, none⟩), .int .i64 k, .int .i64 (q : Int)] w fun e w' => e = .returned (.tuple #[]) ∧ RS w' b s p c (wrongP x k q) ∧ Below b w w' := by
  have k1 := hc.err
  have k4 := hc.from_
  have k2 := hc.frozen 17
  have k3 := hc.frozen 18
  have HC := Lib.hid hc
  by_cases h : x.1 = 0
  · have e : wrongP x k q = (k, q) := by unfold wrongP; rw [if_pos h]
    have g : (x.1 == 0) = true := by simpa using h
    rw [e]
    clear e h hc
    generalize x.1 = x1 at *
    go_enter Tryd.func67, Tryd.ntmps67
    go_wp2
    go_end0
    exact ⟨rfl, HC.out.setE k q, low_set (low_set (Below.refl _ _) _ _) _ _⟩
  · have e : wrongP x k q = x := by unfold wrongP; rw [if_neg h]
    have g : (x.1 == 0) = false := by simpa using h
    rw [e]
    clear e h hc
    go_enter Tryd.func67, Tryd.ntmps67
    go_wp2
    go_end0
    exact ⟨rfl, HC.out, Below.refl _ _⟩

theorem take_m (b : Nat) (s : ByteArray) (p n : Nat) (c : CmdT) (x : ErrS) (w : World) (hs : s.size ≤ maxLen) (hp : p ≤ s.size) (hn : n ≤ maxLen) (hc : RS w b s p c x) :
    Calls Tryd.prog 145 #[.pointer (some ⟨b, 0, none⟩), .int .i64 (n : Int)] w fun e w' => e = .returned (txV (tk (toL s) n p)) ∧ RS w' b s (p + (tk (toL s) n p).length) c x ∧ Below b w w' := by
  have hl : (tk (toL s) n p).length = min n (s.size - p) := by simp [tk, toL]
  have hex : (.string (s.extract p (p + (tk (toL s) n p).length)) : Value) = txV (tk (toL s) n p) := by rw [ext_tk s n p]
  rw [hl] at hex
  rw [hl]
  have k1 := hc.text
  have k2 := hc.at_
  have k3 := hc.frozen 1
  have HC := Lib.hid hc
  unfold maxLen at hs hn
  have e0 : IntKind.i64.wrap ((s.size : Int) - (p : Int)) = ((s.size - p : Nat) : Int) := by rw [IntWalk.i64_in _ (by omega)]; omega
  have HSZ : s.size - p + p = s.size := by omega
  rw [← hex]
  clear hl hc hex
  by_cases h1 : s.size - p < n
  · have e1 : min n (s.size - p) = s.size - p := by omega
    have h2 : ((s.size - p : Nat) : Int) < (n : Int) := by omega
    rw [e1]
    clear e1 h1
    have HX : RowKit.Hid (p + (s.size - p) ≤ s.size) := Lib.hid (by omega)
    generalize s.size - p = m at *
    have e2 : IntKind.i64.wrap ((p : Int) + (m : Int)) = ((p + m : Nat) : Int) := by rw [IntWalk.i64_in _ (by omega)]; omega
    have e3 : IntKind.i64.wrap (((p + m : Nat) : Int) - (m : Int)) = ((p : Nat) : Int) := by rw [IntWalk.i64_in _ (by omega)]; omega
    have HS1 : RowKit.Hid (RS (w.setCell ⟨b, 1, none⟩ (.int .i64 ((p + m : Nat) : Int))) b s (p + m) c x) := Lib.hid (HC.out.setAt (p + m))
    have i1 : p + m ≤ s.size := by omega
    have i2 : p ≤ p + m := by omega
    have i3 : (p : Int) ≤ ((p + m : Nat) : Int) := by omega
    have i4 : ((p + m : Nat) : Int) ≤ (s.size : Int) := by omega
    generalize p + m = q at *
    go_enter Tryd.func145, Tryd.ntmps145
    go_wp2
    go_quiet (fail)
    go_wp2
    go_quiet (fail)
    go_wp2
    go_quiet (fail)
    go_wp2
    go_ret
    exact ⟨rfl, HS1.out, below_drewN (low_set (below_drewN (Below.refl _ _) _) _ _) _⟩
  · have e1 : min n (s.size - p) = n := by omega
    have h2 : ¬ ((s.size - p : Nat) : Int) < (n : Int) := by omega
    rw [e1]
    have i1 : p + n ≤ s.size := by omega
    clear e1 h1
    generalize s.size - p = m at *
    have e2 : IntKind.i64.wrap ((p : Int) + (n : Int)) = ((p + n : Nat) : Int) := by rw [IntWalk.i64_in _ (by omega)]; omega
    have e3 : IntKind.i64.wrap (((p + n : Nat) : Int) - (n : Int)) = ((p : Nat) : Int) := by rw [IntWalk.i64_in _ (by omega)]; omega
    have HS1 : RowKit.Hid (RS (w.setCell ⟨b, 1, none⟩ (.int .i64 ((p + n : Nat) : Int))) b s (p + n) c x) := Lib.hid (HC.out.setAt (p + n))
    have i2 : p ≤ p + n := by omega
    have i3 : (p : Int) ≤ ((p + n : Nat) : Int) := by omega
    have i4 : ((p + n : Nat) : Int) ≤ (s.size : Int) := by omega
    generalize p + n = q at *
    go_enter Tryd.func145, Tryd.ntmps145
    go_wp2
    go_quiet (fail)
    go_wp2
    go_quiet (fail)
    go_wp2
    go_ret
    exact ⟨rfl, HS1.out, below_drewN (low_set (below_drewN (Below.refl _ _) _) _ _) _⟩

theorem rrun_m (b : Nat) (s : ByteArray) (p : Nat) (k : Int) (c : CmdT) (x : ErrS) (w : World) (hs : s.size ≤ maxLen) (hp : p ≤ s.size) (hc : RS w b s p c x) :
    Calls Tryd.prog 180 #[.pointer (some ⟨b, 0, none⟩), .int .i64 k] w fun e w' => e = .returned (txV (runL k ((toL s).drop p))) ∧ RS w' b s (p + (runL k ((toL s).drop p)).length) c x ∧ Below b w w' := by
  have hpl : place s.size p = p := place_in _ _ (by omega) (by omega)
  have HR : RowKit.Hid (∀ W, Calls Tryd.prog 190 #[.string s, .int .i64 (p : Int), .int .i64 k] W fun e w' => e = .returned (.tuple #[txV (runL k ((toL s).drop p)), .int .i64 ((p + (runL k ((toL s).drop p)).length : Nat) : Int)]) ∧ W = w') := Lib.hid fun W => by
    refine (rrun_any s p k W hs).mono fun e w' h => ?_
    rw [hpl, Int.toNat_natCast, runA_size] at h
    exact ⟨h.1, h.2⟩
  have k1 := hc.text
  have k2 := hc.at_
  have k3 := hc.frozen 1
  have HS1 := Lib.hid (hc.setAt (p + (runL k ((toL s).drop p)).length))
  generalize p + (runL k ((toL s).drop p)).length = q at *
  generalize runL k ((toL s).drop p) = t at *
  clear hpl hc
  go_enter Tryd.func180, Tryd.ntmps180
  go_wp2
  go_quiet (first | (go_at_call 190; (with_reducible refine Calls.quiet_of_same ((HR.out _).mono fun _ _ h => ⟨h.1, h.2.symm⟩))))
  go_wp2
  go_ret
  exact ⟨rfl, HS1.out, low_set (below_drewN (Below.refl _ _) _) _ _⟩

theorem rsign_m (b : Nat) (s : ByteArray) (p : Nat) (g : UInt8) (c : CmdT) (x : ErrS) (w : World) (hs : s.size ≤ maxLen) (hp : p ≤ s.size) (hc : RS w b s p c x) :
    Calls Tryd.prog 140 #[.pointer (some ⟨b, 0, none⟩), .int .u8 g.toNat] w fun e w' => e = .returned (.tuple #[]) ∧ (∃ q y, RowKit.Hid (rSign g (toL s) p x = ((), q, y)) ∧ q ≤ s.size ∧ RS w' b s q c y) ∧ Below b w w' := by
  have HW : RowKit.Hid (∀ W, RS W b s p c x → Calls Tryd.prog 67 #[.pointer (some ⟨b, 0, none⟩), .int .i64 42, .int .i64 (p : Int)] W fun e w' => e = .returned (.tuple #[]) ∧ RS w' b s p c (wrongP x 42 p) ∧ Below b W w') := Lib.hid fun W h => wrong_m b s p c x 42 p W h
  have k1 := hc.text
  have k2 := hc.at_
  have k3 := hc.frozen 1
  have HC := Lib.hid hc
  unfold maxLen at hs
  by_cases h : (p : Int) ≥ (s.size : Int)
  · have e : isPre [g] ((toL s).drop p) = false := by rw [List.drop_eq_nil_of_le (by simp; omega)]; rfl
    have E : RowKit.Hid (rSign g (toL s) p x = ((), p, wrongP x 42 p)) := Lib.hid (by unfold rSign; rw [e]; rfl)
    have HPP := Lib.hid hp
    clear e hc
    go_enter Tryd.func140, Tryd.ntmps140
    go_wp2
    go_quiet (fail)
    go_wp2_with (first
      | (go_at_call 67; (with_reducible refine (HW.out _ (HC.out.drewN _)).mono ?_); rintro e w1 ⟨rfl, hc1, hb1⟩)
      | (go_at_call 67; (with_reducible refine (HW.out _ HC.out).mono ?_); rintro e w1 ⟨rfl, hc1, hb1⟩))
    refine bodyPost_ret (results_none rfl _ _ _) rfl ?_
    exact ⟨rfl, ⟨_, _, E, HPP.out, hc1⟩, undrewN hb1⟩
  · have hlt : p < s.size := by omega
    have hd : (toL s).drop p = s[p] :: (toL s).drop (p + 1) := by
      have h2 : p < (toL s).length := by simp; omega
      rw [List.drop_eq_getElem_cons h2]
      simp [ByteArray.getElem_eq_getElem_data]
    have hpre : isPre [g] ((toL s).drop p) = (s[p] == g) := by
      rw [hd, isPre_two, isPre_nil, Bool.and_true]
    have HPP := Lib.hid hp
    have i1 : (p : Int) < (s.size : Int) := by omega
    by_cases hg : s[p] = g
    · have E : RowKit.Hid (rSign g (toL s) p x = ((), p + 1, x)) := Lib.hid (by unfold rSign; rw [hpre, hg]; simp)
      have e2 : IntKind.i64.wrap ((p : Int) + 1) = ((p + 1 : Nat) : Int) := by rw [IntWalk.i64_in _ (by omega)]; omega
      have HS1 := Lib.hid (hc.setAt (p + 1))
      clear hpre hd hc
      have hn : ((s[p].toNat : Int) != (g.toNat : Int)) = false := by rw [hg]; simp
      go_enter Tryd.func140, Tryd.ntmps140
      go_wp2
      go_quiet (fail)
      go_wp2
      go_end0
      exact ⟨rfl, ⟨_, _, E, hlt, HS1.out⟩, low_set (below_drewN (Below.refl _ _) _) _ _⟩
    · have E : RowKit.Hid (rSign g (toL s) p x = ((), p, wrongP x 42 p)) := Lib.hid (by unfold rSign; rw [hpre, show (s[p] == g) = false by simpa using hg]; rfl)
      have hn : ((s[p].toNat : Int) != (g.toNat : Int)) = true := by
        have : s[p].toNat ≠ g.toNat := fun e => hg (UInt8.toNat_inj.1 e)
        simp; omega
      clear hpre hd hc hg
      go_enter Tryd.func140, Tryd.ntmps140
      go_wp2
      go_quiet (fail)
      go_wp2_with (first
        | (go_at_call 67; (with_reducible refine (HW.out _ (HC.out.drewN _)).mono ?_); rintro e w1 ⟨rfl, hc1, hb1⟩)
        | (go_at_call 67; (with_reducible refine (HW.out _ HC.out).mono ?_); rintro e w1 ⟨rfl, hc1, hb1⟩))
      refine bodyPost_ret (results_none rfl _ _ _) rfl ?_
      exact ⟨rfl, ⟨_, _, E, HPP.out, hc1⟩, undrewN hb1⟩

theorem rtext1_m (b : Nat) (s : ByteArray) (p : Nat) (c : CmdT) (x : ErrS) (w : World) (hs : s.size ≤ maxLen) (hp : p ≤ s.size) (hc : RS w b s p c x) :
    Calls Tryd.prog 139 #[.pointer (some ⟨b, 0, none⟩), .int .i64 1] w fun e w' => e = .returned (txV (rTx 1 (toL s) p)) ∧ RS w' b s (p + (rTx 1 (toL s) p).length) c (wantP (rOk 1 (rTx 1 (toL s) p)) x 46 p) ∧ Below b w w' := by
  show Calls Tryd.prog 139 #[.pointer (some ⟨b, 0, none⟩), .int .i64 1] w fun e w' => e = .returned (txV (runL 3 ((toL s).drop p))) ∧ RS w' b s (p + (runL 3 ((toL s).drop p)).length) c (wantP (agentS (runL 3 ((toL s).drop p))) x 46 p) ∧ Below b w w'
  have HR : RowKit.Hid (∀ W, RS W b s p c x → Calls Tryd.prog 180 #[.pointer (some ⟨b, 0, none⟩), .int .i64 3] W fun e w' => e = .returned (txV (runL 3 ((toL s).drop p))) ∧ RS w' b s (p + (runL 3 ((toL s).drop p)).length) c x ∧ Below b W w') := Lib.hid fun W h => rrun_m b s p 3 c x W hs hp h
  have hle : (runL 3 ((toL s).drop p)).length ≤ s.size := by have := runL_le 3 ((toL s).drop p); simp at this; omega
  have HK : RowKit.Hid (∀ W, Calls Tryd.prog 181 #[txV (runL 3 ((toL s).drop p))] W fun e w' => e = .returned (.bool (agentS (runL 3 ((toL s).drop p)))) ∧ W = w') := Lib.hid fun W => by
    have h := refAgent_any ⟨(runL 3 ((toL s).drop p)).toArray⟩ W (by rw [tx_size]; omega)
    rw [tx_list] at h
    exact h
  have HW : RowKit.Hid (∀ W q, RS W b s q c x → Calls Tryd.prog 67 #[.pointer (some ⟨b, 0, none⟩), .int .i64 46, .int .i64 (p : Int)] W fun e w' => e = .returned (.tuple #[]) ∧ RS w' b s q c (wrongP x 46 p) ∧ Below b W w') := Lib.hid fun W q h => wrong_m b s q c x 46 p W h
  have k1 := hc.text
  have k2 := hc.at_
  have HC := Lib.hid hc
  clear hc hle
  generalize runL 3 ((toL s).drop p) = t at *
  cases hb : agentS t
  all_goals
    rw [hb] at HK
    clear hb
    go_enter Tryd.func139, Tryd.ntmps139
    go_wp2_with (first
      | (go_at_call 180; (with_reducible refine (HR.out _ HC.out).mono ?_); rintro e w1 ⟨rfl, hc1, hb1⟩)
      | (go_at_call 181; (with_reducible refine (HK.out _).mono ?_); rintro e w2 ⟨rfl, rfl⟩)
      | (go_at_call 67; (with_reducible refine (HW.out _ _ hc1).mono ?_); rintro e w3 ⟨rfl, hc3, hb3⟩))
    go_ret
    first
      | exact ⟨rfl, hc3, bl3 hb1 hb3⟩
      | exact ⟨rfl, hc1, hb1⟩

theorem rtext2_m (b : Nat) (s : ByteArray) (p : Nat) (c : CmdT) (x : ErrS) (w : World) (hs : s.size ≤ maxLen) (hp : p ≤ s.size) (hc : RS w b s p c x) :
    Calls Tryd.prog 139 #[.pointer (some ⟨b, 0, none⟩), .int .i64 2] w fun e w' => e = .returned (txV (rTx 2 (toL s) p)) ∧ RS w' b s (p + (rTx 2 (toL s) p).length) c (wantP (rOk 2 (rTx 2 (toL s) p)) x 46 p) ∧ Below b w w' := by
  show Calls Tryd.prog 139 #[.pointer (some ⟨b, 0, none⟩), .int .i64 2] w fun e w' => e = .returned (txV (tk (toL s) 3 p)) ∧ RS w' b s (p + (tk (toL s) 3 p).length) c (wantP (lettersS (tk (toL s) 3 p) 3 3) x 46 p) ∧ Below b w w'
  have HR : RowKit.Hid (∀ W, RS W b s p c x → Calls Tryd.prog 145 #[.pointer (some ⟨b, 0, none⟩), .int .i64 3] W fun e w' => e = .returned (txV (tk (toL s) 3 p)) ∧ RS w' b s (p + (tk (toL s) 3 p).length) c x ∧ Below b W w') := Lib.hid fun W h => take_m b s p 3 c x W hs hp (by unfold maxLen; omega) h
  have hle : (tk (toL s) 3 p).length ≤ s.size := by simp [tk]; omega
  have HK : RowKit.Hid (∀ W, Calls Tryd.prog 95 #[txV (tk (toL s) 3 p)] W fun e w' => e = .returned (.bool (lettersS (tk (toL s) 3 p) 3 3)) ∧ W = w') := Lib.hid fun W => by
    have h := refCity_any ⟨(tk (toL s) 3 p).toArray⟩ W (by rw [tx_size]; omega)
    rw [tx_list] at h
    exact h
  have HW : RowKit.Hid (∀ W q, RS W b s q c x → Calls Tryd.prog 67 #[.pointer (some ⟨b, 0, none⟩), .int .i64 46, .int .i64 (p : Int)] W fun e w' => e = .returned (.tuple #[]) ∧ RS w' b s q c (wrongP x 46 p) ∧ Below b W w') := Lib.hid fun W q h => wrong_m b s q c x 46 p W h
  have k1 := hc.text
  have k2 := hc.at_
  have HC := Lib.hid hc
  clear hc hle
  generalize tk (toL s) 3 p = t at *
  cases hb : lettersS t 3 3
  all_goals
    rw [hb] at HK
    clear hb
    go_enter Tryd.func139, Tryd.ntmps139
    go_wp2_with (first
      | (go_at_call 145; (with_reducible refine (HR.out _ HC.out).mono ?_); rintro e w1 ⟨rfl, hc1, hb1⟩)
      | (go_at_call 95; (with_reducible refine (HK.out _).mono ?_); rintro e w2 ⟨rfl, rfl⟩)
      | (go_at_call 67; (with_reducible refine (HW.out _ _ hc1).mono ?_); rintro e w3 ⟨rfl, hc3, hb3⟩))
    go_ret
    first
      | exact ⟨rfl, hc3, bl3 hb1 hb3⟩
      | exact ⟨rfl, hc1, hb1⟩

theorem rtext3_m (b : Nat) (s : ByteArray) (p : Nat) (c : CmdT) (x : ErrS) (w : World) (hs : s.size ≤ maxLen) (hp : p ≤ s.size) (hc : RS w b s p c x) :
    Calls Tryd.prog 139 #[.pointer (some ⟨b, 0, none⟩), .int .i64 3] w fun e w' => e = .returned (txV (rTx 3 (toL s) p)) ∧ RS w' b s (p + (rTx 3 (toL s) p).length) c (wantP (rOk 3 (rTx 3 (toL s) p)) x 46 p) ∧ Below b w w' := by
  show Calls Tryd.prog 139 #[.pointer (some ⟨b, 0, none⟩), .int .i64 3] w fun e w' => e = .returned (txV (runL 1 ((toL s).drop p))) ∧ RS w' b s (p + (runL 1 ((toL s).drop p)).length) c (wantP (lettersS (runL 1 ((toL s).drop p)) 1 16) x 46 p) ∧ Below b w w'
  have HR : RowKit.Hid (∀ W, RS W b s p c x → Calls Tryd.prog 180 #[.pointer (some ⟨b, 0, none⟩), .int .i64 1] W fun e w' => e = .returned (txV (runL 1 ((toL s).drop p))) ∧ RS w' b s (p + (runL 1 ((toL s).drop p)).length) c x ∧ Below b W w') := Lib.hid fun W h => rrun_m b s p 1 c x W hs hp h
  have hle : (runL 1 ((toL s).drop p)).length ≤ s.size := by have := runL_le 1 ((toL s).drop p); simp at this; omega
  have HK : RowKit.Hid (∀ W, Calls Tryd.prog 96 #[txV (runL 1 ((toL s).drop p))] W fun e w' => e = .returned (.bool (lettersS (runL 1 ((toL s).drop p)) 1 16)) ∧ W = w') := Lib.hid fun W => by
    have h := refPerson_any ⟨(runL 1 ((toL s).drop p)).toArray⟩ W (by rw [tx_size]; omega)
    rw [tx_list] at h
    exact h
  have HW : RowKit.Hid (∀ W q, RS W b s q c x → Calls Tryd.prog 67 #[.pointer (some ⟨b, 0, none⟩), .int .i64 46, .int .i64 (p : Int)] W fun e w' => e = .returned (.tuple #[]) ∧ RS w' b s q c (wrongP x 46 p) ∧ Below b W w') := Lib.hid fun W q h => wrong_m b s q c x 46 p W h
  have k1 := hc.text
  have k2 := hc.at_
  have HC := Lib.hid hc
  clear hc hle
  generalize runL 1 ((toL s).drop p) = t at *
  cases hb : lettersS t 1 16
  all_goals
    rw [hb] at HK
    clear hb
    go_enter Tryd.func139, Tryd.ntmps139
    go_wp2_with (first
      | (go_at_call 180; (with_reducible refine (HR.out _ HC.out).mono ?_); rintro e w1 ⟨rfl, hc1, hb1⟩)
      | (go_at_call 96; (with_reducible refine (HK.out _).mono ?_); rintro e w2 ⟨rfl, rfl⟩)
      | (go_at_call 67; (with_reducible refine (HW.out _ _ hc1).mono ?_); rintro e w3 ⟨rfl, hc3, hb3⟩))
    go_ret
    first
      | exact ⟨rfl, hc3, bl3 hb1 hb3⟩
      | exact ⟨rfl, hc1, hb1⟩

theorem rtext4_m (b : Nat) (s : ByteArray) (p : Nat) (c : CmdT) (x : ErrS) (w : World) (hs : s.size ≤ maxLen) (hp : p ≤ s.size) (hc : RS w b s p c x) :
    Calls Tryd.prog 139 #[.pointer (some ⟨b, 0, none⟩), .int .i64 4] w fun e w' => e = .returned (txV (rTx 4 (toL s) p)) ∧ RS w' b s (p + (rTx 4 (toL s) p).length) c (wantP (rOk 4 (rTx 4 (toL s) p)) x 46 p) ∧ Below b w w' := by
  show Calls Tryd.prog 139 #[.pointer (some ⟨b, 0, none⟩), .int .i64 4] w fun e w' => e = .returned (txV (tk (toL s) 6 p)) ∧ RS w' b s (p + (tk (toL s) 6 p).length) c (wantP (lettersS (tk (toL s) 6 p) 6 6) x 46 p) ∧ Below b w w'
  have HR : RowKit.Hid (∀ W, RS W b s p c x → Calls Tryd.prog 145 #[.pointer (some ⟨b, 0, none⟩), .int .i64 6] W fun e w' => e = .returned (txV (tk (toL s) 6 p)) ∧ RS w' b s (p + (tk (toL s) 6 p).length) c x ∧ Below b W w') := Lib.hid fun W h => take_m b s p 6 c x W hs hp (by unfold maxLen; omega) h
  have hle : (tk (toL s) 6 p).length ≤ s.size := by simp [tk]; omega
  have HK : RowKit.Hid (∀ W, Calls Tryd.prog 49 #[txV (tk (toL s) 6 p)] W fun e w' => e = .returned (.bool (lettersS (tk (toL s) 6 p) 6 6)) ∧ W = w') := Lib.hid fun W => by
    have h := refLocator_any ⟨(tk (toL s) 6 p).toArray⟩ W (by rw [tx_size]; omega)
    rw [tx_list] at h
    exact h
  have HW : RowKit.Hid (∀ W q, RS W b s q c x → Calls Tryd.prog 67 #[.pointer (some ⟨b, 0, none⟩), .int .i64 46, .int .i64 (p : Int)] W fun e w' => e = .returned (.tuple #[]) ∧ RS w' b s q c (wrongP x 46 p) ∧ Below b W w') := Lib.hid fun W q h => wrong_m b s q c x 46 p W h
  have k1 := hc.text
  have k2 := hc.at_
  have HC := Lib.hid hc
  clear hc hle
  generalize tk (toL s) 6 p = t at *
  cases hb : lettersS t 6 6
  all_goals
    rw [hb] at HK
    clear hb
    go_enter Tryd.func139, Tryd.ntmps139
    go_wp2_with (first
      | (go_at_call 145; (with_reducible refine (HR.out _ HC.out).mono ?_); rintro e w1 ⟨rfl, hc1, hb1⟩)
      | (go_at_call 49; (with_reducible refine (HK.out _).mono ?_); rintro e w2 ⟨rfl, rfl⟩)
      | (go_at_call 67; (with_reducible refine (HW.out _ _ hc1).mono ?_); rintro e w3 ⟨rfl, hc3, hb3⟩))
    go_ret
    first
      | exact ⟨rfl, hc3, bl3 hb1 hb3⟩
      | exact ⟨rfl, hc1, hb1⟩

theorem rtext5_m (b : Nat) (s : ByteArray) (p : Nat) (c : CmdT) (x : ErrS) (w : World) (hs : s.size ≤ maxLen) (hp : p ≤ s.size) (hc : RS w b s p c x) :
    Calls Tryd.prog 139 #[.pointer (some ⟨b, 0, none⟩), .int .i64 5] w fun e w' => e = .returned (txV (rTx 5 (toL s) p)) ∧ RS w' b s (p + (rTx 5 (toL s) p).length) c (wantP (rOk 5 (rTx 5 (toL s) p)) x 46 p) ∧ Below b w w' := by
  show Calls Tryd.prog 139 #[.pointer (some ⟨b, 0, none⟩), .int .i64 5] w fun e w' => e = .returned (txV ((toL s).drop p)) ∧ RS w' b s (p + ((toL s).drop p).length) c (wantP (freeS ((toL s).drop p)) x 46 p) ∧ Below b w w'
  rw [show (toL s).drop p = tk (toL s) s.size p by unfold tk; rw [List.take_of_length_le (by simp)]]
  have HR : RowKit.Hid (∀ W, RS W b s p c x → Calls Tryd.prog 145 #[.pointer (some ⟨b, 0, none⟩), .int .i64 (s.size : Int)] W fun e w' => e = .returned (txV (tk (toL s) s.size p)) ∧ RS w' b s (p + (tk (toL s) s.size p).length) c x ∧ Below b W w') := Lib.hid fun W h => take_m b s p s.size c x W hs hp hs h
  have hle : (tk (toL s) s.size p).length ≤ s.size := by simp [tk]
  have HK : RowKit.Hid (∀ W, Calls Tryd.prog 100 #[txV (tk (toL s) s.size p)] W fun e w' => e = .returned (.bool (freeS (tk (toL s) s.size p))) ∧ W = w') := Lib.hid fun W => by
    have h := refFree_any2 ⟨(tk (toL s) s.size p).toArray⟩ W (by rw [tx_size]; omega)
    rw [tx_list] at h
    exact h
  have HW : RowKit.Hid (∀ W q, RS W b s q c x → Calls Tryd.prog 67 #[.pointer (some ⟨b, 0, none⟩), .int .i64 46, .int .i64 (p : Int)] W fun e w' => e = .returned (.tuple #[]) ∧ RS w' b s q c (wrongP x 46 p) ∧ Below b W w') := Lib.hid fun W q h => wrong_m b s q c x 46 p W h
  have k1 := hc.text
  have k2 := hc.at_
  have HC := Lib.hid hc
  clear hc hle
  generalize tk (toL s) s.size p = t at *
  cases hb : freeS t
  all_goals
    rw [hb] at HK
    clear hb
    go_enter Tryd.func139, Tryd.ntmps139
    go_wp2_with (first
      | (go_at_call 145; (with_reducible refine (HR.out _ HC.out).mono ?_); rintro e w1 ⟨rfl, hc1, hb1⟩)
      | (go_at_call 100; (with_reducible refine (HK.out _).mono ?_); rintro e w2 ⟨rfl, rfl⟩)
      | (go_at_call 67; (with_reducible refine (HW.out _ _ hc1).mono ?_); rintro e w3 ⟨rfl, hc3, hb3⟩))
    go_ret
    first
      | exact ⟨rfl, hc3, bl3 hb1 hb3⟩
      | exact ⟨rfl, hc1, hb1⟩

theorem rtext6_m (b : Nat) (s : ByteArray) (p : Nat) (c : CmdT) (x : ErrS) (w : World) (hs : s.size ≤ maxLen) (hp : p ≤ s.size) (hc : RS w b s p c x) :
    Calls Tryd.prog 139 #[.pointer (some ⟨b, 0, none⟩), .int .i64 6] w fun e w' => e = .returned (txV (rTx 6 (toL s) p)) ∧ RS w' b s (p + (rTx 6 (toL s) p).length) c (wantP (rOk 6 (rTx 6 (toL s) p)) x 46 p) ∧ Below b w w' := by
  show Calls Tryd.prog 139 #[.pointer (some ⟨b, 0, none⟩), .int .i64 6] w fun e w' => e = .returned (txV (tk (toL s) 1 p)) ∧ RS w' b s (p + (tk (toL s) 1 p).length) c (wantP (clsB (tk (toL s) 1 p)) x 46 p) ∧ Below b w w'
  have HT : RowKit.Hid (∀ W, RS W b s p c x → Calls Tryd.prog 145 #[.pointer (some ⟨b, 0, none⟩), .int .i64 1] W fun e w' => e = .returned (txV (tk (toL s) 1 p)) ∧ RS w' b s (p + (tk (toL s) 1 p).length) c x ∧ Below b W w') := Lib.hid fun W h => take_m b s _ 1 c x W hs hp (by unfold maxLen; omega) h
  have HW : RowKit.Hid (∀ W q, RS W b s q c x → Calls Tryd.prog 67 #[.pointer (some ⟨b, 0, none⟩), .int .i64 46, .int .i64 (p : Int)] W fun e w' => e = .returned (.tuple #[]) ∧ RS w' b s q c (wrongP x 46 p) ∧ Below b W w') := Lib.hid fun W q h => wrong_m b s q c x 46 p W h
  have k1 := hc.text
  have k2 := hc.at_
  have HC := Lib.hid hc
  have hl := tk_size (toL s) 1 p
  generalize tk (toL s) 1 p = t at *
  clear hc
  rcases one_text hl with rfl | ⟨y, rfl⟩
  · have e : clsB [] = false := by simp [clsB]
    rw [e]
    clear e hl
    go_enter Tryd.func139, Tryd.ntmps139
    go_wp2_with (first
      | (go_at_call 145; (with_reducible refine (HT.out _ HC.out).mono ?_); rintro e w1 ⟨rfl, hc1, hb1⟩)
      | (go_at_call 67; (with_reducible refine (HW.out _ _ hc1).mono ?_); rintro e w3 ⟨rfl, hc3, hb3⟩))
    go_ret
    exact ⟨rfl, hc3, bl3 hb1 hb3⟩
  · obtain ⟨r, hr, hr1, hr2, hr3⟩ := one_facts y
    have hcb : clsB [y] = bL y := by simp [clsB]
    have HCL : RowKit.Hid (∀ W, Calls Tryd.prog 155 #[.int .u8 y.toNat] W fun e w' => e = .returned (.bool (bL y)) ∧ W = w') := Lib.hid fun W => rClass_any _ W (by omega) (byte_hi y)
    simp only [txV, hr] at HT ⊢
    rw [hcb]
    have h0 : 0 < r.size := by omega
    have hr4 := hr3 h0
    clear hr hcb hl
    cases hb : bL y
    all_goals
      rw [hb] at HCL
      clear hb
      go_enter Tryd.func139, Tryd.ntmps139
      go_wp2_with (first
        | (go_at_call 145; (with_reducible refine (HT.out _ HC.out).mono ?_); rintro e w1 ⟨rfl, hc1, hb1⟩)
        | (go_at_call 155; (with_reducible refine (HCL.out _).mono ?_); rintro e w2 ⟨rfl, rfl⟩)
        | (go_at_call 67; (with_reducible refine (HW.out _ _ hc1).mono ?_); rintro e w3 ⟨rfl, hc3, hb3⟩))
      go_ret
      first
        | exact ⟨rfl, hc3, bl3 hb1 hb3⟩
        | exact ⟨rfl, hc1, hb1⟩
end Go.Proofs.YtjahkaidinahpaaDoor.En
