/- Entries: what was taken apart is small: its texts and numbers (printed by gen_fits.py). -/
import Derived.Test.YtjahkaidinahpaaDoorNR
namespace Go.Proofs.YtjahkaidinahpaaDoor.En
open Go.RowKit
set_option linter.unusedSimpArgs false
set_option linter.unusedVariables false

theorem took_len {l x : List UInt8} {p q : Nat} (h : Took l p q x) : x.length ≤ l.length := by
  have := congrArg List.length h.2.2
  simp at this
  omega
theorem wf_small {n : Int} (h0 : 0 ≤ n) (h1 : n ≤ 1000000) : (Lit.int .i64 n).wf = true := by
  simp [Lit.wf, IntKind.min, IntKind.max, IntKind.signed, IntKind.bits]
  omega
/-- Small texts and numbers. -/
def Sm (n : Nat) (c : CmdT) : Prop := (c.text.length ≤ n ∧ c.office.length ≤ n ∧ c.src.length ≤ n ∧ c.dst.length ≤ n ∧ c.last.length ≤ n ∧ c.first.length ≤ n) ∧ (0 ≤ c.day ∧ c.day ≤ 10000) ∧ (0 ≤ c.minute ∧ c.minute ≤ 10000) ∧ (0 ≤ c.n ∧ c.n ≤ 10000) ∧ (0 ≤ c.pax ∧ c.pax ≤ 10000) ∧ (0 ≤ c.line ∧ c.line ≤ 10000)
theorem Sm.fits {n : Nat} {c : CmdT} (h : Sm n c) (hn : n ≤ 1000) : Fits c := by
  obtain ⟨⟨a1, a2, a3, a4, a5, a6⟩, ⟨b1, b2⟩, ⟨c1, c2⟩, ⟨d1, d2⟩, ⟨e1, e2⟩, ⟨f1, f2⟩⟩ := h
  exact ⟨by omega, by omega, by omega, by omega, by omega, by omega, wf_small b1 (by omega), wf_small c1 (by omega), wf_small d1 (by omega), wf_small e1 (by omega), wf_small f1 (by omega)⟩

theorem pIn_sm {l : List UInt8} {p q : Nat} {c : CmdT} (h : pIn l p = .ok (c, q)) (hp : p ≤ l.length) : Sm l.length c := by
  unfold pIn at h
  obtain ⟨⟨t, p1⟩, h1, h⟩ := bind_ok h
  have t1 := agent_ok h1 hp
  have l1 := took_len t1
  dsimp only at h
  obtain ⟨⟨_, p2⟩, h2, h⟩ := bind_ok h
  have t2 := sign_ok h2 t1.2.1
  dsimp only at h
  obtain ⟨⟨o, p3⟩, h3, h⟩ := bind_ok h
  have t3 := city_ok h3 t2.2.1
  have l3 := took_len t3
  dsimp only at h
  injection h with h; injection h with e1 e2
  subst e1
  unfold Sm
  simp only [cmdK, cmd0, List.length_nil]
  refine ⟨⟨?_, ?_, ?_, ?_, ?_, ?_⟩, ⟨?_, ?_⟩, ⟨?_, ?_⟩, ⟨?_, ?_⟩, ⟨?_, ?_⟩, ⟨?_, ?_⟩⟩ <;> omega

theorem pAvail_sm {l : List UInt8} {p q : Nat} {c : CmdT} (h : pAvail l p = .ok (c, q)) (hp : p ≤ l.length) : Sm l.length c := by
  unfold pAvail at h
  obtain ⟨⟨d, p1⟩, h1, h⟩ := bind_ok h
  obtain ⟨t1, x1, y1⟩ := day_ok h1 hp
  dsimp only at h
  obtain ⟨⟨a, p2⟩, h2, h⟩ := bind_ok h
  have t2 := city_ok h2 t1.2.1
  have l2 := took_len t2
  dsimp only at h
  obtain ⟨⟨b, p3⟩, h3, h⟩ := bind_ok h
  have t3 := city_ok h3 t2.2.1
  have l3 := took_len t3
  dsimp only at h
  injection h with h; injection h with e1 e2
  subst e1
  unfold Sm
  simp only [cmdK, cmd0, List.length_nil]
  refine ⟨⟨?_, ?_, ?_, ?_, ?_, ?_⟩, ⟨?_, ?_⟩, ⟨?_, ?_⟩, ⟨?_, ?_⟩, ⟨?_, ?_⟩, ⟨?_, ?_⟩⟩ <;> omega

theorem pSell_sm {l : List UInt8} {p q : Nat} {c : CmdT} (h : pSell l p = .ok (c, q)) (hp : p ≤ l.length) : Sm l.length c := by
  unfold pSell at h
  obtain ⟨⟨n, p1⟩, h1, h⟩ := bind_ok h
  obtain ⟨t1, x1, y1⟩ := digit_ok h1 hp (by decide)
  dsimp only at h
  obtain ⟨⟨a, p2⟩, h2, h⟩ := bind_ok h
  have t2 := cls_ok h2 t1.2.1
  dsimp only at h
  obtain ⟨⟨m, p3⟩, h3, h⟩ := bind_ok h
  obtain ⟨t3, _, x3, y3⟩ := number_ok h3 t2.2.1
  dsimp only at h
  injection h with h; injection h with e1 e2
  subst e1
  unfold Sm
  simp only [cmdK, cmd0, List.length_nil]
  refine ⟨⟨?_, ?_, ?_, ?_, ?_, ?_⟩, ⟨?_, ?_⟩, ⟨?_, ?_⟩, ⟨?_, ?_⟩, ⟨?_, ?_⟩, ⟨?_, ?_⟩⟩ <;> omega

theorem pName_sm {l : List UInt8} {p q : Nat} {c : CmdT} (h : pName l p = .ok (c, q)) (hp : p ≤ l.length) : Sm l.length c := by
  unfold pName at h
  obtain ⟨⟨a, p1⟩, h1, h⟩ := bind_ok h
  have t1 := person_ok h1 hp
  have l1 := took_len t1
  dsimp only at h
  obtain ⟨⟨_, p2⟩, h2, h⟩ := bind_ok h
  have t2 := sign_ok h2 t1.2.1
  dsimp only at h
  obtain ⟨⟨b, p3⟩, h3, h⟩ := bind_ok h
  have t3 := person_ok h3 t2.2.1
  have l3 := took_len t3
  dsimp only at h
  injection h with h; injection h with e1 e2
  subst e1
  unfold Sm
  simp only [cmdK, cmd0, List.length_nil]
  refine ⟨⟨?_, ?_, ?_, ?_, ?_, ?_⟩, ⟨?_, ?_⟩, ⟨?_, ?_⟩, ⟨?_, ?_⟩, ⟨?_, ?_⟩, ⟨?_, ?_⟩⟩ <;> omega

theorem pFree_sm {l : List UInt8} {k : Int} {p q : Nat} {c : CmdT} (h : pFree k l p = .ok (c, q)) (hp : p ≤ l.length) : Sm l.length c := by
  unfold pFree at h
  obtain ⟨⟨t, p1⟩, h1, h⟩ := bind_ok h
  have t1 := (free_ok h1 hp).1
  have l1 := took_len t1
  dsimp only at h
  injection h with h; injection h with e1 e2
  subst e1
  unfold Sm
  simp only [cmdK, cmd0, List.length_nil]
  refine ⟨⟨?_, ?_, ?_, ?_, ?_, ?_⟩, ⟨?_, ?_⟩, ⟨?_, ?_⟩, ⟨?_, ?_⟩, ⟨?_, ?_⟩, ⟨?_, ?_⟩⟩ <;> omega

theorem pLimit_sm {l : List UInt8} {p q : Nat} {c : CmdT} (h : pLimit l p = .ok (c, q)) (hp : p ≤ l.length) : Sm l.length c := by
  unfold pLimit at h
  obtain ⟨⟨d, p1⟩, h1, h⟩ := bind_ok h
  obtain ⟨t1, x1, y1⟩ := day_ok h1 hp
  dsimp only at h
  obtain ⟨⟨_, p2⟩, h2, h⟩ := bind_ok h
  have t2 := sign_ok h2 t1.2.1
  dsimp only at h
  obtain ⟨⟨m, p3⟩, h3, h⟩ := bind_ok h
  obtain ⟨t3, x3, y3⟩ := clock_ok h3 t2.2.1
  dsimp only at h
  injection h with h; injection h with e1 e2
  subst e1
  unfold Sm
  simp only [cmdK, cmd0, List.length_nil]
  refine ⟨⟨?_, ?_, ?_, ?_, ?_, ?_⟩, ⟨?_, ?_⟩, ⟨?_, ?_⟩, ⟨?_, ?_⟩, ⟨?_, ?_⟩, ⟨?_, ?_⟩⟩ <;> omega

theorem pUnseat_sm {l : List UInt8} {p q : Nat} {c : CmdT} (h : pUnseat l p = .ok (c, q)) (hp : p ≤ l.length) : Sm l.length c := by
  unfold pUnseat at h
  obtain ⟨⟨n, p1⟩, h1, h⟩ := bind_ok h
  obtain ⟨t1, x1, y1⟩ := digit_ok h1 hp (by decide)
  dsimp only at h
  obtain ⟨⟨_, p2⟩, h2, h⟩ := bind_ok h
  have t2 := sign_ok h2 t1.2.1
  dsimp only at h
  obtain ⟨⟨y, p3⟩, h3, h⟩ := bind_ok h
  obtain ⟨t3, x3, y3⟩ := digit_ok h3 t2.2.1 (by decide)
  dsimp only at h
  injection h with h; injection h with e1 e2
  subst e1
  unfold Sm
  simp only [cmdK, cmd0, List.length_nil]
  refine ⟨⟨?_, ?_, ?_, ?_, ?_, ?_⟩, ⟨?_, ?_⟩, ⟨?_, ?_⟩, ⟨?_, ?_⟩, ⟨?_, ?_⟩, ⟨?_, ?_⟩⟩ <;> omega

theorem pCancel_sm {l : List UInt8} {p q : Nat} {c : CmdT} (h : pCancel l p = .ok (c, q)) (hp : p ≤ l.length) : Sm l.length c := by
  unfold pCancel at h
  obtain ⟨⟨n, p1⟩, h1, h⟩ := bind_ok h
  obtain ⟨t1, x1, y1⟩ := digit_ok h1 hp (by decide)
  dsimp only at h
  injection h with h; injection h with e1 e2
  subst e1
  unfold Sm
  simp only [cmdK, cmd0, List.length_nil]
  refine ⟨⟨?_, ?_, ?_, ?_, ?_, ?_⟩, ⟨?_, ?_⟩, ⟨?_, ?_⟩, ⟨?_, ?_⟩, ⟨?_, ?_⟩, ⟨?_, ?_⟩⟩ <;> omega

theorem pLoc_sm {l : List UInt8} {p q : Nat} {c : CmdT} (h : pLoc l p = .ok (c, q)) (hp : p ≤ l.length) : Sm l.length c := by
  unfold pLoc at h
  obtain ⟨⟨t, p1⟩, h1, h⟩ := bind_ok h
  have t1 := (loc_ok h1 hp).1
  have l1 := took_len t1
  dsimp only at h
  injection h with h; injection h with e1 e2
  subst e1
  unfold Sm
  simp only [cmdK, cmd0, List.length_nil]
  refine ⟨⟨?_, ?_, ?_, ?_, ?_, ?_⟩, ⟨?_, ?_⟩, ⟨?_, ?_⟩, ⟨?_, ?_⟩, ⟨?_, ?_⟩, ⟨?_, ?_⟩⟩ <;> omega

theorem pNum_sm {l : List UInt8} {k : Int} {p q : Nat} {c : CmdT} (h : pNum k l p = .ok (c, q)) (hp : p ≤ l.length) : Sm l.length c := by
  unfold pNum at h
  obtain ⟨⟨n, p1⟩, h1, h⟩ := bind_ok h
  obtain ⟨t1, _, x1, y1⟩ := number_ok h1 hp
  dsimp only at h
  injection h with h; injection h with e1 e2
  subst e1
  unfold Sm
  simp only [cmdK, cmd0, List.length_nil]
  refine ⟨⟨?_, ?_, ?_, ?_, ?_, ?_⟩, ⟨?_, ?_⟩, ⟨?_, ?_⟩, ⟨?_, ?_⟩, ⟨?_, ?_⟩, ⟨?_, ?_⟩⟩ <;> omega

theorem seats_sm {l : List UInt8} {p q : Nat} {c : CmdT} (h : seats l p = .ok (c, q)) (hp : p ≤ l.length) : Sm l.length c := by
  unfold seats at h
  obtain ⟨⟨n, p1⟩, h1, h⟩ := bind_ok h
  obtain ⟨t1, x1, y1⟩ := digit_ok h1 hp (by decide)
  dsimp only at h
  split at h
  · injection h with h; injection h with e1 e2
    subst e1
    unfold Sm
    simp only [cmdK, cmd0, List.length_nil]
    refine ⟨⟨?_, ?_, ?_, ?_, ?_, ?_⟩, ⟨?_, ?_⟩, ⟨?_, ?_⟩, ⟨?_, ?_⟩, ⟨?_, ?_⟩, ⟨?_, ?_⟩⟩ <;> omega
  obtain ⟨⟨_, p2⟩, h2, h⟩ := bind_ok h
  have t2 := sign_ok h2 t1.2.1
  dsimp only at h
  obtain ⟨⟨x, p3⟩, h3, h⟩ := bind_ok h
  have t3 := seat_ok h3 t2.2.1
  dsimp only at h
  obtain ⟨⟨_, p4⟩, h4, h⟩ := bind_ok h
  have t4 := sign_ok h4 t3.2.1
  dsimp only at h
  obtain ⟨⟨y, p5⟩, h5, h⟩ := bind_ok h
  obtain ⟨t5, x5, y5⟩ := digit_ok h5 t4.2.1 (by decide)
  dsimp only at h
  injection h with h; injection h with e1 e2
  subst e1
  unfold Sm
  simp only [cmdK, cmd0, List.length_nil]
  refine ⟨⟨?_, ?_, ?_, ?_, ?_, ?_⟩, ⟨?_, ?_⟩, ⟨?_, ?_⟩, ⟨?_, ?_⟩, ⟨?_, ?_⟩, ⟨?_, ?_⟩⟩ <;> omega

theorem parts_sm {l : List UInt8} {k : Int} {p q : Nat} {c : CmdT} (h : parts l k p = .ok (c, q)) (hp : p ≤ l.length) : Sm l.length c := by
  unfold parts at h
  split at h
  · exact pIn_sm h hp
  split at h
  · exact pAvail_sm h hp
  split at h
  · exact pSell_sm h hp
  split at h
  · exact pName_sm h hp
  split at h
  · exact pFree_sm h hp
  split at h
  · exact pLimit_sm h hp
  split at h
  · exact seats_sm h hp
  split at h
  · exact pUnseat_sm h hp
  split at h
  · exact pCancel_sm h hp
  split at h
  · exact pLoc_sm h hp
  split at h
  · exact pNum_sm h hp
  · injection h with h; injection h with e1 e2
    subst e1
    unfold Sm
    simp only [cmdK, cmd0, List.length_nil]
    refine ⟨⟨?_, ?_, ?_, ?_, ?_, ?_⟩, ⟨?_, ?_⟩, ⟨?_, ?_⟩, ⟨?_, ?_⟩, ⟨?_, ?_⟩, ⟨?_, ?_⟩⟩ <;> omega

theorem parse_fits {l : List UInt8} {c : CmdT} (h : parse l = .ok c) : Fits c := by
  have hle := (parse_ok h).2.2.2.2
  unfold parse at h
  rw [if_neg (by omega)] at h
  split at h
  · cases h
  next k p hb =>
  split at h
  · cases h
  next c' q hq =>
  split at h
  · cases h
  injection h with h
  subst h
  have hp : p ≤ l.length := by
    rcases begin_word hb with ⟨rfl, _, rfl⟩ | ⟨_, w, _, hw, rfl⟩
    · decide
    · exact isPre_len hw
  exact (parts_sm hq hp).fits (by omega)
end Go.Proofs.YtjahkaidinahpaaDoor.En
