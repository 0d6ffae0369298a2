/- bytes.Equal, again. -/
import Derived.Test.YtjahkaidinahpaaDoorEN
namespace Go.Proofs.YtjahkaidinahpaaDoor
open Go.RowKit Go.ChangeMaps
set_option linter.unusedSimpArgs false
set_option linter.unusedVariables false
set_option maxRecDepth 20000

/-- 'string(b)' of a list that may lie anywhere. -/
theorem conv_has {w : World} {v : Value} {l : List UInt8} (h : HasE byteC w v l) : (convert 48 9 v).run Tryd.prog w = .ok (.string ⟨l.toArray⟩) w := by
  rcases h with ⟨p, c, rfl, rfl, hpn⟩ | ⟨b, off, c, rfl, h1, h2, h3⟩
  · cases p with
    | none =>
      have hc := hpn rfl
      subst hc
      simp [convert, run_underlying Tryd.underlying48, run_underlying Tryd.underlying5, run_underlying Tryd.underlying9, Conv.bytesToString, go_sem]
      rfl
    | some ad =>
      exact run_convert_bytes_back (P := Tryd.prog) w 48 9 5 ad c [] Tryd.underlying48 Tryd.underlying5 Tryd.underlying9 fun j hj => absurd hj (Nat.not_lt_zero _)
  · refine run_convert_bytes_back (P := Tryd.prog) w 48 9 5 ⟨b, off, none⟩ c l Tryd.underlying48 Tryd.underlying5 Tryd.underlying9 fun j hj => ?_
    have := h3 j (.int .u8 (l[j]).toNat) (by rw [flat_byte, List.getElem?_map, List.getElem?_eq_getElem hj]; rfl)
    rw [Addr.add_lit]
    exact this

theorem str_of_toList {a b : List UInt8} (h : (⟨a.toArray⟩ : ByteArray).toList = (⟨b.toArray⟩ : ByteArray).toList) : a = b := by
  have h2 := toList_inj h
  have h3 : (⟨a.toArray⟩ : ByteArray).data.toList = (⟨b.toArray⟩ : ByteArray).data.toList := by rw [h2]
  simpa using h3

theorem equal_any (la lb : List UInt8) (va vb : Value) (w : World) (ha : HasE byteC w va la) (hb : HasE byteC w vb lb) :
    Calls Tryd.prog 117 #[va, vb] w fun e w' => e = .returned (.bool (decide (la = lb))) ∧ w = w' := by
  have h1 := conv_has ha
  have h2 := conv_has hb
  by_cases he : la = lb
  · have hks : (la == lb) = true := by rw [he]; simp
    have HD := Lib.hid (decide_eq_true he)
    clear he ha hb
    go_enter Tryd.func117, Tryd.ntmps117
    go_wp2
    go_ret
    exact ⟨ret_bool (by rw [HD.out]), rfl⟩
  · have hks : (la == lb) = false := by rw [beq_eq_false_iff_ne]; exact he
    have HD := Lib.hid (decide_eq_false he)
    clear he ha hb
    go_enter Tryd.func117, Tryd.ntmps117
    go_wp2
    go_ret
    exact ⟨ret_bool (by rw [HD.out]), rfl⟩

theorem again_yes (la lb : List UInt8) (va vb : Value) (w : World) (ha : HasE byteC w va la) (hb : HasE byteC w vb lb) :
    Calls Tryd.prog 56 #[va, vb, .int .i64 0] w fun e w' => e = .returned (.bool (decide (la = lb))) ∧ w = w' := by
  have HE := Lib.hid (equal_any la lb va vb w ha hb)
  go_enter Tryd.func56, Tryd.ntmps56
  go_wp2_with (first
    | (go_at_call 117; (with_reducible refine HE.out.mono ?_); rintro e w1 ⟨rfl, rfl⟩))
  go_ret
  exact ⟨rfl, rfl⟩

theorem again_no (va vb : Value) (z : Int) (w : World) (hz : (z == 0) = false) :
    Calls Tryd.prog 56 #[va, vb, .int .i64 z] w fun e w' => e = .returned (.bool false) ∧ w = w' := by
  go_enter Tryd.func56, Tryd.ntmps56
  go_wp2
  go_ret
  exact ⟨rfl, rfl⟩
end Go.Proofs.YtjahkaidinahpaaDoor
