/- The contracts of code.Upper and of its reference. -/
import Derived.Test.YtlaieijlengojaaCodeE
namespace Go.Proofs.Ytlaieijlengojaa
open Go.RowKit

def upB (b : UInt8) : UInt8 := if 97 ≤ b.toNat ∧ b.toNat ≤ 122 then b - 32 else b
def upS (l : List UInt8) : List UInt8 := l.map upB

theorem ret_str {a b : ByteArray} (h : a.data.toList = b.data.toList) : Ending.returned (.string a) = .returned (.string b) := by
  have : a = b := by
    obtain ⟨⟨a⟩⟩ := a; obtain ⟨⟨b⟩⟩ := b
    simp at h; rw [h]
  rw [this]

/-- '[]byte(s)', with the marks of the new row. -/
theorem bytes_conv_f (s : ByteArray) (w : World) : ∃ w1 : World, ∃ cap : Nat, (convert 9 54 (.string s)).run Try.prog w = .ok (.slice (some ⟨w.heap.size, 0, none⟩) s.size cap) w1 ∧
    Below w.heap.size w w1 ∧ w1.heap.size = w.heap.size + 1 ∧ (∀ j, j < s.size → w1.cell? ⟨w.heap.size, j, none⟩ = some (.int .u8 (s.data.toList.getD j 0).toNat)) ∧ ∀ j, j < s.size → w1.frozen? ⟨w.heap.size, j, none⟩ = false := by
  refine ⟨_, _, Lib.run_convert_string_bytes (P := Try.prog) w 9 54 5 s Try.underlying9 Try.underlying54 Try.underlying5, ?_, Lib.bytesWorld_size _ _ _, fun j hj => Lib.bytesWorld_cell _ _ _ _ hj, fun j hj => ?_⟩
  · exact ⟨rfl, rfl, rfl, by rw [Lib.bytesWorld_size]; omega, fun i hi => Lib.bytesWorld_at_old _ _ _ _ hi⟩
  · have hs : s.size ≤ (Lib.bytesCells w 5 s).size := by simp [Lib.bytesCells]
    simp only [World.frozen?, Lib.bytesWorld_at_new]
    simp
    omega

/-- 'string(b)' where b's cells are the bytes l. -/
theorem string_conv (l : List UInt8) (w : World) (b n cap : Nat) (hn : l.length = n) (hc : ∀ j, j < n → w.cell? ⟨b, j, none⟩ = some (.int .u8 ((l.getD j 0).toNat : Int))) :
    (convert 54 9 (.slice (some ⟨b, 0, none⟩) n cap)).run Try.prog w = .ok (.string ⟨l.toArray⟩) w := by
  subst hn
  refine run_convert_bytes_back (P := Try.prog) w 54 9 5 ⟨b, 0, none⟩ cap l Try.underlying54 Try.underlying5 Try.underlying9 fun j hj => ?_
  have := hc j hj
  simp [List.getD, hj] at this
  have e : (⟨b, 0, none⟩ : Addr).add j = ⟨b, j, none⟩ := by simp [Addr.add]; omega
  rw [e]
  exact this

theorem up_store {wr : World} {B k n : Nat} {l : List UInt8} {b : UInt8} (hk : k < n) (hg : l.getD k 0 = b) (u1 : 97 ≤ (b.toNat : Int)) (u2 : (b.toNat : Int) ≤ 122)
    (hc : ∀ j, j < n → wr.cell? ⟨B, j, none⟩ = some (.int .u8 ((if j < k then upB (l.getD j 0) else l.getD j 0).toNat : Int))) (j : Nat) (hj : j < n) :
    (wr.setCell ⟨B, k, none⟩ (.int .u8 ((b.toNat : Int) - 32))).cell? ⟨B, j, none⟩ = some (.int .u8 ((if j < k + 1 then upB (l.getD j 0) else l.getD j 0).toNat : Int)) := by
  by_cases h : j = k
  · subst h
    rw [World.cell?_setCell_same _ _ _ (hc j hj), if_pos (by omega), hg]
    have e : (upB b).toNat = b.toNat - 32 := by
      unfold upB
      rw [if_pos ⟨by omega, by omega⟩, UInt8.toNat_sub_of_le]
      · rfl
      · rw [UInt8.le_iff_toNat_le]; show 32 ≤ _; omega
    rw [e]
    congr 2
    omega
  · rw [World.cell?_setCell_other _ _ _ _ (fun e => h (by injection e with _ e; exact e.symm)), hc j hj]
    by_cases h2 : j < k
    · rw [if_pos h2, if_pos (by omega)]
    · rw [if_neg h2, if_neg (by omega)]
theorem up_keep {wr : World} {B k n : Nat} {l : List UInt8} {b : UInt8} (hg : l.getD k 0 = b) (hup : ¬ (97 ≤ (b.toNat : Int) ∧ (b.toNat : Int) ≤ 122))
    (hc : ∀ j, j < n → wr.cell? ⟨B, j, none⟩ = some (.int .u8 ((if j < k then upB (l.getD j 0) else l.getD j 0).toNat : Int))) (j : Nat) (hj : j < n) :
    wr.cell? ⟨B, j, none⟩ = some (.int .u8 ((if j < k + 1 then upB (l.getD j 0) else l.getD j 0).toNat : Int)) := by
  rw [hc j hj]
  by_cases h : j = k
  · subst h
    rw [if_neg (by omega), if_pos (by omega), hg]
    unfold upB
    rw [if_neg (by omega)]
  · by_cases h2 : j < k
    · rw [if_pos h2, if_pos (by omega)]
    · rw [if_neg h2, if_neg (by omega)]

theorem upper_any (s : ByteArray) (w : World) (hs : s.size ≤ maxLen) :
    Calls Try.prog 39 #[.string s] w fun e w' => e = .returned (.string ⟨(upS s.data.toList).toArray⟩) ∧ Below w.heap.size w w' := by
  unfold maxLen at hs
  obtain ⟨w1, cap, hcv, hb, hz, hcell, hfr⟩ := bytes_conv_f s w
  have hlen : s.data.toList.length = s.size := by simp
  have HL := Lib.hid hlen
  clear hlen
  go_enter Try.func39, Try.ntmps39
  go_wp2
  go_loopw [10] (fun i wr => ∃ k : Nat, k ≤ s.size ∧ i = .int .i64 k ∧ Below w.heap.size w wr ∧ wr.heap.size = w.heap.size + 1 ∧ (∀ j, j < s.size → wr.cell? ⟨w.heap.size, j, none⟩ = some (.int .u8 ((if j < k then upB (s.data.toList.getD j 0) else s.data.toList.getD j 0).toNat : Int))) ∧ ∀ j, j < s.size → wr.frozen? ⟨w.heap.size, j, none⟩ = false) (fun i _ => s.size - (intOf i).toNat)
  case atStart => exact ⟨0, Nat.zero_le _, rfl, hb, hz, fun j hj => by simpa using hcell j hj, hfr⟩
  case round =>
    obtain ⟨k, hk, rfl, hb', hz', hc', hf'⟩ := hrel
    clear hcell hfr
    by_cases hlt : k < s.size
    · have hc := hc' k hlt
      have hf := hf' k hlt
      rw [if_neg (Nat.lt_irrefl k)] at hc
      have hbb := byte_hi (s.data.toList.getD k 0)
      have HC := Lib.hid hc'
      have HF := Lib.hid hf'
      clear hc' hf'
      generalize hg : s.data.toList.getD k 0 = b at hc hbb
      have HG := Lib.hid hg
      clear hg
      have hb0 : (0 : Int) ≤ (b.toNat : Int) := by omega
      by_cases hup : 97 ≤ (b.toNat : Int) ∧ (b.toNat : Int) ≤ 122
      · obtain ⟨u1, u2⟩ := hup
        have u3 : (((b.toNat : Int) - 97) % 256) < 26 := by omega
        go_wp2
        refine ⟨⟨k + 1, by omega, by go_num, hb'.setCell (Nat.le_refl _) _, by simp [World.setCell]; exact hz', up_store hlt HG.out u1 u2 HC.out, fun j hj => by rw [World.frozen?_setCell]; exact HF.out j hj⟩, ?_⟩
        simp [intOf]; omega
      · have u3 : ¬ (((b.toNat : Int) - 97) % 256) < 26 := by omega
        go_wp2
        refine ⟨⟨k + 1, by omega, by go_num, hb', hz', up_keep HG.out hup HC.out, HF.out⟩, ?_⟩
        simp [intOf]; omega
    · have hback := string_conv (upS s.data.toList) wr w.heap.size s.size cap (by simp [upS]) (fun j hj => by rw [hc' j hj, if_pos (by omega)]; simp [upS, List.getD, hj])
      go_wp2
      go_ret
      exact ⟨rfl, hb'⟩
end Go.Proofs.Ytlaieijlengojaa
