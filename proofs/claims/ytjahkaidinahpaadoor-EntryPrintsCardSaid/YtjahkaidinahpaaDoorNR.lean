/- Print: a command, put together. -/
import Derived.Test.YtjahkaidinahpaaDoorNO
namespace Go.Proofs.YtjahkaidinahpaaDoor.En
open Go Go.RowKit
set_option linter.unusedSimpArgs false
set_option linter.unusedVariables false
set_option maxRecDepth 100000

open Classical in
/-- Are two commands the same? -/
noncomputable def cmdEq (a b : CmdT) : Bool := decide (a = b)
theorem cmdEq_yes (a : CmdT) : cmdEq a a = true := by simp [cmdEq]
theorem cmdEq_no {a b : CmdT} (h : a ≠ b) : cmdEq a b = false := by simp [cmdEq, h]

theorem u8_eq {a b : UInt8} (h : (a.toNat : Int) = (b.toNat : Int)) : a = b := UInt8.toNat_inj.1 (by omega)

theorem cmd_eql (a b : CmdT) (w : World) : (binOp .eql 71 (.agg (cmdC a).toArray) (.agg (cmdC b).toArray)).run Tryd.prog w = .ok (.bool (cmdEq a b)) w := by
  by_cases h : a = b
  · subst h
    rw [cmdEq_yes]
    unfold cmdC
    simp [go_sem]
  · rw [cmdEq_no h]
    unfold cmdC
    simp only [go_sem]
    simp [go_sem]
    intro h1 h2 h3 h4 h5 h6 h7 h8 h9 h10 h11 h12 h13 h14 h15
    exact h (CmdT.same h1 h2 h3 h4 h5 h6 h7 h8 h9 h10 h11 (by first | exact u8_eq h12 | exact UInt8.toNat_inj.1 h12 | exact h12) h13 h14 (by first | exact u8_eq h15 | exact UInt8.toNat_inj.1 h15 | exact h15))
theorem cmd_neq (a b : CmdT) (w : World) : (binOp .neq 71 (.agg (cmdC a).toArray) (.agg (cmdC b).toArray)).run Tryd.prog w = .ok (.bool (!cmdEq a b)) w := by
  by_cases h : a = b
  · subst h
    rw [cmdEq_yes]
    unfold cmdC
    simp [go_sem]
  · rw [cmdEq_no h]
    unfold cmdC
    simp only [go_sem]
    simp [go_sem]
    intro h1 h2 h3 h4 h5 h6 h7 h8 h9 h10 h11 h12 h13 h14 h15
    exact h (CmdT.same h1 h2 h3 h4 h5 h6 h7 h8 h9 h10 h11 (by first | exact u8_eq h12 | exact UInt8.toNat_inj.1 h12 | exact h12) h13 h14 (by first | exact u8_eq h15 | exact UInt8.toNat_inj.1 h15 | exact h15))

/-- The boxes of what Parse handed back. -/
theorem print_boxes (d : CmdT) (x y : Int) (W : World) : ∃ wx, ((W.alloc (.cells #[.int .i64 d.kind, txV d.text, txV d.office, .int .i64 d.day, txV d.src, txV d.dst, .int .i64 d.minute, txV d.last, txV d.first, .int .i64 d.n, .int .i64 d.pax, .int .u8 d.cls.toNat, .int .i64 d.line, .int .i64 d.row, .int .u8 d.c.toNat] 71)).alloc (.cells #[.int .i64 x, .int .i64 y] 73)) = wx ∧ Blk wx W.heap.size 71 (cmdC d) ∧ Blk wx (W.heap.size + 1) 73 [.int .i64 x, .int .i64 y] ∧ Below W.heap.size W wx := by
  refine ⟨_, rfl, (Blk.new W _ (cmdC d)).alloc _, ?_, bel_trans ((Below.refl _ _).alloc (Nat.le_refl _) _) ((Below.refl _ _).alloc (Nat.le_refl _) _)⟩
  have := Blk.new (W.alloc (.cells #[.int .i64 d.kind, txV d.text, txV d.office, .int .i64 d.day, txV d.src, txV d.dst, .int .i64 d.minute, txV d.last, txV d.first, .int .i64 d.n, .int .i64 d.pax, .int .u8 d.cls.toNat, .int .i64 d.line, .int .i64 d.row, .int .u8 d.c.toNat] 71)) 73 [.int .i64 x, .int .i64 y]
  rwa [show (W.alloc (.cells #[.int .i64 d.kind, txV d.text, txV d.office, .int .i64 d.day, txV d.src, txV d.dst, .int .i64 d.minute, txV d.last, txV d.first, .int .i64 d.n, .int .i64 d.pax, .int .u8 d.cls.toNat, .int .i64 d.line, .int .i64 d.row, .int .u8 d.c.toNat] 71)).heap.size = W.heap.size + 1 by simp] at this

set_option maxHeartbeats 8000000 in
theorem print_m (c : CmdT) (w : World) (hf : Fits c) (ht : Da.LenTab w) (hpw : PowTab w) (hsz : (textP c).length ≤ 9223372036854775807) :
    Calls Tryd.prog 31 #[.agg (cmdC c).toArray] w fun e w' => ((RowKit.Hid (parse (textP c) = .ok c) ∧ e = .returned (.tuple #[txV (textP c), .int .i64 0])) ∨ (RowKit.Hid (parse (textP c) ≠ .ok c) ∧ e = .returned (.tuple #[txV [], .int .i64 4]))) ∧ RowKit.Hid (Below w.heap.size w w') := by
  obtain ⟨w1, e1, b1, hb1, hz1⟩ := cmd_box c w
  have HT : RowKit.Hid (Calls Tryd.prog 68 #[.agg (cmdC c).toArray] w1 fun e w' => e = .returned (txV (textP c)) ∧ RowKit.Hid (Below w1.heap.size w1 w')) := Lib.hid ((text_m c w1 hf (ht.keep hb1) (powTab_keep hpw hb1)).mono fun e w' h => ⟨h.1, Lib.hid h.2⟩)
  have HP : RowKit.Hid (∀ W, Below w1.heap.size w1 W → Calls Tryd.prog 29 #[txV (textP c)] W fun e w' => (∃ d, RowKit.Hid (parse (textP c) = .ok d) ∧ e = .returned (.tuple #[.agg (cmdC d).toArray, .agg #[.int .i64 0, .int .i64 0]]) ∧ RowKit.Hid (Below W.heap.size W w')) ∨ (∃ k p, RowKit.Hid (parse (textP c) = .error (k, p)) ∧ 40 ≤ k ∧ e = .returned (.tuple #[.agg (cmdC cmd0).toArray, .agg #[.int .i64 k, .int .i64 (p : Nat)]]) ∧ RowKit.Hid (Below W.heap.size W w'))) := Lib.hid fun W hW => by
    have h := parse_any ⟨(textP c).toArray⟩ W (by rw [tx_size]; unfold maxLen; exact hsz) ((ht.keep hb1).keep hW)
    rw [show toL ⟨(textP c).toArray⟩ = textP c from tx_li _] at h
    refine h.mono fun e w' h => ?_
    cases hx : parse (textP c) with
    | ok d => rw [hx] at h; exact .inl ⟨d, Lib.hid rfl, h.1, Lib.hid h.2⟩
    | error f =>
      obtain ⟨k, p⟩ := f
      rw [hx] at h
      have hk : 40 ≤ k := by
        rcases parse_er hx with ⟨_, e⟩ | ⟨_, e | e | ⟨_, _, _, _, _, _, _, e⟩⟩
        · injection e with e; omega
        · injection e with e; omega
        · have := e.1; simp only at this; omega
        · injection e with e; omega
      exact .inr ⟨k, p, Lib.hid rfl, hk, h.1, Lib.hid h.2⟩
  have hr := b1.range
  have HB1 := Lib.hid b1
  have HL1 := Lib.hid hb1
  have hg : w.heap.size < w1.heap.size := by omega
  clear b1 hb1 ht hpw hf hsz hz1
  have hng : ∀ (d : CmdT) (W : World), (binOp .neq 71 (.agg (cmdC d).toArray) (.agg (cmdC c).toArray)).run Tryd.prog W = .ok (.bool (!cmdEq d c)) W := fun d W => cmd_neq d c W
  have HNG := Lib.hid hng
  clear hng
  unfold cmdC at HP HNG ⊢
  unfold cmd0 at HP
  go_enter Tryd.func31, Tryd.ntmps31
  go_upto_region 3 with (first
    | (refine wpList_load_mid rfl 71 (.tmp 1) rfl w.heap.size 0 rfl _ _ hr Tryd.underlying71 rfl info_cmd ?_)
    | (go_at_call 68; (with_reducible refine HT.out.mono ?_); rintro e w2 ⟨rfl, hb2⟩)
    | (go_at_call 29; (with_reducible refine (HP.out _ hb2.out).mono ?_); rintro e w3 (⟨d, h3, rfl, hb3⟩ | ⟨k, p, h3, hk3, rfl, hb3⟩)))
  · obtain ⟨wx, hx, q1, q2, q3⟩ := print_boxes d 0 0 w3
    unfold txV at hx
    rw [hx]
    have hlx : RowKit.Hid (Below w.heap.size w wx) := Lib.hid (bel_trans (bel_trans (bel_trans HL1.out hb2.out) hb3.out) q3)
    have q0 := HB1.out.mono (bel_trans (bel_trans hb2.out hb3.out) q3)
    have x0 := cb0 q1
    have x1 := cb1 q1
    have x2 := cb2 q1
    have x3 := cb3 q1
    have x4 := cb4 q1
    have x5 := cb5 q1
    have x6 := cb6 q1
    have x7 := cb7 q1
    have x8 := cb8 q1
    have x9 := cb9 q1
    have x10 := cb10 q1
    have x11 := cb11 q1
    have x12 := cb12 q1
    have x13 := cb13 q1
    have x14 := cb14 q1
    have y0 := cb0 q0
    have y1 := cb1 q0
    have y2 := cb2 q0
    have y3 := cb3 q0
    have y4 := cb4 q0
    have y5 := cb5 q0
    have y6 := cb6 q0
    have y7 := cb7 q0
    have y8 := cb8 q0
    have y9 := cb9 q0
    have y10 := cb10 q0
    have y11 := cb11 q0
    have y12 := cb12 q0
    have y13 := cb13 q0
    have y14 := cb14 q0
    have z0 : wx.cell? ⟨w3.heap.size + 1, 0, none⟩ = some (.int .i64 0) := q2.cell 0
    have z1 : wx.cell? ⟨w3.heap.size + 1, 1, none⟩ = some (.int .i64 0) := q2.cell 1
    have hng := HNG.out d
    clear hx q0 q1 q2 q3
    by_cases hd : d = c
    · have HE : RowKit.Hid (cmdEq d c = true) := Lib.hid (by rw [hd]; exact cmdEq_yes c)
      have HPA : RowKit.Hid (parse (textP c) = .ok c) := Lib.hid (by rw [h3.out, hd])
      rw [HE.out] at hng
      simp only [Bool.not_true] at hng
      clear hd HE
      go_wp2
      go_ret2
      exact ⟨.inl ⟨HPA, rfl⟩, hlx⟩
    · have HE : RowKit.Hid (cmdEq d c = false) := Lib.hid (cmdEq_no hd)
      have HPA : RowKit.Hid (parse (textP c) ≠ .ok c) := Lib.hid (by rw [h3.out]; intro e; injection e with e; exact hd e)
      rw [HE.out] at hng
      simp only [Bool.not_false] at hng
      clear hd HE
      go_wp2
      go_ret2
      exact ⟨.inr ⟨HPA, rfl⟩, hlx⟩
  · obtain ⟨wx, hx, q1, q2, q3⟩ := print_boxes cmd0 k (p : Nat) w3
    have hlx : RowKit.Hid (Below w.heap.size w wx) := Lib.hid (bel_trans (bel_trans (bel_trans HL1.out hb2.out) hb3.out) q3)
    have z0 : wx.cell? ⟨w3.heap.size + 1, 0, none⟩ = some (.int .i64 k) := q2.cell 0
    have z1 : wx.cell? ⟨w3.heap.size + 1, 1, none⟩ = some (.int .i64 (p : Nat)) := q2.cell 1
    have hk0 : ¬ k = 0 := by omega
    have HPA : RowKit.Hid (parse (textP c) ≠ .ok c) := Lib.hid (by rw [h3.out]; intro e; cases e)
    have hx' : ((w3.alloc (.cells #[.int .i64 0, .string ⟨#[]⟩, .string ⟨#[]⟩, .int .i64 0, .string ⟨#[]⟩, .string ⟨#[]⟩, .int .i64 0, .string ⟨#[]⟩, .string ⟨#[]⟩, .int .i64 0, .int .i64 0, .int .u8 0, .int .i64 0, .int .i64 0, .int .u8 0] 71)).alloc (.cells #[.int .i64 k, .int .i64 (p : Nat)] 73)) = wx := hx
    rw [hx']
    clear hx hx' q1 q2 q3
    go_wp2
    go_ret2
    exact ⟨.inr ⟨HPA, rfl⟩, hlx⟩
end Go.Proofs.YtjahkaidinahpaaDoor.En
