/- Days and times: the program's and the reference's texts, and what is read of texts. Texts of seats are read: plan.Read, jetwayref09.Read. -/
import Derived.Test.YtmhhbnnjilbdnaaGreatDoorKA
import Derived.Test.YtmhhbnnjilbdnaaGreatDoorKB
import Derived.Test.YtmhhbnnjilbdnaaGreatDoorKF
import Derived.Test.YtmhhbnnjilbdnaaGreatDoorPlnP
import Derived.Test.YtmhhbnnjilbdnaaGreatDoorKG
import Derived.Test.YtmhhbnnjilbdnaaGreatDoorKJ
import Derived.Test.YtmhhbnnjilbdnaaGreatDoorKL
import Derived.Test.YtmhhbnnjilbdnaaGreatDoorLD
import Derived.Test.YtmhhbnnjilbdnaaGreatDoorRows
import Derived.WalkKit
import Derived.WalkSpells
import Derived.WalkLawsBesides
import Derived.Lib.ConvBytes
import Derived.Lib.Hide
import Derived.Lib.SliceRun
import Derived.IntWalk
import Derived.BigQuiet
import Derived.Deep.QuietTactic
import Derived.Deep.RegionWith
import Derived.Deep.RegionHeld3
import Derived.Deep.LoopGhost
import Derived.Deep.CutRange
import Derived.Deep.CutBlock
import Derived.Deep.MidRow
import Derived.Laws.OwnMore
import Derived.OwnWalk
import Derived.Laws.AppendOwnNone
import Derived.Laws.Rows
import Derived.Laws.MakeOwn
import Derived.Laws.CopyOwn
import Derived.Laws.BitsAllLaws
import Derived.DeepKeys5
import Derived.Maps.OwnOps
import Derived.Handy
import Derived.Test.YtmhhbnnjilbdnaaGreatDoorLA
import Derived.Lib.AppendStr
import Derived.StillTailTactics
import Derived.Deep.AppendLies
namespace Go.Proofs.YtmhhbnnjilbdnaaGreatDoor.Da
open Go.RowKit
set_option linter.unusedSimpArgs false
set_option linter.unusedVariables false

theorem monFind_lt (l : List UInt8) (m : Nat) : ∀ f s, monFind f s l = some m → s ≤ m ∧ m < s + f ∧ l = monL m := by
  intro f
  induction f with
  | zero => intro s h; cases h
  | succ f ih =>
    intro s h
    rw [monFind] at h
    split at h
    · next he => injection h with h; subst h; exact ⟨Nat.le_refl _, by omega, he⟩
    · have := ih (s + 1) h; exact ⟨by omega, by omega, this.2.2⟩

theorem numS_two (a b : UInt8) : numS [a, b] = if isD a && isD b then ((a.toNat : Int) - 48) * 10 + ((b.toNat : Int) - 48) else -1 := rfl

theorem num_two {a b : UInt8} (h : 0 ≤ numS [a, b]) : two (numS [a, b]).toNat = [a, b] ∧ numS [a, b] ≤ 99 := by
  rw [numS_two] at h ⊢
  split at h
  · next hd =>
    rw [if_pos hd]
    simp only [isD, Bool.and_eq_true, decide_eq_true_eq] at hd
    obtain ⟨⟨a1, a2⟩, b1, b2⟩ := hd
    have e : (((a.toNat : Int) - 48) * 10 + ((b.toNat : Int) - 48)).toNat = (a.toNat - 48) * 10 + (b.toNat - 48) := by omega
    rw [e]
    refine ⟨?_, by omega⟩
    unfold two
    have e1 : 48 + ((a.toNat - 48) * 10 + (b.toNat - 48)) / 10 = a.toNat := by omega
    have e2 : 48 + ((a.toNat - 48) * 10 + (b.toNat - 48)) % 10 = b.toNat := by omega
    rw [e1, e2, UInt8.ofNat_toNat, UInt8.ofNat_toNat]
  · omega

theorem numS_len {l : List UInt8} (h : 0 ≤ numS l) : ∃ a b, l = [a, b] := by
  match l, h with
  | [a, b], _ => exact ⟨a, b, rfl⟩

theorem read_only {l : List UInt8} {d : Nat} (h : readS l = some d) : d < 366 ∧ dtxt d = l := by
  unfold readS at h
  split at h
  · next hl =>
    unfold readM at h
    split at h
    · next m hm =>
      split at h
      · next hn =>
        injection h with h
        obtain ⟨_, m2, m3⟩ := monFind_lt _ _ _ _ hm
        have hm12 : m < 12 := by omega
        obtain ⟨x, y, hxy⟩ := numS_len (l := l.take 2) (by omega)
        rw [hxy] at h hn
        have ht := num_two (a := x) (b := y) (by omega)
        generalize hk : (numS [x, y]).toNat = k at ht h
        have hk1 : 1 ≤ k := by omega
        have hkl : k - 1 < lenN m := by omega
        obtain ⟨f1, f2, f3⟩ := mon_facts m hm12 (k - 1) hkl
        have hd : d = startN m + (k - 1) := by omega
        subst hd
        refine ⟨f1, ?_⟩
        unfold dtxt
        rw [f2, f3, ← m3, show k - 1 + 1 = k by omega, ht.1, ← hxy, List.take_append_drop]
      · cases h
    · cases h
  · cases h

theorem readC_only {l : List UInt8} {t : Nat} (h : readC l = some t) : t < 1440 ∧ ctxt t = l := by
  unfold readC at h
  split at h
  · next hl =>
    split at h
    · next hn =>
      injection h with h
      obtain ⟨x, y, hxy⟩ := numS_len (l := l.take 2) (by omega)
      obtain ⟨p, q, hpq⟩ := numS_len (l := l.drop 2) (by omega)
      rw [hxy, hpq] at h hn
      have h1 := num_two (a := x) (b := y) (by omega)
      have h2 := num_two (a := p) (b := q) (by omega)
      generalize hk : (numS [x, y]).toNat = k at h1 h
      generalize hj : (numS [p, q]).toNat = j at h2 h
      subst h
      refine ⟨by omega, ?_⟩
      unfold ctxt
      rw [show (k * 60 + j) / 60 = k by omega, show (k * 60 + j) % 60 = j by omega, h1.1, h2.1, ← hxy, ← hpq, List.take_append_drop]
    · cases h
  · cases h

def optI (o : Option Nat) : Int := match o with
  | some d => (d : Int)
  | none => 0

theorem dtxt_at {m k : Nat} (hm : m < 12) (hk1 : 1 ≤ k) (hk2 : k ≤ lenN m) : dtxt (startN m + (k - 1)) = two k ++ monL m := by
  obtain ⟨f1, f2, f3⟩ := mon_facts m hm (k - 1) (by omega)
  unfold dtxt
  rw [f2, f3, show k - 1 + 1 = k by omega]

theorem read_none {l : List UInt8} (h : ∀ d, d < 366 → dtxt d ≠ l) : readS l = none := by
  cases hr : readS l with
  | none => rfl
  | some d => exact absurd (read_only hr).2 (h d (read_only hr).1)

theorem read_some {l : List UInt8} {d : Nat} (hd : d < 366) (h : dtxt d = l) : readS l = some d := by rw [← h]; exact (day_facts d hd).2.2.2

theorem take_drop_eq {l a b : List UInt8} (ha : a.length = 2) : (a ++ b = l) ↔ (l.take 2 = a ∧ l.drop 2 = b) := by
  constructor
  · intro h; subst h; rw [← ha]; simp
  · intro ⟨h1, h2⟩; rw [← h1, ← h2, List.take_append_drop]

set_option maxHeartbeats 4000000 in
theorem rread_any (s : ByteArray) (w : World) :
    Calls Tryz.prog 58 #[.string s] w fun e w' => e = .returned (.tuple #[.int .i64 (optI (readS s.data.toList)), .bool (readS s.data.toList).isSome]) ∧ Below w.heap.size w w' := by
  have hlen : s.data.toList.length = s.size := by simp
  have h1 : s.size = 5 → (s.extract 2 s.size).data.toList = s.data.toList.drop 2 := by
    intro _
    simp
    exact List.take_of_length_le (by simp)
  have h2 : (s.extract 0 2).data.toList = s.data.toList.take 2 := by simp
  have H1 := Lib.hid h1
  have H2 := Lib.hid h2
  have HL := Lib.hid hlen
  clear h1 h2 hlen
  go_enter Tryz.func58, Tryz.ntmps58
  go_wp2
  go_loopw [4, 5] (fun n i wr => ∃ m : Nat, m ≤ 12 ∧ Below w.heap.size w wr ∧ i = .int .i64 m ∧ n = .int .i64 (startN m) ∧ ∀ d, d < startN m → dtxt d ≠ s.data.toList) (fun _ i _ => 12 - (intOf i).toNat)
  case atStart => exact ⟨0, by omega, Below.refl _ _, rfl, rfl, fun d hd => absurd hd (Nat.not_lt_zero d)⟩
  case round =>
    obtain ⟨m, hm, hb, rfl, rfl, hno⟩ := hrel
    have HNO := Lib.hid hno
    clear hno
    by_cases hm12 : m < 12
    · obtain ⟨l1, l2, l3, l4⟩ := len_facts m hm12
      obtain ⟨wo, rfl⟩ : ∃ wo : World, wo = wr := ⟨_, rfl⟩
      go_wp2_with (go_at_call 78; refine (month_any m _).mono ?_; rintro e w1 ⟨rfl, rfl⟩)
      go_loopw [4, 8] (fun n i wr => ∃ k : Nat, 1 ≤ k ∧ k ≤ lenN m + 1 ∧ Below w.heap.size w wr ∧ i = .int .i64 k ∧ n = .int .i64 ((startN m + (k - 1) : Nat) : Int) ∧ ∀ d, d < startN m + (k - 1) → dtxt d ≠ s.data.toList) (fun _ i _ => lenN m + 1 - (intOf i).toNat)
      case atStart => exact ⟨1, by omega, by omega, hb, rfl, rfl, HNO.out⟩
      case round =>
        obtain ⟨k, hk1, hk2, hbr, rfl, rfl, hno⟩ := hrel
        have HN2 := Lib.hid hno
        clear hno
        by_cases hlt : k ≤ lenN m
        · have hdt := dtxt_at hm12 hk1 hlt
          have hx : startN m + (k - 1) + 1 = startN m + (k + 1 - 1) := by omega
          have hx366 : startN m + (k - 1) < 366 := by omega
          have HX := Lib.hid hx
          have HD := Lib.hid hdt
          clear hx hdt
          generalize startN m + (k - 1) = x at HX HD HN2 hx366 ⊢
          by_cases h5 : s.size = 5
          · have g5 : ((s.size : Int) == 5) = true := by rw [h5]; rfl
            have g6 : (2 : Int) ≤ (s.size : Int) := by omega
            have g7 : 2 ≤ s.size := by omega
            have H5 := Lib.hid h5
            clear h5
            by_cases hn : (s.extract 2 s.size).data.toList = monL m
            · have hq : ((s.extract 2 s.size).toList == (monA m).toList) = true := by
                rw [ByteArray.toList_eq, ByteArray.toList_eq, hn, monA_list]; simp
              have HN := Lib.hid hn
              clear hn
              have e1 : ((k : Int)).toNat = k := by omega
              have c1 : ∀ W : World, Calls Tryz.prog 79 #[.int .i64 (k : Int)] W fun e w' => e = .returned (.string (twoA k)) ∧ Below W.heap.size W w' := fun W => by
                have h0 := rtwo_any (k : Int) W (by omega) (by omega)
                rw [e1] at h0; exact h0
              have C1 := Lib.hid c1
              clear c1 e1
              by_cases ht : (s.extract 0 2).data.toList = two k
              · have hq2 : ((s.extract 0 2).toList == (twoA k).toList) = true := by
                  rw [ByteArray.toList_eq, ByteArray.toList_eq, ht, twoA_list]; simp
                have hr : readS s.data.toList = some x := read_some hx366 (by rw [HD.out]; exact (take_drop_eq rfl).2 ⟨by rw [← H2.out]; exact ht, by rw [← H1.out H5.out]; exact HN.out⟩)
                have HR := Lib.hid hr
                clear hr ht
                go_wp2_with fail
                go_region_held3 (fun _ => True) (trivial) (first | (go_at_call 79; (with_reducible refine (C1.out _).mono ?_); rintro e w1 ⟨rfl, hb1⟩))
                all_goals go_wp2
                all_goals go_ret2
                all_goals exact ⟨by rw [HR.out]; rfl, (hbr.drew).trans (hb1.mono hbr.size)⟩
              · have hq2 : ((s.extract 0 2).toList == (twoA k).toList) = false := by
                  rw [ByteArray.toList_eq, ByteArray.toList_eq, beq_eq_false_iff_ne, twoA_list]; exact ht
                have hr : dtxt x ≠ s.data.toList := by rw [HD.out]; exact fun h => ht (by rw [H2.out]; exact ((take_drop_eq rfl).1 h).1)
                have HR := Lib.hid hr
                clear hr ht
                go_wp2_with fail
                go_region_held3 (fun _ => True) (trivial) (first | (go_at_call 79; (with_reducible refine (C1.out _).mono ?_); rintro e w1 ⟨rfl, hb1⟩))
                all_goals go_wp2
                all_goals go_roundw
                case rel => exact ⟨k + 1, by omega, by omega, (hbr.drew).trans (hb1.mono hbr.size), by go_num, by rw [← HX.out]; go_num, fun d hd => by (have hd2 : d < x + 1 := (by rw [HX.out]; exact hd)); rcases Nat.lt_or_ge d x with h | h; exact HN2.out d h; rw [show d = x by omega]; exact HR.out⟩
                case measure => simp [intOf]; omega
            · have hq : ((s.extract 2 s.size).toList == (monA m).toList) = false := by
                rw [ByteArray.toList_eq, ByteArray.toList_eq, beq_eq_false_iff_ne, monA_list]; exact hn
              have hr : dtxt x ≠ s.data.toList := by rw [HD.out]; exact fun h => hn (by rw [H1.out H5.out]; exact ((take_drop_eq rfl).1 h).2)
              have HR := Lib.hid hr
              clear hr hn
              go_wp2_with fail
              go_quiet (fail)
              go_wp2
              go_roundw
              case rel => exact ⟨k + 1, by omega, by omega, below_drewN hbr _, by go_num, by rw [← HX.out]; go_num, fun d hd => by (have hd2 : d < x + 1 := (by rw [HX.out]; exact hd)); rcases Nat.lt_or_ge d x with h | h; exact HN2.out d h; rw [show d = x by omega]; exact HR.out⟩
              case measure => simp [intOf]; omega
          · have g5 : ((s.size : Int) == 5) = false := by rw [beq_eq_false_iff_ne]; omega
            have hr : dtxt x ≠ s.data.toList := fun h => h5 (by rw [← HL.out, ← h]; exact dtxt_len x)
            have HR := Lib.hid hr
            clear hr h5
            go_wp2_with fail
            go_quiet (fail)
            go_wp2
            go_roundw
            case rel => exact ⟨k + 1, by omega, by omega, below_drewN hbr _, by go_num, by rw [← HX.out]; go_num, fun d hd => by (have hd2 : d < x + 1 := (by rw [HX.out]; exact hd)); rcases Nat.lt_or_ge d x with h | h; exact HN2.out d h; rw [show d = x by omega]; exact HR.out⟩
            case measure => simp [intOf]; omega
        · have hx : startN m + (k - 1) = startN (m + 1) := by rw [start_succ]; omega
          rw [hx] at HN2 ⊢
          clear hx
          go_wp2
          go_roundw
          case rel => exact ⟨m + 1, by omega, hbr, by go_num, rfl, HN2.out⟩
          case measure => simp [intOf]; omega
    · have hr := read_none (l := s.data.toList) (fun d hd => HNO.out d (by rw [show m = 12 by omega, start_12]; exact hd))
      have HR := Lib.hid hr
      clear hr
      go_wp2
      go_ret2
      exact ⟨by rw [HR.out]; rfl, hb⟩

theorem ctxt_at {h m : Nat} (hm : m < 60) : ctxt (h * 60 + m) = two h ++ two m := by
  unfold ctxt
  rw [show (h * 60 + m) / 60 = h by omega, show (h * 60 + m) % 60 = m by omega]

theorem readC_none {l : List UInt8} (h : ∀ t, t < 1440 → ctxt t ≠ l) : readC l = none := by
  cases hr : readC l with
  | none => rfl
  | some d => exact absurd (readC_only hr).2 (h d (readC_only hr).1)

theorem readC_some {l : List UInt8} {t : Nat} (hd : t < 1440) (h : ctxt t = l) : readC l = some t := by rw [← h]; exact clock_facts t hd

theorem skip_hour {l : List UInt8} {h : Nat} (hno : ∀ t, t < h * 60 → ctxt t ≠ l) (hh : l.length ≠ 4 ∨ l.take 2 ≠ two h) : ∀ t, t < (h + 1) * 60 → ctxt t ≠ l := by
  intro t ht
  rcases Nat.lt_or_ge t (h * 60) with h1 | h1
  · exact hno t h1
  · intro he
    rcases hh with hh | hh
    · exact hh (by rw [← he]; rfl)
    · have : ctxt t = two h ++ two (t - h * 60) := by
        rw [show t = h * 60 + (t - h * 60) by omega, ctxt_at (by omega), show h * 60 + (t - h * 60) - h * 60 = t - h * 60 by omega]
      rw [this] at he
      exact hh ((take_drop_eq rfl).1 he).1

set_option maxHeartbeats 4000000 in
theorem rreadClock_any (s : ByteArray) (w : World) :
    Calls Tryz.prog 59 #[.string s] w fun e w' => e = .returned (.tuple #[.int .i64 (optI (readC s.data.toList)), .bool (readC s.data.toList).isSome]) ∧ Below w.heap.size w w' := by
  have hlen : s.data.toList.length = s.size := by simp
  have h1 : s.size = 4 → (s.extract 2 s.size).data.toList = s.data.toList.drop 2 := by
    intro _
    simp
    exact List.take_of_length_le (by simp)
  have h2 : (s.extract 0 2).data.toList = s.data.toList.take 2 := by simp
  have H1 := Lib.hid h1
  have H2 := Lib.hid h2
  have HL := Lib.hid hlen
  clear h1 h2 hlen
  go_enter Tryz.func59, Tryz.ntmps59
  go_wp2
  go_loopw [4] (fun i wr => ∃ h : Nat, h ≤ 24 ∧ Below w.heap.size w wr ∧ i = .int .i64 h ∧ ∀ t, t < h * 60 → ctxt t ≠ s.data.toList) (fun i _ => 24 - (intOf i).toNat)
  case atStart => exact ⟨0, by omega, Below.refl _ _, rfl, fun d hd => absurd hd (by omega)⟩
  case round =>
    obtain ⟨h, hh, hb, rfl, hno⟩ := hrel
    have HNO := Lib.hid hno
    clear hno
    by_cases hh24 : h < 24
    · obtain ⟨wo, rfl⟩ : ∃ wo : World, wo = wr := ⟨_, rfl⟩
      by_cases h4 : s.size = 4
      · have g4 : ((s.size : Int) != 4) = false := by rw [h4]; rfl
        have g5 : (2 : Int) ≤ (s.size : Int) := by omega
        have g6 : 2 ≤ s.size := by omega
        have H4 := Lib.hid h4
        clear h4
        have e1 : ((h : Int)).toNat = h := by omega
        have c1 : ∀ W : World, Calls Tryz.prog 79 #[.int .i64 (h : Int)] W fun e w' => e = .returned (.string (twoA h)) ∧ Below W.heap.size W w' := fun W => by
          have h0 := rtwo_any (h : Int) W (by omega) (by omega)
          rw [e1] at h0; exact h0
        have C1 := Lib.hid c1
        clear c1 e1
        by_cases ht : (s.extract 0 2).data.toList = two h
        · have hq2 : ((s.extract 0 2).toList == (twoA h).toList) = true := by
            rw [ByteArray.toList_eq, ByteArray.toList_eq, ht, twoA_list]; simp
          have HT := Lib.hid ht
          clear ht
          go_wp2_with fail
          go_region_held3 (fun _ => True) (trivial) (first | (go_at_call 79; (with_reducible refine (C1.out _).mono ?_); rintro e w1 ⟨rfl, hb1⟩))
          have hb2 : Below w.heap.size w w1 := (hb.drew).trans (hb1.mono hb.size)
          clear hb1
          go_wp2
          go_loopw [5] (fun i wr => ∃ m : Nat, m ≤ 60 ∧ Below w.heap.size w wr ∧ i = .int .i64 m ∧ ∀ t, t < h * 60 + m → ctxt t ≠ s.data.toList) (fun i _ => 60 - (intOf i).toNat)
          case atStart => exact ⟨0, by omega, hb2, rfl, HNO.out⟩
          case round =>
            obtain ⟨m, hm, hbr, rfl, hno⟩ := hrel
            have HN2 := Lib.hid hno
            clear hno
            by_cases hm60 : m < 60
            · have e2 : ((m : Int)).toNat = m := by omega
              have c2 : ∀ W : World, Calls Tryz.prog 79 #[.int .i64 (m : Int)] W fun e w' => e = .returned (.string (twoA m)) ∧ Below W.heap.size W w' := fun W => by
                have h0 := rtwo_any (m : Int) W (by omega) (by omega)
                rw [e2] at h0; exact h0
              have C2 := Lib.hid c2
              clear c2 e2
              by_cases hd : (s.extract 2 s.size).data.toList = two m
              · have hq3 : ((s.extract 2 s.size).toList == (twoA m).toList) = true := by
                  rw [ByteArray.toList_eq, ByteArray.toList_eq, hd, twoA_list]; simp
                have hr : readC s.data.toList = some (h * 60 + m) := readC_some (by omega) (by rw [ctxt_at hm60]; exact (take_drop_eq rfl).2 ⟨by rw [← H2.out]; exact HT.out, by rw [← H1.out H4.out]; exact hd⟩)
                have HR := Lib.hid hr
                clear hr hd
                go_wp2_with fail
                go_region_held3 (fun _ => True) (trivial) (first | (go_at_call 79; (with_reducible refine (C2.out _).mono ?_); rintro e w2 ⟨rfl, hb1⟩))
                go_wp2
                go_ret2
                exact ⟨by rw [HR.out]; rfl, (hbr.drew).trans (hb1.mono hbr.size)⟩
              · have hq3 : ((s.extract 2 s.size).toList == (twoA m).toList) = false := by
                  rw [ByteArray.toList_eq, ByteArray.toList_eq, beq_eq_false_iff_ne, twoA_list]; exact hd
                have hr : ctxt (h * 60 + m) ≠ s.data.toList := by rw [ctxt_at hm60]; exact fun he => hd (by rw [H1.out H4.out]; exact ((take_drop_eq rfl).1 he).2)
                have HR := Lib.hid hr
                clear hr hd
                go_wp2_with fail
                go_region_held3 (fun _ => True) (trivial) (first | (go_at_call 79; (with_reducible refine (C2.out _).mono ?_); rintro e w2 ⟨rfl, hb1⟩))
                go_wp2
                go_roundw
                case rel => exact ⟨m + 1, by omega, (hbr.drew).trans (hb1.mono hbr.size), by go_num, fun t ht => by rcases Nat.lt_or_ge t (h * 60 + m) with hlo | hlo; exact HN2.out t hlo; rw [show t = h * 60 + m by omega]; exact HR.out⟩
                case measure => simp [intOf]; omega
            · go_wp2
              go_roundw
              case rel => exact ⟨h + 1, by omega, hbr, by go_num, fun t ht => HN2.out t (by omega)⟩
              case measure => simp [intOf]; omega
        · have hq2 : ((s.extract 0 2).toList == (twoA h).toList) = false := by
            rw [ByteArray.toList_eq, ByteArray.toList_eq, beq_eq_false_iff_ne, twoA_list]; exact ht
          have hs := skip_hour HNO.out (.inr (by rw [← H2.out]; exact ht))
          have HS := Lib.hid hs
          clear hs ht
          go_wp2_with fail
          go_region_held3 (fun _ => True) (trivial) (first | (go_at_call 79; (with_reducible refine (C1.out _).mono ?_); rintro e w1 ⟨rfl, hb1⟩))
          go_wp2
          go_roundw
          case rel => exact ⟨h + 1, by omega, (hb.drew).trans (hb1.mono hb.size), by go_num, HS.out⟩
          case measure => simp [intOf]; omega
      · have g4 : ((s.size : Int) != 4) = true := by rw [bne_iff_ne]; omega
        have hs := skip_hour HNO.out (.inl (by rw [HL.out]; exact h4))
        have HS := Lib.hid hs
        clear hs h4
        go_wp2_with fail
        go_quiet (fail)
        go_wp2
        go_roundw
        case rel => exact ⟨h + 1, by omega, below_drewN hb _, by go_num, HS.out⟩
        case measure => simp [intOf]; omega
    · have hr := readC_none (l := s.data.toList) (fun t ht => HNO.out t (by omega))
      have HR := Lib.hid hr
      clear hr
      go_wp2
      go_ret2
      exact ⟨by rw [HR.out]; rfl, hb⟩

end Go.Proofs.YtmhhbnnjilbdnaaGreatDoor.Da
namespace Go.Proofs.YtmhhbnnjilbdnaaGreatDoor.Pl
open Go.RowKit
set_option linter.unusedSimpArgs false
set_option linter.unusedVariables false

/-- The seat of a text. -/
def readL : List UInt8 → Option (Int × UInt8)
  | [a, c] => if isD a.toNat = true ∧ a.toNat ≠ 48 ∧ isL c.toNat = true then some ((a.toNat : Int) - 48, c) else none
  | [a, b, c] => if isD a.toNat = true ∧ a.toNat ≠ 48 ∧ isD b.toNat = true ∧ isL c.toNat = true then some (10 * ((a.toNat : Int) - 48) + ((b.toNat : Int) - 48), c) else none
  | _ => none

def seatC (r : Int) (c : UInt8) : List Value := [.int .i64 r, .int .u8 c.toNat]

def seatO (o : Option (Int × UInt8)) : List Value := match o with | some (r, c) => seatC r c | none => seatC 0 0

theorem info_seat : (Tryz.prog.info? 46).map (·.size) = some 2 := by kernel_rfl

theorem seatC_one {r : Int} {c : UInt8} : ∀ v ∈ seatC r c, v.oneCell' = true := by
  intro v hv
  simp [seatC] at hv
  rcases hv with rfl | rfl <;> rfl

/-- A seat and a yes or no come back. -/
theorem seat_back {fn : Func} {p q : Tmp} (hf : fn.results = #[.cell p 46, .tmp q]) {a : Act} {w w0 : World} {g : Nat} {T : TypeId} {r : Int} {c : UInt8} {o : Option (Int × UInt8)} {b : Bool}
    (hp : a.tmps.getD p undef = .pointer (some ⟨g, 0, none⟩)) (hq : a.tmps.getD q undef = .bool b) (hg : Blk w g T (seatC r c)) (hd : a.defers = []) (ho : seatO o = seatC r c) (hb : b = o.isSome) (hw : Below w0.heap.size w0 w) :
    bodyPost Tryz.prog fn (fun e w' => e = .returned (.tuple #[.agg (seatO o).toArray, .bool o.isSome]) ∧ Below w0.heap.size w0 w') .ret a w := by
  refine bodyPost_ret_by (results_row_tmp hf _ _ g T (seatC r c) _ hp hg Tryz.underlying46 rfl info_seat) hd ⟨?_, hw⟩
  rw [ho, hq, hb]

theorem dch_of {a : UInt8} {n : Nat} (h : (a.toNat : Int) - 48 = n % 10) : dch n = a := by
  apply UInt8.toNat_inj.1
  rw [dch_toNat]
  omega

theorem dig_of {c : UInt8} (h : isD c.toNat = true) : 48 ≤ (c.toNat : Int) ∧ (c.toNat : Int) ≤ 57 := by
  unfold isD at h
  exact of_decide_eq_true h

theorem dig_mk {c : UInt8} (h : 48 ≤ (c.toNat : Int) ∧ (c.toNat : Int) ≤ 57) : isD c.toNat = true := by
  unfold isD
  exact decide_eq_true h

theorem seatT_eq {r : Int} {c : UInt8} {n : Nat} (hn : r = n) (h1 : 1 ≤ n) (h2 : n ≤ 99) (hc : isL c.toNat = true) : (seatT r c).data.toList = two n ++ [c] := by
  subst hn
  unfold seatT
  rw [if_pos ⟨by omega, by omega, hc⟩]
  show ((digA n) ++ ⟨#[c]⟩ : ByteArray).data.toList = _
  have : ((digA n) ++ ⟨#[c]⟩ : ByteArray).data.toList = (digA n).data.toList ++ [c] := by simp
  rw [this, digA_list, digL_two (by omega)]

/-- A text that is a seat's is read as it. -/
theorem read_seatT {l : List UInt8} {n : Nat} {c : UInt8} (h1 : 1 ≤ n) (h2 : n ≤ 99) (hl : l ≠ []) (h : (seatT n c).data.toList = l) : readL l = some ((n : Int), c) := by
  cases hc : isL c.toNat
  · rw [seatT_no (by rw [hc]; simp)] at h
    exact absurd h.symm hl
  · rw [seatT_eq rfl h1 h2 hc] at h
    subst h
    unfold two
    by_cases h10 : n < 10
    · rw [if_pos h10]
      have e := dch_toNat n
      show (if _ then some (((dch n).toNat : Int) - 48, c) else none) = _
      rw [if_pos ⟨dig_mk (by omega), by omega, hc⟩]
      congr 2
      omega
    · rw [if_neg h10]
      have e := dch_toNat n
      have e' := dch_toNat (n / 10)
      show (if _ then some (10 * (((dch (n / 10)).toNat : Int) - 48) + (((dch n).toNat : Int) - 48), c) else none) = _
      rw [if_pos ⟨dig_mk (by omega), by omega, dig_mk (by omega), hc⟩]
      congr 2
      omega

/-- What is read is a seat's text. -/
theorem seatT_read {l : List UInt8} {r : Int} {c : UInt8} (h : readL l = some (r, c)) : ∃ n : Nat, r = n ∧ 1 ≤ n ∧ n ≤ 99 ∧ isL c.toNat = true ∧ c = l.getD (l.length - 1) 0 ∧ (seatT n c).data.toList = l ∧ (l.length = 2 ∨ l.length = 3) := by
  rcases l with _ | ⟨a, _ | ⟨b, _ | ⟨d, _ | ⟨e, t⟩⟩⟩⟩
  · cases h
  · cases h
  · simp only [readL] at h
    split at h
    · rename_i hh
      obtain ⟨g1, g2, g3⟩ := hh
      have := dig_of g1
      injection h with h
      injection h with hr hcc
      subst hcc
      refine ⟨a.toNat - 48, by omega, by omega, by omega, g3, rfl, ?_, .inl rfl⟩
      rw [seatT_eq rfl (by omega) (by omega) g3]
      unfold two
      rw [if_pos (by omega), dch_of (a := a) (by omega)]
      rfl
    · cases h
  · simp only [readL] at h
    split at h
    · rename_i hh
      obtain ⟨g1, g2, g3, g4⟩ := hh
      have := dig_of g1
      have := dig_of g3
      injection h with h
      injection h with hr hcc
      subst hcc
      refine ⟨10 * (a.toNat - 48) + (b.toNat - 48), by omega, by omega, by omega, g4, rfl, ?_, .inr rfl⟩
      rw [seatT_eq rfl (by omega) (by omega) g4]
      unfold two
      rw [if_neg (by omega), dch_of (a := a) (by omega), dch_of (a := b) (by omega)]
      rfl
    · cases h
  · cases h

theorem read_short {l : List UInt8} (h : l.length < 2 ∨ 3 < l.length) : readL l = none := by
  cases hr : readL l with
  | none => rfl
  | some p =>
    obtain ⟨r, c⟩ := p
    obtain ⟨_, _, _, _, _, _, _, h2⟩ := seatT_read hr
    omega

theorem read_miss {l : List UInt8} (h : ∀ n : Nat, 1 ≤ n → n < 100 → (seatT n (l.getD (l.length - 1) 0)).data.toList ≠ l) : readL l = none := by
  cases hr : readL l with
  | none => rfl
  | some p =>
    obtain ⟨r, c⟩ := p
    obtain ⟨n, _, h1, h2, _, hc, h3, _⟩ := seatT_read hr
    rw [← hc] at h
    exact absurd h3 (h n h1 (by omega))

theorem str_eq_list {a b : ByteArray} (h : a.data.toList = b.data.toList) : a = b := by
  obtain ⟨⟨a⟩⟩ := a
  obtain ⟨⟨b⟩⟩ := b
  simp at h
  rw [h]

set_option maxRecDepth 20000 in
set_option maxHeartbeats 4000000 in
theorem refRead_any (s : ByteArray) (w : World) (hs : s.size ≤ maxLen) :
    Calls Tryz.prog 60 #[.string s] w fun e w' => e = .returned (.tuple #[.agg (seatO (readL s.data.toList)).toArray, .bool (readL s.data.toList).isSome]) ∧ Below w.heap.size w w' := by
  have hsm : s.size ≤ 9223372036854775807 := hs
  have HB0 : RowKit.Hid (Blk (w.alloc (.cells #[.int .i64 0, .int .u8 0] 46)) w.heap.size 46 (seatC 0 0)) := Lib.hid (Blk.new w 46 (seatC 0 0))
  have HW0 : RowKit.Hid (Below w.heap.size w (w.alloc (.cells #[.int .i64 0, .int .u8 0] 46))) := Lib.hid ((Below.refl _ _).alloc (Nat.le_refl _) _)
  have hhs : (w.alloc (.cells #[.int .i64 0, .int .u8 0] 46)).heap.size = w.heap.size + 1 := by simp
  obtain ⟨w1, e1⟩ : ∃ w1, w.alloc (.cells #[.int .i64 0, .int .u8 0] 46) = w1 := ⟨_, rfl⟩
  rw [e1] at HB0 HW0 hhs
  by_cases hsh : s.size < 2 ∨ 3 < s.size
  · have HF := Lib.hid (read_short (l := s.data.toList) (by simpa using hsh))
    rcases hsh with hsh | hsh
    all_goals
      go_enter Tryz.func60, Tryz.ntmps60
      go_wp2_with (first
        | (refine wpList_store_blk rfl 46 (.tmp 2) (.tmp 14) rfl w.heap.size 46 (seatC 0 0) (seatC 0 0) rfl rfl HB0.out rfl info_seat seatC_one ?_; intro w9 ha9 hb9 _))
      exact seat_back rfl rfl rfl ha9 rfl (by rw [HF.out]; rfl) (by rw [HF.out]; rfl) (HW0.out.trans hb9)
  · obtain ⟨q, hq⟩ : ∃ q, s.size = q + 1 := ⟨s.size - 1, by omega⟩
    have hqs : q < s.size := by omega
    have hgl := get_list s q hqs
    have hq1 : 1 ≤ q := by omega
    have hq2 : q ≤ 2 := by omega
    have hlen : s.data.toList.length = s.size := by simp
    have HMISS : RowKit.Hid ((∀ n : Nat, 1 ≤ n → n < 100 → (seatT n (s.data.toList.getD q 0)).data.toList ≠ s.data.toList) → readL s.data.toList = none) := Lib.hid fun h => read_miss (by rw [show s.data.toList.length - 1 = q by omega]; exact h)
    have HHIT : RowKit.Hid (∀ n : Nat, 1 ≤ n → n ≤ 99 → seatT n (s.data.toList.getD q 0) = s → readL s.data.toList = some ((n : Int), s.data.toList.getD q 0)) := Lib.hid fun n h1 h2 h => read_seatT h1 h2 (by intro e; rw [e] at hlen; simp at hlen; omega) (by rw [h])
    clear hlen hsh
    generalize s.data.toList.getD q 0 = x at *
    go_enter Tryz.func60, Tryz.ntmps60
    go_wp2
    go_loopg [4] 100 (fun g i wr => ∃ k : Nat, 1 ≤ k ∧ k ≤ 100 ∧ g = 101 - k ∧ i = .int .i64 k ∧ Below w1.heap.size w1 wr ∧ ∀ n : Nat, 1 ≤ n → n < k → (seatT n x).data.toList ≠ s.data.toList)
    case atStart => exact ⟨1, by omega, by omega, rfl, rfl, Below.refl _ _, fun n h1 h2 => absurd h2 (by omega)⟩
    case round =>
      obtain ⟨k, hk1, hk2, rfl, rfl, hb, hmiss⟩ := hrel
      have HM := Lib.hid hmiss
      clear hmiss
      by_cases hlt : k < 100
      · have hki : (k : Int) ≤ 99 := by omega
        have HT : RowKit.Hid (∀ W, Calls Tryz.prog 54 #[.agg (seatC k x).toArray] W fun e w' => e = .returned (.string (seatT k x)) ∧ Below W.heap.size W w') := Lib.hid fun W => refText_any k x W
        by_cases heq : seatT k x = s
        · have HF := Lib.hid (HHIT.out k hk1 (by omega) heq)
          rw [heq] at HT
          go_wp2_with (first
            | (refine wpList_store_blk rfl 46 (.tmp 5) (.tmp 25) rfl wr.heap.size 46 (seatC 0 0) (seatC k x) rfl rfl (Blk.new wr 46 (seatC 0 0)) rfl info_seat seatC_one ?_; intro w8 ha8 hb8 _; have hb18 := hb.trans ((((Below.refl _ _).alloc (Nat.le_refl _) _).trans hb8).mono hb.size))
            | (refine wpList_load_mid rfl 46 (.tmp 5) rfl wr.heap.size 0 rfl (seatC k x) _ ha8.range Tryz.underlying46 rfl info_seat ?_)
            | (go_at_call 54; (with_reducible refine (HT.out _).mono ?_); rintro e w3 ⟨rfl, hb3⟩; have ha3 := ha8.mono hb3; have hb13 := bel_trans hb18 hb3; have HB3 := HB0.out.mono hb13)
            | (refine wpList_load_mid rfl 46 (.tmp 5) rfl wr.heap.size 0 rfl (seatC k x) _ ha3.range Tryz.underlying46 rfl info_seat ?_)
            | (refine wpList_store_blk rfl 46 (.tmp 2) (.tmp 30) rfl w.heap.size 46 (seatC 0 0) (seatC k x) rfl rfl HB3 rfl info_seat seatC_one ?_; intro w9 ha9 hb9 _))
          exact seat_back rfl rfl rfl ha9 rfl (by rw [HF.out]; rfl) (by rw [HF.out]; rfl) ((bel_trans HW0.out hb13).trans hb9)
        · have hqb : ((seatT k x).toList == s.toList) = false := by rw [beq_eq_false_iff_ne]; exact fun h => heq (toList_inj h)
          have HN : RowKit.Hid (∀ n : Nat, 1 ≤ n → n < k + 1 → (seatT n x).data.toList ≠ s.data.toList) := Lib.hid fun n h1 h2 => by
            rcases Nat.lt_or_ge n k with h | h
            · exact HM.out n h1 h
            · rw [show n = k by omega]; exact fun e => heq (str_eq_list e)
          clear heq
          generalize seatT k x = T at *
          go_wp2_with (first
            | (refine wpList_store_blk rfl 46 (.tmp 5) (.tmp 25) rfl wr.heap.size 46 (seatC 0 0) (seatC k x) rfl rfl (Blk.new wr 46 (seatC 0 0)) rfl info_seat seatC_one ?_; intro w8 ha8 hb8 _; have hb18 := hb.trans ((((Below.refl _ _).alloc (Nat.le_refl _) _).trans hb8).mono hb.size))
            | (refine wpList_load_mid rfl 46 (.tmp 5) rfl wr.heap.size 0 rfl (seatC k x) _ ha8.range Tryz.underlying46 rfl info_seat ?_)
            | (go_at_call 54; (with_reducible refine (HT.out _).mono ?_); rintro e w3 ⟨rfl, hb3⟩; have ha3 := ha8.mono hb3; have hb13 := bel_trans hb18 hb3; have HB3 := HB0.out.mono hb13))
          go_roundg (101 - (k + 1))
          case measure => omega
          case rel => exact ⟨k + 1, by omega, by omega, rfl, by go_num, hb13, HN.out⟩
      · have hke : k = 100 := by omega
        subst hke
        have HF := Lib.hid (HMISS.out HM.out)
        have HBr := Lib.hid (HB0.out.mono hb)
        go_wp2_with (first
          | (refine wpList_store_blk rfl 46 (.tmp 2) (.tmp 31) rfl w.heap.size 46 (seatC 0 0) (seatC 0 0) rfl rfl HBr.out rfl info_seat seatC_one ?_; intro w9 ha9 hb9 _))
        exact seat_back rfl rfl rfl ha9 rfl (by rw [HF.out]; rfl) (by rw [HF.out]; rfl) ((bel_trans HW0.out hb).trans hb9)

end Go.Proofs.YtmhhbnnjilbdnaaGreatDoor.Pl
