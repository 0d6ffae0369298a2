/- The lines of a PNR are read back: words, numbers, a line's item, and what the items come to (plain). -/
import Derived.Test.YtmhhbnnjilbdnaaGreatDoorUA
import Derived.Test.YtmhhbnnjilbdnaaGreatDoorLG
namespace Go.Proofs.YtmhhbnnjilbdnaaGreatDoor.Sh
open Go.RowKit En
set_option linter.unusedSimpArgs false
set_option linter.unusedVariables false
set_option maxRecDepth 20000

/- Words. -/
def wGo : List UInt8 → List UInt8 → List (List UInt8)
  | w, [] => [w]
  | w, c :: t => if c = 32 then w :: wGo [] t else wGo (w ++ [c]) t
def wordsL (l : List UInt8) : List (List UInt8) := wGo [] l
theorem wGo_sep : ∀ {x : List UInt8} {w y : List UInt8}, (∀ c ∈ x, c ≠ 32) → wGo w (x ++ 32 :: y) = (w ++ x) :: wGo [] y
  | [], w, y, _ => by simp [wGo]
  | a :: x, w, y, h => by
    have ha : a ≠ 32 := h a (by simp)
    rw [List.cons_append, wGo, if_neg ha, wGo_sep (fun c hc => h c (by simp [hc])), List.append_assoc]
    rfl
theorem wGo_end : ∀ {x : List UInt8} {w : List UInt8}, (∀ c ∈ x, c ≠ 32) → wGo w x = [w ++ x]
  | [], w, _ => by simp [wGo]
  | a :: x, w, h => by
    have ha : a ≠ 32 := h a (by simp)
    rw [wGo, if_neg ha, wGo_end (fun c hc => h c (by simp [hc])), List.append_assoc]
    rfl
theorem words_sep {x y : List UInt8} (h : ∀ c ∈ x, c ≠ 32) : wordsL (x ++ 32 :: y) = x :: wordsL y := by
  unfold wordsL
  rw [wGo_sep h, List.nil_append]
theorem words_end {x : List UInt8} (h : ∀ c ∈ x, c ≠ 32) : wordsL x = [x] := by
  unfold wordsL
  rw [wGo_end h, List.nil_append]
theorem wGo_take (w l : List UInt8) : ∀ k, k < l.length → True := fun _ _ => trivial

/- Numbers: of nine digits at most. -/
def numGo (n : Int) (l : List UInt8) : Int := l.foldl (fun n c => n * 10 + (c.toNat : Int) - 48) n
def numL (l : List UInt8) : Int := numGo 0 (l.take 9)
theorem numGo_snoc (n : Int) (l : List UInt8) (c : UInt8) : numGo n (l ++ [c]) = numGo n l * 10 + (c.toNat : Int) - 48 := by
  unfold numGo
  rw [List.foldl_append]
  rfl
theorem numGo_dig : ∀ n : Nat, numGo 0 (digL n) = n := by
  intro n
  induction n using Nat.strongRecOn with
  | _ n ih =>
    by_cases h : n < 10
    · rw [digL_lt h]
      show (0 : Int) * 10 + ((dch n).toNat : Int) - 48 = n
      rw [dch_toNat]
      omega
    · rw [digL_ge h, numGo_snoc, ih (n / 10) (by omega), dch_toNat]
      omega
theorem numL_itoa {n : Int} (h0 : 0 ≤ n) (h : n < 10000) : numL (itoaL n) = n := by
  have hl := itoa_le4 h0 h
  unfold numL
  rw [List.take_of_length_le (by omega)]
  unfold itoaL
  rw [if_neg (by omega), numGo_dig]
  omega

/- What lines tell. -/
inductive It where
  | nm (i : Nat) (x : NameT)
  | sg (i : Nat) (x : SegT)
  | ph (i : Nat) (s : ByteArray)
  | tk (p : PnrT)
  | rc (s : ByteArray)
  | rm (i : Nat) (s : ByteArray)
  | st (x : PlaceT)
def lnI : It → List UInt8
  | .nm i x => nameLn i x
  | .sg i x => segLn i x
  | .ph i s => textLn 80 i s
  | .tk p => tickLn p
  | .rc s => 82 :: 32 :: toL s
  | .rm i s => textLn 77 i s
  | .st x => seatLn x
def okI : It → Prop
  | .nm i x => i < 9 ∧ nameOk x
  | .sg i x => i < 9 ∧ segOk x
  | .ph i s => i < 99 ∧ freeP s
  | .tk p => tickOk p.tk p.td p.tm p.queued
  | .rc s => freeP s
  | .rm i s => i < 99 ∧ freeP s
  | .st x => (1 ≤ x.seg ∧ x.seg < 10000) ∧ (1 ≤ x.pax ∧ x.pax < 10000) ∧ 1 ≤ x.row ∧ x.row ≤ 99 ∧ bL x.c = true
def putT (p q : PnrT) : PnrT := if q.tk = 1 then { p with tk := 1, td := q.td, tm := q.tm, queued := q.queued } else if q.tk = 2 then { p with tk := 2 } else p
def putI (p : PnrT) : It → PnrT
  | .nm _ x => { p with names := p.names ++ [x] }
  | .sg _ x => { p with segs := p.segs ++ [x] }
  | .ph _ s => { p with phones := p.phones ++ [s] }
  | .tk q => putT p q
  | .rc s => { p with recv := s }
  | .rm _ s => { p with remarks := p.remarks ++ [s] }
  | .st x => { p with seats := p.seats ++ [x] }
def recI (s : ByteArray) : List It := if toL s = [] then [] else [.rc s]
def items (p : PnrT) : List It :=
  p.names.mapIdx .nm ++ (p.segs.mapIdx .sg ++ (p.phones.mapIdx .ph ++ ([.tk p] ++ (recI p.recv ++ (p.remarks.mapIdx .rm ++ p.seats.map .st)))))

theorem map_idx {α β γ : Type} (f : Nat → α → β) (g : β → γ) (l : List α) : (l.mapIdx f).map g = l.mapIdx fun i x => g (f i x) := by
  apply List.ext_getElem
  · simp
  · intro i h1 h2
    simp
theorem idx_map {α β : Type} (f : α → β) (l : List α) : (l.mapIdx fun _ => f) = l.map f := by
  apply List.ext_getElem
  · simp
  · intro i h1 h2
    simp

theorem items_lines (p : PnrT) : (items p).map lnI = tailP p := by
  have hr : (recI p.recv).map lnI = recvLn p.recv := by
    unfold recI recvLn
    split <;> rfl
  unfold items tailP
  simp only [List.map_append, map_idx, List.map_map, hr, List.map_cons, List.map_nil]
  rfl

theorem liveAt_le {l : List SegT} {n : Int} (h : liveAt l n) : 1 ≤ n ∧ n ≤ l.length := by
  obtain ⟨h1, s, h2, _⟩ := h
  have := (List.getElem?_eq_some_iff.1 h2).1
  omega

theorem items_ok {p : PnrT} (h : SoundP p) : ∀ it ∈ items p, okI it := by
  have hm : ∀ {α : Type} {f : Nat → α → It} {l : List α} {n : Nat}, l.length ≤ n → (∀ i x, i < n → x ∈ l → okI (f i x)) → ∀ x ∈ l.mapIdx f, okI x := fun {α f l n} hl hf x hx => by
    rw [List.mem_mapIdx] at hx
    obtain ⟨i, hi, rfl⟩ := hx
    exact hf i _ (by omega) (List.getElem_mem hi)
  unfold items
  refine all_app (hm h.names.1 fun i x hi hx => ⟨hi, h.names.2 x hx⟩) (all_app (hm h.segs.1 fun i x hi hx => ⟨by omega, h.segs.2.1 x hx⟩) (all_app (hm h.phones.1 fun i x hi hx => ⟨by omega, h.phones.2 x hx⟩) (all_app (fun x hx => ?_) (all_app (fun x hx => ?_) (all_app (hm h.remarks.1 fun i x hi hx => ⟨by omega, h.remarks.2 x hx⟩) (fun x hx => ?_))))))
  · rw [List.mem_singleton.1 hx]; exact h.tick
  · unfold recI at hx
    split at hx
    · cases hx
    · next hn => rw [List.mem_singleton.1 hx]; exact h.recv.resolve_left hn
  · obtain ⟨y, hy, rfl⟩ := List.mem_map.1 hx
    obtain ⟨i, hi⟩ := List.getElem?_of_mem hy
    have k := (h.seats.1 i y hi).1
    have k1 := liveAt_le k.1
    have k2 := k.2.1
    have h1 := h.segs.1
    have h2 := h.names.1
    exact ⟨by omega, by omega, k.2.2⟩

def baseP (loc off : ByteArray) : PnrT := ⟨loc, off, [], [], [], 0, 0, 0, ⟨#[]⟩, [], [], false⟩
theorem fold_idx {α : Type} (f : Nat → α → It) (g : PnrT → List α → PnrT) (h : ∀ p l i x, putI (g p l) (f i x) = g p (l ++ [x])) (p : PnrT) : ∀ (l : List α) , ∀ (m : List α) (k : Nat), (l.mapIdx fun i => f (k + i)).foldl putI (g p m) = g p (m ++ l)
  | [], m, k => by simp
  | x :: l, m, k => by
    rw [List.mapIdx_cons, List.foldl_cons, h]
    have e : (l.mapIdx fun i => f (k + (i + 1))) = l.mapIdx fun i => f (k + 1 + i) := by
      congr 1
      funext i
      rw [show k + (i + 1) = k + 1 + i by omega]
    rw [e, fold_idx f g h p l (m ++ [x]) (k + 1), List.append_assoc]
    rfl
theorem fold_idx0 {α : Type} (f : Nat → α → It) (g : PnrT → List α → PnrT) (h : ∀ p l i x, putI (g p l) (f i x) = g p (l ++ [x])) (p : PnrT) (l : List α) : (l.mapIdx f).foldl putI (g p []) = g p l := by
  have := fold_idx f g h p l [] 0
  simpa using this
theorem fold_map {α : Type} (f : α → It) (g : PnrT → List α → PnrT) (h : ∀ p l x, putI (g p l) (f x) = g p (l ++ [x])) (p : PnrT) (l : List α) : (l.map f).foldl putI (g p []) = g p l := by
  have := fold_idx0 (fun _ => f) g (fun p l i x => h p l x) p l
  rwa [idx_map] at this

theorem items_fold {p : PnrT} (h : SoundP p) : (items p).foldl putI (baseP p.loc p.off) = p := by
  unfold items
  rw [List.foldl_append, List.foldl_append, List.foldl_append, List.foldl_append, List.foldl_append, List.foldl_append]
  rw [show baseP p.loc p.off = { baseP p.loc p.off with names := [] } from rfl, fold_idx0 .nm (fun p l => { p with names := l }) (fun _ _ _ _ => rfl)]
  rw [show ({ baseP p.loc p.off with names := p.names } : PnrT) = { { baseP p.loc p.off with names := p.names } with segs := [] } from rfl, fold_idx0 .sg (fun p l => { p with segs := l }) (fun _ _ _ _ => rfl)]
  rw [show ({ baseP p.loc p.off with names := p.names, segs := p.segs } : PnrT) = { { baseP p.loc p.off with names := p.names, segs := p.segs } with phones := [] } from rfl, fold_idx0 .ph (fun p l => { p with phones := l }) (fun _ _ _ _ => rfl)]
  have ht : [It.tk p].foldl putI ({ baseP p.loc p.off with names := p.names, segs := p.segs, phones := p.phones } : PnrT) = { baseP p.loc p.off with names := p.names, segs := p.segs, phones := p.phones, tk := p.tk, td := p.td, tm := p.tm, queued := p.queued } := by
    show putT _ p = _
    unfold putT
    rcases h.tick with ⟨a1, a2, a3⟩ | ⟨a1, a2, a3, a4 | a4⟩
    · rw [if_pos a1, a1]
    · rw [if_neg (by rw [a4]; decide), if_pos a4, a1, a2, a3, a4]; rfl
    · rw [if_neg (by rw [a4]; decide), if_neg (by rw [a4]; decide), a1, a2, a3, a4]; rfl
  rw [ht]
  have hr : (recI p.recv).foldl putI ({ baseP p.loc p.off with names := p.names, segs := p.segs, phones := p.phones, tk := p.tk, td := p.td, tm := p.tm, queued := p.queued } : PnrT) = { p with remarks := [], seats := [] } := by
    unfold recI
    split
    · next hn =>
      have e : p.recv = ⟨#[]⟩ := toL_inj hn
      simp only [List.foldl_nil]
      rw [show ({ p with remarks := [], seats := [] } : PnrT) = { p with recv := ⟨#[]⟩, remarks := [], seats := [] } by rw [← e]]
      rfl
    · rfl
  rw [hr]
  rw [fold_idx0 .rm (fun q l => { q with remarks := l }) (fun _ _ _ _ => rfl) ({ p with remarks := [], seats := [] } : PnrT)]
  exact fold_map .st (fun q l => { q with seats := l }) (fun _ _ _ => rfl) p p.seats

/- The first line. -/
theorem letters_n32 {l : List UInt8} {a b : Int} (h : lettersS l a b = true) : ∀ c ∈ l, c ≠ 32 := fun c hc => ne32 (by have := letters_all h c hc; omega)
theorem head_words {p : PnrT} (h : SoundP p) : wordsL (headLn p) = [[80, 78, 82], orL p.loc [78, 69, 87], orL p.off [45]] := by
  unfold headLn
  rw [show ([80, 78, 82, 32] : List UInt8) ++ (orL p.loc [78, 69, 87] ++ (32 :: orL p.off [45])) = [80, 78, 82] ++ 32 :: (orL p.loc [78, 69, 87] ++ (32 :: orL p.off [45])) from rfl]
  rw [words_sep (by decide), words_sep (or_no (by decide) h.loc), words_end (or_no (by decide) h.off)]
theorem head_len {p : PnrT} : 5 ≤ (headLn p).length := by
  unfold headLn
  simp only [List.length_append, List.length_cons, List.length_nil]
  omega
theorem loc_back {s : ByteArray} (h : toL s = [] ∨ lettersS (toL s) 6 6 = true) : (orL s [78, 69, 87] = [78, 69, 87] ∧ s = ⟨#[]⟩) ∨ (orL s [78, 69, 87] = toL s ∧ toL s ≠ [78, 69, 87]) := by
  unfold orL
  by_cases e : toL s = []
  · exact .inl ⟨if_pos e, toL_inj e⟩
  · refine .inr ⟨if_neg e, fun k => ?_⟩
    have := letters_le (h.resolve_left e)
    rw [k] at this
    simp at this
theorem off_back {s : ByteArray} (h : toL s = [] ∨ lettersS (toL s) 3 3 = true) : (orL s [45] = [45] ∧ s = ⟨#[]⟩) ∨ (orL s [45] = toL s ∧ toL s ≠ [45]) := by
  unfold orL
  by_cases e : toL s = []
  · exact .inl ⟨if_pos e, toL_inj e⟩
  · refine .inr ⟨if_neg e, fun k => ?_⟩
    have := letters_le (h.resolve_left e)
    rw [k] at this
    simp at this

/- The words of the other lines. -/
def stL (b : Bool) : List UInt8 := if b then [72, 75] else [88, 88]
theorem itoa_n32 (n : Int) : ∀ c ∈ itoaL n, c ≠ 32 := itoa_no 32 (by decide)
theorem day_n32 {a : Int} (ha : 0 ≤ a ∧ a < 366) : ∀ c ∈ dTx a, c ≠ 32 := by
  have k : ∀ d, d < 366 → (Da.dtxt d).all (fun c => decide (33 ≤ c.toNat ∧ c.toNat ≤ 126)) = true := by decide +kernel
  intro c hc
  unfold dTx at hc
  rw [if_pos ha] at hc
  have := of_decide_eq_true (List.all_eq_true.1 (k a.toNat (by omega)) c hc)
  exact ne32 this.1
theorem car_n32 {s : ByteArray} (h : carrierS (toL s) = true) : ∀ c ∈ toL s, c ≠ 32 := by
  generalize toL s = l at *
  unfold carrierS at h
  split at h
  · next a b =>
    simp only [Bool.or_eq_true, Bool.and_eq_true] at h
    have ha : a ≠ 32 := by
      rcases h with ⟨h, _⟩ | ⟨h, _⟩
      · have := bL_ok h; exact ne32 (by omega)
      · have := bD_ok h; exact ne32 (by omega)
    have hb : b ≠ 32 := by
      rcases h with ⟨_, h | h⟩ | ⟨_, h⟩
      · have := bL_ok h; exact ne32 (by omega)
      · have := bD_ok h; exact ne32 (by omega)
      · have := bL_ok h; exact ne32 (by omega)
    intro c hc
    simp at hc
    rcases hc with rfl | rfl
    · exact ha
    · exact hb
  · cases h
theorem cons_n32 {c : UInt8} {l : List UInt8} (hc : c ≠ 32) (h : ∀ d ∈ l, d ≠ 32) : ∀ d ∈ c :: l, d ≠ 32 := fun d hd => by
  rcases List.mem_cons.1 hd with rfl | k
  · exact hc
  · exact h d k
theorem app_n32 {a l : List UInt8} (hc : ∀ d ∈ a, d ≠ 32) (h : ∀ d ∈ l, d ≠ 32) : ∀ d ∈ a ++ l, d ≠ 32 := all_app hc h

theorem seg_words {i : Nat} {x : SegT} (h : segOk x) : wordsL (segLn i x) = [83 :: itoaL ((i : Int) + 1), toL x.car ++ itoaL x.num, [x.cls], dTx x.day, stL x.live] := by
  have hc := bL_ok h.2.2.2
  unfold segLn flTx
  rw [if_neg (show ¬ x.num < 1 by have := h.2.1.1; omega)]
  rw [show 83 :: (itoaL ((i : Int) + 1) ++ (32 :: (toL x.car ++ itoaL x.num ++ (32 :: x.cls :: 32 :: (dTx x.day ++ (if x.live then [32, 72, 75] else [32, 88, 88]))))))
    = (83 :: itoaL ((i : Int) + 1)) ++ 32 :: ((toL x.car ++ itoaL x.num) ++ 32 :: ([x.cls] ++ 32 :: (dTx x.day ++ (32 :: stL x.live)))) by unfold stL; cases x.live <;> simp]
  rw [words_sep (cons_n32 (by decide) (itoa_n32 _)), words_sep (app_n32 (car_n32 h.1) (itoa_n32 _)), words_sep (cons_n32 (ne32 (by omega)) (fun d hd => by cases hd)), words_sep (day_n32 h.2.2.1), words_end (by unfold stL; cases x.live <;> decide)]

theorem seat_words {x : PlaceT} (h : 1 ≤ x.row ∧ x.row ≤ 99 ∧ bL x.c = true) : wordsL (seatLn x) = [[65], 83 :: itoaL x.seg, 80 :: itoaL x.pax, toL (seatT x.row x.c)] := by
  have hc := bL_ok h.2.2
  have e : ∀ c ∈ toL (seatT x.row x.c), c ≠ 32 := by
    rw [seatT_toL h]
    exact app_n32 (fun c hc => ne32 (by have := dig_all _ _ hc; omega)) (cons_n32 (ne32 (by omega)) (fun d hd => by cases hd))
  unfold seatLn
  rw [show 65 :: 32 :: 83 :: (itoaL x.seg ++ (32 :: 80 :: (itoaL x.pax ++ (32 :: toL (seatT x.row x.c))))) = [65] ++ 32 :: ((83 :: itoaL x.seg) ++ 32 :: ((80 :: itoaL x.pax) ++ 32 :: toL (seatT x.row x.c))) by simp]
  rw [words_sep (by decide), words_sep (cons_n32 (by decide) (itoa_n32 _)), words_sep (cons_n32 (by decide) (itoa_n32 _)), words_end e]

theorem text_words {c : UInt8} {i : Nat} {s : ByteArray} (hc : c ≠ 32) : wordsL (textLn c i s) = (c :: itoaL ((i : Int) + 1)) :: wordsL (toL s) := by
  unfold textLn
  exact words_sep (x := c :: itoaL ((i : Int) + 1)) (cons_n32 hc (itoa_n32 _))
theorem recv_words {s : ByteArray} : wordsL (82 :: 32 :: toL s) = [82] :: wordsL (toL s) := words_sep (x := [82]) (by decide)
theorem name_words {i : Nat} {x : NameT} (h : nameOk x) : wordsL (nameLn i x) = [nameLn i x] :=
  words_end (app_n32 (itoa_n32 _) (cons_n32 (by decide) (app_n32 (letters_n32 h.1) (cons_n32 (by decide) (letters_n32 h.2)))))
theorem clk_n32 {a : Int} (ha : 0 ≤ a ∧ a < 1440) : ∀ c ∈ cTx a, c ≠ 32 := fun c hc => ne32 (clk_33 ha c hc).1
theorem limit_words {p : PnrT} (h1 : p.tk = 1) (h2 : 0 ≤ p.td ∧ p.td < 366) (h3 : 0 ≤ p.tm ∧ p.tm < 1440) : wordsL (tickLn p) = [84] :: [76, 73, 77, 73, 84] :: (dTx p.td ++ 47 :: cTx p.tm) :: (if p.queued then [[81, 85, 69, 85, 69, 68]] else []) := by
  have e : ∀ c ∈ dTx p.td ++ 47 :: cTx p.tm, c ≠ 32 := app_n32 (day_n32 h2) (cons_n32 (by decide) (clk_n32 h3))
  unfold tickLn
  rw [if_neg (by rw [h1]; decide), if_neg (by rw [h1]; decide), if_pos h1]
  cases p.queued
  · rw [show ([84, 32, 76, 73, 77, 73, 84, 32] : List UInt8) ++ (dTx p.td ++ (47 :: (cTx p.tm ++ (if false = true then [32, 81, 85, 69, 85, 69, 68] else [])))) = [84] ++ 32 :: ([76, 73, 77, 73, 84] ++ 32 :: (dTx p.td ++ 47 :: cTx p.tm)) by simp]
    rw [words_sep (by decide), words_sep (by decide), words_end e]
    rfl
  · rw [show ([84, 32, 76, 73, 77, 73, 84, 32] : List UInt8) ++ (dTx p.td ++ (47 :: (cTx p.tm ++ (if true = true then [32, 81, 85, 69, 85, 69, 68] else [])))) = [84] ++ 32 :: ([76, 73, 77, 73, 84] ++ 32 :: ((dTx p.td ++ 47 :: cTx p.tm) ++ 32 :: [81, 85, 69, 85, 69, 68])) by simp]
    rw [words_sep (by decide), words_sep (by decide), words_sep e, words_end (by decide)]
    rfl
theorem done_words : wordsL [84, 32, 68, 79, 78, 69] = [[84], [68, 79, 78, 69]] := by decide
theorem none_words : wordsL [84, 32, 78, 79, 78, 69] = [[84], [78, 79, 78, 69]] := by decide
end Go.Proofs.YtmhhbnnjilbdnaaGreatDoor.Sh
