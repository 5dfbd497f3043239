/-
  Hosts: which may be, wants and hints, where they turn to, what they ask and send; and the document's.
-/
import Derived.Test.YtdicedlgaknkoaaEn
namespace Go.Proofs.Ytdicedlgaknkoaa
namespace Am
open Go Go.RowKit
set_option linter.unusedSimpArgs false
set_option linter.unusedVariables false

theorem ieq_s (a : Int) : ieq a a = true := ieq_t.2 rfl
theorem ideq_s (a : Id) : ideq a a = true := ideq_t.2 rfl
theorem seq_s (a : List UInt8) : seq a a = true := seq_t.2 rfl
theorem mem_getD {α : Type} {l : List α} {d : α} {i : Nat} (h : i < l.length) : l.getD i d ∈ l := by simp [h]
theorem map_getD {α β : Type} (g : α → β) (l : List α) (i : Nat) (d : α) (e : β) (h : i < l.length) : (l.map g).getD i e = g (l.getD i d) := by
  simp [h]
theorem dapp1 {α : Type} (xs ys : List α) : dapp xs ys = xs ++ ys := rfl
theorem fits1 {α : Type} (xs : List α) (b : Nat) (h : (xs.length + 1) * b ≤ 140737488355328) (h2 : xs.length + 1 ≤ 4611686018427387903) : fits (dlen xs) (1 : Int) b = true := by
  have := fits_of (xs := xs) (ys := [()]) (b := b) (by simpa using h) (by simpa using h2)
  exact this
theorem any_anyN {α : Type} (p : α → Bool) (d : α) (l : List α) : l.any p = anyN (fun i => p (l.getD i d)) l.length 0 := by
  rw [Bool.eq_iff_iff, anyN_iff, List.any_eq_true]
  constructor
  · rintro ⟨x, hx, h⟩
    obtain ⟨j, hj, rfl⟩ := List.getElem_of_mem hx
    exact ⟨j, by omega, by omega, by simpa [hj] using h⟩
  · rintro ⟨j, _, hj, h⟩
    exact ⟨l.getD j d, mem_getD (by omega), h⟩
theorem anyN_or (p q : Nat → Bool) (k i : Nat) : anyN (fun i => p i || q i) k i = (anyN p k i || anyN q k i) := by
  rw [Bool.eq_iff_iff, Bool.or_eq_true, anyN_iff, anyN_iff, anyN_iff]
  constructor
  · rintro ⟨j, h1, h2, h3⟩
    rcases Bool.or_eq_true _ _ ▸ h3 with h | h
    · exact .inl ⟨j, h1, h2, h⟩
    · exact .inr ⟨j, h1, h2, h⟩
  · rintro (⟨j, h1, h2, h3⟩ | ⟨j, h1, h2, h3⟩)
    · exact ⟨j, h1, h2, by simp [h3]⟩
    · exact ⟨j, h1, h2, by simp [h3]⟩
def plc {α : Type} (p : α → Bool) (l : List α) : Int := match l.findIdx? p with | some i => (i : Int) | none => -1
theorem plc_map {α β : Type} (f : α → β) (p : β → Bool) (l : List α) : plc p (l.map f) = plc (fun a => p (f a)) l := by
  unfold plc
  rw [List.findIdx?_map]
  rfl
theorem plc_any {α : Type} (p : α → Bool) (l : List α) : ile 0 (plc p l) = l.any p := idxAny p l
theorem plc_some {α : Type} {p : α → Bool} {l : List α} {j : Nat} (h : l.findIdx? p = some j) : plc p l = j ∧ j < l.length := by
  refine ⟨by unfold plc; rw [h], ?_⟩
  obtain ⟨hi, _⟩ := List.findIdx?_eq_some_iff_getElem.1 h
  exact hi
theorem plc_none {α : Type} {p : α → Bool} {l : List α} (h : l.findIdx? p = none) : plc p l = -1 := by unfold plc; rw [h]

abbrev Wn := Id × (Int × Unit)
abbrev Hn := Id × (Int × (Int × Unit))
abbrev Hs := Int × (Int × (List Wn × (List Hn × (List (List UInt8) × Unit))))
abbrev Kw := Id × (Wn × Unit)
abbrev Kh := Id × (Hn × Unit)
def noW : Wn := (Id.zero, 0, ())
def noH : Hn := (Id.zero, 0, 0, ())
def noKw : Kw := (Id.zero, noW, ())
def noKh : Kh := (Id.zero, noH, ())
theorem wget (l : List Wn) (i : Nat) : dget (Ty.id.pair ((Ty.int IntKind.i64).pair Ty.unit)) l (i : Int) = l.getD i noW := dget_eq (Ty.id.pair ((Ty.int IntKind.i64).pair Ty.unit)) l i
theorem hget (l : List Hn) (i : Nat) : dget (Ty.id.pair ((Ty.int IntKind.i64).pair ((Ty.int IntKind.i64).pair Ty.unit))) l (i : Int) = l.getD i noH := dget_eq (Ty.id.pair ((Ty.int IntKind.i64).pair ((Ty.int IntKind.i64).pair Ty.unit))) l i
theorem kwget (l : List Kw) (i : Nat) : dget (Ty.id.pair ((Ty.id.pair ((Ty.int IntKind.i64).pair Ty.unit)).pair Ty.unit)) l (i : Int) = l.getD i noKw := dget_eq (Ty.id.pair ((Ty.id.pair ((Ty.int IntKind.i64).pair Ty.unit)).pair Ty.unit)) l i
theorem khget (l : List Kh) (i : Nat) : dget (Ty.id.pair ((Ty.id.pair ((Ty.int IntKind.i64).pair ((Ty.int IntKind.i64).pair Ty.unit))).pair Ty.unit)) l (i : Int) = l.getD i noKh := dget_eq (Ty.id.pair ((Ty.id.pair ((Ty.int IntKind.i64).pair ((Ty.int IntKind.i64).pair Ty.unit))).pair Ty.unit)) l i
theorem strget (l : List (List UInt8)) (i : Nat) : dget Ty.str l (i : Int) = l.getD i [] := dget_eq Ty.str l i
def keyW (w : Wn) : Kw := (w.1, w, ())
def keyH (w : Hn) : Kh := (w.1, w, ())
theorem hostWants_eq (h : Hs) (hl : h.2.2.1.length ≤ 1000) : ohostWants ((h, ()), ()) = some ((h.2.2.1.map keyW, ()), ()) := by
  rw [ohostWants_eq, bhostWants]
  simp only [whostWantsx3_eq]
  generalize h.2.2.1 = l at *
  have hw := whl_up (g := rhostWantsx3) (fun k => (((l.take k).map keyW, l, dlen l, (k : Int), ()), (), ())) (.inl ((l.map keyW, ()), ())) l.length
    (by simp only [rhostWantsx3, bifF (ilt_len' (xs := l) (Nat.le_refl _)), List.take_length])
    (fun k hk => by
      simp only [rhostWantsx3, bifT (ilt_len hk), bifT ile_nat, wget, inc_nat (show k < 4611686018427387904 by omega)]
      rw [fits1 _ 72 (by rw [List.length_map, List.length_take]; omega) (by rw [List.length_map, List.length_take]; omega), take_getD (d := noW) hk, List.map_append]
      rfl) l.length 0 (by omega)
  have hw : whl rhostWantsx3 (([], l, dlen l, 0, ()), (), ()) = _ := hw
  rw [hw]; rfl
theorem hostHints_eq (h : Hs) (hl : h.2.2.2.1.length ≤ 1000) : ohostHints ((h, ()), ()) = some ((h.2.2.2.1.map keyH, ()), ()) := by
  rw [ohostHints_eq, bhostHints]
  simp only [whostHintsx3_eq]
  generalize h.2.2.2.1 = l at *
  have hw := whl_up (g := rhostHintsx3) (fun k => (((l.take k).map keyH, l, dlen l, (k : Int), ()), (), ())) (.inl ((l.map keyH, ()), ())) l.length
    (by simp only [rhostHintsx3, bifF (ilt_len' (xs := l) (Nat.le_refl _)), List.take_length])
    (fun k hk => by
      simp only [rhostHintsx3, bifT (ilt_len hk), bifT ile_nat, hget, inc_nat (show k < 4611686018427387904 by omega)]
      rw [fits1 _ 80 (by rw [List.length_map, List.length_take]; omega) (by rw [List.length_map, List.length_take]; omega), take_getD (d := noH) hk, List.map_append]
      rfl) l.length 0 (by omega)
  have hw : whl rhostHintsx3 (([], l, dlen l, 0, ()), (), ()) = _ := hw
  rw [hw]; rfl
theorem name_eq (i : Id) : o_hostKey_Name ((i, ()), ()) = some ((i, ()), ()) := by rw [o_hostKey_Name_eq, b_hostKey_Name]
def isKw (i : Id) (k : Kw) : Bool := decide (k.1 = i)
def isKh (i : Id) (k : Kh) : Bool := decide (k.1 = i)
def isW (i : Id) (k : Wn) : Bool := decide (k.1 = i)
def isH (i : Id) (k : Hn) : Bool := decide (k.1 = i)
theorem at1w_eq (k : Kw) (i : Id) : ohostAt_1b ((k, i, ()), ()) = some ((isKw i k, ()), ()) := by
  rw [ohostAt_1b_eq, bhostAt_1b]; simp only [name_eq, bS_some]; rfl
theorem at1h_eq (k : Kh) (i : Id) : ohostAt_1 ((k, i, ()), ()) = some ((isKh i k, ()), ()) := by
  rw [ohostAt_1_eq, bhostAt_1]; simp only [name_eq, bS_some]; rfl
theorem atW_eq (l : List Kw) (i : Id) (hl : l.length ≤ 1000) : ohostAtb ((l, i, ()), ()) = some ((plc (isKw i) l, ()), ()) := by
  rw [ohostAtb_eq, bhostAtb]
  simp only [oslicesIndexFuncf_eq, bslicesIndexFuncf, wslicesIndexFuncfx2_eq]
  have h := whl_goI (g := rslicesIndexFuncfx2) (fun k (_ : Unit) => ((l, ((), i, ()), dlen l, (k : Int), ()), ())) (fun k (_ : Unit) => if isKw i (l.getD k noKw) = true then .inr (.inr (.inl (((k : Int), ()), ()))) else .inl ()) (fun _ => .inl ((), ())) l.length
    (fun s => by simp only [rslicesIndexFuncfx2, bifF (ilt_len' (xs := l) (Nat.le_refl _))])
    (fun k s hk => by
      simp only [rslicesIndexFuncfx2, bifT (ilt_len hk), bifT ile_nat, kwget, at1w_eq, bS_some, inc_nat (show k < 4611686018427387904 by omega)]
      cases isKw i (l.getD k noKw) <;> simp) l.length 0 () (by omega)
  have h := h.trans (congrArg some (goI_find (d := noKw) (xs := l) (isKw i) (fun k => Sum.inr (Sum.inl (((k : Int), ()), ()))) (Sum.inl ((), ())) l.length 0 (by omega)))
  rw [show ((0 : Int) = ((0 : Nat) : Int)) from rfl, h]
  rw [List.drop_zero]
  unfold plc
  cases l.findIdx? (isKw i) with
  | none => rfl
  | some j => simp only [Nat.zero_add]; rfl
theorem atH_eq (l : List Kh) (i : Id) (hl : l.length ≤ 1000) : ohostAt ((l, i, ()), ()) = some ((plc (isKh i) l, ()), ()) := by
  rw [ohostAt_eq, bhostAt]
  simp only [oslicesIndexFuncd_eq, bslicesIndexFuncd, wslicesIndexFuncdx2_eq]
  have h := whl_goI (g := rslicesIndexFuncdx2) (fun k (_ : Unit) => ((l, ((), i, ()), dlen l, (k : Int), ()), ())) (fun k (_ : Unit) => if isKh i (l.getD k noKh) = true then .inr (.inr (.inl (((k : Int), ()), ()))) else .inl ()) (fun _ => .inl ((), ())) l.length
    (fun s => by simp only [rslicesIndexFuncdx2, bifF (ilt_len' (xs := l) (Nat.le_refl _))])
    (fun k s hk => by
      simp only [rslicesIndexFuncdx2, bifT (ilt_len hk), bifT ile_nat, khget, at1h_eq, bS_some, inc_nat (show k < 4611686018427387904 by omega)]
      cases isKh i (l.getD k noKh) <;> simp) l.length 0 () (by omega)
  have h := h.trans (congrArg some (goI_find (d := noKh) (xs := l) (isKh i) (fun k => Sum.inr (Sum.inl (((k : Int), ()), ()))) (Sum.inl ((), ())) l.length 0 (by omega)))
  rw [show ((0 : Int) = ((0 : Nat) : Int)) from rfl, h]
  rw [List.drop_zero]
  unfold plc
  cases l.findIdx? (isKh i) with
  | none => rfl
  | some j => simp only [Nat.zero_add]; rfl
theorem plcW (l : List Wn) (i : Id) : plc (isKw i) (l.map keyW) = plc (isW i) l := plc_map _ _ _
theorem plcH (l : List Hn) (i : Id) : plc (isKh i) (l.map keyH) = plc (isH i) l := plc_map _ _ _
/-- a want's identifier is another one's, ahead of it -/
def badW (l : List Wn) (i : Nat) : Bool := !decide (plc (isW (l.getD i noW).1) l = i)
def badH (l : List Hn) (i : Nat) : Bool := !decide (plc (isH (l.getD i noH).1) l = i)
theorem le8 {α : Type} (l : List α) : ile (dlen l) 8 = decide (l.length ≤ 8) := by rw [ile_eq, dlen_eq, Bool.eq_iff_iff]; simp only [decide_eq_true_iff]; omega
theorem unlikeW_eq (l : List Wn) (hl : l.length ≤ 1000) : ohostUnlike ((l.map keyW, ()), ()) = some ((!anyN (badW l) l.length 0 && decide (l.length ≤ 8), ()), ()) := by
  rw [ohostUnlike_eq, bhostUnlike]
  simp only [whostUnlikex2_eq]
  have hm : (l.map keyW).length = l.length := List.length_map ..
  have hd : dlen (l.map keyW) = (l.length : Int) := by rw [dlen_eq, hm]
  have h := whl_goI (g := rhostUnlikex2) (fun k (_ : Unit) => ((l.map keyW, l.map keyW, dlen (l.map keyW), (k : Int), ()), ())) (fun k (_ : Unit) => if badW l k = true then .inr (.inr (.inl ((false, ()), ()))) else .inl ()) (fun _ => .inl ((l.map keyW, ()), ())) l.length
    (fun s => by simp only [rhostUnlikex2, bifF (ilt_len' (xs := l.map keyW) (show (l.map keyW).length ≤ l.length by rw [hm]; exact Nat.le_refl _))])
    (fun k s hk => by
      have hg : (l.map keyW).getD k noKw = keyW (l.getD k noW) := map_getD _ _ _ _ _ hk
      simp only [rhostUnlikex2, ilt_len (show k < (l.map keyW).length by omega), ile_nat, cond_true, kwget, hg, name_eq, bS_some, inc_nat (show k < 4611686018427387904 by omega)]
      rw [show ((keyW (l.getD k noW)).fst, ()) = ((l.getD k noW).1, ()) from rfl, atW_eq _ _ (by omega), plcW]
      simp only [bS_some, ieq_d, bifNot]
      show (bif badW l k then _ else _) = _
      cases badW l k <;> simp) l.length 0 () (by omega)
  have h := h.trans (congrArg some (goI_any (badW l) _ _ l.length 0))
  rw [show ((0 : Int) = ((0 : Nat) : Int)) from rfl, h]
  cases anyN (badW l) l.length 0 with
  | true => rfl
  | false => simp only [Bool.false_eq_true, if_false, bL_inl, le8, hm]; rfl
theorem unlikeH_eq (l : List Hn) (hl : l.length ≤ 1000) : ohostUnlikeb ((l.map keyH, ()), ()) = some ((!anyN (badH l) l.length 0 && decide (l.length ≤ 8), ()), ()) := by
  rw [ohostUnlikeb_eq, bhostUnlikeb]
  simp only [whostUnlikebx2_eq]
  have hm : (l.map keyH).length = l.length := List.length_map ..
  have h := whl_goI (g := rhostUnlikebx2) (fun k (_ : Unit) => ((l.map keyH, l.map keyH, dlen (l.map keyH), (k : Int), ()), ())) (fun k (_ : Unit) => if badH l k = true then .inr (.inr (.inl ((false, ()), ()))) else .inl ()) (fun _ => .inl ((l.map keyH, ()), ())) l.length
    (fun s => by simp only [rhostUnlikebx2, bifF (ilt_len' (xs := l.map keyH) (show (l.map keyH).length ≤ l.length by rw [hm]; exact Nat.le_refl _))])
    (fun k s hk => by
      have hg : (l.map keyH).getD k noKh = keyH (l.getD k noH) := map_getD _ _ _ _ _ hk
      simp only [rhostUnlikebx2, ilt_len (show k < (l.map keyH).length by omega), ile_nat, cond_true, khget, hg, name_eq, bS_some, inc_nat (show k < 4611686018427387904 by omega)]
      rw [show ((keyH (l.getD k noH)).fst, ()) = ((l.getD k noH).1, ()) from rfl, atH_eq _ _ (by omega), plcH]
      simp only [bS_some, ieq_d, bifNot]
      show (bif badH l k then _ else _) = _
      cases badH l k <;> simp) l.length 0 () (by omega)
  have h := h.trans (congrArg some (goI_any (badH l) _ _ l.length 0))
  rw [show ((0 : Int) = ((0 : Nat) : Int)) from rfl, h]
  cases anyN (badH l) l.length 0 with
  | true => rfl
  | false => simp only [Bool.false_eq_true, if_false, bL_inl, le8, hm]; rfl

def lifeBad (w : Wn) : Bool := decide (w.2.1 < 1) || decide (1048576 < w.2.1)
def noOk (n : Int) : Bool := decide (0 ≤ n) && decide (n < 16)
def timeOk (n : Int) : Bool := decide (0 ≤ n) && decide (n ≤ 1099511627776)
def hintBad (x : Hn) : Bool := !noOk x.2.1 || !timeOk x.2.2.1
def longS (s : List UInt8) : Bool := decide (64 < s.length)
theorem number_eq (n : Int) : ohostNumber ((n, ()), ()) = some ((noOk n, ()), ()) := by
  rw [ohostNumber_eq, bhostNumber]; simp only [ile_eq, ilt_eq, noOk]; cases decide (0 ≤ n) <;> rfl
theorem time_eq (n : Int) : ohostTime ((n, ()), ()) = some ((timeOk n, ()), ()) := by
  rw [ohostTime_eq, bhostTime]; simp only [ile_eq, timeOk]; cases decide (0 ≤ n) <;> rfl
theorem brief_eq (k : Wn) : ohostRight_1 ((keyW k, ()), ()) = some ((lifeBad k, ()), ()) := by
  rw [ohostRight_1_eq, bhostRight_1]
  simp only [ilt_eq, bifNot, lifeBad]
  show (bif !decide (k.2.1 < 1) then some ((decide (1048576 < k.2.1), ()), ()) else some ((true, ()), ())) = _
  cases decide (k.2.1 < 1) <;> rfl
theorem odd_eq (k : Hn) : ohostRight_2 ((keyH k, ()), ()) = some ((hintBad k, ()), ()) := by
  obtain ⟨i, n, t, u⟩ := k
  rw [ohostRight_2_eq, bhostRight_2]
  have e1 : (keyH (i, n, t, u)).snd.fst.snd.fst = n := rfl
  have e2 : (keyH (i, n, t, u)).snd.fst.snd.snd = (t, ()) := rfl
  simp only [e1, e2, number_eq, time_eq, bS_some, bifNot, Bool.not_not, hintBad]
  cases noOk n <;> rfl
theorem long_eq (s : List UInt8) : ohostRight_3 ((s, ()), ()) = some ((longS s, ()), ()) := by
  rw [ohostRight_3_eq, bhostRight_3]
  have : ilt 64 (dlen s) = longS s := by
    unfold longS; rw [ilt_eq, dlen_eq, Bool.eq_iff_iff]; simp only [decide_eq_true_iff]; omega
  rw [this]
theorem contW_eq (l : List Wn) (hl : l.length ≤ 1000) : oslicesContainsFunc ((l.map keyW, ((), ()), ()), ()) = some ((l.any lifeBad, ()), ()) := by
  have hm : (l.map keyW).length = l.length := List.length_map ..
  rw [oslicesContainsFunc_eq, bslicesContainsFunc]
  simp only [oslicesIndexFunc_eq, bslicesIndexFunc, wslicesIndexFuncx2_eq]
  have h := whl_goI (g := rslicesIndexFuncx2) (fun i (_ : Unit) => ((l.map keyW, ((), ()), dlen (l.map keyW), (i : Int), ()), ())) (fun i (_ : Unit) => if lifeBad (l.getD i noW) = true then .inr (.inr (.inl (((i : Int), ()), ()))) else .inl ()) (fun _ => .inl ((), ())) l.length
    (fun s => by simp only [rslicesIndexFuncx2, bifF (ilt_len' (xs := l.map keyW) (show (l.map keyW).length ≤ l.length by rw [hm]; exact Nat.le_refl _))])
    (fun i s hi => by
      have hg : (l.map keyW).getD i noKw = keyW (l.getD i noW) := map_getD _ _ _ _ _ hi
      simp only [rslicesIndexFuncx2, ilt_len (show i < (l.map keyW).length by omega), ile_nat, cond_true, kwget, hg, brief_eq, bS_some, inc_nat (show i < 4611686018427387904 by omega)]
      cases lifeBad (l.getD i noW) <;> simp) l.length 0 () (by omega)
  have h := h.trans (congrArg some (goI_find (d := noW) (xs := l) lifeBad (fun i => Sum.inr (Sum.inl (((i : Int), ()), ()))) (Sum.inl ((), ())) l.length 0 (by omega)))
  rw [show ((0 : Int) = ((0 : Nat) : Int)) from rfl, h, List.drop_zero]
  rw [← idxAny]
  cases l.findIdx? lifeBad with
  | none => rfl
  | some j => simp only [Nat.zero_add]; rfl
theorem contH_eq (l : List Hn) (hl : l.length ≤ 1000) : oslicesContainsFuncb ((l.map keyH, ((), ()), ()), ()) = some ((l.any hintBad, ()), ()) := by
  have hm : (l.map keyH).length = l.length := List.length_map ..
  rw [oslicesContainsFuncb_eq, bslicesContainsFuncb]
  simp only [oslicesIndexFuncb_eq, bslicesIndexFuncb, wslicesIndexFuncbx2_eq]
  have h := whl_goI (g := rslicesIndexFuncbx2) (fun i (_ : Unit) => ((l.map keyH, ((), ()), dlen (l.map keyH), (i : Int), ()), ())) (fun i (_ : Unit) => if hintBad (l.getD i noH) = true then .inr (.inr (.inl (((i : Int), ()), ()))) else .inl ()) (fun _ => .inl ((), ())) l.length
    (fun s => by simp only [rslicesIndexFuncbx2, bifF (ilt_len' (xs := l.map keyH) (show (l.map keyH).length ≤ l.length by rw [hm]; exact Nat.le_refl _))])
    (fun i s hi => by
      have hg : (l.map keyH).getD i noKh = keyH (l.getD i noH) := map_getD _ _ _ _ _ hi
      simp only [rslicesIndexFuncbx2, ilt_len (show i < (l.map keyH).length by omega), ile_nat, cond_true, khget, hg, odd_eq, bS_some, inc_nat (show i < 4611686018427387904 by omega)]
      cases hintBad (l.getD i noH) <;> simp) l.length 0 () (by omega)
  have h := h.trans (congrArg some (goI_find (d := noH) (xs := l) hintBad (fun i => Sum.inr (Sum.inl (((i : Int), ()), ()))) (Sum.inl ((), ())) l.length 0 (by omega)))
  rw [show ((0 : Int) = ((0 : Nat) : Int)) from rfl, h, List.drop_zero]
  rw [← idxAny]
  cases l.findIdx? hintBad with
  | none => rfl
  | some j => simp only [Nat.zero_add]; rfl
theorem contS_eq (l : List (List UInt8)) (hl : l.length ≤ 1000) : oslicesContainsFuncc ((l, ((), ()), ()), ()) = some ((l.any longS, ()), ()) := by
  rw [oslicesContainsFuncc_eq, bslicesContainsFuncc]
  simp only [oslicesIndexFuncc_eq, bslicesIndexFuncc, wslicesIndexFunccx2_eq]
  have h := whl_goI (g := rslicesIndexFunccx2) (fun i (_ : Unit) => ((l, ((), ()), dlen l, (i : Int), ()), ())) (fun i (_ : Unit) => if longS (l.getD i []) = true then .inr (.inr (.inl (((i : Int), ()), ()))) else .inl ()) (fun _ => .inl ((), ())) l.length
    (fun s => by simp only [rslicesIndexFunccx2, bifF (ilt_len' (xs := l) (Nat.le_refl _))])
    (fun i s hi => by
      simp only [rslicesIndexFunccx2, bifT (ilt_len hi), bifT ile_nat, strget, long_eq, bS_some, inc_nat (show i < 4611686018427387904 by omega)]
      cases longS (l.getD i []) <;> simp) l.length 0 () (by omega)
  have h := h.trans (congrArg some (goI_find (d := []) (xs := l) longS (fun i => Sum.inr (Sum.inl (((i : Int), ()), ()))) (Sum.inl ((), ())) l.length 0 (by omega)))
  rw [show ((0 : Int) = ((0 : Nat) : Int)) from rfl, h, List.drop_zero]
  rw [← idxAny]
  cases l.findIdx? longS with
  | none => rfl
  | some j => simp only [Nat.zero_add]; rfl

/-- lengths that are had anyway -/
def okL (h : Hs) : Prop := h.2.2.1.length ≤ 1000 ∧ h.2.2.2.1.length ≤ 1000 ∧ h.2.2.2.2.1.length ≤ 1000
def rightH (h : Hs) : Bool := (!anyN (badW h.2.2.1) h.2.2.1.length 0 && decide (h.2.2.1.length ≤ 8)) && (!h.2.2.1.any lifeBad && ((!anyN (badH h.2.2.2.1) h.2.2.2.1.length 0 && decide (h.2.2.2.1.length ≤ 8)) && (!h.2.2.2.1.any hintBad && (noOk h.1 && (noOk h.2.1 && (decide (h.2.2.2.2.1.length ≤ 32) && !h.2.2.2.2.1.any longS))))))
theorem le32 {α : Type} (l : List α) : ile (dlen l) 32 = decide (l.length ≤ 32) := by rw [ile_eq, dlen_eq, Bool.eq_iff_iff]; simp only [decide_eq_true_iff]; omega
theorem hostRight_eq (h : Hs) (hl : okL h) : ohostRight ((h, ()), ()) = some ((rightH h, ()), ()) := by
  rw [ohostRight_eq, bhostRight]
  simp only [hostWants_eq h hl.1, hostHints_eq h hl.2.1, bS_some, unlikeW_eq _ hl.1, unlikeH_eq _ hl.2.1, contW_eq _ hl.1, contH_eq _ hl.2.1, contS_eq _ hl.2.2, number_eq, le32, rightH]
  generalize (!anyN (badW h.2.2.1) h.2.2.1.length 0 && decide (h.2.2.1.length ≤ 8)) = b1
  generalize h.2.2.1.any lifeBad = b2
  generalize (!anyN (badH h.2.2.2.1) h.2.2.2.1.length 0 && decide (h.2.2.2.1.length ≤ 8)) = b3
  generalize h.2.2.2.1.any hintBad = b4
  generalize noOk h.1 = b5
  generalize noOk h.2.1 = b6
  generalize decide (h.2.2.2.2.1.length ≤ 32) = b7
  generalize h.2.2.2.2.1.any longS = b8
  cases b1 <;> cases b2 <;> cases b3 <;> cases b4 <;> cases b5 <;> cases b6 <;> cases b7 <;> cases b8 <;> rfl

theorem ref17In_eq (n a b : Int) : oref17In ((n, a, b, ()), ()) = some ((decide (a ≤ n) && decide (n ≤ b), ()), ()) := by
  rw [oref17In_eq, bref17In]; simp only [ile_eq]; cases decide (a ≤ n) <;> rfl
theorem ref17Wanted_eq (h : Hs) (i : Id) (hl : h.2.2.1.length ≤ 1000) : oref17Wanted ((h, i, ()), ()) = some ((plc (isW i) h.2.2.1, ()), ()) := by
  rw [oref17Wanted_eq, bref17Wanted]
  simp only [wref17Wantedx2_eq]
  generalize h.2.2.1 = l at *
  have hw := whl_goI (g := rref17Wantedx2) (fun k (_ : Unit) => (((), l, dlen l, (k : Int), ()), i, ())) (fun k (_ : Unit) => if isW i (l.getD k noW) = true then .inr (.inl (((k : Int), ()), ())) else .inl ()) (fun _ => .inr (.inl ((), ()))) l.length
    (fun s => by simp only [rref17Wantedx2, bifF (ilt_len' (xs := l) (Nat.le_refl _))])
    (fun k s hk => by
      simp only [rref17Wantedx2, bifT (ilt_len hk), bifT ile_nat, wget, ideq_d, inc_nat (show k < 4611686018427387904 by omega)]
      show (bif isW i (l.getD k noW) then _ else _) = _
      cases isW i (l.getD k noW) <;> simp) l.length 0 () (by omega)
  have hw := hw.trans (congrArg some (goI_find (d := noW) (xs := l) (isW i) (fun k => Sum.inl (((k : Int), ()), ())) (Sum.inr (Sum.inl ((), ()))) l.length 0 (by omega)))
  rw [show ((0 : Int) = ((0 : Nat) : Int)) from rfl, hw, List.drop_zero]
  unfold plc
  cases l.findIdx? (isW i) with
  | none => rfl
  | some j => simp only [Nat.zero_add]; rfl
theorem ref17Hinted_eq (h : Hs) (i : Id) (hl : h.2.2.2.1.length ≤ 1000) : oref17Hinted ((h, i, ()), ()) = some ((plc (isH i) h.2.2.2.1, ()), ()) := by
  rw [oref17Hinted_eq, bref17Hinted]
  simp only [wref17Hintedx2_eq]
  generalize h.2.2.2.1 = l at *
  have hw := whl_goI (g := rref17Hintedx2) (fun k (_ : Unit) => (((), l, dlen l, (k : Int), ()), i, ())) (fun k (_ : Unit) => if isH i (l.getD k noH) = true then .inr (.inl (((k : Int), ()), ())) else .inl ()) (fun _ => .inr (.inl ((), ()))) l.length
    (fun s => by simp only [rref17Hintedx2, bifF (ilt_len' (xs := l) (Nat.le_refl _))])
    (fun k s hk => by
      simp only [rref17Hintedx2, bifT (ilt_len hk), bifT ile_nat, hget, ideq_d, inc_nat (show k < 4611686018427387904 by omega)]
      show (bif isH i (l.getD k noH) then _ else _) = _
      cases isH i (l.getD k noH) <;> simp) l.length 0 () (by omega)
  have hw := hw.trans (congrArg some (goI_find (d := noH) (xs := l) (isH i) (fun k => Sum.inl (((k : Int), ()), ())) (Sum.inr (Sum.inl ((), ()))) l.length 0 (by omega)))
  rw [show ((0 : Int) = ((0 : Nat) : Int)) from rfl, hw, List.drop_zero]
  unfold plc
  cases l.findIdx? (isH i) with
  | none => rfl
  | some j => simp only [Nat.zero_add]; rfl
def bad2W (l : List Wn) (k : Nat) : Bool := lifeBad (l.getD k noW) || badW l k
def bad2H (l : List Hn) (k : Nat) : Bool := hintBad (l.getD k noH) || badH l k
theorem inLife (w : Wn) : (decide (1 ≤ w.2.1) && decide (w.2.1 ≤ 1048576)) = !lifeBad w := by
  unfold lifeBad
  rw [Bool.eq_iff_iff]
  simp only [Bool.and_eq_true, decide_eq_true_iff, Bool.not_eq_true', Bool.or_eq_false_iff, decide_eq_false_iff_not]
  omega
theorem in15 (n : Int) : (decide (0 ≤ n) && decide (n ≤ 15)) = noOk n := by
  unfold noOk
  rw [Bool.eq_iff_iff]
  simp only [Bool.and_eq_true, decide_eq_true_iff]
  omega
def longAt (l : List (List UInt8)) (k : Nat) : Bool := longS (l.getD k [])
theorem ref17Right_eq (h : Hs) (hl : okL h) : oref17Right ((h, ()), ()) = some ((rightH h, ()), ()) := by
  obtain ⟨hl1, hl2, hl3⟩ := hl
  have w1 := whl_goI (g := rref17Rightx2) (fun k (_ : Unit) => (((), h.2.2.1, dlen h.2.2.1, (k : Int), ()), h, ())) (fun k (_ : Unit) => if bad2W h.2.2.1 k = true then .inr (.inr (.inl ((false, ()), ()))) else .inl ()) (fun _ => .inl (((), ()), h, ())) h.2.2.1.length
    (fun s => by simp only [rref17Rightx2, bifF (ilt_len' (xs := h.2.2.1) (Nat.le_refl _))])
    (fun k s hk => by
      simp only [rref17Rightx2, bifT (ilt_len hk), bifT ile_nat, wget, ref17In_eq, ref17Wanted_eq h _ hl1, inLife, bS_some, ieq_d, bifNot, Bool.not_not, inc_nat (show k < 4611686018427387904 by omega)]
      unfold bad2W badW
      generalize plc (isW (h.2.2.1.getD k noW).1) h.2.2.1 = P
      cases lifeBad (h.2.2.1.getD k noW) with
      | true => rfl
      | false => by_cases hP : P = (k : Int) <;> simp [hP]) h.2.2.1.length 0 () (by omega)
  have w1 := w1.trans (congrArg some (goI_any (bad2W h.2.2.1) _ _ h.2.2.1.length 0))
  have w2 := whl_goI (g := rref17Rightx8) (fun k (_ : Unit) => (((), h.2.2.2.1, dlen h.2.2.2.1, (k : Int), ()), h, ())) (fun k (_ : Unit) => if bad2H h.2.2.2.1 k = true then .inr (.inl ((false, ()), ())) else .inl ()) (fun _ => .inr (.inl (((), ()), h, ()))) h.2.2.2.1.length
    (fun s => by simp only [rref17Rightx8, bifF (ilt_len' (xs := h.2.2.2.1) (Nat.le_refl _))])
    (fun k s hk => by
      simp only [rref17Rightx8, bifT (ilt_len hk), bifT ile_nat, hget, ref17In_eq, ref17Hinted_eq h _ hl2, in15, bS_some, ieq_d, bifNot, Bool.not_not, inc_nat (show k < 4611686018427387904 by omega)]
      unfold bad2H badH hintBad
      generalize plc (isH (h.2.2.2.1.getD k noH).1) h.2.2.2.1 = P
      have ht : (decide (0 ≤ (h.2.2.2.1.getD k noH).2.2.1) && decide ((h.2.2.2.1.getD k noH).2.2.1 ≤ 1099511627776)) = timeOk (h.2.2.2.1.getD k noH).2.2.1 := rfl
      rw [ht]
      cases noOk (h.2.2.2.1.getD k noH).2.1 with
      | false => rfl
      | true =>
        cases timeOk (h.2.2.2.1.getD k noH).2.2.1 with
        | false => rfl
        | true => by_cases hP : P = (k : Int) <;> simp [hP]) h.2.2.2.1.length 0 () (by omega)
  have w2 := w2.trans (congrArg some (goI_any (bad2H h.2.2.2.1) _ _ h.2.2.2.1.length 0))
  have w3 := whl_goI (g := rref17Rightx14) (fun k (_ : Unit) => (((), h.2.2.2.2.1, dlen h.2.2.2.2.1, (k : Int), ()), h, ())) (fun k (_ : Unit) => if longAt h.2.2.2.2.1 k = true then .inr (.inl ((false, ()), ())) else .inl ()) (fun _ => .inr (.inl (((), ()), h, ()))) h.2.2.2.2.1.length
    (fun s => by simp only [rref17Rightx14, bifF (ilt_len' (xs := h.2.2.2.2.1) (Nat.le_refl _))])
    (fun k s hk => by
      have : ilt 64 (dlen (h.2.2.2.2.1.getD k [])) = longS (h.2.2.2.2.1.getD k []) := by
        unfold longS; rw [ilt_eq, dlen_eq, Bool.eq_iff_iff]; simp only [decide_eq_true_iff]; omega
      simp only [rref17Rightx14, bifT (ilt_len hk), bifT ile_nat, strget, this, inc_nat (show k < 4611686018427387904 by omega)]
      show (bif longAt h.2.2.2.2.1 k then _ else _) = _
      cases longAt h.2.2.2.2.1 k <;> rfl) h.2.2.2.2.1.length 0 () (by omega)
  have w3 := w3.trans (congrArg some (goI_any (longAt h.2.2.2.2.1) _ _ h.2.2.2.2.1.length 0))
  have o3 : anyN (longAt h.2.2.2.2.1) h.2.2.2.2.1.length 0 = h.2.2.2.2.1.any longS := (any_anyN longS [] _).symm
  rw [o3] at w3
  have o1 : anyN (bad2W h.2.2.1) h.2.2.1.length 0 = (h.2.2.1.any lifeBad || anyN (badW h.2.2.1) h.2.2.1.length 0) := by
    rw [any_anyN lifeBad noW, ← anyN_or]; rfl
  have o2 : anyN (bad2H h.2.2.2.1) h.2.2.2.1.length 0 = (h.2.2.2.1.any hintBad || anyN (badH h.2.2.2.1) h.2.2.2.1.length 0) := by
    rw [any_anyN hintBad noH, ← anyN_or]; rfl
  rw [o1] at w1
  rw [o2] at w2
  have w1 : whl rref17Rightx2 (((), h.2.2.1, dlen h.2.2.1, 0, ()), h, ()) = _ := w1
  have w2 : whl rref17Rightx8 (((), h.2.2.2.1, dlen h.2.2.2.1, 0, ()), h, ()) = _ := w2
  have w3 : whl rref17Rightx14 (((), h.2.2.2.2.1, dlen h.2.2.2.2.1, 0, ()), h, ()) = _ := w3
  rw [oref17Right_eq, bref17Right]
  simp only [wref17Rightx2_eq, wref17Rightx8_eq, wref17Rightx14_eq, w1, rightH]
  generalize h.2.2.1.any lifeBad = b2
  generalize anyN (badW h.2.2.1) h.2.2.1.length 0 = b1
  cases b2 <;> cases b1 <;> simp only [Bool.or_true, Bool.or_false, Bool.false_eq_true, if_false, if_true, bL_inl, bL_inr, Bool.not_true, Bool.not_false, Bool.true_and, Bool.false_and, Bool.and_false, Bool.and_true]
  rw [w2]
  generalize h.2.2.2.1.any hintBad = b4
  generalize anyN (badH h.2.2.2.1) h.2.2.2.1.length 0 = b3
  cases b4 <;> cases b3 <;> simp only [Bool.or_true, Bool.or_false, Bool.false_eq_true, if_false, if_true, bL_inl, bL_inr, Bool.not_true, Bool.not_false, Bool.true_and, Bool.false_and, Bool.and_false, Bool.and_true]
  rw [w3]
  generalize h.2.2.2.2.1.any longS = b8
  cases b8 <;> simp only [Bool.false_eq_true, if_false, if_true, bL_inl, bL_inr, Bool.not_true, Bool.not_false, Bool.and_false, Bool.and_true]
  simp only [ref17In_eq, in15, bS_some, le8, le32]
  cases noOk h.1 <;> cases noOk h.2.1 <;> cases decide (h.2.2.1.length ≤ 8) <;> cases decide (h.2.2.2.1.length ≤ 8) <;> rfl

end Am
end Go.Proofs.Ytdicedlgaknkoaa
