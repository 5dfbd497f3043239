/-
  Entries and stacks: stack.Is, all, Right, Same, and the document's.
  (slicesIndexFunc, slicesContainsFunc: the places and the contents of rows of entries, by this seat's names.)
-/
import Derived.Test.YthnmiialdjifiaaPj
import Derived.Test.YthnmiialdjifiaaLs
namespace Go.Proofs.Ythnmiialdjifiaa
namespace Am
open Go Go.RowKit
set_option linter.unusedSimpArgs false
set_option linter.unusedVariables false

theorem ieq_d (a b : Int) : ieq a b = decide (a = b) := rfl
theorem ideq_d (a b : Id) : ideq a b = decide (a = b) := rfl
theorem seq_d (a b : List UInt8) : seq a b = decide (a = b) := rfl
theorem beq_d (a b : Bool) : beq a b = decide (a = b) := rfl
theorem idxAny {α : Type} (p : α → Bool) (l : List α) : ile 0 (match l.findIdx? p with | some i => (i : Int) | none => -1) = l.any p := by
  cases h : l.findIdx? p with
  | none =>
    have : l.any p = false := by
      rw [List.any_eq_false]
      intro x hx
      have := List.findIdx?_eq_none_iff.1 h x hx
      simp [this]
    rw [this]; rfl
  | some i =>
    have : l.any p = true := by
      obtain ⟨hi, h2⟩ := List.findIdx?_eq_some_iff_getElem.1 h
      rw [List.any_eq_true]
      exact ⟨l[i], List.getElem_mem hi, h2.1⟩
    rw [this]; exact ile_nat

abbrev Ent := Int × (Id × (Int × Unit))
def noE : Ent := (0, Id.zero, 0, ())
abbrev entT : Ty := ((Ty.int IntKind.i64).pair (Ty.id.pair ((Ty.int IntKind.i64).pair Ty.unit)))
theorem entget (l : List Ent) (i : Nat) : dget ((Ty.int IntKind.i64).pair (Ty.id.pair ((Ty.int IntKind.i64).pair Ty.unit))) l (i : Int) = l.getD i noE := dget_eq entT l i
def isE (e : Ent) : Bool := (decide (e.1 = 1) && decide (e.2.2.1 = 0)) || (decide (e.1 = 2) && (decide (e.2.1 = Id.zero) && (decide (0 ≤ e.2.2.1) && decide (e.2.2.1 < 16))))
theorem stackIs_eq (e : Ent) : ostackIs ((e, ()), ()) = some ((isE e, ()), ()) := by
  obtain ⟨k, i, h, u⟩ := e
  rw [ostackIs_eq, bstackIs]
  simp only [ieq_d, ideq_d, ile_eq, ilt_eq, isE]
  by_cases h1 : k = 1
  · subst h1; simp
  · simp only [h1, decide_false, cond_false, Bool.false_and, Bool.false_or]
    cases decide (k = 2) <;> cases decide (i = Id.zero) <;> cases decide (0 ≤ h) <;> rfl
theorem isz_loop (e : Ent) (x : Id) (k : Nat) : ∀ (i : Nat) (b : Bool), i + k = 32 → (b = true ↔ ∀ j, j < i → x.get j = 0) →
    ∃ b' : Bool, (b' = true ↔ x = Id.zero) ∧ whl rref04Isx3 (((), b, x, (i : Int), ()), e, ()) = some (.inl (((), b', ()), e, ())) := by
  induction k with
  | zero =>
    intro i b hi hb
    obtain rfl : i = 32 := by omega
    refine ⟨b, hb.trans ⟨fun h => Id.ext_get (fun j hj => by rw [h j hj, Id.get_zero]), fun h j hj => by rw [h, Id.get_zero]⟩, whl_inr ?_⟩
    have hc : ilt ((32 : Nat) : Int) 32 = false := ilt_f.2 (by omega)
    simp only [rref04Isx3, bifF hc]
  | succ k ih =>
    intro i b hi hb
    have h1 : ilt (i : Int) 32 = true := ilt_t.2 (by omega)
    obtain ⟨b', hb', hw⟩ := ih (i + 1) (b && u8eq (x.get i) 0) (by omega) (by
      rw [Bool.and_eq_true, hb, u8eq_t]
      constructor
      · rintro ⟨h, h2⟩ j hj
        by_cases e : j = i
        · subst e; exact h2
        · exact h j (by omega)
      · exact fun h => ⟨fun j hj => h j (by omega), h i (by omega)⟩)
    refine ⟨b', hb', ?_⟩
    have hr : rref04Isx3 (((), b, x, (i : Int), ()), e, ()) = some (.inl (((), (b && u8eq (x.get i) 0), x, ((i + 1 : Nat) : Int), ()), e, ())) := by
      simp only [rref04Isx3, bifT h1, bifT ile_nat, inat_eq, idget_eq, inc_nat (show i < 4611686018427387904 by omega)]
      cases b <;> rfl
    rw [whl_inl hr, hw]
theorem ref04Is_eq (e : Ent) : oref04Is ((e, ()), ()) = some ((isE e, ()), ()) := by
  obtain ⟨b', hb', h⟩ := isz_loop e e.2.1 32 0 true (by omega) (by simp)
  rw [oref04Is_eq, bref04Is]
  simp only [wref04Isx3_eq]
  have h : whl rref04Isx3 (((), true, e.snd.fst, 0, ()), e, ()) = some (.inl (((), b', ()), e, ())) := h
  simp only [h, bL_inl]
  have hb : b' = decide (e.2.1 = Id.zero) := by
    rw [Bool.eq_iff_iff, hb']; simp
  obtain ⟨k, i, v, u⟩ := e
  simp only at hb
  simp only [ieq_d, ile_eq, isE, hb]
  have e15 : decide (v ≤ 15) = decide (v < 16) := by rw [Bool.eq_iff_iff]; simp; omega
  simp only [e15]
  by_cases h1 : k = 1
  · subst h1
    by_cases h0 : v = 0
    · subst h0; simp
    · simp [h0]
  · simp only [h1, decide_false, cond_false, Bool.false_and, Bool.false_or]
    cases decide (k = 2) <;> cases decide (i = Id.zero) <;> cases decide (0 ≤ v) <;> rfl

theorem stackAll1_eq (e : Ent) : ostackAll_1 ((e, ()), ()) = some ((!isE e, ()), ()) := by
  rw [ostackAll_1_eq, bstackAll_1]
  simp only [stackIs_eq, bS_some, bifNot]
theorem idxE_eq (l : List Ent) (hl : l.length ≤ 4611686018427387903) : oslicesIndexFunc ((l, ((), ()), ()), ()) = some ((match l.findIdx? (fun e => !isE e) with | some i => (i : Int) | none => -1, ()), ()) := by
  rw [oslicesIndexFunc_eq, bslicesIndexFunc]
  simp only [wslicesIndexFuncx2_eq]
  have h := whl_goI (g := rslicesIndexFuncx2) (fun i (_ : Unit) => ((l, ((), ()), dlen l, (i : Int), ()), ())) (fun i (_ : Unit) => if (fun e => !isE e) (l.getD i noE) = true then .inr (.inr (.inl (((i : Int), ()), ()))) else .inl ()) (fun _ => .inl ((), ())) l.length
    (fun s => by simp only [rslicesIndexFuncx2, bifF (ilt_len' (xs := l) (Nat.le_refl _))])
    (fun i s hi => by
      simp only [rslicesIndexFuncx2, bifT (ilt_len hi), bifT ile_nat, entget, stackAll1_eq, bS_some, inc_nat (show i < 4611686018427387904 by omega)]
      generalize l.getD i noE = v
      by_cases hb : isE v = true <;> simp [hb]) l.length 0 () (by omega)
  have h := h.trans (congrArg some (goI_find (d := noE) (xs := l) (fun e => !isE e) (fun i => Sum.inr (Sum.inl (((i : Int), ()), ()))) (Sum.inl ((), ())) l.length 0 (by omega)))
  rw [show ((0 : Int) = ((0 : Nat) : Int)) from rfl, h]
  rw [List.drop_zero]
  cases l.findIdx? (fun e => !isE e) with
  | none => rfl
  | some j => simp only [Nat.zero_add]; rfl
theorem all_any {α : Type} (p : α → Bool) (l : List α) : (!l.any (fun e => !p e)) = l.all p := by
  induction l with
  | nil => rfl
  | cons a l ih => simp [← ih]
theorem stackAll_eq (l : List Ent) (hl : l.length ≤ 4611686018427387903) : ostackAll ((l, ()), ()) = some ((l.all isE, ()), ()) := by
  rw [ostackAll_eq, bstackAll]
  simp only [oslicesContainsFunc_eq, bslicesContainsFunc, idxE_eq l hl, bS_some, idxAny, bifNot, all_any]
def rightS (l : List Ent) : Bool := decide (1 ≤ l.length) && (decide (l.length ≤ 4) && l.all isE)
theorem stackRight_eq (l : List Ent) (hl : l.length ≤ 4611686018427387903) : ostackRight ((l, ()), ()) = some ((rightS l, ()), ()) := by
  rw [ostackRight_eq, bstackRight]
  have e1 : ile 1 (dlen l) = decide (1 ≤ l.length) := by rw [ile_eq, dlen_eq, Bool.eq_iff_iff]; simp; omega
  have e2 : ile (dlen l) 4 = decide (l.length ≤ 4) := by rw [ile_eq, dlen_eq, Bool.eq_iff_iff]; simp; omega
  simp only [stackAll_eq l hl, bS_some, e1, e2, rightS]
  cases decide (1 ≤ l.length) <;> cases decide (l.length ≤ 4) <;> rfl
theorem ref04All_eq (l : List Ent) (hl : l.length ≤ 4611686018427387903) : oref04All ((l, ()), ()) = some ((l.all isE, ()), ()) := by
  rw [oref04All_eq, bref04All]
  simp only [wref04Allx2_eq]
  have h := whl_goL (g := rref04Allx2) (t := entT) (xs := l) (fun i (_ : Unit) => ((l, dlen l, i, ()), ())) (fun e (_ : Unit) => if (fun e => !isE e) e = true then .inr (.inr (.inl ((false, ()), ()))) else .inl ()) (fun _ => .inl ((), ())) hl
    (fun i s hi => by simp only [rref04Allx2, bifF hi])
    (fun i s hi h0 => by
      simp only [rref04Allx2, bifT hi, bifT h0, ref04Is_eq, bS_some, bifNot]
      by_cases hb : isE (dget entT l i) = true <;> simp [hb]) ()
  rw [h, goL_any (fun e => !isE e)]
  have := all_any isE l
  cases hc : l.any (fun e => !isE e) with
  | true => rw [hc] at this; simp [← this]
  | false => rw [hc] at this; simp [← this]
theorem ref04Right_eq (l : List Ent) (hl : l.length ≤ 4611686018427387903) : oref04Right ((l, ()), ()) = some ((rightS l, ()), ()) := by
  rw [oref04Right_eq, bref04Right]
  have e1 : ilt 0 (dlen l) = decide (1 ≤ l.length) := by rw [ilt_eq, dlen_eq, Bool.eq_iff_iff]; simp; omega
  have e2 : ilt (dlen l) 5 = decide (l.length ≤ 4) := by rw [ilt_eq, dlen_eq, Bool.eq_iff_iff]; simp; omega
  simp only [ref04All_eq l hl, bS_some, e1, e2, rightS]
  cases decide (1 ≤ l.length) <;> cases decide (l.length ≤ 4) <;> rfl

theorem eqE (e f : Ent) : (bif ieq e.fst f.fst then bif ideq e.snd.fst f.snd.fst then bif ieq e.snd.snd.fst f.snd.snd.fst then true else false else false else false) = decide (e = f) := by
  obtain ⟨a, b, c, u⟩ := e
  obtain ⟨a', b', c', u'⟩ := f
  simp only [ieq_d, ideq_d, Prod.mk.injEq]
  by_cases h1 : a = a' <;> by_cases h2 : b = b' <;> by_cases h3 : c = c' <;> simp [h1, h2, h3]
theorem anyN_ne {α : Type} [DecidableEq α] (d : α) (a b : List α) (h : a.length = b.length) : anyN (fun i => !decide (a.getD i d = b.getD i d)) a.length 0 = !decide (a = b) := by
  rw [Bool.eq_iff_iff, anyN_iff]
  simp only [Bool.not_eq_true', decide_eq_false_iff_not]
  constructor
  · rintro ⟨j, _, hj, hne⟩ e
    exact hne (by rw [e])
  · intro hne
    refine Classical.byContradiction fun hc => hne ?_
    apply List.ext_getElem h
    intro j hj hj'
    have : a.getD j d = b.getD j d := Classical.byContradiction fun h2 => hc ⟨j, by omega, by omega, h2⟩
    simpa [hj, hj'] using this
def neAt (a b : List Ent) (i : Nat) : Bool := !decide (a.getD i noE = b.getD i noE)
theorem eqEs_loop (g : ((List Ent × (List Ent × (Int × (Int × Unit)))) × Unit) → Option (((List Ent × (List Ent × (Int × (Int × Unit)))) × Unit) ⊕ (((Bool × Unit) × Unit) ⊕ ((Unit × Unit) ⊕ Empty))))
    (hg : ∀ x0 x1 x2 x3, g ((x0, x1, x2, x3, ()), ()) = bif ilt x3 x2 then bif bif ile 0 x3 then ilt x3 (dlen x0) else false then bif bif ile 0 x3 then ilt x3 (dlen x1) else false then bif bif bif ieq (dget entT x0 x3).fst (dget entT x1 x3).fst then bif ideq (dget entT x0 x3).snd.fst (dget entT x1 x3).snd.fst then bif ieq (dget entT x0 x3).snd.snd.fst (dget entT x1 x3).snd.snd.fst then true else false else false else false then false else true then some (Sum.inr (Sum.inl ((false, ()), ()))) else some (Sum.inl ((x0, x1, x2, iwrap IntKind.i64 (iadd x3 1), ()), ())) else none else none else some (Sum.inr (Sum.inr (Sum.inl ((), ())))))
    (a b : List Ent) (h : a.length = b.length) (hl : a.length ≤ 4611686018427387903) : whl g ((a, b, dlen a, 0, ()), ()) = some (if a = b then .inr (.inl ((), ())) else .inl ((false, ()), ())) := by
  have hw := whl_goI (g := g) (fun i (_ : Unit) => ((a, b, dlen a, (i : Int), ()), ())) (fun i (_ : Unit) => if neAt a b i = true then .inr (.inl ((false, ()), ())) else .inl ()) (fun _ => .inr (.inl ((), ()))) a.length
    (fun s => by rw [hg]; rw [bifF (ilt_len' (xs := a) (Nat.le_refl _))])
    (fun i s hi => by
      rw [hg, eqE]
      simp only [bifT (ilt_len hi), bifT ile_nat, ilt_len (show i < b.length by omega), cond_true, entget, bifNot, inc_nat (show i < 4611686018427387904 by omega)]
      show (bif neAt a b i then _ else _) = _
      cases neAt a b i <;> rfl) a.length 0 () (by omega)
  have hw := hw.trans (congrArg some (goI_any (neAt a b) _ _ a.length 0))
  have : anyN (neAt a b) a.length 0 = !decide (a = b) := anyN_ne noE a b h
  rw [this] at hw
  rw [show ((0 : Int) = ((0 : Nat) : Int)) from rfl, hw]
  by_cases e : a = b <;> simp [e]
theorem dlen_ieq {α β : Type} (a : List α) (b : List β) : ieq (dlen a) (dlen b) = decide (a.length = b.length) := by
  rw [ieq_d, dlen_eq, dlen_eq, Bool.eq_iff_iff]; simp only [decide_eq_true_iff]; omega
theorem ref04Same_eq (a b : List Ent) (hl : a.length ≤ 4611686018427387903) : oref04Same ((a, b, ()), ()) = some ((decide (a = b), ()), ()) := by
  rw [oref04Same_eq, bref04Same]
  simp only [wref04Samex4_eq, dlen_ieq, bifNot]
  by_cases h : a.length = b.length
  · rw [eqEs_loop rref04Samex4 (fun _ _ _ _ => rfl) a b h hl]
    by_cases e : a = b <;> simp [h, e]
  · have : a ≠ b := fun e => h (by rw [e])
    simp [h, this]

end Am
end Go.Proofs.Ythnmiialdjifiaa
