/-
  Rings: which members may be, whose an identifier is.
-/
import Derived.Test.YtkpojikfadeeeaaPs
import Derived.Test.YtkpojikfadeeeaaLp
namespace Go.Proofs.Ytkpojikfadeeeaa
namespace Am
open Go Go.RowKit
set_option linter.unusedVariables false

def noM : Mem' := (0, Id.zero, ())
theorem ieq_dec (a b : Int) : ieq a b = decide (a = b) := rfl

/-- of a number, or of an identifier -/
def like2 (a m : Mem') : Bool := decide (a.1 = m.1) || decide (a.2.1 = m.2.1)
theorem ringRight1_eq (a m : Mem') : oringRight_1 ((a, m, ()), ()) = some ((like2 a m, ()), ()) := by
  rw [oringRight_1_eq, bringRight_1]
  unfold like2
  rw [ieq_dec, ideq_dec]
  cases decide (a.1 = m.1) <;> rfl
theorem idxR_eq (l : List Mem') (m : Mem') (hl : l.length ≤ 4611686018427387903) : oslicesIndexFunc ((l, ((), m, ()), ()), ()) = some ((match l.findIdx? (like2 · m) with | some i => (i : Int) | none => -1, ()), ()) := by
  rw [oslicesIndexFunc_eq, bslicesIndexFunc]
  simp only [wslicesIndexFuncx2_eq]
  have h := whl_goI (g := rslicesIndexFuncx2) (fun i (_ : Unit) => ((l, ((), m, ()), dlen l, (i : Int), ()), ())) (fun i (_ : Unit) => if like2 (l.getD i noM) m = true then .inr (.inr (.inl (((i : Int), ()), ()))) else .inl ()) (fun _ => .inl ((), ())) l.length
    (fun s => by simp only [rslicesIndexFuncx2, bifF (ilt_len' (xs := l) (Nat.le_refl _))])
    (fun i s hi => by
      have e : dget ((Ty.int IntKind.i64).pair (Ty.id.pair Ty.unit)) l (i : Int) = l.getD i noM := dget_eq memT l i
      simp only [rslicesIndexFuncx2, bifT (ilt_len hi), bifT ile_nat, e, ringRight1_eq, bS_some, inc_nat (show i < 4611686018427387904 by omega)]
      cases like2 (l.getD i noM) m <;> simp) l.length 0 () (by omega)
  have h := h.trans (congrArg some (goI_find (d := noM) (xs := l) (fun a => like2 a m) (fun i => Sum.inr (Sum.inl (((i : Int), ()), ()))) (Sum.inl ((), ())) l.length 0 (by omega)))
  rw [show ((0 : Int) = ((0 : Nat) : Int)) from rfl, h]
  rw [List.drop_zero]
  cases l.findIdx? (like2 · m) with
  | none => rfl
  | some j => simp only [Nat.zero_add]; rfl
theorem contR_eq (l : List Mem') (m : Mem') (hl : l.length ≤ 4611686018427387903) : oslicesContainsFunc ((l, ((), m, ()), ()), ()) = some ((l.any (like2 · m), ()), ()) := by
  rw [oslicesContainsFunc_eq, bslicesContainsFunc, idxR_eq l m hl, bS_some]
  cases h : l.findIdx? (like2 · m) with
  | none =>
    have : l.any (like2 · m) = false := by
      rw [List.any_eq_false]
      intro x hx
      have := List.findIdx?_eq_none_iff.1 h x hx
      simpa using this
    rw [this]
    rfl
  | some j =>
    have : l.any (like2 · m) = true := by
      rw [List.any_eq_true]
      obtain ⟨hj, hp, _⟩ := List.findIdx?_eq_some_iff_getElem.1 h
      exact ⟨_, List.getElem_mem hj, hp⟩
    rw [this]
    have h0 : ile 0 (j : Int) = true := ile_nat
    simp only [h0]

/-- a member that may not be there -/
def badR (l : List Mem') (i : Nat) : Bool := (l.take i).any (like2 · (l.getD i noM)) || (decide ((l.getD i noM).1 < 0) || decide (16 ≤ (l.getD i noM).1))
def rightB (l : List Mem') : Bool := !anyN (badR l) l.length 0 && decide (l.length ≤ 16)
theorem ringRight_eq (l : List Mem') (hl : l.length ≤ 4611686018427387903) : oringRight ((l, ()), ()) = some ((rightB l, ()), ()) := by
  rw [oringRight_eq, bringRight]
  simp only [wringRightx2_eq]
  have h := whl_goI (g := rringRightx2) (fun i (_ : Unit) => ((l, l, dlen l, (i : Int), ()), ())) (fun i (_ : Unit) => if badR l i = true then .inr (.inr (.inl ((false, ()), ()))) else .inl ()) (fun _ => .inl ((l, ()), ())) l.length
    (fun s => by simp only [rringRightx2, bifF (ilt_len' (xs := l) (Nat.le_refl _))])
    (fun i s hi => by
      have e : dget ((Ty.int IntKind.i64).pair (Ty.id.pair Ty.unit)) l (i : Int) = l.getD i noM := dget_eq memT l i
      have e2 : dsub l 0 (i : Int) = l.take i := by
        have := dsub_eq l 0 i
        simpa using this
      have e3 : ile (i : Int) (dlen l) = true := ile_t.2 (by rw [dlen_eq]; omega)
      have e4 : ile 0 0 = true := rfl
      simp only [rringRightx2, bifT (ilt_len hi), bifT ile_nat, bifT e4, bifT e3, e, e2, contR_eq (l.take i) (l.getD i noM) (by rw [List.length_take]; omega), bS_some, inc_nat (show i < 4611686018427387904 by omega)]
      unfold badR
      generalize (l.take i).any (like2 · (l.getD i noM)) = A
      generalize (l.getD i noM).1 = n
      have hn : ilt n 0 = decide (n < 0) := ilt_eq _ _
      have hg : ile 16 n = decide (16 ≤ n) := ile_eq _ _
      rw [hn, hg]
      cases A <;> cases decide (n < 0) <;> cases decide (16 ≤ n) <;> simp) l.length 0 () (by omega)
  rw [goI_any] at h
  rw [show ((0 : Int) = ((0 : Nat) : Int)) from rfl, h]
  unfold rightB
  cases anyN (badR l) l.length 0 with
  | true => simp [bL_inr, bL_inl]
  | false =>
    have : ile (dlen l) 16 = decide (l.length ≤ 16) := by rw [ile_eq, dlen_eq]; congr 1; rw [eq_iff_iff]; omega
    simp [bL_inl, this]
structure RightP (l : List Mem') : Prop where
  len : l.length ≤ 16
  no : ∀ i, i < l.length → 0 ≤ (l.getD i noM).1 ∧ (l.getD i noM).1 < 16
  one : ∀ i j, i < l.length → j < l.length → ((l.getD i noM).1 = (l.getD j noM).1 ∨ (l.getD i noM).2.1 = (l.getD j noM).2.1) → i = j
theorem take_any {l : List Mem'} {i j : Nat} {p : Mem' → Bool} (hj : j < i) (hi : i ≤ l.length) (h : (l.take i).any p = false) : p (l.getD j noM) = false := by
  rw [List.any_eq_false] at h
  have hj2 : j < (l.take i).length := by rw [List.length_take]; omega
  have hm : (l.take i)[j] ∈ l.take i := List.getElem_mem hj2
  have := h _ hm
  have e : (l.take i)[j] = l.getD j noM := by simp [show j < l.length by omega]
  rw [e] at this
  simpa using this
theorem rightB_P {l : List Mem'} (h : rightB l = true) : RightP l := by
  unfold rightB at h
  simp only [Bool.and_eq_true, Bool.not_eq_true', decide_eq_true_iff] at h
  have hb : ∀ i, i < l.length → badR l i = false := fun i hi => anyN_false h.1 (by omega) (by omega)
  have key : ∀ i j, j < i → i < l.length → like2 (l.getD j noM) (l.getD i noM) = false := by
    intro i j hj hi
    have := hb i hi
    unfold badR at this
    simp only [Bool.or_eq_false_iff] at this
    exact take_any (l := l) (i := i) (p := fun x => like2 x (l.getD i noM)) hj (by omega) this.1
  refine ⟨h.2, fun i hi => ?_, fun i j hi hj he => ?_⟩
  · have := hb i hi
    unfold badR at this
    simp only [Bool.or_eq_false_iff, decide_eq_false_iff_not] at this
    omega
  · rcases Nat.lt_trichotomy i j with hij | hij | hij
    · have := key j i hij hj
      unfold like2 at this
      simp only [Bool.or_eq_false_iff, decide_eq_false_iff_not] at this
      rcases he with he | he
      · exact absurd he this.1
      · exact absurd he this.2
    · exact hij
    · have := key i j hij hi
      unfold like2 at this
      simp only [Bool.or_eq_false_iff, decide_eq_false_iff_not] at this
      rcases he with he | he
      · exact absurd he.symm this.1
      · exact absurd he.symm this.2

/-- the owner: the first that is nearest -/
noncomputable def nearer (l : List Mem') (id : Id) (i : Nat) (m : Mem') : Mem' := if way id.num (l.getD i noM).2.1.num < way id.num m.2.1.num then l.getD i noM else m
noncomputable def ownerM (l : List Mem') (id : Id) : Mem' := foldN (nearer l id) (l.length - 1) 1 (l.getD 0 noM)
theorem ringFrom1_eq (a b : Mem') (id : Id) : oringFrom_1 ((a, b, id, ()), ()) = some ((cmpN (way id.num a.2.1.num) (way id.num b.2.1.num), ()), ()) := by
  obtain ⟨an, ai, ⟨⟩⟩ := a
  obtain ⟨bn, bi, ⟨⟩⟩ := b
  rw [oringFrom_1_eq, bringFrom_1]
  simp only [identFar_eq, bS_some, identCompare_eq, far_num]
theorem minF_eq (l : List Mem') (id : Id) (hl : l.length ≤ 4611686018427387903) (h0 : 0 < l.length) : oslicesMinFunc ((l, ((), id, ()), ()), ()) = some ((ownerM l id, ()), ()) := by
  rw [oslicesMinFunc_eq, bslicesMinFunc]
  have h1 : ilt (dlen l) 1 = false := ilt_f.2 (by rw [dlen_eq]; omega)
  have h2 : ilt 0 (dlen l) = true := ilt_t.2 (by rw [dlen_eq]; omega)
  have e4 : ile 0 0 = true := rfl
  have e0 : dget ((Ty.int IntKind.i64).pair (Ty.id.pair Ty.unit)) l 0 = l.getD 0 noM := dget_eq memT l 0
  simp only [bifF h1, bifT e4, bifT h2, wslicesMinFuncx5_eq, e0]
  have h := whl_goI (g := rslicesMinFuncx5) (fun i (m : Mem') => ((l, ((), id, ()), (), (), (i : Int), ()), (0, Id.zero, ()), m, ())) (fun i m => .inl (nearer l id i m)) (fun m => .inl (((), (), ()), (0, Id.zero, ()), m, ())) l.length
    (fun s => by simp only [rslicesMinFuncx5, bifF (ilt_len' (xs := l) (Nat.le_refl _))])
    (fun i m hi => by
      have e : dget ((Ty.int IntKind.i64).pair (Ty.id.pair Ty.unit)) l (i : Int) = l.getD i noM := dget_eq memT l i
      have hc : ilt (cmpN (way id.num (l.getD i noM).2.1.num) (way id.num m.2.1.num)) 0 = decide (way id.num (l.getD i noM).2.1.num < way id.num m.2.1.num) := by rw [Bool.eq_iff_iff, ilt_t, decide_eq_true_iff, cmpN_lt]
      simp only [rslicesMinFuncx5, bifT (ilt_len hi), bifT ile_nat, e, ringFrom1_eq, bS_some, hc, inc_nat (show i < 4611686018427387904 by omega)]
      unfold nearer
      generalize l.getD i noM = y
      by_cases hh : way id.num y.2.1.num < way id.num m.2.1.num <;> simp [hh]) (l.length - 1) 1 (l.getD 0 noM) (by omega)
  rw [goI_fold] at h
  rw [show ((1 : Int) = ((1 : Nat) : Int)) from rfl, h]
  rfl
theorem owner_inv {l : List Mem'} {id : Id} (h0 : 0 < l.length) : (∃ j, j < l.length ∧ ownerM l id = l.getD j noM) ∧ ∀ j, j < l.length → way id.num (ownerM l id).2.1.num ≤ way id.num (l.getD j noM).2.1.num := by
  have h := foldN_inv (f := nearer l id) (I := fun i m => (∃ j, j < i ∧ m = l.getD j noM) ∧ ∀ j, j < i → way id.num m.2.1.num ≤ way id.num (l.getD j noM).2.1.num)
    (fun i m hm => by
      unfold nearer
      split
      · rename_i hlt
        refine ⟨⟨i, by omega, rfl⟩, fun j hj => ?_⟩
        by_cases e : j = i
        · subst e; omega
        · have := hm.2 j (by omega)
          omega
      · rename_i hlt
        obtain ⟨⟨j0, hj0, e0⟩, hm2⟩ := hm
        refine ⟨⟨j0, by omega, e0⟩, fun j hj => ?_⟩
        by_cases e : j = i
        · subst e; omega
        · exact hm2 j (by omega)) (l.length - 1) 1 (l.getD 0 noM) ⟨⟨0, by omega, rfl⟩, fun j hj => by
          obtain rfl : j = 0 := by omega
          exact Nat.le_refl _⟩
  rw [show 1 + (l.length - 1) = l.length by omega] at h
  exact h
theorem ringOwner_eq (l : List Mem') (id : Id) (hl : l.length ≤ 4611686018427387903) (hr : rightB l = true) (h0 : 0 < l.length) : oringOwner ((l, id, ()), ()) = some ((ownerM l id, 0, ()), ()) := by
  rw [oringOwner_eq, bringOwner]
  have h1 : ieq (dlen l) 0 = false := ieq_f.2 (by rw [dlen_eq]; omega)
  simp only [ringRight_eq l hl, bS_some, hr, h1, oringFrom_eq, bringFrom, minF_eq l id hl h0]
  rfl

end Am
end Go.Proofs.Ytkpojikfadeeeaa
