/-
  Tables: table.Right and Match, and the document's.
-/
import Derived.Test.YtgdgiihaakcmpaaEn
import Derived.Test.YtgdgiihaakcmpaaIc
namespace Go.Proofs.Ytgdgiihaakcmpaa
namespace Am
open Go Go.RowKit
set_option linter.unusedVariables false

abbrev Trg := Id × (Ent × (Int × Unit))
def noT : Trg := (Id.zero, noE, 0, ())
abbrev trgT : Ty := (Ty.id.pair (((Ty.int IntKind.i64).pair (Ty.id.pair ((Ty.int IntKind.i64).pair Ty.unit))).pair ((Ty.int IntKind.i64).pair Ty.unit)))
theorem trgget (l : List Trg) (i : Nat) : dget (Ty.id.pair (((Ty.int IntKind.i64).pair (Ty.id.pair ((Ty.int IntKind.i64).pair Ty.unit))).pair ((Ty.int IntKind.i64).pair Ty.unit))) l (i : Int) = l.getD i noT := dget_eq trgT l i
def mayT (x : Trg) : Bool := isE x.2.1 && (decide (0 ≤ x.2.2.1) && decide (x.2.2.1 ≤ 1099511627776))
theorem tableMay_eq (x : Trg) : otableMay ((x, ()), ()) = some ((mayT x, ()), ()) := by
  rw [otableMay_eq, btableMay]
  simp only [stackIs_eq, bS_some, ile_eq, mayT]
  cases isE x.2.1 <;> cases decide (0 ≤ x.2.2.1) <;> rfl
theorem ref12May_eq (x : Trg) : oref12May ((x, ()), ()) = some ((mayT x, ()), ()) := by
  rw [oref12May_eq, bref12May]
  simp only [ref04Is_eq, bS_some, ile_eq, mayT]
  cases isE x.2.1 <;> cases decide (0 ≤ x.2.2.1) <;> rfl

def cmpI (x y : Int) : Int := if x < y then -1 else if y < x then 1 else 0
theorem cmpIsNaNb_eq (x : Int) : ocmpIsNaNb ((x, ()), ()) = some ((false, ()), ()) := by
  rw [ocmpIsNaNb_eq, bcmpIsNaNb]; simp [ieq_d]
theorem cmpCompareb_eq (x y : Int) : ocmpCompareb ((x, y, ()), ()) = some ((cmpI x y, ()), ()) := by
  rw [ocmpCompareb_eq, bcmpCompareb]
  simp only [cmpIsNaNb_eq, bS_some, cond_false, ilt_eq, cmpI]
  by_cases h1 : x < y
  · simp [h1]
  · by_cases h2 : y < x <;> simp [h1, h2]
noncomputable def c0 (a b : Trg) : Int := cmpN a.1.num b.1.num
def c1 (a b : Trg) : Int := cmpI a.2.1.1 b.2.1.1
noncomputable def c2 (a b : Trg) : Int := cmpN a.2.1.2.1.num b.2.1.2.1.num
def c3 (a b : Trg) : Int := cmpI a.2.1.2.2.1 b.2.1.2.2.1
noncomputable def cmpT (a b : Trg) : Int := if c0 a b = 0 then if c1 a b = 0 then if c2 a b = 0 then c3 a b else c2 a b else c1 a b else c0 a b
theorem w0_eq (a b : Trg) : o_tableTrigger_Id ((a, b, ()), ()) = some ((c0 a b, ()), ()) := by
  rw [o_tableTrigger_Id_eq, b_tableTrigger_Id]; simp only [identCompare_eq, bS_some]; rfl
theorem w1_eq (a b : Trg) : o_tableTrigger_Kind ((a, b, ()), ()) = some ((c1 a b, ()), ()) := by
  rw [o_tableTrigger_Kind_eq, b_tableTrigger_Kind]; simp only [cmpCompareb_eq, bS_some]; rfl
theorem w2_eq (a b : Trg) : o_tableTrigger_Goes ((a, b, ()), ()) = some ((c2 a b, ()), ()) := by
  rw [o_tableTrigger_Goes_eq, b_tableTrigger_Goes]; simp only [identCompare_eq, bS_some]; rfl
theorem w3_eq (a b : Trg) : o_tableTrigger_Host ((a, b, ()), ()) = some ((c3 a b, ()), ()) := by
  obtain ⟨i, ⟨k, j, h, u⟩, n, u2⟩ := a
  obtain ⟨i', ⟨k', j', h', u'⟩, n', u2'⟩ := b
  rw [o_tableTrigger_Host_eq, b_tableTrigger_Host]
  have := cmpCompareb_eq h h'
  show bS (ocmpCompareb ((h, h', ()), ())) _ = _
  rw [this]; rfl
theorem ge0 (c : Int) : ieq c 0 = decide (c = 0) := rfl
theorem tc_0 (a b : Trg) : rtableComparex2 (((), (), (), 4, 0, ()), a, b, ()) = bif decide (c0 a b = 0) then some (.inl (((), (), (), 4, 1, ()), a, b, ())) else some (.inr (.inr (.inl ((c0 a b, ()), ())))) := by
  have w : iwrap IntKind.i64 (iadd 0 1) = 1 := rfl
  have e1 : ilt 0 4 = true := rfl
  have e2 : ile 0 0 = true := rfl
  have e3 : ieq 0 0 = true := rfl
  simp only [rtableComparex2, e1, e2, e3, cond_true, w0_eq, bS_some, w, ge0]
  cases decide (c0 a b = 0) <;> rfl
theorem tc_1 (a b : Trg) : rtableComparex2 (((), (), (), 4, 1, ()), a, b, ()) = bif decide (c1 a b = 0) then some (.inl (((), (), (), 4, 2, ()), a, b, ())) else some (.inr (.inr (.inl ((c1 a b, ()), ())))) := by
  have w : iwrap IntKind.i64 (iadd 1 1) = 2 := rfl
  have e1 : ilt 1 4 = true := rfl
  have e2 : ile 0 1 = true := rfl
  have e3 : ieq 1 1 = true := rfl
  have e4 : ieq 1 0 = false := rfl
  simp only [rtableComparex2, e1, e2, e3, e4, cond_true, cond_false, w1_eq, bS_some, w, ge0]
  cases decide (c1 a b = 0) <;> rfl
theorem tc_2 (a b : Trg) : rtableComparex2 (((), (), (), 4, 2, ()), a, b, ()) = bif decide (c2 a b = 0) then some (.inl (((), (), (), 4, 3, ()), a, b, ())) else some (.inr (.inr (.inl ((c2 a b, ()), ())))) := by
  have w : iwrap IntKind.i64 (iadd 2 1) = 3 := rfl
  have e1 : ilt 2 4 = true := rfl
  have e2 : ile 0 2 = true := rfl
  have e3 : ieq 2 2 = true := rfl
  have e4 : ieq 2 0 = false := rfl
  have e5 : ieq 2 1 = false := rfl
  simp only [rtableComparex2, e1, e2, e3, e4, e5, cond_true, cond_false, w2_eq, bS_some, w, ge0]
  cases decide (c2 a b = 0) <;> rfl
theorem tc_3 (a b : Trg) : rtableComparex2 (((), (), (), 4, 3, ()), a, b, ()) = bif decide (c3 a b = 0) then some (.inl (((), (), (), 4, 4, ()), a, b, ())) else some (.inr (.inr (.inl ((c3 a b, ()), ())))) := by
  have w : iwrap IntKind.i64 (iadd 3 1) = 4 := rfl
  have e1 : ilt 3 4 = true := rfl
  have e2 : ile 0 3 = true := rfl
  have e3 : ieq 3 3 = true := rfl
  have e4 : ieq 3 0 = false := rfl
  have e5 : ieq 3 1 = false := rfl
  have e6 : ieq 3 2 = false := rfl
  simp only [rtableComparex2, e1, e2, e3, e4, e5, e6, cond_true, cond_false, w3_eq, bS_some, w, ge0]
  cases decide (c3 a b = 0) <;> rfl
theorem tc_4 (a b : Trg) : rtableComparex2 (((), (), (), 4, 4, ()), a, b, ()) = some (.inr (.inl ((), ()))) := rfl
theorem tableCompare_eq (a b : Trg) : otableCompare ((a, b, ()), ()) = some ((cmpT a b, ()), ()) := by
  rw [otableCompare_eq, btableCompare]
  simp only [wtableComparex2_eq, cmpT]
  have t0 := tc_0 a b
  have t1 := tc_1 a b
  have t2 := tc_2 a b
  have t3 := tc_3 a b
  by_cases h0 : c0 a b = 0
  · simp only [h0, decide_true, cond_true] at t0
    rw [whl_inl t0, if_pos h0]
    by_cases h1 : c1 a b = 0
    · simp only [h1, decide_true, cond_true] at t1
      rw [whl_inl t1, if_pos h1]
      by_cases h2 : c2 a b = 0
      · simp only [h2, decide_true, cond_true] at t2
        rw [whl_inl t2, if_pos h2]
        by_cases h3 : c3 a b = 0
        · simp only [h3, decide_true, cond_true] at t3
          rw [whl_inl t3, whl_inr (tc_4 a b), h3]; rfl
        · simp only [h3, decide_false, cond_false] at t3
          rw [whl_inr t3]; rfl
      · simp only [h2, decide_false, cond_false] at t2
        rw [whl_inr t2, if_neg h2]; rfl
    · simp only [h1, decide_false, cond_false] at t1
      rw [whl_inr t1, if_neg h1]; rfl
  · simp only [h0, decide_false, cond_false] at t0
    rw [whl_inr t0, if_neg h0]; rfl
theorem cmpI_lt (x y : Int) : decide (cmpI x y < 0) = decide (x < y) := by
  rw [Bool.eq_iff_iff]; unfold cmpI; simp only [decide_eq_true_iff]; split <;> (try split) <;> omega
theorem cmpI_eq (x y : Int) : cmpI x y = 0 ↔ x = y := by
  unfold cmpI; split <;> (try split) <;> omega
theorem ref12Less_eq (a b : Trg) : oref12Less ((a, b, ()), ()) = some ((decide (cmpT a b < 0), ()), ()) := by
  rw [oref12Less_eq, bref12Less]
  simp only [ref01Compare_eq, bS_some, ieq_d, ilt_eq, bifNot]
  have e1 := cmpI_eq a.2.1.1 b.2.1.1
  have l1 := cmpI_lt a.2.1.1 b.2.1.1
  have l3 := cmpI_lt a.2.1.2.2.1 b.2.1.2.2.1
  unfold cmpT
  by_cases h0 : c0 a b = 0
  · rw [if_pos h0]
    have h0' : cmpN a.1.num b.1.num = 0 := h0
    by_cases h1 : c1 a b = 0
    · rw [if_pos h1]
      have h1' := e1.1 h1
      by_cases h2 : c2 a b = 0
      · rw [if_pos h2]
        have h2' : cmpN a.2.1.2.1.num b.2.1.2.1.num = 0 := h2
        simp only [h0', h1', h2', decide_true, Bool.not_true, cond_false]
        unfold c3
        rw [l3]
      · rw [if_neg h2]
        have h2' : cmpN a.2.1.2.1.num b.2.1.2.1.num ≠ 0 := h2
        simp only [h0', h1', h2', decide_true, decide_false, Bool.not_true, Bool.not_false, cond_false, cond_true]
        rfl
    · rw [if_neg h1]
      have h1' : ¬ a.2.1.1 = b.2.1.1 := fun h => h1 (e1.2 h)
      simp only [h0', h1', decide_true, decide_false, Bool.not_true, Bool.not_false, cond_false, cond_true]
      unfold c1
      rw [l1]
  · rw [if_neg h0]
    have h0' : ¬ cmpN a.1.num b.1.num = 0 := h0
    simp only [h0', decide_false, Bool.not_false, cond_true]
    rfl

/-- a table's trigger that may not be where it is -/
noncomputable def badT (t : List Trg) (i : Nat) : Bool := !mayT (t.getD i noT) || (decide (0 < i) && decide (0 ≤ cmpT (t.getD (i - 1) noT) (t.getD i noT)))
noncomputable def rightT (t : List Trg) : Bool := !anyN (badT t) t.length 0 && decide (t.length ≤ 32)
theorem dec_nat {i : Nat} (h0 : 0 < i) (h : i < 4611686018427387904) : iwrap .i64 (isub (i : Int) 1) = ((i - 1 : Nat) : Int) := by
  have e : isub (i : Int) 1 = ((i - 1 : Nat) : Int) := by simp only [isub]; omega
  rw [e, iwrap_i64] <;> omega
theorem right_end (t : List Trg) : ile (dlen t) 32 = decide (t.length ≤ 32) := by
  rw [ile_eq, dlen_eq, Bool.eq_iff_iff]; simp only [decide_eq_true_iff]; omega
theorem tableRight_eq (t : List Trg) (hl : t.length ≤ 4611686018427387903) : otableRight ((t, ()), ()) = some ((rightT t, ()), ()) := by
  rw [otableRight_eq, btableRight]
  simp only [wtableRightx2_eq]
  have h := whl_goI (g := rtableRightx2) (fun i (_ : Unit) => ((t, t, dlen t, (i : Int), ()), ())) (fun i (_ : Unit) => if badT t i = true then .inr (.inr (.inl ((false, ()), ()))) else .inl ()) (fun _ => .inl ((t, ()), ())) t.length
    (fun s => by simp only [rtableRightx2, bifF (ilt_len' (xs := t) (Nat.le_refl _))])
    (fun i s hi => by
      simp only [rtableRightx2, bifT (ilt_len hi), bifT ile_nat, trgget, tableMay_eq, bS_some, inc_nat (show i < 4611686018427387904 by omega), bifNot, Bool.not_not]
      unfold badT
      cases mayT (t.getD i noT) with
      | false => rfl
      | true =>
        rcases Nat.eq_zero_or_pos i with h0 | h0
        · subst h0; rfl
        · have e : ilt 0 (i : Int) = true := ilt_t.2 (by omega)
          simp only [e, cond_true, dec_nat h0 (show i < 4611686018427387904 by omega), bifT ile_nat, ilt_len (show i - 1 < t.length by omega), trgget, tableCompare_eq, bS_some, ile_eq, h0, decide_true, Bool.not_true, Bool.false_or, Bool.true_and]
          cases decide (0 ≤ cmpT (t.getD (i - 1) noT) (t.getD i noT)) <;> rfl) t.length 0 () (by omega)
  have h := h.trans (congrArg some (goI_any (badT t) _ _ t.length 0))
  rw [show ((0 : Int) = ((0 : Nat) : Int)) from rfl, h]
  unfold rightT
  cases anyN (badT t) t.length 0 with
  | true => rfl
  | false => simp only [Bool.false_eq_true, if_false, bL_inl, right_end]; rfl
theorem ref12Right_eq (t : List Trg) (hl : t.length ≤ 4611686018427387903) : oref12Right ((t, ()), ()) = some ((rightT t, ()), ()) := by
  rw [oref12Right_eq, bref12Right]
  simp only [wref12Rightx2_eq]
  have h := whl_goI (g := rref12Rightx2) (fun i (_ : Unit) => ((t, t, dlen t, (i : Int), ()), ())) (fun i (_ : Unit) => if badT t i = true then .inr (.inr (.inl ((false, ()), ()))) else .inl ()) (fun _ => .inl ((t, ()), ())) t.length
    (fun s => by simp only [rref12Rightx2, bifF (ilt_len' (xs := t) (Nat.le_refl _))])
    (fun i s hi => by
      simp only [rref12Rightx2, bifT (ilt_len hi), bifT ile_nat, trgget, ref12May_eq, bS_some, inc_nat (show i < 4611686018427387904 by omega), bifNot, Bool.not_not]
      unfold badT
      cases mayT (t.getD i noT) with
      | false => rfl
      | true =>
        rcases Nat.eq_zero_or_pos i with h0 | h0
        · subst h0; rfl
        · have e : ilt 0 (i : Int) = true := ilt_t.2 (by omega)
          simp only [e, cond_true, dec_nat h0 (show i < 4611686018427387904 by omega), bifT ile_nat, ilt_len (show i - 1 < t.length by omega), trgget, ref12Less_eq, bS_some, h0, decide_true, Bool.not_true, Bool.false_or, Bool.true_and]
          have : (!decide (cmpT (t.getD (i - 1) noT) (t.getD i noT) < 0)) = decide (0 ≤ cmpT (t.getD (i - 1) noT) (t.getD i noT)) := by
            rw [Bool.eq_iff_iff]; simp only [Bool.not_eq_true', decide_eq_false_iff_not, decide_eq_true_iff]; omega
          rw [this]
          cases decide (0 ≤ cmpT (t.getD (i - 1) noT) (t.getD i noT)) <;> rfl) t.length 0 () (by omega)
  have h := h.trans (congrArg some (goI_any (badT t) _ _ t.length 0))
  rw [show ((0 : Int) = ((0 : Nat) : Int)) from rfl, h]
  unfold rightT
  cases anyN (badT t) t.length 0 with
  | true => rfl
  | false => simp only [Bool.false_eq_true, if_false, bL_inl, right_end]; rfl
theorem rightT_len {t : List Trg} (h : rightT t = true) : t.length ≤ 32 := by
  unfold rightT at h
  simp only [Bool.and_eq_true, decide_eq_true_iff] at h
  exact h.2
theorem rightT_may {t : List Trg} (h : rightT t = true) {x : Trg} (hx : x ∈ t) : mayT x = true := by
  unfold rightT at h
  simp only [Bool.and_eq_true, Bool.not_eq_true'] at h
  obtain ⟨j, hj, rfl⟩ := List.getElem_of_mem hx
  have := anyN_false h.1 (j := j) (by omega) (by omega)
  unfold badT at this
  simp only [Bool.or_eq_false_iff, Bool.not_eq_false'] at this
  simpa [hj] using this.1

end Am
end Go.Proofs.Ytgdgiihaakcmpaa
