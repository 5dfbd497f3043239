/-
  The law NodeAsks.
-/
import Derived.Test.YtokamjlhdidefaaRq
namespace Go.Proofs.Ytokamjlhdidefaa
namespace Am
open Go Go.RowKit
set_option linter.unusedSimpArgs false
set_option linter.unusedVariables false

theorem refIn_m (x a : Id) (m : Mem') : oref01In ((x, a, m.snd), ()) = some ((within x a m.2.1, ()), ()) := by
  obtain ⟨mn, mi, ⟨⟩⟩ := m
  exact ref01In_eq x a mi
noncomputable def nextN (n : Node') (id : Id) : Mem' × Bool × Int × Unit :=
  if rightN n = true then
    (if within id n.1.2.1 (n.2.2.1.getD 0 noM).2.1 = true then (n.2.2.1.getD 0 noM, true, 0, ())
      else if (closest n.1.2.1 id (n.2.2.2.1 ++ n.2.2.1)).2 = 0 then ((closest n.1.2.1 id (n.2.2.2.1 ++ n.2.2.1)).1, false, 0, ()) else (n.2.2.1.getD 0 noM, false, 0, ()))
  else (noM, false, 1, ())
theorem nodeNext_eq (n : Node') (id : Id) (h1 : n.2.2.1.length ≤ 500) (h2 : n.2.2.2.1.length ≤ 500) : onodeNext ((n, id, ()), ()) = some (nextN n id, ()) := by
  rw [onodeNext_eq, bnodeNext]
  have eg : dget ((Ty.int IntKind.i64).pair (Ty.id.pair Ty.unit)) n.2.2.1 0 = n.2.2.1.getD 0 noM := memget n.2.2.1 0
  have hc : ofingerClosest ((id, n.1.2.1, n.2.2.2.1 ++ n.2.2.1, ()), ()) = _ := fingerClosest_eq' id n.1.2.1 (n.2.2.2.1 ++ n.2.2.1) (by simp; omega)
  simp only [nodeRight_eq n (by omega) (by omega), bS_some, eg, identIn_m, ile00, cond_true, concat_eq n.2.2.2.1 n.2.2.1 (by omega), hc]
  unfold nextN
  cases hr : rightN n with
  | false => rfl
  | true =>
    have hs := (right_may hr).1
    have hlt : ilt 0 (dlen n.2.2.1) = true := ilt_t.2 (by rw [dlen_eq]; omega)
    simp only [hlt, cond_true, cond_false, if_true]
    cases within id n.1.2.1 (n.2.2.1.getD 0 noM).2.1 with
    | true => rfl
    | false =>
      simp only [cond_false, Bool.false_eq_true, if_false, ieqd]
      by_cases h : (closest n.1.2.1 id (n.2.2.2.1 ++ n.2.2.1)).2 = 0
      · simp only [h, decide_true, cond_true, cond_false, if_true]
      · simp only [h, decide_false, cond_true, cond_false, if_false]
theorem refNext_eq (n : Node') (id : Id) (h1 : n.2.2.1.length ≤ 500) (h2 : n.2.2.2.1.length ≤ 500) (hr : rightN n = true) : oref09Next ((n, id, ()), ()) = some ((((nextN n id).1, (nextN n id).2.1, ()), ()), ()) := by
  obtain ⟨hs, hmay⟩ := right_may hr
  rw [oref09Next_eq, bref09Next]
  have eg : dget ((Ty.int IntKind.i64).pair (Ty.id.pair Ty.unit)) n.2.2.1 0 = n.2.2.1.getD 0 noM := memget n.2.2.1 0
  have hlt : ilt 0 (dlen n.2.2.1) = true := ilt_t.2 (by rw [dlen_eq]; omega)
  have f0 : fits 0 (dlen n.2.2.2.1) 40 = true := fits_of (xs := ([] : List Mem')) (by simp; omega) (by simp; omega)
  have ea : ∀ l : List Mem', dapp ([] : List Mem') l = l := fun l => rfl
  have eb : ∀ l k : List Mem', dapp l k = l ++ k := fun l k => rfl
  have f1 : fits (dlen n.2.2.2.1) (dlen n.2.2.1) 40 = true := fits_of (by omega) (by omega)
  have hc : oref08Closest ((id, n.1.2.1, n.2.2.2.1 ++ n.2.2.1, ()), ()) = _ := ref08Closest_eq' id n.1.2.1 (n.2.2.2.1 ++ n.2.2.1) (by simp; omega)
  simp only [ile00, cond_true, hlt, eg, refIn_m, bS_some, f0, ea, eb, f1, hc]
  unfold nextN
  rw [if_pos hr]
  cases within id n.1.2.1 (n.2.2.1.getD 0 noM).2.1 with
  | true => rfl
  | false =>
    simp only [cond_false, Bool.false_eq_true, if_false]
    rcases side_closest n.1.2.1 id (n.2.2.2.1 ++ n.2.2.1) with ⟨k1, k2, k3⟩ | ⟨k1, k2, k3⟩
    · rw [k3]
      have h6 : ¬ (closest n.1.2.1 id (n.2.2.2.1 ++ n.2.2.1)).2 = 0 := by rw [k1]; decide
      have hm1 : ilt (-1) 0 = true := rfl
      simp only [hm1, cond_true, h6, if_false]
    · rw [k2]
      have hin := closest_in n.1.2.1 id (n.2.2.2.1 ++ n.2.2.1) k1
      have hm := hmay _ hin
      have hge : ilt (closest n.1.2.1 id (n.2.2.2.1 ++ n.2.2.1)).1.1 0 = false := by
        unfold mayB at hm
        simp only [Bool.and_eq_true, decide_eq_true_iff] at hm
        exact ilt_f.2 hm.1
      simp only [hge, cond_false, k1, if_true]

theorem likeN_self (a : Node') : likeN a a = true := by
  unfold likeN
  rw [memB_self, memB_self, sameL_iff.2 rfl, sameL_iff.2 rfl]
  rfl
end Am
end Go.Proofs.Ytokamjlhdidefaa
