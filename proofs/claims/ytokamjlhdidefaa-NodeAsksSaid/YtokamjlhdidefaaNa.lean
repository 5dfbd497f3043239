/-
  The law NodeAsks.
-/
import Derived.Test.YtokamjlhdidefaaRq
namespace Go.Proofs.Ytokamjlhdidefaa
namespace Am
open Go Go.RowKit
set_option linter.unusedVariables false

theorem refIn_m (x a : Id) (m : Mem') : oref01In ((x, a, m.snd), ()) = some ((within x a m.2.1, ()), ()) := by
  obtain ⟨mn, mi, ⟨⟩⟩ := m
  exact ref01In_eq x a mi
noncomputable def nextN (n : Node') (id : Id) : Mem' × Bool × Int × Unit :=
  if rightN n = true then
    (if within id n.1.2.1 (n.2.2.1.getD 0 noM).2.1 = true then (n.2.2.1.getD 0 noM, true, 0, ())
      else if (closest n.1.2.1 id (n.2.2.2.1 ++ n.2.2.1)).2 = 0 then ((closest n.1.2.1 id (n.2.2.2.1 ++ n.2.2.1)).1, false, 0, ()) else (n.2.2.1.getD 0 noM, false, 0, ()))
  else (noM, false, 1, ())
theorem nodeNext_eq (n : Node') (id : Id) (h1 : n.2.2.1.length ≤ 500) (h2 : n.2.2.2.1.length ≤ 500) : onodeNext ((n, id, ()), ()) = some (nextN n id, ()) := by
  rw [onodeNext_eq, bnodeNext]
  have eg : dget ((Ty.int IntKind.i64).pair (Ty.id.pair Ty.unit)) n.2.2.1 0 = n.2.2.1.getD 0 noM := memget n.2.2.1 0
  have hc : ofingerClosest ((id, n.1.2.1, n.2.2.2.1 ++ n.2.2.1, ()), ()) = _ := fingerClosest_eq' id n.1.2.1 (n.2.2.2.1 ++ n.2.2.1) (by simp; omega)
  simp only [nodeRight_eq n (by omega) (by omega), bS_some, eg, identIn_m, ile00, cond_true, concat_eq n.2.2.2.1 n.2.2.1 (by omega), hc]
  unfold nextN
  cases hr : rightN n with
  | false => rfl
  | true =>
    have hs := (right_may hr).1
    have hlt : ilt 0 (dlen n.2.2.1) = true := ilt_t.2 (by rw [dlen_eq]; omega)
    simp only [hlt, cond_true, cond_false, if_true]
    cases within id n.1.2.1 (n.2.2.1.getD 0 noM).2.1 with
    | true => rfl
    | false =>
      simp only [cond_false, Bool.false_eq_true, if_false, ieqd]
      by_cases h : (closest n.1.2.1 id (n.2.2.2.1 ++ n.2.2.1)).2 = 0
      · simp only [h, decide_true, cond_true, cond_false, if_true]
      · simp only [h, decide_false, cond_true, cond_false, if_false]
theorem refNext_eq (n : Node') (id : Id) (h1 : n.2.2.1.length ≤ 500) (h2 : n.2.2.2.1.length ≤ 500) (hr : rightN n = true) : oref09Next ((n, id, ()), ()) = some ((((nextN n id).1, (nextN n id).2.1, ()), ()), ()) := by
  obtain ⟨hs, hmay⟩ := right_may hr
  rw [oref09Next_eq, bref09Next]
  have eg : dget ((Ty.int IntKind.i64).pair (Ty.id.pair Ty.unit)) n.2.2.1 0 = n.2.2.1.getD 0 noM := memget n.2.2.1 0
  have hlt : ilt 0 (dlen n.2.2.1) = true := ilt_t.2 (by rw [dlen_eq]; omega)
  have f0 : fits 0 (dlen n.2.2.2.1) 40 = true := fits_of (xs := ([] : List Mem')) (by simp; omega) (by simp; omega)
  have ea : ∀ l : List Mem', dapp ([] : List Mem') l = l := fun l => rfl
  have eb : ∀ l k : List Mem', dapp l k = l ++ k := fun l k => rfl
  have f1 : fits (dlen n.2.2.2.1) (dlen n.2.2.1) 40 = true := fits_of (by omega) (by omega)
  have hc : oref08Closest ((id, n.1.2.1, n.2.2.2.1 ++ n.2.2.1, ()), ()) = _ := ref08Closest_eq' id n.1.2.1 (n.2.2.2.1 ++ n.2.2.1) (by simp; omega)
  simp only [ile00, cond_true, hlt, eg, refIn_m, bS_some, f0, ea, eb, f1, hc]
  unfold nextN
  rw [if_pos hr]
  cases within id n.1.2.1 (n.2.2.1.getD 0 noM).2.1 with
  | true => rfl
  | false =>
    simp only [cond_false, Bool.false_eq_true, if_false]
    rcases side_closest n.1.2.1 id (n.2.2.2.1 ++ n.2.2.1) with ⟨k1, k2, k3⟩ | ⟨k1, k2, k3⟩
    · rw [k3]
      have h6 : ¬ (closest n.1.2.1 id (n.2.2.2.1 ++ n.2.2.1)).2 = 0 := by rw [k1]; decide
      have hm1 : ilt (-1) 0 = true := rfl
      simp only [hm1, cond_true, h6, if_false]
    · rw [k2]
      have hin := closest_in n.1.2.1 id (n.2.2.2.1 ++ n.2.2.1) k1
      have hm := hmay _ hin
      have hge : ilt (closest n.1.2.1 id (n.2.2.2.1 ++ n.2.2.1)).1.1 0 = false := by
        unfold mayB at hm
        simp only [Bool.and_eq_true, decide_eq_true_iff] at hm
        exact ilt_f.2 hm.1
      simp only [hge, cond_false, k1, if_true]

theorem likeN_self (a : Node') : likeN a a = true := by
  unfold likeN
  rw [memB_self, memB_self, sameL_iff.2 rfl, sameL_iff.2 rfl]
  rfl
theorem asks (n0 : Node') (m : Mem') (id : Id) : olaw09NodeAsks ((n0, m, id, ()), ()) = some ((true, ()), ()) := by
  rw [olaw09NodeAsks_eq, blaw09NodeAsks, fewN_eq, bS_some]
  have g1 : (fewN n0).2.2.1.length ≤ 500 := by simp [fewN]; omega
  have g2 : (fewN n0).2.2.2.1.length ≤ 500 := by simp [fewN]; omega
  obtain ⟨n, hn⟩ : ∃ n, fewN n0 = n := ⟨_, rfl⟩
  rw [hn] at g1 g2
  have i00 : ieq 0 0 = true := rfl
  have i11 : ieq 1 1 = true := rfl
  have hbb : ∀ b : Bool, beq b b = true := fun b => by cases b <;> rfl
  have idd : ∀ a : Id, ideq a a = true := fun a => ideq_t.2 rfl
  have iee : ∀ a : Int, ieq a a = true := fun a => ieq_t.2 rfl
  simp only [hn, nodeAlone_eq, nodeNext_eq n id g1 g2, lawMay_eq, bS_some, alive9, nodeRight_eq n (by omega) (by omega), refRight_eq n (by omega) (by omega), nodeOwns_eq n id (by omega) (by omega), refNone_eq, refIn_m, hbb, cond_true, cond_false]
  have hal : mayB m = true → aloneN m = ((m, noneM, [m], [], ()), 0, ()) := fun h => by unfold aloneN; rw [if_pos h]
  have hal2 : mayB m = false → (aloneN m).2.1 = 1 := fun h => by unfold aloneN; rw [if_neg (by rw [h]; decide)]
  have hlike : mayB m = true → oref09Like (((aloneN m).1, (m, (-1, Id.zero, ()), [m], [], ()), ()), ()) = some ((true, ()), ()) := fun h => by
    rw [hal h]
    have := refLike_eq (m, noneM, [m], [], ()) (m, noneM, [m], [], ()) (by simp) (by simp)
    rw [likeN_self] at this
    exact this
  -- the second half
  cases hr : rightN n with
  | false =>
    have hx : nextN n id = (noM, false, 1, ()) := by unfold nextN; rw [if_neg (by rw [hr]; decide)]
    have ho : ownsN n id = false := by unfold ownsN; rw [hr]; rfl
    have z1 : ieq noM.1 0 = true := rfl
    have z2 : ideq noM.2.1 Id.zero = true := ideq_t.2 rfl
    rw [hx, ho]
    cases hm : mayB m with
    | true =>
      have e0 : (aloneN m).2.1 = 0 := by rw [hal hm]
      simp only [e0, i00, i11, hlike hm, bS_some, cond_true, cond_false, hbb, z1, z2]
    | false =>
      simp only [hal2 hm, i11, cond_true, cond_false, hbb, z1, z2]
  | true =>
    have hN := refNext_eq n id g1 g2 hr
    have ho : ownsN n id = (!memB n.2.1 noneM && within id n.2.1.2.1 n.1.2.1) := by unfold ownsN; rw [hr]; rfl
    have hx0 : (nextN n id).2.2.1 = 0 := by
      unfold nextN
      rw [if_pos hr]
      split
      · rfl
      · split <;> rfl
    rw [ho]
    cases hm : mayB m with
    | true =>
      have e0 : (aloneN m).2.1 = 0 := by rw [hal hm]
      cases hp : memB n.2.1 noneM <;> simp only [e0, hx0, hN, i00, i11, hlike hm, bS_some, cond_true, cond_false, hbb, iee, idd, Bool.not_true, Bool.not_false, Bool.true_and, Bool.false_and]
    | false =>
      cases hp : memB n.2.1 noneM <;> simp only [hal2 hm, hx0, hN, i00, i11, bS_some, cond_true, cond_false, hbb, iee, idd, Bool.not_true, Bool.not_false, Bool.true_and, Bool.false_and]

end Am
end Go.Proofs.Ytokamjlhdidefaa
