/-
  The ways that are walked.
-/
import Derived.Test.YtokamjlhdidefaaPi
namespace Go.Proofs.Ytokamjlhdidefaa
namespace Am
open Go Go.RowKit
set_option linter.unusedSimpArgs false
set_option linter.unusedVariables false

/-- is an identifier on the way, and no end's start? -/
noncomputable def within (x a b : Id) : Bool := decide (a = b) || (decide (way a.num x.num ≠ 0) && decide (way a.num x.num ≤ way a.num b.num))
theorem identIn_eq (x a b : Id) : oidentIn ((x, a, b, ()), ()) = some ((within x a b, ()), ()) := by
  rw [oidentIn_eq, bidentIn]
  simp only [identFar_eq, bS_some, identCompare_eq]
  unfold within
  by_cases e : a = b
  · rw [bifT (ideq_t.2 e)]; simp [e]
  · rw [bifF (ideq_f.2 e)]
    have hz : ideq (far a x) Id.zero = decide (way a.num x.num = 0) := by
      rw [Bool.eq_iff_iff, ideq_t, decide_eq_true_iff, ← Id.num_eq, far_num, Id.num_zero]
    rw [hz, far_num, far_num]
    by_cases h0 : way a.num x.num = 0
    · simp [h0, e]
    · simp only [h0, decide_false, cond_false, cond_true, e, ne_eq, not_false_eq_true, decide_true, Bool.true_and, Bool.false_or]
      have : ile (cmpN (way a.num x.num) (way a.num b.num)) 0 = decide (way a.num x.num ≤ way a.num b.num) := by
        rw [Bool.eq_iff_iff, ile_t, decide_eq_true_iff, cmpN_le]
      rw [this]

theorem ideq_dec (a b : Id) : ideq a b = decide (a = b) := rfl
abbrev Mem' : Type := Int × Id × Unit
abbrev memT : Ty := .pair (.int .i64) (.pair .id .unit)

end Am
end Go.Proofs.Ytokamjlhdidefaa
