/-
  The law NodeOwns.
-/
import Derived.Test.YtokamjlhdidefaaRn
namespace Go.Proofs.Ytokamjlhdidefaa
namespace Am
open Go Go.RowKit
set_option linter.unusedSimpArgs false
set_option linter.unusedVariables false

theorem memB_false {a b : Mem'} : memB a b = false ↔ a ≠ b := by
  cases h : memB a b with
  | true => simp [memB_iff.1 h]
  | false =>
    simp only [true_iff]
    intro e
    rw [memB_iff.2 e] at h
    cases h
/-- with one ahead that may be, a node may be as it might without one -/
theorem rightN_pred (n : Node') (m : Mem') (hm : mayB m = true) (hne : m.1 ≠ n.1.1) (h : rightN (n.1, noneM, n.2.2) = true) : rightN (n.1, m, n.2.2) = true := by
  unfold rightN at h ⊢
  simp only [Bool.and_eq_true] at h ⊢
  refine ⟨h.1, ?_, h.2.2⟩
  unfold predB
  simp only [hm, decide_eq_false hne]
  simp
theorem rightN_bare (n : Node') (h : rightN n = true) : rightN (n.1, noneM, n.2.2) = true := by
  unfold rightN at h ⊢
  simp only [Bool.and_eq_true] at h ⊢
  refine ⟨h.1, ?_, h.2.2⟩
  unfold predB
  rw [memB_self]
  rfl
theorem may_none {m : Mem'} (hm : mayB m = true) : memB m noneM = false := by
  rw [memB_false]
  rintro rfl
  cases hm

theorem notify_same {n : Node'} {m : Mem'} (hr : rightN n = true) (hm : mayB m = true) (h : m.1 = n.1.1 ∨ m.2.1 = n.1.2.1) : notifyN n m = (n, 0, ()) := by
  unfold notifyN
  simp [hr, hm, h]
theorem notify_new {n : Node'} {m : Mem'} (hr : rightN n = true) (hm : mayB m = true) (h : ¬ (m.1 = n.1.1 ∨ m.2.1 = n.1.2.1)) (h2 : memB n.2.1 noneM = true ∨ within m.2.1 n.2.1.2.1 n.1.2.1 = true) : notifyN n m = ((n.1, m, n.2.2), 0, ()) := by
  unfold notifyN
  rw [hr, hm, if_pos (show (true && true) = true from rfl), if_neg h, if_pos h2]
theorem notify_old {n : Node'} {m : Mem'} (hr : rightN n = true) (hm : mayB m = true) (h2 : ¬ (memB n.2.1 noneM = true ∨ within m.2.1 n.2.1.2.1 n.1.2.1 = true)) : notifyN n m = (n, 0, ()) := by
  unfold notifyN
  rw [hr, hm, if_pos (show (true && true) = true from rfl), if_neg h2, ite_self]
theorem beq_dec (a b : Bool) : beq a b = decide (a = b) := rfl

end Am
end Go.Proofs.Ytokamjlhdidefaa
