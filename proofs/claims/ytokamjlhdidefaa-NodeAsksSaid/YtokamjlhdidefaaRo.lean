/-
  The law NodeOwns.
-/
import Derived.Test.YtokamjlhdidefaaRn
namespace Go.Proofs.Ytokamjlhdidefaa
namespace Am
open Go Go.RowKit
set_option linter.unusedVariables false

theorem memB_false {a b : Mem'} : memB a b = false ↔ a ≠ b := by
  cases h : memB a b with
  | true => simp [memB_iff.1 h]
  | false =>
    simp only [true_iff]
    intro e
    rw [memB_iff.2 e] at h
    cases h
/-- with one ahead that may be, a node may be as it might without one -/
theorem rightN_pred (n : Node') (m : Mem') (hm : mayB m = true) (hne : m.1 ≠ n.1.1) (h : rightN (n.1, noneM, n.2.2) = true) : rightN (n.1, m, n.2.2) = true := by
  unfold rightN at h ⊢
  simp only [Bool.and_eq_true] at h ⊢
  refine ⟨h.1, ?_, h.2.2⟩
  unfold predB
  simp only [hm, decide_eq_false hne]
  simp
theorem rightN_bare (n : Node') (h : rightN n = true) : rightN (n.1, noneM, n.2.2) = true := by
  unfold rightN at h ⊢
  simp only [Bool.and_eq_true] at h ⊢
  refine ⟨h.1, ?_, h.2.2⟩
  unfold predB
  rw [memB_self]
  rfl
theorem may_none {m : Mem'} (hm : mayB m = true) : memB m noneM = false := by
  rw [memB_false]
  rintro rfl
  cases hm

theorem notify_same {n : Node'} {m : Mem'} (hr : rightN n = true) (hm : mayB m = true) (h : m.1 = n.1.1 ∨ m.2.1 = n.1.2.1) : notifyN n m = (n, 0, ()) := by
  unfold notifyN
  simp [hr, hm, h]
theorem notify_new {n : Node'} {m : Mem'} (hr : rightN n = true) (hm : mayB m = true) (h : ¬ (m.1 = n.1.1 ∨ m.2.1 = n.1.2.1)) (h2 : memB n.2.1 noneM = true ∨ within m.2.1 n.2.1.2.1 n.1.2.1 = true) : notifyN n m = ((n.1, m, n.2.2), 0, ()) := by
  unfold notifyN
  rw [hr, hm, if_pos (show (true && true) = true from rfl), if_neg h, if_pos h2]
theorem notify_old {n : Node'} {m : Mem'} (hr : rightN n = true) (hm : mayB m = true) (h2 : ¬ (memB n.2.1 noneM = true ∨ within m.2.1 n.2.1.2.1 n.1.2.1 = true)) : notifyN n m = (n, 0, ()) := by
  unfold notifyN
  rw [hr, hm, if_pos (show (true && true) = true from rfl), if_neg h2, ite_self]
theorem beq_dec (a b : Bool) : beq a b = decide (a = b) := rfl

theorem owns (n0 : Node') (m : Mem') (id : Id) : olaw09NodeOwns ((n0, m, id, ()), ()) = some ((true, ()), ()) := by
  rw [olaw09NodeOwns_eq, blaw09NodeOwns, fewN_eq, bS_some]
  have g1 : (fewN n0).2.2.1.length ≤ 4611686018427387903 := by simp [fewN]; omega
  have g2 : (fewN n0).2.2.2.1.length ≤ 4611686018427387903 := by simp [fewN]; omega
  obtain ⟨n, hn⟩ : ∃ n, fewN n0 = n := ⟨_, rfl⟩
  rw [hn] at g1 g2
  have i00 : ieq 0 0 = true := rfl
  have i10 : ieq 1 0 = false := rfl
  have hb : onodeNotify (((n.1, (-1, Id.zero, ()), n.2.2), m, ()), ()) = _ := nodeNotify_eq (n.1, noneM, n.2.2) m g1 g2
  have ho : onodeOwns (((n.1, (-1, Id.zero, ()), n.2.2), id, ()), ()) = _ := nodeOwns_eq (n.1, noneM, n.2.2) id g1 g2
  have hbare : ownsN (n.1, noneM, n.2.2) id = false := by
    unfold ownsN
    rw [memB_self]
    simp
  simp only [hn, nodeNotify_eq n m g1 g2, bS_some, alive9, nodeRight_eq n g1 g2, lawMay_eq, hb, ho, hbare]
  cases hr : rightN n with
  | false =>
    have : notifyN n m = ((noM, noM, [], [], ()), 1, ()) := by unfold notifyN; rw [hr]; rfl
    rw [this]
    rfl
  | true =>
    cases hm : mayB m with
    | false =>
      have : notifyN n m = ((noM, noM, [], [], ()), 1, ()) := by unfold notifyN; rw [hr, hm]; rfl
      rw [this]
      rfl
    | true =>
      have hrb := rightN_bare n hr
      have emz : ∀ a : Mem', (bif ieq a.1 (-1) then bif ideq a.2.1 Id.zero then true else false else false) = memB a noneM := fun a => memEq' a noneM
      by_cases h1 : m.1 = n.1.1 ∨ m.2.1 = n.1.2.1
      · rw [notify_same hr hm h1, notify_same (n := (n.1, noneM, n.2.2)) hrb hm h1]
        simp only [i00, cond_true, cond_false, emz, memEq', memB_self]
        by_cases h2 : m.1 = n.1.1
        · have : ieq m.1 n.1.1 = true := ieq_t.2 h2
          simp only [this, cond_true, cond_false]
        · have e1 : ieq m.1 n.1.1 = false := ieq_f.2 h2
          have e2 : ideq m.2.1 n.1.2.1 = true := ideq_t.2 (h1.resolve_left h2)
          simp only [e1, e2, cond_true, cond_false]
      · have hne : m.1 ≠ n.1.1 := fun e => h1 (.inl e)
        have hni : m.2.1 ≠ n.1.2.1 := fun e => h1 (.inr e)
        have e1 : ieq m.1 n.1.1 = false := ieq_f.2 hne
        have e2 : ideq m.2.1 n.1.2.1 = false := ideq_f.2 hni
        have hry := rightN_pred n m hm hne hrb
        have hoy : ownsN (n.1, m, n.2.2) id = within id m.2.1 n.1.2.1 := by
          unfold ownsN
          rw [hry]
          simp only [may_none hm, Bool.not_false, Bool.true_and]
        have hOy : onodeOwns (((n.1, m, n.2.2), id, ()), ()) = _ := nodeOwns_eq (n.1, m, n.2.2) id g1 g2
        have hbb : ∀ b : Bool, beq b b = true := fun b => by cases b <;> rfl
        rw [notify_new (n := (n.1, noneM, n.2.2)) hrb hm h1 (.inl (memB_self _))]
        by_cases h5 : memB n.2.1 noneM = true ∨ within m.2.1 n.2.1.2.1 n.1.2.1 = true
        · rw [notify_new hr hm h1 h5]
          simp only [i00, cond_true, cond_false, e1, e2, emz, memEq', memB_self, hOy, bS_some, hoy, identIn_m, hbb]
        · rw [notify_old hr hm h5]
          simp only [i00, cond_true, cond_false, e1, e2, emz, memEq', memB_self, hOy, bS_some, hoy, identIn_m, hbb, nodeOwns_eq n id g1 g2]
          cases memB n.2.1 m <;> rfl

end Am
end Go.Proofs.Ytokamjlhdidefaa
