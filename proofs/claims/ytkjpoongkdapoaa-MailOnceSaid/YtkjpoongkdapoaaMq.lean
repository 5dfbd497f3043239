/-
  Mail: letters that are there twice, or lost.
-/
import Derived.Test.YtkjpoongkdapoaaMm
namespace Go.Proofs.Ytkjpoongkdapoaa
namespace Am
open Go Go.RowKit
set_option linter.unusedSimpArgs false
set_option linter.unusedVariables false

theorem mailTwice_eq (m : Mail') (place : Int) (hl : m.1.length ≤ 4611686018427387903) : omailTwice ((m, place, ()), ()) = some (twiceM m place, ()) := by
  rw [omailTwice_eq, bmailTwice]
  simp only [mailTake_eq m place hl, bS_some]
  unfold twiceM
  have e64 : ieq (dlen m.1) 64 = decide (m.1.length = 64) := by rw [ieq_dec', dlen_eq]; congr 1; rw [eq_iff_iff]; omega
  have hr64 : (takeM m place).2.2.1 = 0 → m.1.length ≤ 64 := by
    unfold takeM
    split
    · rename_i hr
      exact fun _ => rightM_len hr
    · intro h; cases h
  generalize takeM m place = t at *
  obtain ⟨tm, tl, te, ⟨⟩⟩ := t
  simp only at hr64
  rw [e64]
  simp only [ieq_dec']
  by_cases h : te = 0
  · have hle := hr64 h
    by_cases h2 : m.1.length = 64
    · simp only [h, h2, decide_true, cond_true, cond_false, if_true]
      rfl
    · have hf : fits (dlen m.1) (1 : Int) 40 = true := fits_of (ys := [tl]) (by simp; omega) (by simp; omega)
      simp only [h, h2, decide_true, decide_false, cond_true, cond_false, if_true, if_false, clip_eq, bS_some, hf]
      rfl
  · simp only [h, decide_false, cond_true, cond_false, if_false]
    rfl
theorem mailLose_eq (m : Mail') (place : Int) (hl : m.1.length ≤ 4611686018427387903) : omailLose ((m, place, ()), ()) = some (((takeM m place).1, (takeM m place).2.2), ()) := by
  rw [omailLose_eq, bmailLose]
  simp only [mailTake_eq m place hl, bS_some]

end Am
end Go.Proofs.Ytkjpoongkdapoaa
