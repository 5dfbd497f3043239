/-
  The law 'StackTexts' holds: which entries and stacks may be, any stack's bytes, and whether two are the same, is as the document says, for every input.
-/
import Derived.Test.YtkidcbialbffgaaSb
import Derived.Test.YtkidcbialbffgaaRows
namespace Go.Proofs.Ytkidcbialbffgaa
open Go.ChangeShapes Go.WideShapes Go.ChangeAt Go.RowKit
set_option maxRecDepth 100000

namespace StackTexts

theorem own : ownKnob Try.prog.godebug = none := by kernel_rfl
theorem laidOut : laidOutB Try.prog = true := by kernel_rfl
def zeros : Value := .agg (#[.int .i64 0] ++ Array.replicate 32 (.int .u8 0) ++ #[.int .i64 0])

theorem lifted (os : Os) (started : os.Started) (H : Type) (enc : TypeId × Value → H) :
    ReturnsInHanded {} Try.checked os 3 .any (Rows.stackTextsSpec.pre6 enc Try.prog Try.f3 Rows.stackTextsRow.domain false) (Rows.stackTextsSpec.post enc Try.prog Try.f3 false true false false) :=
  Am.law_lifted (C := Try.checked) (fn := Try.f3) (k := 3) own started (by kernel_rfl) Try.func3 laidOut (by kernel_rfl) (by kernel_rfl) rfl
    (tb := 4) (by kernel_rfl) (by kernel_rfl) (fun H ds h => by match ds, h with | [d1, d2, d3], _ => rfl)
    (ChangeSpec.witness6 (enc := enc) (C := Try.checked) false ⟨#[], #[.slice none 0 0, .slice none 0 0, zeros], []⟩ 8 (by kernel_rfl) (by kernel_rfl) (by kernel_rfl) (by kernel_rfl))
    (tys := .pair (.sl Am.EntryT) (.pair (.sl Am.EntryT) (.pair Am.EntryT .unit))) (by kernel_rfl) Am.s3 (fun _ _ => rfl)

theorem over : Rows.stackTextsRow.holds Try.pinned (OpenSpec.ofChange Rows.stackTextsSpec) :=
  OpenClaim.holds_of_wide 3 Try.f3 rfl rfl rfl rfl rfl rfl rfl ⟨rfl, rfl, rfl, rfl, rfl⟩ rfl rfl rfl rfl rfl (by kernel_rfl) Try.func3 (by kernel_rfl)
    (of_decide_eq_true (by kernel_rfl)) (by unfold Func.isWrapper; first | (rw [if_pos (by decide +kernel)]; kernel_rfl) | (rw [if_neg (by decide +kernel)]; exact ⟨rfl, rfl⟩))
    (fun os started H enc _ => lifted os started H enc)

end StackTexts

theorem stackTexts : Rows.StackTextsSaid := StackTexts.over
#print axioms stackTexts
end Go.Proofs.Ytkidcbialbffgaa
