/-
  The law 'StackParts' holds: what is put ahead in two steps is put ahead in one, and a stack is what is put ahead of none, for every input.
-/
import Derived.Test.YtkidcbialbffgaaSd
import Derived.Test.YtkidcbialbffgaaRows
namespace Go.Proofs.Ytkidcbialbffgaa
open Go.ChangeShapes Go.WideShapes Go.ChangeAt Go.RowKit
set_option maxRecDepth 100000

namespace StackParts

theorem own : ownKnob Try.prog.godebug = none := by kernel_rfl
theorem laidOut : laidOutB Try.prog = true := by kernel_rfl

theorem lifted (os : Os) (started : os.Started) (H : Type) (enc : TypeId × Value → H) :
    ReturnsInHanded {} Try.checked os 7 .any (Rows.stackPartsSpec.pre6 enc Try.prog Try.f7 Rows.stackPartsRow.domain false) (Rows.stackPartsSpec.post enc Try.prog Try.f7 false true false false) :=
  Am.law_lifted (C := Try.checked) (fn := Try.f7) (k := 3) own started (by kernel_rfl) Try.func7 laidOut (by kernel_rfl) (by kernel_rfl) rfl
    (tb := 4) (by kernel_rfl) (by kernel_rfl) (fun H ds h => by match ds, h with | [d0, d1, d2], _ => rfl)
    (ChangeSpec.witness6 (enc := enc) (C := Try.checked) false ⟨#[], #[.slice none 0 0, .slice none 0 0, .slice none 0 0], []⟩ 8 (by kernel_rfl) (by kernel_rfl) (by kernel_rfl) (by kernel_rfl))
    (tys := .pair (.sl Am.EntryT) (.pair (.sl Am.EntryT) (.pair (.sl Am.EntryT) .unit))) (by kernel_rfl) Am.s7 (fun _ _ => rfl)

theorem over : Rows.stackPartsRow.holds Try.pinned (OpenSpec.ofChange Rows.stackPartsSpec) :=
  OpenClaim.holds_of_wide 7 Try.f7 rfl rfl rfl rfl rfl rfl rfl ⟨rfl, rfl, rfl, rfl, rfl⟩ rfl rfl rfl rfl rfl (by kernel_rfl) Try.func7 (by kernel_rfl)
    (of_decide_eq_true (by kernel_rfl)) (by unfold Func.isWrapper; first | (rw [if_pos (by decide +kernel)]; kernel_rfl) | (rw [if_neg (by decide +kernel)]; exact ⟨rfl, rfl⟩))
    (fun os started H enc _ => lifted os started H enc)

end StackParts

theorem stackParts : Rows.StackPartsSaid := StackParts.over
#print axioms stackParts
end Go.Proofs.Ytkidcbialbffgaa
