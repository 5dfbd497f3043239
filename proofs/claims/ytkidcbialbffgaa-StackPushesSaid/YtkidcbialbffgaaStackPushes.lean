/-
  The law 'StackPushes' holds: entries that are put ahead of any stack are ahead of it, in order, or it is refused, as the document says, for every input.
-/
import Derived.Test.YtkidcbialbffgaaSd
import Derived.Test.YtkidcbialbffgaaRows
namespace Go.Proofs.Ytkidcbialbffgaa
open Go.ChangeShapes Go.WideShapes Go.ChangeAt Go.RowKit
set_option maxRecDepth 100000

namespace StackPushes

theorem own : ownKnob Try.prog.godebug = none := by kernel_rfl
theorem laidOut : laidOutB Try.prog = true := by kernel_rfl

theorem lifted (os : Os) (started : os.Started) (H : Type) (enc : TypeId × Value → H) :
    ReturnsInHanded {} Try.checked os 6 .any (Rows.stackPushesSpec.pre6 enc Try.prog Try.f6 Rows.stackPushesRow.domain false) (Rows.stackPushesSpec.post enc Try.prog Try.f6 false true false false) :=
  Am.law_lifted (C := Try.checked) (fn := Try.f6) (k := 2) own started (by kernel_rfl) Try.func6 laidOut (by kernel_rfl) (by kernel_rfl) rfl
    (tb := 4) (by kernel_rfl) (by kernel_rfl) (fun H ds h => by match ds, h with | [d0, d1], _ => rfl)
    (ChangeSpec.witness6 (enc := enc) (C := Try.checked) false ⟨#[], #[.slice none 0 0, .slice none 0 0], []⟩ 8 (by kernel_rfl) (by kernel_rfl) (by kernel_rfl) (by kernel_rfl))
    (tys := .pair (.sl Am.EntryT) (.pair (.sl Am.EntryT) .unit)) (by kernel_rfl) Am.s6 (fun _ _ => rfl)

theorem over : Rows.stackPushesRow.holds Try.pinned (OpenSpec.ofChange Rows.stackPushesSpec) :=
  OpenClaim.holds_of_wide 6 Try.f6 rfl rfl rfl rfl rfl rfl rfl ⟨rfl, rfl, rfl, rfl, rfl⟩ rfl rfl rfl rfl rfl (by kernel_rfl) Try.func6 (by kernel_rfl)
    (of_decide_eq_true (by kernel_rfl)) (by unfold Func.isWrapper; first | (rw [if_pos (by decide +kernel)]; kernel_rfl) | (rw [if_neg (by decide +kernel)]; exact ⟨rfl, rfl⟩))
    (fun os started H enc _ => lifted os started H enc)

end StackPushes

theorem stackPushes : Rows.StackPushesSaid := StackPushes.over
#print axioms stackPushes
end Go.Proofs.Ytkidcbialbffgaa
