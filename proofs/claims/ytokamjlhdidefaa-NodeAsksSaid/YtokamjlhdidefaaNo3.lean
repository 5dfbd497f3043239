/-
  Printed contracts, part 3.
-/
import Derived.Test.YtokamjlhdidefaaNo2
namespace Go.Proofs.Ytokamjlhdidefaa
namespace Am
open Go Go.RowKit
set_option maxRecDepth 100000
set_option linter.unusedVariables false
/- function 44: (.d (.sl (.pair (.int .i64) (.pair .id .unit)))) (.d (.int .i64)) -/
noncomputable def bnodeUpTo (x : ((List (Int × (Am.Id × Unit)) × (Int × Unit)) × Unit)) : Option (((Unit × (List (Int × (Am.Id × Unit)) × (Int × Unit))) × Unit) × Unit) := match x with
  | ((x0, (x1, ())), ()) => some ((((), x0, x1, ()), ()), ())
noncomputable def onodeUpTo : ((List (Int × (Am.Id × Unit)) × (Int × Unit)) × Unit) → Option (((Unit × (List (Int × (Am.Id × Unit)) × (Int × Unit))) × Unit) × Unit) := shut bnodeUpTo
theorem onodeUpTo_eq (x) : onodeUpTo x = bnodeUpTo x := by rw [onodeUpTo, shut_eq]
noncomputable def cnodeUpTo : Ct := { ash := (.cons (.d (.sl (.pair (.int .i64) (.pair .id .unit)))) (.cons (.d (.int .i64)) .unit)), ms := [], foot := false, up := [], rsh := (.cons (.fn (.func 60) .unit (.cons (.cptr (.d (.sl (.pair (.int .i64) (.pair .id .unit))))) (.cons (.cptr (.d (.int .i64))) .unit))) .unit), ks := [], ms' := [], G := fun x => trS (onodeUpTo x) }
noncomputable def EnodeUpTo : Env := mkE Try.prog [] [57] 44 [] [] 0
theorem runnodeUpTo : ∀ x, run EnodeUpTo 44 cnodeUpTo x = bnodeUpTo x
  | ((x0, (x1, ())), ()) => by kernel_rfl
theorem SnodeUpTo : Spec Try.prog 44 cnodeUpTo.fc :=
  spec_fn (bs := []) (inl := [57]) (ls := []) mixed hcs_nil (by kernel_rfl) (by kernel_rfl) (by decide) (by kernel_rfl) trivial onodeUpTo (fun x => trS_get (onodeUpTo x)) (fun x => (runnodeUpTo x).trans (onodeUpTo_eq x).symm)
end Am
end Go.Proofs.Ytokamjlhdidefaa
