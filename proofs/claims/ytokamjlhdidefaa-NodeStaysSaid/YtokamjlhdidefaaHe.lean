/-
  slices.Clone, by the name of the print.
-/
import Derived.Test.YtokamjlhdidefaaHd
namespace Go.Proofs.Ytokamjlhdidefaa
namespace Am
open Go Go.RowKit
noncomputable def oslicesClone := oClone (.pair (.int .i64) (.pair .id .unit))
noncomputable def cslicesClone := cClone (.pair (.int .i64) (.pair .id .unit)) 25
theorem SslicesClone : Spec Try.prog 49 cslicesClone.fc := spec_clone (by kernel_rfl) (by kernel_rfl) clone49
end Am
end Go.Proofs.Ytokamjlhdidefaa
