/-
  slices.Clone and slices.Delete, by the names of the print.
-/
import Derived.Test.YtdicedlgaknkoaaHd
namespace Go.Proofs.Ytdicedlgaknkoaa
namespace Am
open Go Go.RowKit
noncomputable def oslicesClone := oClone (.pair .id (.pair (.int .i64) .unit))
noncomputable def cslicesClone := cClone (.pair .id (.pair (.int .i64) .unit)) 59
theorem SslicesClone : Spec Try.prog 43 cslicesClone.fc := spec_clone (by kernel_rfl) (by kernel_rfl) clone43
noncomputable def oslicesDelete := oDel (.pair .id (.pair (.int .i64) .unit))
noncomputable def cslicesDelete := cDel (.pair .id (.pair (.int .i64) .unit)) 59
theorem SslicesDelete : Spec Try.prog 42 cslicesDelete.fc := spec_del (by kernel_rfl) (by kernel_rfl) del42
noncomputable def oslicesCloneb := oClone (.pair .id (.pair (.int .i64) (.pair (.int .i64) .unit)))
noncomputable def cslicesCloneb := cClone (.pair .id (.pair (.int .i64) (.pair (.int .i64) .unit))) 76
theorem SslicesCloneb : Spec Try.prog 76 cslicesCloneb.fc := spec_clone (by kernel_rfl) (by kernel_rfl) clone76
noncomputable def oslicesDeleteb := oDel (.pair .id (.pair (.int .i64) (.pair (.int .i64) .unit)))
noncomputable def cslicesDeleteb := cDel (.pair .id (.pair (.int .i64) (.pair (.int .i64) .unit))) 76
theorem SslicesDeleteb : Spec Try.prog 75 cslicesDeleteb.fc := spec_del (by kernel_rfl) (by kernel_rfl) del75
end Am
end Go.Proofs.Ytdicedlgaknkoaa
