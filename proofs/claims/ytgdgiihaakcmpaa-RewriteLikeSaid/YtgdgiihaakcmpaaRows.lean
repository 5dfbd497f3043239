/-
  No cell of these rows narrows 'for every input' (looked for: loops, veiled, ifaces, maps, wideKeys, modest, calm, conditions, laid).
  DERIVED. THE GIVEN ROWS OF THIS SEAT. 4 by the template 'for every input the law returns true; each argument reads behind the call as it read before'; 0 by the template 'total and deterministic' (their statements: YtgdgiihaakcmpaaTotals.lean).
  GIVEN WITH THE SEED: the statements are not yours to turn. If you find one false, say at which input.
  Laid BY PROGRAM, IN A SANDBOX (cutbox-rows.mjs): the forced cells as the released guide's own fill.sh prints them over the translation b8aa4d9c5c996d0f… (all of the seat's roots in one cut). By AI agents, Wed Nov 11 2026. No macro, syntax, notation, axiom, sorry.
-/
import Derived.Test.YtgdgiihaakcmpaaChecked
import GoSem.Claim
import GoSem.ClaimJoined
import GoSem.ClaimMapViews
import Derived.JoinedTies
import Derived.KernelRfl
namespace Go.Proofs.Ytgdgiihaakcmpaa
/- THE CELL 'sum', in the pinned program and in every row, IS THE sha256 OF THE DUMP (.gsa) THAT YtgdgiihaakcmpaaProg.lean LOADS. Nothing in Lean hashes anything: it is a label: what it is worth is what the hold of that sum in a sandbox is worth. -/
noncomputable def Try.pinned : Pinned := { name := "ytgdgiihaakcmpaa", sum := "b8aa4d9c5c996d0fdd90c85da01908dd72db005338adaaf164e53b78788d6559", checked := Try.checked }
namespace Rows
def none {H : Type} : Left H := { results := [], args := [] }

/-- 'posthouselaw13.RewriteKeeps': WHATEVER THE INPUT: true; the input reads as it did. -/
def rewriteKeepsSpec : ChangeSpec := { name := "rewriteKeeps", fn := fun _ => fun
  | [d1, d2] => { results := [.lit (.bool true)], args := [d1, d2] }
  | _ => none }
def rewriteKeepsRow : OpenClaim := { program := "ytgdgiihaakcmpaa", sum := "b8aa4d9c5c996d0fdd90c85da01908dd72db005338adaaf164e53b78788d6559", func := "posthouse/posthouselaw13.RewriteKeeps", spec := "rewriteKeeps", unfollowed := true, recurses := true, apart := false }
def RewriteKeepsSaid : Prop := rewriteKeepsRow.holds Try.pinned (OpenSpec.ofChange rewriteKeepsSpec)

/-- ITS FALSE NEIGHBOUR: 'it returns false'. Refute it at one input. -/
def rewriteKeepsWrong : ChangeSpec := { name := "rewriteKeeps", fn := fun _ => fun
  | [d1, d2] => { results := [.lit (.bool false)], args := [d1, d2] }
  | _ => none }
def RewriteKeepsWrongFalsely : Prop := rewriteKeepsRow.holds Try.pinned (OpenSpec.ofChange rewriteKeepsWrong)

/-- 'posthouselaw13.RewriteUses': WHATEVER THE INPUT: true; the input reads as it did. -/
def rewriteUsesSpec : ChangeSpec := { name := "rewriteUses", fn := fun _ => fun
  | [d1, d2] => { results := [.lit (.bool true)], args := [d1, d2] }
  | _ => none }
def rewriteUsesRow : OpenClaim := { program := "ytgdgiihaakcmpaa", sum := "b8aa4d9c5c996d0fdd90c85da01908dd72db005338adaaf164e53b78788d6559", func := "posthouse/posthouselaw13.RewriteUses", spec := "rewriteUses", unfollowed := true, recurses := true, apart := false }
def RewriteUsesSaid : Prop := rewriteUsesRow.holds Try.pinned (OpenSpec.ofChange rewriteUsesSpec)

/-- ITS FALSE NEIGHBOUR: 'it returns false'. Refute it at one input. -/
def rewriteUsesWrong : ChangeSpec := { name := "rewriteUses", fn := fun _ => fun
  | [d1, d2] => { results := [.lit (.bool false)], args := [d1, d2] }
  | _ => none }
def RewriteUsesWrongFalsely : Prop := rewriteUsesRow.holds Try.pinned (OpenSpec.ofChange rewriteUsesWrong)

/-- 'posthouselaw13.RewriteLike': WHATEVER THE INPUT: true; the input reads as it did. -/
def rewriteLikeSpec : ChangeSpec := { name := "rewriteLike", fn := fun _ => fun
  | [d1, d2, d3, d4] => { results := [.lit (.bool true)], args := [d1, d2, d3, d4] }
  | _ => none }
def rewriteLikeRow : OpenClaim := { program := "ytgdgiihaakcmpaa", sum := "b8aa4d9c5c996d0fdd90c85da01908dd72db005338adaaf164e53b78788d6559", func := "posthouse/posthouselaw13.RewriteLike", spec := "rewriteLike", unfollowed := true, recurses := true, apart := false }
def RewriteLikeSaid : Prop := rewriteLikeRow.holds Try.pinned (OpenSpec.ofChange rewriteLikeSpec)

/-- ITS FALSE NEIGHBOUR: 'it returns false'. Refute it at one input. -/
def rewriteLikeWrong : ChangeSpec := { name := "rewriteLike", fn := fun _ => fun
  | [d1, d2, d3, d4] => { results := [.lit (.bool false)], args := [d1, d2, d3, d4] }
  | _ => none }
def RewriteLikeWrongFalsely : Prop := rewriteLikeRow.holds Try.pinned (OpenSpec.ofChange rewriteLikeWrong)

/-- 'posthouselaw13.RewriteSteps': WHATEVER THE INPUT: true; the input reads as it did. -/
def rewriteStepsSpec : ChangeSpec := { name := "rewriteSteps", fn := fun _ => fun
  | [d1, d2, d3] => { results := [.lit (.bool true)], args := [d1, d2, d3] }
  | _ => none }
def rewriteStepsRow : OpenClaim := { program := "ytgdgiihaakcmpaa", sum := "b8aa4d9c5c996d0fdd90c85da01908dd72db005338adaaf164e53b78788d6559", func := "posthouse/posthouselaw13.RewriteSteps", spec := "rewriteSteps", unfollowed := true, recurses := true, apart := false }
def RewriteStepsSaid : Prop := rewriteStepsRow.holds Try.pinned (OpenSpec.ofChange rewriteStepsSpec)

/-- ITS FALSE NEIGHBOUR: 'it returns false'. Refute it at one input. -/
def rewriteStepsWrong : ChangeSpec := { name := "rewriteSteps", fn := fun _ => fun
  | [d1, d2, d3] => { results := [.lit (.bool false)], args := [d1, d2, d3] }
  | _ => none }
def RewriteStepsWrongFalsely : Prop := rewriteStepsRow.holds Try.pinned (OpenSpec.ofChange rewriteStepsWrong)

/- THE SECOND FORM. 'bulk': how many values and letters a reading holds, each counted each time it is reached (what is shared counts as often as it is met; a slice's spare places count too). A statement '..UptoSaid' is the law's where the arguments, and the package variables that the reading takes, are together of bulk at most 1048576: NARROWER than '..Said'. Prove '..Said' where nothing that the law and all that it calls make is longer than what came in: it says more and counts as full. Else prove '..UptoSaid'. A law counts once. -/
mutual
def uptoBulk {H : Type} : DataW H → Nat
  | .lit (.string bytes) => bytes.length + 1
  | .lit _ => 1
  | .nil => 1
  | .ptr d => uptoBulk d + 1
  | .slice elems spare => uptoBulkAll elems + uptoBulkAll spare + 1
  | .agg parts => uptoBulkAll parts + 1
  | .iface _ d => uptoBulk d + 1
  | .map entries => uptoBulkEntries entries + 1
  | .held _ => 1
def uptoBulkAll {H : Type} : List (DataW H) → Nat
  | [] => 0
  | d :: r => uptoBulk d + uptoBulkAll r
def uptoBulkEntries {H : Type} : List (Lit × DataW H) → Nat
  | [] => 0
  | x :: r => uptoBulkEntry x + uptoBulkEntries r
def uptoBulkEntry {H : Type} : Lit × DataW H → Nat
  | (.string bytes, d) => bytes.length + uptoBulk d + 1
  | (_, d) => uptoBulk d + 1
 end
def uptoSmall : (H : Type) → List (DataW H) → Bool := fun _ ds => decide (uptoBulkAll ds ≤ 1048576)
def OpenSpec.upto (s : _root_.Go.ChangeSpec) : _root_.Go.OpenSpec := { _root_.Go.OpenSpec.ofChange s with cond := some uptoSmall }

/-- 'posthouselaw13.RewriteKeeps', WHERE WHAT IT READS IS OF BULK AT MOST 1048576: true; the input reads as it did. -/
def rewriteKeepsUptoRow : OpenClaim := { program := "ytgdgiihaakcmpaa", sum := "b8aa4d9c5c996d0fdd90c85da01908dd72db005338adaaf164e53b78788d6559", func := "posthouse/posthouselaw13.RewriteKeeps", spec := "rewriteKeeps", unfollowed := true, recurses := true, apart := false, narrowed := true }
def RewriteKeepsUptoSaid : Prop := rewriteKeepsUptoRow.holds Try.pinned (OpenSpec.upto rewriteKeepsSpec)

/-- 'posthouselaw13.RewriteUses', WHERE WHAT IT READS IS OF BULK AT MOST 1048576: true; the input reads as it did. -/
def rewriteUsesUptoRow : OpenClaim := { program := "ytgdgiihaakcmpaa", sum := "b8aa4d9c5c996d0fdd90c85da01908dd72db005338adaaf164e53b78788d6559", func := "posthouse/posthouselaw13.RewriteUses", spec := "rewriteUses", unfollowed := true, recurses := true, apart := false, narrowed := true }
def RewriteUsesUptoSaid : Prop := rewriteUsesUptoRow.holds Try.pinned (OpenSpec.upto rewriteUsesSpec)

/-- 'posthouselaw13.RewriteLike', WHERE WHAT IT READS IS OF BULK AT MOST 1048576: true; the input reads as it did. -/
def rewriteLikeUptoRow : OpenClaim := { program := "ytgdgiihaakcmpaa", sum := "b8aa4d9c5c996d0fdd90c85da01908dd72db005338adaaf164e53b78788d6559", func := "posthouse/posthouselaw13.RewriteLike", spec := "rewriteLike", unfollowed := true, recurses := true, apart := false, narrowed := true }
def RewriteLikeUptoSaid : Prop := rewriteLikeUptoRow.holds Try.pinned (OpenSpec.upto rewriteLikeSpec)

/-- 'posthouselaw13.RewriteSteps', WHERE WHAT IT READS IS OF BULK AT MOST 1048576: true; the input reads as it did. -/
def rewriteStepsUptoRow : OpenClaim := { program := "ytgdgiihaakcmpaa", sum := "b8aa4d9c5c996d0fdd90c85da01908dd72db005338adaaf164e53b78788d6559", func := "posthouse/posthouselaw13.RewriteSteps", spec := "rewriteSteps", unfollowed := true, recurses := true, apart := false, narrowed := true }
def RewriteStepsUptoSaid : Prop := rewriteStepsUptoRow.holds Try.pinned (OpenSpec.upto rewriteStepsSpec)

end Rows
end Go.Proofs.Ytgdgiihaakcmpaa
