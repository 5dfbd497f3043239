/-
  No cell of these rows narrows 'for every input' (looked for: loops, veiled, ifaces, maps, wideKeys, modest, calm, conditions, laid).
  DERIVED. THE GIVEN ROWS OF THIS SEAT. 5 by the template 'for every input the law returns true; each argument reads behind the call as it read before'; 0 by the template 'total and deterministic' (their statements: YtkpojikfadeeeaaTotals.lean).
  GIVEN WITH THE SEED: the statements are not yours to turn. If you find one false, say at which input.
  Laid BY PROGRAM, IN A SANDBOX (cutbox-rows.mjs): the forced cells as the released guide's own fill.sh prints them over the translation 1b90f3909e2b932f… (all of the seat's roots in one cut). By AI agents, Wed Nov 11 2026. No macro, syntax, notation, axiom, sorry.
-/
import Derived.Test.YtkpojikfadeeeaaChecked
import GoSem.Claim
import GoSem.ClaimJoined
import GoSem.ClaimMapViews
import Derived.JoinedTies
import Derived.KernelRfl
namespace Go.Proofs.Ytkpojikfadeeeaa
/- THE CELL 'sum', in the pinned program and in every row, IS THE sha256 OF THE DUMP (.gsa) THAT YtkpojikfadeeeaaProg.lean LOADS. Nothing in Lean hashes anything: it is a label: what it is worth is what the hold of that sum in a sandbox is worth. -/
noncomputable def Try.pinned : Pinned := { name := "ytkpojikfadeeeaa", sum := "1b90f3909e2b932f99f2b7c4457395f143da3ae3083018cdc705726bfbb99187", checked := Try.checked }
namespace Rows
def none {H : Type} : Left H := { results := [], args := [] }

/-- 'posthouselaw08.FingerChooses': WHATEVER THE INPUT: true; the input reads as it did. -/
def fingerChoosesSpec : ChangeSpec := { name := "fingerChooses", fn := fun _ => fun
  | [d1, d2, d3] => { results := [.lit (.bool true)], args := [d1, d2, d3] }
  | _ => none }
def fingerChoosesRow : OpenClaim := { program := "ytkpojikfadeeeaa", sum := "1b90f3909e2b932f99f2b7c4457395f143da3ae3083018cdc705726bfbb99187", func := "posthouse/posthouselaw08.FingerChooses", spec := "fingerChooses", unfollowed := true, recurses := true, apart := false }
def FingerChoosesSaid : Prop := fingerChoosesRow.holds Try.pinned (OpenSpec.ofChange fingerChoosesSpec)

/-- ITS FALSE NEIGHBOUR: 'it returns false'. Refute it at one input. -/
def fingerChoosesWrong : ChangeSpec := { name := "fingerChooses", fn := fun _ => fun
  | [d1, d2, d3] => { results := [.lit (.bool false)], args := [d1, d2, d3] }
  | _ => none }
def FingerChoosesWrongFalsely : Prop := fingerChoosesRow.holds Try.pinned (OpenSpec.ofChange fingerChoosesWrong)

/-- 'posthouselaw08.FingerNears': WHATEVER THE INPUT: true; the input reads as it did. -/
def fingerNearsSpec : ChangeSpec := { name := "fingerNears", fn := fun _ => fun
  | [d1, d2, d3] => { results := [.lit (.bool true)], args := [d1, d2, d3] }
  | _ => none }
def fingerNearsRow : OpenClaim := { program := "ytkpojikfadeeeaa", sum := "1b90f3909e2b932f99f2b7c4457395f143da3ae3083018cdc705726bfbb99187", func := "posthouse/posthouselaw08.FingerNears", spec := "fingerNears", unfollowed := true, recurses := true, apart := false }
def FingerNearsSaid : Prop := fingerNearsRow.holds Try.pinned (OpenSpec.ofChange fingerNearsSpec)

/-- ITS FALSE NEIGHBOUR: 'it returns false'. Refute it at one input. -/
def fingerNearsWrong : ChangeSpec := { name := "fingerNears", fn := fun _ => fun
  | [d1, d2, d3] => { results := [.lit (.bool false)], args := [d1, d2, d3] }
  | _ => none }
def FingerNearsWrongFalsely : Prop := fingerNearsRow.holds Try.pinned (OpenSpec.ofChange fingerNearsWrong)

/-- 'posthouselaw08.FingerMore': WHATEVER THE INPUT: true; the input reads as it did. -/
def fingerMoreSpec : ChangeSpec := { name := "fingerMore", fn := fun _ => fun
  | [d1, d2, d3, d4] => { results := [.lit (.bool true)], args := [d1, d2, d3, d4] }
  | _ => none }
def fingerMoreRow : OpenClaim := { program := "ytkpojikfadeeeaa", sum := "1b90f3909e2b932f99f2b7c4457395f143da3ae3083018cdc705726bfbb99187", func := "posthouse/posthouselaw08.FingerMore", spec := "fingerMore", unfollowed := true, recurses := true, apart := false }
def FingerMoreSaid : Prop := fingerMoreRow.holds Try.pinned (OpenSpec.ofChange fingerMoreSpec)

/-- ITS FALSE NEIGHBOUR: 'it returns false'. Refute it at one input. -/
def fingerMoreWrong : ChangeSpec := { name := "fingerMore", fn := fun _ => fun
  | [d1, d2, d3, d4] => { results := [.lit (.bool false)], args := [d1, d2, d3, d4] }
  | _ => none }
def FingerMoreWrongFalsely : Prop := fingerMoreRow.holds Try.pinned (OpenSpec.ofChange fingerMoreWrong)

/-- 'posthouselaw08.FingerPoints': WHATEVER THE INPUT: true; the input reads as it did. -/
def fingerPointsSpec : ChangeSpec := { name := "fingerPoints", fn := fun _ => fun
  | [d1, d2, d3, d4] => { results := [.lit (.bool true)], args := [d1, d2, d3, d4] }
  | _ => none }
def fingerPointsRow : OpenClaim := { program := "ytkpojikfadeeeaa", sum := "1b90f3909e2b932f99f2b7c4457395f143da3ae3083018cdc705726bfbb99187", func := "posthouse/posthouselaw08.FingerPoints", spec := "fingerPoints", unfollowed := true, recurses := true, apart := false }
def FingerPointsSaid : Prop := fingerPointsRow.holds Try.pinned (OpenSpec.ofChange fingerPointsSpec)

/-- ITS FALSE NEIGHBOUR: 'it returns false'. Refute it at one input. -/
def fingerPointsWrong : ChangeSpec := { name := "fingerPoints", fn := fun _ => fun
  | [d1, d2, d3, d4] => { results := [.lit (.bool false)], args := [d1, d2, d3, d4] }
  | _ => none }
def FingerPointsWrongFalsely : Prop := fingerPointsRow.holds Try.pinned (OpenSpec.ofChange fingerPointsWrong)

/-- 'posthouselaw08.FingerGoals': WHATEVER THE INPUT: true; the input reads as it did. -/
def fingerGoalsSpec : ChangeSpec := { name := "fingerGoals", fn := fun _ => fun
  | [d1, d2, d3] => { results := [.lit (.bool true)], args := [d1, d2, d3] }
  | _ => none }
def fingerGoalsRow : OpenClaim := { program := "ytkpojikfadeeeaa", sum := "1b90f3909e2b932f99f2b7c4457395f143da3ae3083018cdc705726bfbb99187", func := "posthouse/posthouselaw08.FingerGoals", spec := "fingerGoals", unfollowed := true, recurses := true, apart := false }
def FingerGoalsSaid : Prop := fingerGoalsRow.holds Try.pinned (OpenSpec.ofChange fingerGoalsSpec)

/-- ITS FALSE NEIGHBOUR: 'it returns false'. Refute it at one input. -/
def fingerGoalsWrong : ChangeSpec := { name := "fingerGoals", fn := fun _ => fun
  | [d1, d2, d3] => { results := [.lit (.bool false)], args := [d1, d2, d3] }
  | _ => none }
def FingerGoalsWrongFalsely : Prop := fingerGoalsRow.holds Try.pinned (OpenSpec.ofChange fingerGoalsWrong)

/- THE SECOND FORM. 'bulk': how many values and letters a reading holds, each counted each time it is reached (what is shared counts as often as it is met; a slice's spare places count too). A statement '..UptoSaid' is the law's where the arguments, and the package variables that the reading takes, are together of bulk at most 1048576: NARROWER than '..Said'. Prove '..Said' where nothing that the law and all that it calls make is longer than what came in: it says more and counts as full. Else prove '..UptoSaid'. A law counts once. -/
mutual
def uptoBulk {H : Type} : DataW H → Nat
  | .lit (.string bytes) => bytes.length + 1
  | .lit _ => 1
  | .nil => 1
  | .ptr d => uptoBulk d + 1
  | .slice elems spare => uptoBulkAll elems + uptoBulkAll spare + 1
  | .agg parts => uptoBulkAll parts + 1
  | .iface _ d => uptoBulk d + 1
  | .map entries => uptoBulkEntries entries + 1
  | .held _ => 1
def uptoBulkAll {H : Type} : List (DataW H) → Nat
  | [] => 0
  | d :: r => uptoBulk d + uptoBulkAll r
def uptoBulkEntries {H : Type} : List (Lit × DataW H) → Nat
  | [] => 0
  | x :: r => uptoBulkEntry x + uptoBulkEntries r
def uptoBulkEntry {H : Type} : Lit × DataW H → Nat
  | (.string bytes, d) => bytes.length + uptoBulk d + 1
  | (_, d) => uptoBulk d + 1
 end
def uptoSmall : (H : Type) → List (DataW H) → Bool := fun _ ds => decide (uptoBulkAll ds ≤ 1048576)
def OpenSpec.upto (s : _root_.Go.ChangeSpec) : _root_.Go.OpenSpec := { _root_.Go.OpenSpec.ofChange s with cond := some uptoSmall }

/-- 'posthouselaw08.FingerChooses', WHERE WHAT IT READS IS OF BULK AT MOST 1048576: true; the input reads as it did. -/
def fingerChoosesUptoRow : OpenClaim := { program := "ytkpojikfadeeeaa", sum := "1b90f3909e2b932f99f2b7c4457395f143da3ae3083018cdc705726bfbb99187", func := "posthouse/posthouselaw08.FingerChooses", spec := "fingerChooses", unfollowed := true, recurses := true, apart := false, narrowed := true }
def FingerChoosesUptoSaid : Prop := fingerChoosesUptoRow.holds Try.pinned (OpenSpec.upto fingerChoosesSpec)

/-- 'posthouselaw08.FingerNears', WHERE WHAT IT READS IS OF BULK AT MOST 1048576: true; the input reads as it did. -/
def fingerNearsUptoRow : OpenClaim := { program := "ytkpojikfadeeeaa", sum := "1b90f3909e2b932f99f2b7c4457395f143da3ae3083018cdc705726bfbb99187", func := "posthouse/posthouselaw08.FingerNears", spec := "fingerNears", unfollowed := true, recurses := true, apart := false, narrowed := true }
def FingerNearsUptoSaid : Prop := fingerNearsUptoRow.holds Try.pinned (OpenSpec.upto fingerNearsSpec)

/-- 'posthouselaw08.FingerMore', WHERE WHAT IT READS IS OF BULK AT MOST 1048576: true; the input reads as it did. -/
def fingerMoreUptoRow : OpenClaim := { program := "ytkpojikfadeeeaa", sum := "1b90f3909e2b932f99f2b7c4457395f143da3ae3083018cdc705726bfbb99187", func := "posthouse/posthouselaw08.FingerMore", spec := "fingerMore", unfollowed := true, recurses := true, apart := false, narrowed := true }
def FingerMoreUptoSaid : Prop := fingerMoreUptoRow.holds Try.pinned (OpenSpec.upto fingerMoreSpec)

/-- 'posthouselaw08.FingerPoints', WHERE WHAT IT READS IS OF BULK AT MOST 1048576: true; the input reads as it did. -/
def fingerPointsUptoRow : OpenClaim := { program := "ytkpojikfadeeeaa", sum := "1b90f3909e2b932f99f2b7c4457395f143da3ae3083018cdc705726bfbb99187", func := "posthouse/posthouselaw08.FingerPoints", spec := "fingerPoints", unfollowed := true, recurses := true, apart := false, narrowed := true }
def FingerPointsUptoSaid : Prop := fingerPointsUptoRow.holds Try.pinned (OpenSpec.upto fingerPointsSpec)

/-- 'posthouselaw08.FingerGoals', WHERE WHAT IT READS IS OF BULK AT MOST 1048576: true; the input reads as it did. -/
def fingerGoalsUptoRow : OpenClaim := { program := "ytkpojikfadeeeaa", sum := "1b90f3909e2b932f99f2b7c4457395f143da3ae3083018cdc705726bfbb99187", func := "posthouse/posthouselaw08.FingerGoals", spec := "fingerGoals", unfollowed := true, recurses := true, apart := false, narrowed := true }
def FingerGoalsUptoSaid : Prop := fingerGoalsUptoRow.holds Try.pinned (OpenSpec.upto fingerGoalsSpec)

end Rows
end Go.Proofs.Ytkpojikfadeeeaa
