/-
  No cell of these rows narrows 'for every input' (looked for: loops, veiled, ifaces, maps, wideKeys, modest, calm, conditions, laid).
  DERIVED. THE GIVEN ROWS OF THIS SEAT. 7 by the template 'for every input the law returns true; each argument reads behind the call as it read before'; 0 by the template 'total and deterministic' (their statements: YtalleiogpibckaaTotals.lean).
  GIVEN WITH THE SEED: the statements are not yours to turn. If you find one false, say at which input.
  Laid BY PROGRAM, IN A SANDBOX (cutbox-rows.mjs): the forced cells as the released guide's own fill.sh prints them over the translation 7807a2b80dc174fc… (all of the seat's roots in one cut). By AI agents, Wed Nov 11 2026. No macro, syntax, notation, axiom, sorry.
-/
import Derived.Test.YtalleiogpibckaaChecked
import GoSem.Claim
import GoSem.ClaimJoined
import GoSem.ClaimMapViews
import Derived.JoinedTies
import Derived.KernelRfl
namespace Go.Proofs.Ytalleiogpibckaa
/- THE CELL 'sum', in the pinned program and in every row, IS THE sha256 OF THE DUMP (.gsa) THAT YtalleiogpibckaaProg.lean LOADS. Nothing in Lean hashes anything: it is a label: what it is worth is what the hold of that sum in a sandbox is worth. -/
noncomputable def Try.pinned : Pinned := { name := "ytalleiogpibckaa", sum := "7807a2b80dc174fcf7a6025e59b3a9a7eae1fcd59db6a3402ba2dfc42caafdf3", checked := Try.checked }
namespace Rows
def none {H : Type} : Left H := { results := [], args := [] }

/-- 'posthouselaw01.IdentWays': WHATEVER THE INPUT: true; the input reads as it did. -/
def identWaysSpec : ChangeSpec := { name := "identWays", fn := fun _ => fun
  | [d1, d2, d3] => { results := [.lit (.bool true)], args := [d1, d2, d3] }
  | _ => none }
def identWaysRow : OpenClaim := { program := "ytalleiogpibckaa", sum := "7807a2b80dc174fcf7a6025e59b3a9a7eae1fcd59db6a3402ba2dfc42caafdf3", func := "posthouse/posthouselaw01.IdentWays", spec := "identWays", inPlace := ["internal/abi.NoEscape"], apart := false }
def IdentWaysSaid : Prop := identWaysRow.holds Try.pinned (OpenSpec.ofChange identWaysSpec)

/-- ITS FALSE NEIGHBOUR: 'it returns false'. Refute it at one input. -/
def identWaysWrong : ChangeSpec := { name := "identWays", fn := fun _ => fun
  | [d1, d2, d3] => { results := [.lit (.bool false)], args := [d1, d2, d3] }
  | _ => none }
def IdentWaysWrongFalsely : Prop := identWaysRow.holds Try.pinned (OpenSpec.ofChange identWaysWrong)

/-- 'posthouselaw01.IdentRounds': WHATEVER THE INPUT: true; the input reads as it did. -/
def identRoundsSpec : ChangeSpec := { name := "identRounds", fn := fun _ => fun
  | [d1, d2, d3] => { results := [.lit (.bool true)], args := [d1, d2, d3] }
  | _ => none }
def identRoundsRow : OpenClaim := { program := "ytalleiogpibckaa", sum := "7807a2b80dc174fcf7a6025e59b3a9a7eae1fcd59db6a3402ba2dfc42caafdf3", func := "posthouse/posthouselaw01.IdentRounds", spec := "identRounds", inPlace := ["internal/abi.NoEscape"], apart := false }
def IdentRoundsSaid : Prop := identRoundsRow.holds Try.pinned (OpenSpec.ofChange identRoundsSpec)

/-- ITS FALSE NEIGHBOUR: 'it returns false'. Refute it at one input. -/
def identRoundsWrong : ChangeSpec := { name := "identRounds", fn := fun _ => fun
  | [d1, d2, d3] => { results := [.lit (.bool false)], args := [d1, d2, d3] }
  | _ => none }
def IdentRoundsWrongFalsely : Prop := identRoundsRow.holds Try.pinned (OpenSpec.ofChange identRoundsWrong)

/-- 'posthouselaw01.IdentThree': WHATEVER THE INPUT: true; the input reads as it did. -/
def identThreeSpec : ChangeSpec := { name := "identThree", fn := fun _ => fun
  | [d1, d2, d3] => { results := [.lit (.bool true)], args := [d1, d2, d3] }
  | _ => none }
def identThreeRow : OpenClaim := { program := "ytalleiogpibckaa", sum := "7807a2b80dc174fcf7a6025e59b3a9a7eae1fcd59db6a3402ba2dfc42caafdf3", func := "posthouse/posthouselaw01.IdentThree", spec := "identThree", inPlace := ["internal/abi.NoEscape"], apart := false }
def IdentThreeSaid : Prop := identThreeRow.holds Try.pinned (OpenSpec.ofChange identThreeSpec)

/-- ITS FALSE NEIGHBOUR: 'it returns false'. Refute it at one input. -/
def identThreeWrong : ChangeSpec := { name := "identThree", fn := fun _ => fun
  | [d1, d2, d3] => { results := [.lit (.bool false)], args := [d1, d2, d3] }
  | _ => none }
def IdentThreeWrongFalsely : Prop := identThreeRow.holds Try.pinned (OpenSpec.ofChange identThreeWrong)

/-- 'posthouselaw01.IdentSteps': WHATEVER THE INPUT: true; the input reads as it did. -/
def identStepsSpec : ChangeSpec := { name := "identSteps", fn := fun _ => fun
  | [d1, d2, d3] => { results := [.lit (.bool true)], args := [d1, d2, d3] }
  | _ => none }
def identStepsRow : OpenClaim := { program := "ytalleiogpibckaa", sum := "7807a2b80dc174fcf7a6025e59b3a9a7eae1fcd59db6a3402ba2dfc42caafdf3", func := "posthouse/posthouselaw01.IdentSteps", spec := "identSteps", inPlace := ["internal/abi.NoEscape"], apart := false }
def IdentStepsSaid : Prop := identStepsRow.holds Try.pinned (OpenSpec.ofChange identStepsSpec)

/-- ITS FALSE NEIGHBOUR: 'it returns false'. Refute it at one input. -/
def identStepsWrong : ChangeSpec := { name := "identSteps", fn := fun _ => fun
  | [d1, d2, d3] => { results := [.lit (.bool false)], args := [d1, d2, d3] }
  | _ => none }
def IdentStepsWrongFalsely : Prop := identStepsRow.holds Try.pinned (OpenSpec.ofChange identStepsWrong)

/-- 'posthouselaw01.IdentBetween': WHATEVER THE INPUT: true; the input reads as it did. -/
def identBetweenSpec : ChangeSpec := { name := "identBetween", fn := fun _ => fun
  | [d1, d2, d3] => { results := [.lit (.bool true)], args := [d1, d2, d3] }
  | _ => none }
def identBetweenRow : OpenClaim := { program := "ytalleiogpibckaa", sum := "7807a2b80dc174fcf7a6025e59b3a9a7eae1fcd59db6a3402ba2dfc42caafdf3", func := "posthouse/posthouselaw01.IdentBetween", spec := "identBetween", inPlace := ["internal/abi.NoEscape"], apart := false }
def IdentBetweenSaid : Prop := identBetweenRow.holds Try.pinned (OpenSpec.ofChange identBetweenSpec)

/-- ITS FALSE NEIGHBOUR: 'it returns false'. Refute it at one input. -/
def identBetweenWrong : ChangeSpec := { name := "identBetween", fn := fun _ => fun
  | [d1, d2, d3] => { results := [.lit (.bool false)], args := [d1, d2, d3] }
  | _ => none }
def IdentBetweenWrongFalsely : Prop := identBetweenRow.holds Try.pinned (OpenSpec.ofChange identBetweenWrong)

/-- 'posthouselaw01.IdentBits': WHATEVER THE INPUT: true; the input reads as it did. -/
def identBitsSpec : ChangeSpec := { name := "identBits", fn := fun _ => fun
  | [d1, d2, d3] => { results := [.lit (.bool true)], args := [d1, d2, d3] }
  | _ => none }
def identBitsRow : OpenClaim := { program := "ytalleiogpibckaa", sum := "7807a2b80dc174fcf7a6025e59b3a9a7eae1fcd59db6a3402ba2dfc42caafdf3", func := "posthouse/posthouselaw01.IdentBits", spec := "identBits", inPlace := ["internal/abi.NoEscape"], apart := false }
def IdentBitsSaid : Prop := identBitsRow.holds Try.pinned (OpenSpec.ofChange identBitsSpec)

/-- ITS FALSE NEIGHBOUR: 'it returns false'. Refute it at one input. -/
def identBitsWrong : ChangeSpec := { name := "identBits", fn := fun _ => fun
  | [d1, d2, d3] => { results := [.lit (.bool false)], args := [d1, d2, d3] }
  | _ => none }
def IdentBitsWrongFalsely : Prop := identBitsRow.holds Try.pinned (OpenSpec.ofChange identBitsWrong)

/-- 'posthouselaw01.IdentReads': WHATEVER THE INPUT: true; the input reads as it did. -/
def identReadsSpec : ChangeSpec := { name := "identReads", fn := fun _ => fun
  | [d1, d2] => { results := [.lit (.bool true)], args := [d1, d2] }
  | _ => none }
def identReadsRow : OpenClaim := { program := "ytalleiogpibckaa", sum := "7807a2b80dc174fcf7a6025e59b3a9a7eae1fcd59db6a3402ba2dfc42caafdf3", func := "posthouse/posthouselaw01.IdentReads", spec := "identReads", inPlace := ["internal/bytealg.IndexByteString", "internal/abi.NoEscape"], apart := false }
def IdentReadsSaid : Prop := identReadsRow.holds Try.pinned (OpenSpec.ofChange identReadsSpec)

/-- ITS FALSE NEIGHBOUR: 'it returns false'. Refute it at one input. -/
def identReadsWrong : ChangeSpec := { name := "identReads", fn := fun _ => fun
  | [d1, d2] => { results := [.lit (.bool false)], args := [d1, d2] }
  | _ => none }
def IdentReadsWrongFalsely : Prop := identReadsRow.holds Try.pinned (OpenSpec.ofChange identReadsWrong)

/- THE SECOND FORM. 'bulk': how many values and letters a reading holds, each counted each time it is reached (what is shared counts as often as it is met; a slice's spare places count too). A statement '..UptoSaid' is the law's where the arguments, and the package variables that the reading takes, are together of bulk at most 1048576: NARROWER than '..Said'. Prove '..Said' where nothing that the law and all that it calls make is longer than what came in: it says more and counts as full. Else prove '..UptoSaid'. A law counts once. -/
mutual
def uptoBulk {H : Type} : DataW H → Nat
  | .lit (.string bytes) => bytes.length + 1
  | .lit _ => 1
  | .nil => 1
  | .ptr d => uptoBulk d + 1
  | .slice elems spare => uptoBulkAll elems + uptoBulkAll spare + 1
  | .agg parts => uptoBulkAll parts + 1
  | .iface _ d => uptoBulk d + 1
  | .map entries => uptoBulkEntries entries + 1
  | .held _ => 1
def uptoBulkAll {H : Type} : List (DataW H) → Nat
  | [] => 0
  | d :: r => uptoBulk d + uptoBulkAll r
def uptoBulkEntries {H : Type} : List (Lit × DataW H) → Nat
  | [] => 0
  | x :: r => uptoBulkEntry x + uptoBulkEntries r
def uptoBulkEntry {H : Type} : Lit × DataW H → Nat
  | (.string bytes, d) => bytes.length + uptoBulk d + 1
  | (_, d) => uptoBulk d + 1
 end
def uptoSmall : (H : Type) → List (DataW H) → Bool := fun _ ds => decide (uptoBulkAll ds ≤ 1048576)
def OpenSpec.upto (s : _root_.Go.ChangeSpec) : _root_.Go.OpenSpec := { _root_.Go.OpenSpec.ofChange s with cond := some uptoSmall }

/-- 'posthouselaw01.IdentWays', WHERE WHAT IT READS IS OF BULK AT MOST 1048576: true; the input reads as it did. -/
def identWaysUptoRow : OpenClaim := { program := "ytalleiogpibckaa", sum := "7807a2b80dc174fcf7a6025e59b3a9a7eae1fcd59db6a3402ba2dfc42caafdf3", func := "posthouse/posthouselaw01.IdentWays", spec := "identWays", inPlace := ["internal/abi.NoEscape"], apart := false, narrowed := true }
def IdentWaysUptoSaid : Prop := identWaysUptoRow.holds Try.pinned (OpenSpec.upto identWaysSpec)

/-- 'posthouselaw01.IdentRounds', WHERE WHAT IT READS IS OF BULK AT MOST 1048576: true; the input reads as it did. -/
def identRoundsUptoRow : OpenClaim := { program := "ytalleiogpibckaa", sum := "7807a2b80dc174fcf7a6025e59b3a9a7eae1fcd59db6a3402ba2dfc42caafdf3", func := "posthouse/posthouselaw01.IdentRounds", spec := "identRounds", inPlace := ["internal/abi.NoEscape"], apart := false, narrowed := true }
def IdentRoundsUptoSaid : Prop := identRoundsUptoRow.holds Try.pinned (OpenSpec.upto identRoundsSpec)

/-- 'posthouselaw01.IdentThree', WHERE WHAT IT READS IS OF BULK AT MOST 1048576: true; the input reads as it did. -/
def identThreeUptoRow : OpenClaim := { program := "ytalleiogpibckaa", sum := "7807a2b80dc174fcf7a6025e59b3a9a7eae1fcd59db6a3402ba2dfc42caafdf3", func := "posthouse/posthouselaw01.IdentThree", spec := "identThree", inPlace := ["internal/abi.NoEscape"], apart := false, narrowed := true }
def IdentThreeUptoSaid : Prop := identThreeUptoRow.holds Try.pinned (OpenSpec.upto identThreeSpec)

/-- 'posthouselaw01.IdentSteps', WHERE WHAT IT READS IS OF BULK AT MOST 1048576: true; the input reads as it did. -/
def identStepsUptoRow : OpenClaim := { program := "ytalleiogpibckaa", sum := "7807a2b80dc174fcf7a6025e59b3a9a7eae1fcd59db6a3402ba2dfc42caafdf3", func := "posthouse/posthouselaw01.IdentSteps", spec := "identSteps", inPlace := ["internal/abi.NoEscape"], apart := false, narrowed := true }
def IdentStepsUptoSaid : Prop := identStepsUptoRow.holds Try.pinned (OpenSpec.upto identStepsSpec)

/-- 'posthouselaw01.IdentBetween', WHERE WHAT IT READS IS OF BULK AT MOST 1048576: true; the input reads as it did. -/
def identBetweenUptoRow : OpenClaim := { program := "ytalleiogpibckaa", sum := "7807a2b80dc174fcf7a6025e59b3a9a7eae1fcd59db6a3402ba2dfc42caafdf3", func := "posthouse/posthouselaw01.IdentBetween", spec := "identBetween", inPlace := ["internal/abi.NoEscape"], apart := false, narrowed := true }
def IdentBetweenUptoSaid : Prop := identBetweenUptoRow.holds Try.pinned (OpenSpec.upto identBetweenSpec)

/-- 'posthouselaw01.IdentBits', WHERE WHAT IT READS IS OF BULK AT MOST 1048576: true; the input reads as it did. -/
def identBitsUptoRow : OpenClaim := { program := "ytalleiogpibckaa", sum := "7807a2b80dc174fcf7a6025e59b3a9a7eae1fcd59db6a3402ba2dfc42caafdf3", func := "posthouse/posthouselaw01.IdentBits", spec := "identBits", inPlace := ["internal/abi.NoEscape"], apart := false, narrowed := true }
def IdentBitsUptoSaid : Prop := identBitsUptoRow.holds Try.pinned (OpenSpec.upto identBitsSpec)

/-- 'posthouselaw01.IdentReads', WHERE WHAT IT READS IS OF BULK AT MOST 1048576: true; the input reads as it did. -/
def identReadsUptoRow : OpenClaim := { program := "ytalleiogpibckaa", sum := "7807a2b80dc174fcf7a6025e59b3a9a7eae1fcd59db6a3402ba2dfc42caafdf3", func := "posthouse/posthouselaw01.IdentReads", spec := "identReads", inPlace := ["internal/bytealg.IndexByteString", "internal/abi.NoEscape"], apart := false, narrowed := true }
def IdentReadsUptoSaid : Prop := identReadsUptoRow.holds Try.pinned (OpenSpec.upto identReadsSpec)

end Rows
end Go.Proofs.Ytalleiogpibckaa
