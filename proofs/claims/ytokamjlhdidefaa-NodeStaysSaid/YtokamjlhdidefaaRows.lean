/-
  No cell of these rows narrows 'for every input' (looked for: loops, veiled, ifaces, maps, wideKeys, modest, calm, conditions, laid).
  DERIVED. THE GIVEN ROWS OF THIS SEAT. 6 by the template 'for every input the law returns true; each argument reads behind the call as it read before'; 0 by the template 'total and deterministic' (their statements: YtokamjlhdidefaaTotals.lean).
  GIVEN WITH THE SEED: the statements are not yours to turn. If you find one false, say at which input.
  Laid BY PROGRAM, IN A SANDBOX (cutbox-rows.mjs): the forced cells as the released guide's own fill.sh prints them over the translation d8ac5c8548891cd0… (all of the seat's roots in one cut). By AI agents, Wed Nov 11 2026. No macro, syntax, notation, axiom, sorry.
-/
import Derived.Test.YtokamjlhdidefaaChecked
import GoSem.Claim
import GoSem.ClaimJoined
import GoSem.ClaimMapViews
import Derived.JoinedTies
import Derived.KernelRfl
namespace Go.Proofs.Ytokamjlhdidefaa
/- THE CELL 'sum', in the pinned program and in every row, IS THE sha256 OF THE DUMP (.gsa) THAT YtokamjlhdidefaaProg.lean LOADS. Nothing in Lean hashes anything: it is a label: what it is worth is what the hold of that sum in a sandbox is worth. -/
noncomputable def Try.pinned : Pinned := { name := "ytokamjlhdidefaa", sum := "d8ac5c8548891cd0a935ec8620500b46ac620675fac9f8f5cf448f311eb5d19b", checked := Try.checked }
namespace Rows
def none {H : Type} : Left H := { results := [], args := [] }

/-- 'posthouselaw09.NodeAsks': WHATEVER THE INPUT: true; the input reads as it did. -/
def nodeAsksSpec : ChangeSpec := { name := "nodeAsks", fn := fun _ => fun
  | [d1, d2, d3] => { results := [.lit (.bool true)], args := [d1, d2, d3] }
  | _ => none }
def nodeAsksRow : OpenClaim := { program := "ytokamjlhdidefaa", sum := "d8ac5c8548891cd0a935ec8620500b46ac620675fac9f8f5cf448f311eb5d19b", func := "posthouse/posthouselaw09.NodeAsks", spec := "nodeAsks", unfollowed := true, recurses := true, apart := false }
def NodeAsksSaid : Prop := nodeAsksRow.holds Try.pinned (OpenSpec.ofChange nodeAsksSpec)

/-- ITS FALSE NEIGHBOUR: 'it returns false'. Refute it at one input. -/
def nodeAsksWrong : ChangeSpec := { name := "nodeAsks", fn := fun _ => fun
  | [d1, d2, d3] => { results := [.lit (.bool false)], args := [d1, d2, d3] }
  | _ => none }
def NodeAsksWrongFalsely : Prop := nodeAsksRow.holds Try.pinned (OpenSpec.ofChange nodeAsksWrong)

/-- 'posthouselaw09.NodeOwns': WHATEVER THE INPUT: true; the input reads as it did. -/
def nodeOwnsSpec : ChangeSpec := { name := "nodeOwns", fn := fun _ => fun
  | [d1, d2, d3] => { results := [.lit (.bool true)], args := [d1, d2, d3] }
  | _ => none }
def nodeOwnsRow : OpenClaim := { program := "ytokamjlhdidefaa", sum := "d8ac5c8548891cd0a935ec8620500b46ac620675fac9f8f5cf448f311eb5d19b", func := "posthouse/posthouselaw09.NodeOwns", spec := "nodeOwns", unfollowed := true, recurses := true, apart := false }
def NodeOwnsSaid : Prop := nodeOwnsRow.holds Try.pinned (OpenSpec.ofChange nodeOwnsSpec)

/-- ITS FALSE NEIGHBOUR: 'it returns false'. Refute it at one input. -/
def nodeOwnsWrong : ChangeSpec := { name := "nodeOwns", fn := fun _ => fun
  | [d1, d2, d3] => { results := [.lit (.bool false)], args := [d1, d2, d3] }
  | _ => none }
def NodeOwnsWrongFalsely : Prop := nodeOwnsRow.holds Try.pinned (OpenSpec.ofChange nodeOwnsWrong)

/-- 'posthouselaw09.NodeHears': WHATEVER THE INPUT: true; the input reads as it did. -/
def nodeHearsSpec : ChangeSpec := { name := "nodeHears", fn := fun _ => fun
  | [d1, d2, d3] => { results := [.lit (.bool true)], args := [d1, d2, d3] }
  | _ => none }
def nodeHearsRow : OpenClaim := { program := "ytokamjlhdidefaa", sum := "d8ac5c8548891cd0a935ec8620500b46ac620675fac9f8f5cf448f311eb5d19b", func := "posthouse/posthouselaw09.NodeHears", spec := "nodeHears", unfollowed := true, recurses := true, apart := false }
def NodeHearsSaid : Prop := nodeHearsRow.holds Try.pinned (OpenSpec.ofChange nodeHearsSpec)

/-- ITS FALSE NEIGHBOUR: 'it returns false'. Refute it at one input. -/
def nodeHearsWrong : ChangeSpec := { name := "nodeHears", fn := fun _ => fun
  | [d1, d2, d3] => { results := [.lit (.bool false)], args := [d1, d2, d3] }
  | _ => none }
def NodeHearsWrongFalsely : Prop := nodeHearsRow.holds Try.pinned (OpenSpec.ofChange nodeHearsWrong)

/-- 'posthouselaw09.NodeForgets': WHATEVER THE INPUT: true; the input reads as it did. -/
def nodeForgetsSpec : ChangeSpec := { name := "nodeForgets", fn := fun _ => fun
  | [d1, d2, d3] => { results := [.lit (.bool true)], args := [d1, d2, d3] }
  | _ => none }
def nodeForgetsRow : OpenClaim := { program := "ytokamjlhdidefaa", sum := "d8ac5c8548891cd0a935ec8620500b46ac620675fac9f8f5cf448f311eb5d19b", func := "posthouse/posthouselaw09.NodeForgets", spec := "nodeForgets", unfollowed := true, recurses := true, apart := false }
def NodeForgetsSaid : Prop := nodeForgetsRow.holds Try.pinned (OpenSpec.ofChange nodeForgetsSpec)

/-- ITS FALSE NEIGHBOUR: 'it returns false'. Refute it at one input. -/
def nodeForgetsWrong : ChangeSpec := { name := "nodeForgets", fn := fun _ => fun
  | [d1, d2, d3] => { results := [.lit (.bool false)], args := [d1, d2, d3] }
  | _ => none }
def NodeForgetsWrongFalsely : Prop := nodeForgetsRow.holds Try.pinned (OpenSpec.ofChange nodeForgetsWrong)

/-- 'posthouselaw09.NodeStays': WHATEVER THE INPUT: true; the input reads as it did. -/
def nodeStaysSpec : ChangeSpec := { name := "nodeStays", fn := fun _ => fun
  | [d1, d2, d3, d4, d5] => { results := [.lit (.bool true)], args := [d1, d2, d3, d4, d5] }
  | _ => none }
def nodeStaysRow : OpenClaim := { program := "ytokamjlhdidefaa", sum := "d8ac5c8548891cd0a935ec8620500b46ac620675fac9f8f5cf448f311eb5d19b", func := "posthouse/posthouselaw09.NodeStays", spec := "nodeStays", unfollowed := true, recurses := true, apart := false }
def NodeStaysSaid : Prop := nodeStaysRow.holds Try.pinned (OpenSpec.ofChange nodeStaysSpec)

/-- ITS FALSE NEIGHBOUR: 'it returns false'. Refute it at one input. -/
def nodeStaysWrong : ChangeSpec := { name := "nodeStays", fn := fun _ => fun
  | [d1, d2, d3, d4, d5] => { results := [.lit (.bool false)], args := [d1, d2, d3, d4, d5] }
  | _ => none }
def NodeStaysWrongFalsely : Prop := nodeStaysRow.holds Try.pinned (OpenSpec.ofChange nodeStaysWrong)

/-- 'posthouselaw09.NodeTwice': WHATEVER THE INPUT: true; the input reads as it did. -/
def nodeTwiceSpec : ChangeSpec := { name := "nodeTwice", fn := fun _ => fun
  | [d1, d2, d3, d4] => { results := [.lit (.bool true)], args := [d1, d2, d3, d4] }
  | _ => none }
def nodeTwiceRow : OpenClaim := { program := "ytokamjlhdidefaa", sum := "d8ac5c8548891cd0a935ec8620500b46ac620675fac9f8f5cf448f311eb5d19b", func := "posthouse/posthouselaw09.NodeTwice", spec := "nodeTwice", unfollowed := true, recurses := true, apart := false }
def NodeTwiceSaid : Prop := nodeTwiceRow.holds Try.pinned (OpenSpec.ofChange nodeTwiceSpec)

/-- ITS FALSE NEIGHBOUR: 'it returns false'. Refute it at one input. -/
def nodeTwiceWrong : ChangeSpec := { name := "nodeTwice", fn := fun _ => fun
  | [d1, d2, d3, d4] => { results := [.lit (.bool false)], args := [d1, d2, d3, d4] }
  | _ => none }
def NodeTwiceWrongFalsely : Prop := nodeTwiceRow.holds Try.pinned (OpenSpec.ofChange nodeTwiceWrong)

/- THE SECOND FORM. 'bulk': how many values and letters a reading holds, each counted each time it is reached (what is shared counts as often as it is met; a slice's spare places count too). A statement '..UptoSaid' is the law's where the arguments, and the package variables that the reading takes, are together of bulk at most 1048576: NARROWER than '..Said'. Prove '..Said' where nothing that the law and all that it calls make is longer than what came in: it says more and counts as full. Else prove '..UptoSaid'. A law counts once. -/
mutual
def uptoBulk {H : Type} : DataW H → Nat
  | .lit (.string bytes) => bytes.length + 1
  | .lit _ => 1
  | .nil => 1
  | .ptr d => uptoBulk d + 1
  | .slice elems spare => uptoBulkAll elems + uptoBulkAll spare + 1
  | .agg parts => uptoBulkAll parts + 1
  | .iface _ d => uptoBulk d + 1
  | .map entries => uptoBulkEntries entries + 1
  | .held _ => 1
def uptoBulkAll {H : Type} : List (DataW H) → Nat
  | [] => 0
  | d :: r => uptoBulk d + uptoBulkAll r
def uptoBulkEntries {H : Type} : List (Lit × DataW H) → Nat
  | [] => 0
  | x :: r => uptoBulkEntry x + uptoBulkEntries r
def uptoBulkEntry {H : Type} : Lit × DataW H → Nat
  | (.string bytes, d) => bytes.length + uptoBulk d + 1
  | (_, d) => uptoBulk d + 1
 end
def uptoSmall : (H : Type) → List (DataW H) → Bool := fun _ ds => decide (uptoBulkAll ds ≤ 1048576)
def OpenSpec.upto (s : _root_.Go.ChangeSpec) : _root_.Go.OpenSpec := { _root_.Go.OpenSpec.ofChange s with cond := some uptoSmall }

/-- 'posthouselaw09.NodeAsks', WHERE WHAT IT READS IS OF BULK AT MOST 1048576: true; the input reads as it did. -/
def nodeAsksUptoRow : OpenClaim := { program := "ytokamjlhdidefaa", sum := "d8ac5c8548891cd0a935ec8620500b46ac620675fac9f8f5cf448f311eb5d19b", func := "posthouse/posthouselaw09.NodeAsks", spec := "nodeAsks", unfollowed := true, recurses := true, apart := false, narrowed := true }
def NodeAsksUptoSaid : Prop := nodeAsksUptoRow.holds Try.pinned (OpenSpec.upto nodeAsksSpec)

/-- 'posthouselaw09.NodeOwns', WHERE WHAT IT READS IS OF BULK AT MOST 1048576: true; the input reads as it did. -/
def nodeOwnsUptoRow : OpenClaim := { program := "ytokamjlhdidefaa", sum := "d8ac5c8548891cd0a935ec8620500b46ac620675fac9f8f5cf448f311eb5d19b", func := "posthouse/posthouselaw09.NodeOwns", spec := "nodeOwns", unfollowed := true, recurses := true, apart := false, narrowed := true }
def NodeOwnsUptoSaid : Prop := nodeOwnsUptoRow.holds Try.pinned (OpenSpec.upto nodeOwnsSpec)

/-- 'posthouselaw09.NodeHears', WHERE WHAT IT READS IS OF BULK AT MOST 1048576: true; the input reads as it did. -/
def nodeHearsUptoRow : OpenClaim := { program := "ytokamjlhdidefaa", sum := "d8ac5c8548891cd0a935ec8620500b46ac620675fac9f8f5cf448f311eb5d19b", func := "posthouse/posthouselaw09.NodeHears", spec := "nodeHears", unfollowed := true, recurses := true, apart := false, narrowed := true }
def NodeHearsUptoSaid : Prop := nodeHearsUptoRow.holds Try.pinned (OpenSpec.upto nodeHearsSpec)

/-- 'posthouselaw09.NodeForgets', WHERE WHAT IT READS IS OF BULK AT MOST 1048576: true; the input reads as it did. -/
def nodeForgetsUptoRow : OpenClaim := { program := "ytokamjlhdidefaa", sum := "d8ac5c8548891cd0a935ec8620500b46ac620675fac9f8f5cf448f311eb5d19b", func := "posthouse/posthouselaw09.NodeForgets", spec := "nodeForgets", unfollowed := true, recurses := true, apart := false, narrowed := true }
def NodeForgetsUptoSaid : Prop := nodeForgetsUptoRow.holds Try.pinned (OpenSpec.upto nodeForgetsSpec)

/-- 'posthouselaw09.NodeStays', WHERE WHAT IT READS IS OF BULK AT MOST 1048576: true; the input reads as it did. -/
def nodeStaysUptoRow : OpenClaim := { program := "ytokamjlhdidefaa", sum := "d8ac5c8548891cd0a935ec8620500b46ac620675fac9f8f5cf448f311eb5d19b", func := "posthouse/posthouselaw09.NodeStays", spec := "nodeStays", unfollowed := true, recurses := true, apart := false, narrowed := true }
def NodeStaysUptoSaid : Prop := nodeStaysUptoRow.holds Try.pinned (OpenSpec.upto nodeStaysSpec)

/-- 'posthouselaw09.NodeTwice', WHERE WHAT IT READS IS OF BULK AT MOST 1048576: true; the input reads as it did. -/
def nodeTwiceUptoRow : OpenClaim := { program := "ytokamjlhdidefaa", sum := "d8ac5c8548891cd0a935ec8620500b46ac620675fac9f8f5cf448f311eb5d19b", func := "posthouse/posthouselaw09.NodeTwice", spec := "nodeTwice", unfollowed := true, recurses := true, apart := false, narrowed := true }
def NodeTwiceUptoSaid : Prop := nodeTwiceUptoRow.holds Try.pinned (OpenSpec.upto nodeTwiceSpec)

end Rows
end Go.Proofs.Ytokamjlhdidefaa
