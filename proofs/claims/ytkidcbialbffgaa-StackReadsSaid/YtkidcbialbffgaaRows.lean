/-
  No cell of these rows narrows 'for every input' (looked for: loops, veiled, ifaces, maps, wideKeys, modest, calm, conditions, laid).
  DERIVED. THE GIVEN ROWS OF THIS SEAT. 5 by the template 'for every input the law returns true; each argument reads behind the call as it read before'; 0 by the template 'total and deterministic' (their statements: YtkidcbialbffgaaTotals.lean).
  GIVEN WITH THE SEED: the statements are not yours to turn. If you find one false, say at which input.
  Laid BY PROGRAM, IN A SANDBOX (cutbox-rows.mjs): the forced cells as the released guide's own fill.sh prints them over the translation e0a74a842a8ea0f3… (all of the seat's roots in one cut). By AI agents, Wed Nov 11 2026. No macro, syntax, notation, axiom, sorry.
-/
import Derived.Test.YtkidcbialbffgaaChecked
import GoSem.Claim
import GoSem.ClaimJoined
import GoSem.ClaimMapViews
import Derived.JoinedTies
import Derived.KernelRfl
namespace Go.Proofs.Ytkidcbialbffgaa
/- THE CELL 'sum', in the pinned program and in every row, IS THE sha256 OF THE DUMP (.gsa) THAT YtkidcbialbffgaaProg.lean LOADS. Nothing in Lean hashes anything: it is a label: what it is worth is what the hold of that sum in a sandbox is worth. -/
noncomputable def Try.pinned : Pinned := { name := "ytkidcbialbffgaa", sum := "e0a74a842a8ea0f3665de8aa84cc3b31c7785d65d8682272277b11e49e6dc52d", checked := Try.checked }
namespace Rows
def none {H : Type} : Left H := { results := [], args := [] }

/-- 'posthouselaw04.StackTexts': WHATEVER THE INPUT: true; the input reads as it did. -/
def stackTextsSpec : ChangeSpec := { name := "stackTexts", fn := fun _ => fun
  | [d1, d2, d3] => { results := [.lit (.bool true)], args := [d1, d2, d3] }
  | _ => none }
def stackTextsRow : OpenClaim := { program := "ytkidcbialbffgaa", sum := "e0a74a842a8ea0f3665de8aa84cc3b31c7785d65d8682272277b11e49e6dc52d", func := "posthouse/posthouselaw04.StackTexts", spec := "stackTexts", unfollowed := true, recurses := true, apart := false }
def StackTextsSaid : Prop := stackTextsRow.holds Try.pinned (OpenSpec.ofChange stackTextsSpec)

/-- ITS FALSE NEIGHBOUR: 'it returns false'. Refute it at one input. -/
def stackTextsWrong : ChangeSpec := { name := "stackTexts", fn := fun _ => fun
  | [d1, d2, d3] => { results := [.lit (.bool false)], args := [d1, d2, d3] }
  | _ => none }
def StackTextsWrongFalsely : Prop := stackTextsRow.holds Try.pinned (OpenSpec.ofChange stackTextsWrong)

/-- 'posthouselaw04.StackReads': WHATEVER THE INPUT: true; the input reads as it did. -/
def stackReadsSpec : ChangeSpec := { name := "stackReads", fn := fun _ => fun
  | [d] => { results := [.lit (.bool true)], args := [d] }
  | _ => none }
def stackReadsRow : OpenClaim := { program := "ytkidcbialbffgaa", sum := "e0a74a842a8ea0f3665de8aa84cc3b31c7785d65d8682272277b11e49e6dc52d", func := "posthouse/posthouselaw04.StackReads", spec := "stackReads", unfollowed := true, recurses := true, apart := false }
def StackReadsSaid : Prop := stackReadsRow.holds Try.pinned (OpenSpec.ofChange stackReadsSpec)

/-- ITS FALSE NEIGHBOUR: 'it returns false'. Refute it at one input. -/
def stackReadsWrong : ChangeSpec := { name := "stackReads", fn := fun _ => fun
  | [d] => { results := [.lit (.bool false)], args := [d] }
  | _ => none }
def StackReadsWrongFalsely : Prop := stackReadsRow.holds Try.pinned (OpenSpec.ofChange stackReadsWrong)

/-- 'posthouselaw04.StackBack': WHATEVER THE INPUT: true; the input reads as it did. -/
def stackBackSpec : ChangeSpec := { name := "stackBack", fn := fun _ => fun
  | [d1, d2, d3] => { results := [.lit (.bool true)], args := [d1, d2, d3] }
  | _ => none }
def stackBackRow : OpenClaim := { program := "ytkidcbialbffgaa", sum := "e0a74a842a8ea0f3665de8aa84cc3b31c7785d65d8682272277b11e49e6dc52d", func := "posthouse/posthouselaw04.StackBack", spec := "stackBack", unfollowed := true, recurses := true, apart := false }
def StackBackSaid : Prop := stackBackRow.holds Try.pinned (OpenSpec.ofChange stackBackSpec)

/-- ITS FALSE NEIGHBOUR: 'it returns false'. Refute it at one input. -/
def stackBackWrong : ChangeSpec := { name := "stackBack", fn := fun _ => fun
  | [d1, d2, d3] => { results := [.lit (.bool false)], args := [d1, d2, d3] }
  | _ => none }
def StackBackWrongFalsely : Prop := stackBackRow.holds Try.pinned (OpenSpec.ofChange stackBackWrong)

/-- 'posthouselaw04.StackPushes': WHATEVER THE INPUT: true; the input reads as it did. -/
def stackPushesSpec : ChangeSpec := { name := "stackPushes", fn := fun _ => fun
  | [d1, d2] => { results := [.lit (.bool true)], args := [d1, d2] }
  | _ => none }
def stackPushesRow : OpenClaim := { program := "ytkidcbialbffgaa", sum := "e0a74a842a8ea0f3665de8aa84cc3b31c7785d65d8682272277b11e49e6dc52d", func := "posthouse/posthouselaw04.StackPushes", spec := "stackPushes", unfollowed := true, recurses := true, apart := false }
def StackPushesSaid : Prop := stackPushesRow.holds Try.pinned (OpenSpec.ofChange stackPushesSpec)

/-- ITS FALSE NEIGHBOUR: 'it returns false'. Refute it at one input. -/
def stackPushesWrong : ChangeSpec := { name := "stackPushes", fn := fun _ => fun
  | [d1, d2] => { results := [.lit (.bool false)], args := [d1, d2] }
  | _ => none }
def StackPushesWrongFalsely : Prop := stackPushesRow.holds Try.pinned (OpenSpec.ofChange stackPushesWrong)

/-- 'posthouselaw04.StackParts': WHATEVER THE INPUT: true; the input reads as it did. -/
def stackPartsSpec : ChangeSpec := { name := "stackParts", fn := fun _ => fun
  | [d1, d2, d3] => { results := [.lit (.bool true)], args := [d1, d2, d3] }
  | _ => none }
def stackPartsRow : OpenClaim := { program := "ytkidcbialbffgaa", sum := "e0a74a842a8ea0f3665de8aa84cc3b31c7785d65d8682272277b11e49e6dc52d", func := "posthouse/posthouselaw04.StackParts", spec := "stackParts", unfollowed := true, recurses := true, apart := false }
def StackPartsSaid : Prop := stackPartsRow.holds Try.pinned (OpenSpec.ofChange stackPartsSpec)

/-- ITS FALSE NEIGHBOUR: 'it returns false'. Refute it at one input. -/
def stackPartsWrong : ChangeSpec := { name := "stackParts", fn := fun _ => fun
  | [d1, d2, d3] => { results := [.lit (.bool false)], args := [d1, d2, d3] }
  | _ => none }
def StackPartsWrongFalsely : Prop := stackPartsRow.holds Try.pinned (OpenSpec.ofChange stackPartsWrong)

/- THE SECOND FORM. 'bulk': how many values and letters a reading holds, each counted each time it is reached (what is shared counts as often as it is met; a slice's spare places count too). A statement '..UptoSaid' is the law's where the arguments, and the package variables that the reading takes, are together of bulk at most 1048576: NARROWER than '..Said'. Prove '..Said' where nothing that the law and all that it calls make is longer than what came in: it says more and counts as full. Else prove '..UptoSaid'. A law counts once. -/
mutual
def uptoBulk {H : Type} : DataW H → Nat
  | .lit (.string bytes) => bytes.length + 1
  | .lit _ => 1
  | .nil => 1
  | .ptr d => uptoBulk d + 1
  | .slice elems spare => uptoBulkAll elems + uptoBulkAll spare + 1
  | .agg parts => uptoBulkAll parts + 1
  | .iface _ d => uptoBulk d + 1
  | .map entries => uptoBulkEntries entries + 1
  | .held _ => 1
def uptoBulkAll {H : Type} : List (DataW H) → Nat
  | [] => 0
  | d :: r => uptoBulk d + uptoBulkAll r
def uptoBulkEntries {H : Type} : List (Lit × DataW H) → Nat
  | [] => 0
  | x :: r => uptoBulkEntry x + uptoBulkEntries r
def uptoBulkEntry {H : Type} : Lit × DataW H → Nat
  | (.string bytes, d) => bytes.length + uptoBulk d + 1
  | (_, d) => uptoBulk d + 1
 end
def uptoSmall : (H : Type) → List (DataW H) → Bool := fun _ ds => decide (uptoBulkAll ds ≤ 1048576)
def OpenSpec.upto (s : _root_.Go.ChangeSpec) : _root_.Go.OpenSpec := { _root_.Go.OpenSpec.ofChange s with cond := some uptoSmall }

/-- 'posthouselaw04.StackTexts', WHERE WHAT IT READS IS OF BULK AT MOST 1048576: true; the input reads as it did. -/
def stackTextsUptoRow : OpenClaim := { program := "ytkidcbialbffgaa", sum := "e0a74a842a8ea0f3665de8aa84cc3b31c7785d65d8682272277b11e49e6dc52d", func := "posthouse/posthouselaw04.StackTexts", spec := "stackTexts", unfollowed := true, recurses := true, apart := false, narrowed := true }
def StackTextsUptoSaid : Prop := stackTextsUptoRow.holds Try.pinned (OpenSpec.upto stackTextsSpec)

/-- 'posthouselaw04.StackReads', WHERE WHAT IT READS IS OF BULK AT MOST 1048576: true; the input reads as it did. -/
def stackReadsUptoRow : OpenClaim := { program := "ytkidcbialbffgaa", sum := "e0a74a842a8ea0f3665de8aa84cc3b31c7785d65d8682272277b11e49e6dc52d", func := "posthouse/posthouselaw04.StackReads", spec := "stackReads", unfollowed := true, recurses := true, apart := false, narrowed := true }
def StackReadsUptoSaid : Prop := stackReadsUptoRow.holds Try.pinned (OpenSpec.upto stackReadsSpec)

/-- 'posthouselaw04.StackBack', WHERE WHAT IT READS IS OF BULK AT MOST 1048576: true; the input reads as it did. -/
def stackBackUptoRow : OpenClaim := { program := "ytkidcbialbffgaa", sum := "e0a74a842a8ea0f3665de8aa84cc3b31c7785d65d8682272277b11e49e6dc52d", func := "posthouse/posthouselaw04.StackBack", spec := "stackBack", unfollowed := true, recurses := true, apart := false, narrowed := true }
def StackBackUptoSaid : Prop := stackBackUptoRow.holds Try.pinned (OpenSpec.upto stackBackSpec)

/-- 'posthouselaw04.StackPushes', WHERE WHAT IT READS IS OF BULK AT MOST 1048576: true; the input reads as it did. -/
def stackPushesUptoRow : OpenClaim := { program := "ytkidcbialbffgaa", sum := "e0a74a842a8ea0f3665de8aa84cc3b31c7785d65d8682272277b11e49e6dc52d", func := "posthouse/posthouselaw04.StackPushes", spec := "stackPushes", unfollowed := true, recurses := true, apart := false, narrowed := true }
def StackPushesUptoSaid : Prop := stackPushesUptoRow.holds Try.pinned (OpenSpec.upto stackPushesSpec)

/-- 'posthouselaw04.StackParts', WHERE WHAT IT READS IS OF BULK AT MOST 1048576: true; the input reads as it did. -/
def stackPartsUptoRow : OpenClaim := { program := "ytkidcbialbffgaa", sum := "e0a74a842a8ea0f3665de8aa84cc3b31c7785d65d8682272277b11e49e6dc52d", func := "posthouse/posthouselaw04.StackParts", spec := "stackParts", unfollowed := true, recurses := true, apart := false, narrowed := true }
def StackPartsUptoSaid : Prop := stackPartsUptoRow.holds Try.pinned (OpenSpec.upto stackPartsSpec)

end Rows
end Go.Proofs.Ytkidcbialbffgaa
