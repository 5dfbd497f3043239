/-
  No cell of these rows narrows 'for every input' (looked for: loops, veiled, ifaces, maps, wideKeys, modest, calm, conditions, laid).
  DERIVED. THE GIVEN ROWS OF THIS SEAT. 6 by the template 'for every input the law returns true; each argument reads behind the call as it read before'; 0 by the template 'total and deterministic' (their statements: YtdicedlgaknkoaaTotals.lean).
  GIVEN WITH THE SEED: the statements are not yours to turn. If you find one false, say at which input.
  Laid BY PROGRAM, IN A SANDBOX (cutbox-rows.mjs): the forced cells as the released guide's own fill.sh prints them over the translation 52418b85caf26cbe… (all of the seat's roots in one cut). By AI agents, Wed Nov 11 2026. No macro, syntax, notation, axiom, sorry.
-/
import Derived.Test.YtdicedlgaknkoaaChecked
import GoSem.Claim
import GoSem.ClaimJoined
import GoSem.ClaimMapViews
import Derived.JoinedTies
import Derived.KernelRfl
namespace Go.Proofs.Ytdicedlgaknkoaa
/- THE CELL 'sum', in the pinned program and in every row, IS THE sha256 OF THE DUMP (.gsa) THAT YtdicedlgaknkoaaProg.lean LOADS. Nothing in Lean hashes anything: it is a label: what it is worth is what the hold of that sum in a sandbox is worth. -/
noncomputable def Try.pinned : Pinned := { name := "ytdicedlgaknkoaa", sum := "52418b85caf26cbe29ee68e5abe88d3c9aae2cec93b5d4df8f1a239268d4ac93", checked := Try.checked }
namespace Rows
def none {H : Type} : Left H := { results := [], args := [] }

/-- 'posthouselaw17.HostSends': WHATEVER THE INPUT: true; the input reads as it did. -/
def hostSendsSpec : ChangeSpec := { name := "hostSends", fn := fun _ => fun
  | [d1, d2, d3, d4] => { results := [.lit (.bool true)], args := [d1, d2, d3, d4] }
  | _ => none }
def hostSendsRow : OpenClaim := { program := "ytdicedlgaknkoaa", sum := "52418b85caf26cbe29ee68e5abe88d3c9aae2cec93b5d4df8f1a239268d4ac93", func := "posthouse/posthouselaw17.HostSends", spec := "hostSends", unfollowed := true, recurses := true, apart := false }
def HostSendsSaid : Prop := hostSendsRow.holds Try.pinned (OpenSpec.ofChange hostSendsSpec)

/-- ITS FALSE NEIGHBOUR: 'it returns false'. Refute it at one input. -/
def hostSendsWrong : ChangeSpec := { name := "hostSends", fn := fun _ => fun
  | [d1, d2, d3, d4] => { results := [.lit (.bool false)], args := [d1, d2, d3, d4] }
  | _ => none }
def HostSendsWrongFalsely : Prop := hostSendsRow.holds Try.pinned (OpenSpec.ofChange hostSendsWrong)

/-- 'posthouselaw17.HostWants': WHATEVER THE INPUT: true; the input reads as it did. -/
def hostWantsSpec : ChangeSpec := { name := "hostWants", fn := fun _ => fun
  | [d1, d2, d3, d4, d5] => { results := [.lit (.bool true)], args := [d1, d2, d3, d4, d5] }
  | _ => none }
def hostWantsRow : OpenClaim := { program := "ytdicedlgaknkoaa", sum := "52418b85caf26cbe29ee68e5abe88d3c9aae2cec93b5d4df8f1a239268d4ac93", func := "posthouse/posthouselaw17.HostWants", spec := "hostWants", unfollowed := true, recurses := true, apart := false }
def HostWantsSaid : Prop := hostWantsRow.holds Try.pinned (OpenSpec.ofChange hostWantsSpec)

/-- ITS FALSE NEIGHBOUR: 'it returns false'. Refute it at one input. -/
def hostWantsWrong : ChangeSpec := { name := "hostWants", fn := fun _ => fun
  | [d1, d2, d3, d4, d5] => { results := [.lit (.bool false)], args := [d1, d2, d3, d4, d5] }
  | _ => none }
def HostWantsWrongFalsely : Prop := hostWantsRow.holds Try.pinned (OpenSpec.ofChange hostWantsWrong)

/-- 'posthouselaw17.HostAsks': WHATEVER THE INPUT: true; the input reads as it did. -/
def hostAsksSpec : ChangeSpec := { name := "hostAsks", fn := fun _ => fun
  | [d1, d2, d3] => { results := [.lit (.bool true)], args := [d1, d2, d3] }
  | _ => none }
def hostAsksRow : OpenClaim := { program := "ytdicedlgaknkoaa", sum := "52418b85caf26cbe29ee68e5abe88d3c9aae2cec93b5d4df8f1a239268d4ac93", func := "posthouse/posthouselaw17.HostAsks", spec := "hostAsks", unfollowed := true, recurses := true, apart := false }
def HostAsksSaid : Prop := hostAsksRow.holds Try.pinned (OpenSpec.ofChange hostAsksSpec)

/-- ITS FALSE NEIGHBOUR: 'it returns false'. Refute it at one input. -/
def hostAsksWrong : ChangeSpec := { name := "hostAsks", fn := fun _ => fun
  | [d1, d2, d3] => { results := [.lit (.bool false)], args := [d1, d2, d3] }
  | _ => none }
def HostAsksWrongFalsely : Prop := hostAsksRow.holds Try.pinned (OpenSpec.ofChange hostAsksWrong)

/-- 'posthouselaw17.HostTakes': WHATEVER THE INPUT: true; the input reads as it did. -/
def hostTakesSpec : ChangeSpec := { name := "hostTakes", fn := fun _ => fun
  | [d1, d2, d3, d4] => { results := [.lit (.bool true)], args := [d1, d2, d3, d4] }
  | _ => none }
def hostTakesRow : OpenClaim := { program := "ytdicedlgaknkoaa", sum := "52418b85caf26cbe29ee68e5abe88d3c9aae2cec93b5d4df8f1a239268d4ac93", func := "posthouse/posthouselaw17.HostTakes", spec := "hostTakes", unfollowed := true, recurses := true, apart := false }
def HostTakesSaid : Prop := hostTakesRow.holds Try.pinned (OpenSpec.ofChange hostTakesSpec)

/-- ITS FALSE NEIGHBOUR: 'it returns false'. Refute it at one input. -/
def hostTakesWrong : ChangeSpec := { name := "hostTakes", fn := fun _ => fun
  | [d1, d2, d3, d4] => { results := [.lit (.bool false)], args := [d1, d2, d3, d4] }
  | _ => none }
def HostTakesWrongFalsely : Prop := hostTakesRow.holds Try.pinned (OpenSpec.ofChange hostTakesWrong)

/-- 'posthouselaw17.HostKeeps': WHATEVER THE INPUT: true; the input reads as it did. -/
def hostKeepsSpec : ChangeSpec := { name := "hostKeeps", fn := fun _ => fun
  | [d1, d2, d3, d4] => { results := [.lit (.bool true)], args := [d1, d2, d3, d4] }
  | _ => none }
def hostKeepsRow : OpenClaim := { program := "ytdicedlgaknkoaa", sum := "52418b85caf26cbe29ee68e5abe88d3c9aae2cec93b5d4df8f1a239268d4ac93", func := "posthouse/posthouselaw17.HostKeeps", spec := "hostKeeps", unfollowed := true, recurses := true, apart := false }
def HostKeepsSaid : Prop := hostKeepsRow.holds Try.pinned (OpenSpec.ofChange hostKeepsSpec)

/-- ITS FALSE NEIGHBOUR: 'it returns false'. Refute it at one input. -/
def hostKeepsWrong : ChangeSpec := { name := "hostKeeps", fn := fun _ => fun
  | [d1, d2, d3, d4] => { results := [.lit (.bool false)], args := [d1, d2, d3, d4] }
  | _ => none }
def HostKeepsWrongFalsely : Prop := hostKeepsRow.holds Try.pinned (OpenSpec.ofChange hostKeepsWrong)

/-- 'posthouselaw17.HostHints': WHATEVER THE INPUT: true; the input reads as it did. -/
def hostHintsSpec : ChangeSpec := { name := "hostHints", fn := fun _ => fun
  | [d1, d2, d3, d4, d5] => { results := [.lit (.bool true)], args := [d1, d2, d3, d4, d5] }
  | _ => none }
def hostHintsRow : OpenClaim := { program := "ytdicedlgaknkoaa", sum := "52418b85caf26cbe29ee68e5abe88d3c9aae2cec93b5d4df8f1a239268d4ac93", func := "posthouse/posthouselaw17.HostHints", spec := "hostHints", unfollowed := true, recurses := true, apart := false }
def HostHintsSaid : Prop := hostHintsRow.holds Try.pinned (OpenSpec.ofChange hostHintsSpec)

/-- ITS FALSE NEIGHBOUR: 'it returns false'. Refute it at one input. -/
def hostHintsWrong : ChangeSpec := { name := "hostHints", fn := fun _ => fun
  | [d1, d2, d3, d4, d5] => { results := [.lit (.bool false)], args := [d1, d2, d3, d4, d5] }
  | _ => none }
def HostHintsWrongFalsely : Prop := hostHintsRow.holds Try.pinned (OpenSpec.ofChange hostHintsWrong)

/- THE SECOND FORM. 'bulk': how many values and letters a reading holds, each counted each time it is reached (what is shared counts as often as it is met; a slice's spare places count too). A statement '..UptoSaid' is the law's where the arguments, and the package variables that the reading takes, are together of bulk at most 1048576: NARROWER than '..Said'. Prove '..Said' where nothing that the law and all that it calls make is longer than what came in: it says more and counts as full. Else prove '..UptoSaid'. A law counts once. -/
mutual
def uptoBulk {H : Type} : DataW H → Nat
  | .lit (.string bytes) => bytes.length + 1
  | .lit _ => 1
  | .nil => 1
  | .ptr d => uptoBulk d + 1
  | .slice elems spare => uptoBulkAll elems + uptoBulkAll spare + 1
  | .agg parts => uptoBulkAll parts + 1
  | .iface _ d => uptoBulk d + 1
  | .map entries => uptoBulkEntries entries + 1
  | .held _ => 1
def uptoBulkAll {H : Type} : List (DataW H) → Nat
  | [] => 0
  | d :: r => uptoBulk d + uptoBulkAll r
def uptoBulkEntries {H : Type} : List (Lit × DataW H) → Nat
  | [] => 0
  | x :: r => uptoBulkEntry x + uptoBulkEntries r
def uptoBulkEntry {H : Type} : Lit × DataW H → Nat
  | (.string bytes, d) => bytes.length + uptoBulk d + 1
  | (_, d) => uptoBulk d + 1
 end
def uptoSmall : (H : Type) → List (DataW H) → Bool := fun _ ds => decide (uptoBulkAll ds ≤ 1048576)
def OpenSpec.upto (s : _root_.Go.ChangeSpec) : _root_.Go.OpenSpec := { _root_.Go.OpenSpec.ofChange s with cond := some uptoSmall }

/-- 'posthouselaw17.HostSends', WHERE WHAT IT READS IS OF BULK AT MOST 1048576: true; the input reads as it did. -/
def hostSendsUptoRow : OpenClaim := { program := "ytdicedlgaknkoaa", sum := "52418b85caf26cbe29ee68e5abe88d3c9aae2cec93b5d4df8f1a239268d4ac93", func := "posthouse/posthouselaw17.HostSends", spec := "hostSends", unfollowed := true, recurses := true, apart := false, narrowed := true }
def HostSendsUptoSaid : Prop := hostSendsUptoRow.holds Try.pinned (OpenSpec.upto hostSendsSpec)

/-- 'posthouselaw17.HostWants', WHERE WHAT IT READS IS OF BULK AT MOST 1048576: true; the input reads as it did. -/
def hostWantsUptoRow : OpenClaim := { program := "ytdicedlgaknkoaa", sum := "52418b85caf26cbe29ee68e5abe88d3c9aae2cec93b5d4df8f1a239268d4ac93", func := "posthouse/posthouselaw17.HostWants", spec := "hostWants", unfollowed := true, recurses := true, apart := false, narrowed := true }
def HostWantsUptoSaid : Prop := hostWantsUptoRow.holds Try.pinned (OpenSpec.upto hostWantsSpec)

/-- 'posthouselaw17.HostAsks', WHERE WHAT IT READS IS OF BULK AT MOST 1048576: true; the input reads as it did. -/
def hostAsksUptoRow : OpenClaim := { program := "ytdicedlgaknkoaa", sum := "52418b85caf26cbe29ee68e5abe88d3c9aae2cec93b5d4df8f1a239268d4ac93", func := "posthouse/posthouselaw17.HostAsks", spec := "hostAsks", unfollowed := true, recurses := true, apart := false, narrowed := true }
def HostAsksUptoSaid : Prop := hostAsksUptoRow.holds Try.pinned (OpenSpec.upto hostAsksSpec)

/-- 'posthouselaw17.HostTakes', WHERE WHAT IT READS IS OF BULK AT MOST 1048576: true; the input reads as it did. -/
def hostTakesUptoRow : OpenClaim := { program := "ytdicedlgaknkoaa", sum := "52418b85caf26cbe29ee68e5abe88d3c9aae2cec93b5d4df8f1a239268d4ac93", func := "posthouse/posthouselaw17.HostTakes", spec := "hostTakes", unfollowed := true, recurses := true, apart := false, narrowed := true }
def HostTakesUptoSaid : Prop := hostTakesUptoRow.holds Try.pinned (OpenSpec.upto hostTakesSpec)

/-- 'posthouselaw17.HostKeeps', WHERE WHAT IT READS IS OF BULK AT MOST 1048576: true; the input reads as it did. -/
def hostKeepsUptoRow : OpenClaim := { program := "ytdicedlgaknkoaa", sum := "52418b85caf26cbe29ee68e5abe88d3c9aae2cec93b5d4df8f1a239268d4ac93", func := "posthouse/posthouselaw17.HostKeeps", spec := "hostKeeps", unfollowed := true, recurses := true, apart := false, narrowed := true }
def HostKeepsUptoSaid : Prop := hostKeepsUptoRow.holds Try.pinned (OpenSpec.upto hostKeepsSpec)

/-- 'posthouselaw17.HostHints', WHERE WHAT IT READS IS OF BULK AT MOST 1048576: true; the input reads as it did. -/
def hostHintsUptoRow : OpenClaim := { program := "ytdicedlgaknkoaa", sum := "52418b85caf26cbe29ee68e5abe88d3c9aae2cec93b5d4df8f1a239268d4ac93", func := "posthouse/posthouselaw17.HostHints", spec := "hostHints", unfollowed := true, recurses := true, apart := false, narrowed := true }
def HostHintsUptoSaid : Prop := hostHintsUptoRow.holds Try.pinned (OpenSpec.upto hostHintsSpec)

end Rows
end Go.Proofs.Ytdicedlgaknkoaa
