/-
  No cell of these rows narrows 'for every input' (looked for: loops, veiled, ifaces, maps, wideKeys, modest, calm, conditions, laid).
  DERIVED. THE GIVEN ROWS OF THIS SEAT. 4 by the template 'for every input the law returns true; each argument reads behind the call as it read before'; 0 by the template 'total and deterministic' (their statements: YtkjpoongkdapoaaTotals.lean).
  GIVEN WITH THE SEED: the statements are not yours to turn. If you find one false, say at which input.
  Laid BY PROGRAM, IN A SANDBOX (cutbox-rows.mjs): the forced cells as the released guide's own fill.sh prints them over the translation 5d9be01f8dc835a0… (all of the seat's roots in one cut). By AI agents, Wed Nov 11 2026. No macro, syntax, notation, axiom, sorry.
-/
import Derived.Test.YtkjpoongkdapoaaChecked
import GoSem.Claim
import GoSem.ClaimJoined
import GoSem.ClaimMapViews
import Derived.JoinedTies
import Derived.KernelRfl
namespace Go.Proofs.Ytkjpoongkdapoaa
/- THE CELL 'sum', in the pinned program and in every row, IS THE sha256 OF THE DUMP (.gsa) THAT YtkjpoongkdapoaaProg.lean LOADS. Nothing in Lean hashes anything: it is a label: what it is worth is what the hold of that sum in a sandbox is worth. -/
noncomputable def Try.pinned : Pinned := { name := "ytkjpoongkdapoaa", sum := "5d9be01f8dc835a0ac313b494941b3cd138d4f19c6b739eb16c24d1ce1119a74", checked := Try.checked }
namespace Rows
def none {H : Type} : Left H := { results := [], args := [] }

/-- 'posthouselaw06.MailPosts': WHATEVER THE INPUT: true; the input reads as it did. -/
def mailPostsSpec : ChangeSpec := { name := "mailPosts", fn := fun _ => fun
  | [d1, d2, d3, d4, d5] => { results := [.lit (.bool true)], args := [d1, d2, d3, d4, d5] }
  | _ => none }
def mailPostsRow : OpenClaim := { program := "ytkjpoongkdapoaa", sum := "5d9be01f8dc835a0ac313b494941b3cd138d4f19c6b739eb16c24d1ce1119a74", func := "posthouse/posthouselaw06.MailPosts", spec := "mailPosts", unfollowed := true, recurses := true, apart := false }
def MailPostsSaid : Prop := mailPostsRow.holds Try.pinned (OpenSpec.ofChange mailPostsSpec)

/-- ITS FALSE NEIGHBOUR: 'it returns false'. Refute it at one input. -/
def mailPostsWrong : ChangeSpec := { name := "mailPosts", fn := fun _ => fun
  | [d1, d2, d3, d4, d5] => { results := [.lit (.bool false)], args := [d1, d2, d3, d4, d5] }
  | _ => none }
def MailPostsWrongFalsely : Prop := mailPostsRow.holds Try.pinned (OpenSpec.ofChange mailPostsWrong)

/-- 'posthouselaw06.MailTurns': WHATEVER THE INPUT: true; the input reads as it did. -/
def mailTurnsSpec : ChangeSpec := { name := "mailTurns", fn := fun _ => fun
  | [d1, d2, d3] => { results := [.lit (.bool true)], args := [d1, d2, d3] }
  | _ => none }
def mailTurnsRow : OpenClaim := { program := "ytkjpoongkdapoaa", sum := "5d9be01f8dc835a0ac313b494941b3cd138d4f19c6b739eb16c24d1ce1119a74", func := "posthouse/posthouselaw06.MailTurns", spec := "mailTurns", unfollowed := true, recurses := true, apart := false }
def MailTurnsSaid : Prop := mailTurnsRow.holds Try.pinned (OpenSpec.ofChange mailTurnsSpec)

/-- ITS FALSE NEIGHBOUR: 'it returns false'. Refute it at one input. -/
def mailTurnsWrong : ChangeSpec := { name := "mailTurns", fn := fun _ => fun
  | [d1, d2, d3] => { results := [.lit (.bool false)], args := [d1, d2, d3] }
  | _ => none }
def MailTurnsWrongFalsely : Prop := mailTurnsRow.holds Try.pinned (OpenSpec.ofChange mailTurnsWrong)

/-- 'posthouselaw06.MailPlaces': WHATEVER THE INPUT: true; the input reads as it did. -/
def mailPlacesSpec : ChangeSpec := { name := "mailPlaces", fn := fun _ => fun
  | [d1, d2] => { results := [.lit (.bool true)], args := [d1, d2] }
  | _ => none }
def mailPlacesRow : OpenClaim := { program := "ytkjpoongkdapoaa", sum := "5d9be01f8dc835a0ac313b494941b3cd138d4f19c6b739eb16c24d1ce1119a74", func := "posthouse/posthouselaw06.MailPlaces", spec := "mailPlaces", unfollowed := true, recurses := true, apart := false }
def MailPlacesSaid : Prop := mailPlacesRow.holds Try.pinned (OpenSpec.ofChange mailPlacesSpec)

/-- ITS FALSE NEIGHBOUR: 'it returns false'. Refute it at one input. -/
def mailPlacesWrong : ChangeSpec := { name := "mailPlaces", fn := fun _ => fun
  | [d1, d2] => { results := [.lit (.bool false)], args := [d1, d2] }
  | _ => none }
def MailPlacesWrongFalsely : Prop := mailPlacesRow.holds Try.pinned (OpenSpec.ofChange mailPlacesWrong)

/-- 'posthouselaw06.MailOnce': WHATEVER THE INPUT: true; the input reads as it did. -/
def mailOnceSpec : ChangeSpec := { name := "mailOnce", fn := fun _ => fun
  | [d1, d2] => { results := [.lit (.bool true)], args := [d1, d2] }
  | _ => none }
def mailOnceRow : OpenClaim := { program := "ytkjpoongkdapoaa", sum := "5d9be01f8dc835a0ac313b494941b3cd138d4f19c6b739eb16c24d1ce1119a74", func := "posthouse/posthouselaw06.MailOnce", spec := "mailOnce", unfollowed := true, recurses := true, apart := false }
def MailOnceSaid : Prop := mailOnceRow.holds Try.pinned (OpenSpec.ofChange mailOnceSpec)

/-- ITS FALSE NEIGHBOUR: 'it returns false'. Refute it at one input. -/
def mailOnceWrong : ChangeSpec := { name := "mailOnce", fn := fun _ => fun
  | [d1, d2] => { results := [.lit (.bool false)], args := [d1, d2] }
  | _ => none }
def MailOnceWrongFalsely : Prop := mailOnceRow.holds Try.pinned (OpenSpec.ofChange mailOnceWrong)

/- THE SECOND FORM. 'bulk': how many values and letters a reading holds, each counted each time it is reached (what is shared counts as often as it is met; a slice's spare places count too). A statement '..UptoSaid' is the law's where the arguments, and the package variables that the reading takes, are together of bulk at most 1048576: NARROWER than '..Said'. Prove '..Said' where nothing that the law and all that it calls make is longer than what came in: it says more and counts as full. Else prove '..UptoSaid'. A law counts once. -/
mutual
def uptoBulk {H : Type} : DataW H → Nat
  | .lit (.string bytes) => bytes.length + 1
  | .lit _ => 1
  | .nil => 1
  | .ptr d => uptoBulk d + 1
  | .slice elems spare => uptoBulkAll elems + uptoBulkAll spare + 1
  | .agg parts => uptoBulkAll parts + 1
  | .iface _ d => uptoBulk d + 1
  | .map entries => uptoBulkEntries entries + 1
  | .held _ => 1
def uptoBulkAll {H : Type} : List (DataW H) → Nat
  | [] => 0
  | d :: r => uptoBulk d + uptoBulkAll r
def uptoBulkEntries {H : Type} : List (Lit × DataW H) → Nat
  | [] => 0
  | x :: r => uptoBulkEntry x + uptoBulkEntries r
def uptoBulkEntry {H : Type} : Lit × DataW H → Nat
  | (.string bytes, d) => bytes.length + uptoBulk d + 1
  | (_, d) => uptoBulk d + 1
 end
def uptoSmall : (H : Type) → List (DataW H) → Bool := fun _ ds => decide (uptoBulkAll ds ≤ 1048576)
def OpenSpec.upto (s : _root_.Go.ChangeSpec) : _root_.Go.OpenSpec := { _root_.Go.OpenSpec.ofChange s with cond := some uptoSmall }

/-- 'posthouselaw06.MailPosts', WHERE WHAT IT READS IS OF BULK AT MOST 1048576: true; the input reads as it did. -/
def mailPostsUptoRow : OpenClaim := { program := "ytkjpoongkdapoaa", sum := "5d9be01f8dc835a0ac313b494941b3cd138d4f19c6b739eb16c24d1ce1119a74", func := "posthouse/posthouselaw06.MailPosts", spec := "mailPosts", unfollowed := true, recurses := true, apart := false, narrowed := true }
def MailPostsUptoSaid : Prop := mailPostsUptoRow.holds Try.pinned (OpenSpec.upto mailPostsSpec)

/-- 'posthouselaw06.MailTurns', WHERE WHAT IT READS IS OF BULK AT MOST 1048576: true; the input reads as it did. -/
def mailTurnsUptoRow : OpenClaim := { program := "ytkjpoongkdapoaa", sum := "5d9be01f8dc835a0ac313b494941b3cd138d4f19c6b739eb16c24d1ce1119a74", func := "posthouse/posthouselaw06.MailTurns", spec := "mailTurns", unfollowed := true, recurses := true, apart := false, narrowed := true }
def MailTurnsUptoSaid : Prop := mailTurnsUptoRow.holds Try.pinned (OpenSpec.upto mailTurnsSpec)

/-- 'posthouselaw06.MailPlaces', WHERE WHAT IT READS IS OF BULK AT MOST 1048576: true; the input reads as it did. -/
def mailPlacesUptoRow : OpenClaim := { program := "ytkjpoongkdapoaa", sum := "5d9be01f8dc835a0ac313b494941b3cd138d4f19c6b739eb16c24d1ce1119a74", func := "posthouse/posthouselaw06.MailPlaces", spec := "mailPlaces", unfollowed := true, recurses := true, apart := false, narrowed := true }
def MailPlacesUptoSaid : Prop := mailPlacesUptoRow.holds Try.pinned (OpenSpec.upto mailPlacesSpec)

/-- 'posthouselaw06.MailOnce', WHERE WHAT IT READS IS OF BULK AT MOST 1048576: true; the input reads as it did. -/
def mailOnceUptoRow : OpenClaim := { program := "ytkjpoongkdapoaa", sum := "5d9be01f8dc835a0ac313b494941b3cd138d4f19c6b739eb16c24d1ce1119a74", func := "posthouse/posthouselaw06.MailOnce", spec := "mailOnce", unfollowed := true, recurses := true, apart := false, narrowed := true }
def MailOnceUptoSaid : Prop := mailOnceUptoRow.holds Try.pinned (OpenSpec.upto mailOnceSpec)

end Rows
end Go.Proofs.Ytkjpoongkdapoaa
