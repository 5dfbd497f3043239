/-
  The law 'StackBack' holds: what is written is read.
-/
import Derived.Test.YtkidcbialbffgaaSl
import Derived.Test.YtkidcbialbffgaaRows
namespace Go.Proofs.Ytkidcbialbffgaa
open Go.ChangeShapes Go.WideShapes Go.ChangeAt Go.RowKit
set_option maxRecDepth 100000

namespace Am
theorem law_ok {c : Ct} {o : c.ash.den × MSh c.ms → Option (c.rsh.den × MSh c.ms')} (hG : ∀ x, (c.G x).get = o x) {x : c.ash.den × MSh c.ms} {r : c.rsh.den × MSh c.ms'} (h : o x = some r) :
    (c.fc.G x).get = some (resOf (encL c.rsh r.1), encM c.ms' r.2) := by
  have e : (c.fc.G x).get = (c.G x).get.map fun r => (resOf (encL c.rsh r.1), encM c.ms' r.2) := Tr.get_map' _ _
  rw [e, hG, h]
  rfl
end Am

namespace StackBack

theorem own : ownKnob Try.prog.godebug = none := by kernel_rfl
theorem laidOut : laidOutB Try.prog = true := by kernel_rfl
def zeroId : Value := .agg (Array.replicate 32 (.int .u8 0))

theorem lifted (os : Os) (started : os.Started) (H : Type) (enc : TypeId × Value → H) :
    ReturnsInHanded {} Try.checked os 5 .any (Rows.stackBackSpec.pre6 enc Try.prog Try.f5 Rows.stackBackRow.domain false) (Rows.stackBackSpec.post enc Try.prog Try.f5 false true false false) :=
  Am.law_lifted (C := Try.checked) (fn := Try.f5) (k := 3) own started (by kernel_rfl) Try.func5 laidOut (by kernel_rfl) (by kernel_rfl) rfl
    (tb := 4) (by kernel_rfl) (by kernel_rfl) (fun H ds h => by match ds, h with | [d0, d1, d2], _ => rfl)
    (ChangeSpec.witness6 (enc := enc) (C := Try.checked) false ⟨#[], #[.slice none 0 0, .slice none 0 0, .string ⟨#[]⟩], []⟩ 8 (by kernel_rfl) (by kernel_rfl) (by kernel_rfl) (by kernel_rfl))
    (tys := (.pair (.sl (.pair (.int .i64) (.pair .id (.pair (.int .i64) .unit)))) (.pair (.sl (.pair (.int .i64) (.pair .id (.pair (.int .i64) .unit)))) (.pair .str .unit)))) (by kernel_rfl) Am.Slaw04StackBack
    (fun ⟨a0, a1, a2, ()⟩ _ => ⟨((a0, a1, a2, ()), ()), by kernel_rfl, Am.law_ok (c := Am.claw04StackBack) (fun x => Am.trS_get (Am.olaw04StackBack x)) (Am.back4 a0 a1 a2)⟩)

theorem over : Rows.stackBackRow.holds Try.pinned (OpenSpec.ofChange Rows.stackBackSpec) :=
  OpenClaim.holds_of_wide 5 Try.f5 rfl rfl rfl rfl rfl rfl rfl ⟨rfl, rfl, rfl, rfl, rfl⟩ rfl rfl rfl rfl rfl (by kernel_rfl) Try.func5 (by kernel_rfl)
    (of_decide_eq_true (by kernel_rfl)) (by unfold Func.isWrapper; first | (rw [if_pos (by decide +kernel)]; kernel_rfl) | (rw [if_neg (by decide +kernel)]; exact ⟨rfl, rfl⟩))
    (fun os started H enc _ => lifted os started H enc)

end StackBack

theorem stackBack : Rows.StackBackSaid := StackBack.over
#print axioms stackBack
end Go.Proofs.Ytkidcbialbffgaa
