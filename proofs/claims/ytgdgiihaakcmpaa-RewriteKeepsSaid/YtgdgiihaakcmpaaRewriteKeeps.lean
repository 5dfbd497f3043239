/-
  The law 'RewriteKeeps' holds: what goes on may be a packet, of one hop less.
-/
import Derived.Test.YtgdgiihaakcmpaaRx
import Derived.Test.YtgdgiihaakcmpaaRows
namespace Go.Proofs.Ytgdgiihaakcmpaa
open Go.ChangeShapes Go.WideShapes Go.ChangeAt Go.RowKit
set_option maxRecDepth 100000

namespace Am
theorem law_ok {c : Ct} {o : c.ash.den × MSh c.ms → Option (c.rsh.den × MSh c.ms')} (hG : ∀ x, (c.G x).get = o x) {x : c.ash.den × MSh c.ms} {r : c.rsh.den × MSh c.ms'} (h : o x = some r) :
    (c.fc.G x).get = some (resOf (encL c.rsh r.1), encM c.ms' r.2) := by
  have e : (c.fc.G x).get = (c.G x).get.map fun r => (resOf (encL c.rsh r.1), encM c.ms' r.2) := Tr.get_map' _ _
  rw [e, hG, h]
  rfl
end Am

namespace RewriteKeeps

theorem own : ownKnob Try.prog.godebug = none := by kernel_rfl
theorem laidOut : laidOutB Try.prog = true := by kernel_rfl
def zeroId : Value := .agg (Array.replicate 32 (.int .u8 0))

theorem lifted (os : Os) (started : os.Started) (H : Type) (enc : TypeId × Value → H) :
    ReturnsInHanded {} Try.checked os 3 .any (Rows.rewriteKeepsSpec.pre6 enc Try.prog Try.f3 Rows.rewriteKeepsRow.domain false) (Rows.rewriteKeepsSpec.post enc Try.prog Try.f3 false true false false) :=
  Am.law_lifted (C := Try.checked) (fn := Try.f3) (k := 2) own started (by kernel_rfl) Try.func3 laidOut (by kernel_rfl) (by kernel_rfl) rfl
    (tb := 4) (by kernel_rfl) (by kernel_rfl) (fun H ds h => by match ds, h with | [d0, d1], _ => rfl)
    (ChangeSpec.witness6 (enc := enc) (C := Try.checked) false ⟨#[], #[.slice none 0 0, .agg #[.slice none 0 0, .int .i64 0, .string ⟨#[]⟩]], []⟩ 8 (by kernel_rfl) (by kernel_rfl) (by kernel_rfl) (by kernel_rfl))
    (tys := (.pair (.sl Am.trgT) (.pair (.pair (.sl Am.entT) (.pair (.int .i64) (.pair .str .unit))) .unit))) (by kernel_rfl) Am.Slaw13RewriteKeeps
    (fun ⟨a0, a1, ()⟩ _ => ⟨((a0, a1, ()), ()), by kernel_rfl, Am.law_ok (c := Am.claw13RewriteKeeps) (fun x => Am.trS_get (Am.olaw13RewriteKeeps x)) (Am.keeps13 a0 a1)⟩)

theorem over : Rows.rewriteKeepsRow.holds Try.pinned (OpenSpec.ofChange Rows.rewriteKeepsSpec) :=
  OpenClaim.holds_of_wide 3 Try.f3 rfl rfl rfl rfl rfl rfl rfl ⟨rfl, rfl, rfl, rfl, rfl⟩ rfl rfl rfl rfl rfl (by kernel_rfl) Try.func3 (by kernel_rfl)
    (of_decide_eq_true (by kernel_rfl)) (by unfold Func.isWrapper; first | (rw [if_pos (by decide +kernel)]; kernel_rfl) | (rw [if_neg (by decide +kernel)]; exact ⟨rfl, rfl⟩))
    (fun os started H enc _ => lifted os started H enc)

end RewriteKeeps

theorem rewriteKeeps : Rows.RewriteKeepsSaid := RewriteKeeps.over
#print axioms rewriteKeeps
end Go.Proofs.Ytgdgiihaakcmpaa
