/-
  The law 'WireParses' holds: any text is parsed as just that message, or refused, as the document says.
-/
import Derived.Test.YthnmiialdjifiaaWl
import Derived.Test.YthnmiialdjifiaaRows
namespace Go.Proofs.Ythnmiialdjifiaa
open Go.ChangeShapes Go.WideShapes Go.ChangeAt Go.RowKit
set_option maxRecDepth 100000

namespace Am
theorem law_ok {c : Ct} {o : c.ash.den × MSh c.ms → Option (c.rsh.den × MSh c.ms')} (hG : ∀ x, (c.G x).get = o x) {x : c.ash.den × MSh c.ms} {r : c.rsh.den × MSh c.ms'} (h : o x = some r) :
    (c.fc.G x).get = some (resOf (encL c.rsh r.1), encM c.ms' r.2) := by
  have e : (c.fc.G x).get = (c.G x).get.map fun r => (resOf (encL c.rsh r.1), encM c.ms' r.2) := Tr.get_map' _ _
  rw [e, hG, h]
  rfl
end Am

namespace WireParses

theorem own : ownKnob Try.prog.godebug = none := by kernel_rfl
theorem laidOut : laidOutB Try.prog = true := by kernel_rfl
def zeroId : Value := .agg (Array.replicate 32 (.int .u8 0))

theorem lifted (os : Os) (started : os.Started) (H : Type) (enc : TypeId × Value → H) :
    ReturnsInHanded {} Try.checked os 5 .any (Rows.wireParsesSpec.pre6 enc Try.prog Try.f5 Rows.wireParsesRow.domain false) (Rows.wireParsesSpec.post enc Try.prog Try.f5 false true false false) :=
  Am.law_lifted (C := Try.checked) (fn := Try.f5) (k := 1) own started (by kernel_rfl) Try.func5 laidOut (by kernel_rfl) (by kernel_rfl) rfl
    (tb := 4) (by kernel_rfl) (by kernel_rfl) (fun H ds h => by match ds, h with | [d0], _ => rfl)
    (ChangeSpec.witness6 (enc := enc) (C := Try.checked) false ⟨#[], #[.string ⟨#[]⟩], []⟩ 8 (by kernel_rfl) (by kernel_rfl) (by kernel_rfl) (by kernel_rfl))
    (tys := (.pair .str .unit)) (by kernel_rfl) Am.Slaw05WireParses
    (fun ⟨a0, ()⟩ _ => ⟨((a0, ()), ()), by kernel_rfl, Am.law_ok (c := Am.claw05WireParses) (fun x => Am.trS_get (Am.olaw05WireParses x)) (Am.parses5 a0)⟩)

theorem over : Rows.wireParsesRow.holds Try.pinned (OpenSpec.ofChange Rows.wireParsesSpec) :=
  OpenClaim.holds_of_wide 5 Try.f5 rfl rfl rfl rfl rfl rfl rfl ⟨rfl, rfl, rfl, rfl, rfl⟩ rfl rfl rfl rfl rfl (by kernel_rfl) Try.func5 (by kernel_rfl)
    (of_decide_eq_true (by kernel_rfl)) (by unfold Func.isWrapper; first | (rw [if_pos (by decide +kernel)]; kernel_rfl) | (rw [if_neg (by decide +kernel)]; exact ⟨rfl, rfl⟩))
    (fun os started H enc _ => lifted os started H enc)

end WireParses

theorem wireParses : Rows.WireParsesSaid := WireParses.over
#print axioms wireParses
end Go.Proofs.Ythnmiialdjifiaa
