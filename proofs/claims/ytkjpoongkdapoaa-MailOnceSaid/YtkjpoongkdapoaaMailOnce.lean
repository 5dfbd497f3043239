/-
  The law 'MailOnce' holds: letters that are posted, and taken in whatever order, come each once, as they were; those that are lost never, those that are there twice twice.
-/
import Derived.Test.YtkjpoongkdapoaaMx
import Derived.Test.YtkjpoongkdapoaaRows
namespace Go.Proofs.Ytkjpoongkdapoaa
open Go.ChangeShapes Go.WideShapes Go.ChangeAt Go.RowKit
set_option maxRecDepth 100000

namespace Am
theorem law_ok {c : Ct} {o : c.ash.den × MSh c.ms → Option (c.rsh.den × MSh c.ms')} (hG : ∀ x, (c.G x).get = o x) {x : c.ash.den × MSh c.ms} {r : c.rsh.den × MSh c.ms'} (h : o x = some r) :
    (c.fc.G x).get = some (resOf (encL c.rsh r.1), encM c.ms' r.2) := by
  have e : (c.fc.G x).get = (c.G x).get.map fun r => (resOf (encL c.rsh r.1), encM c.ms' r.2) := Tr.get_map' _ _
  rw [e, hG, h]
  rfl
end Am

namespace MailOnce

theorem own : ownKnob Try.prog.godebug = none := by kernel_rfl
theorem laidOut : laidOutB Try.prog = true := by kernel_rfl
def zeroId : Value := .agg (Array.replicate 32 (.int .u8 0))

theorem lifted (os : Os) (started : os.Started) (H : Type) (enc : TypeId × Value → H) :
    ReturnsInHanded {} Try.checked os 6 .any (Rows.mailOnceSpec.pre6 enc Try.prog Try.f6 Rows.mailOnceRow.domain false) (Rows.mailOnceSpec.post enc Try.prog Try.f6 false true false false) :=
  Am.law_lifted (C := Try.checked) (fn := Try.f6) (k := 2) own started (by kernel_rfl) Try.func6 laidOut (by kernel_rfl) (by kernel_rfl) rfl
    (tb := 4) (by kernel_rfl) (by kernel_rfl) (fun H ds h => by match ds, h with | [d0, d1], _ => rfl)
    (ChangeSpec.witness6 (enc := enc) (C := Try.checked) false ⟨#[], #[.slice none 0 0, .slice none 0 0], []⟩ 8 (by kernel_rfl) (by kernel_rfl) (by kernel_rfl) (by kernel_rfl))
    (tys := (.pair (.sl .str) (.pair (.sl (.int .i64)) .unit))) (by kernel_rfl) Am.Slaw06MailOnce
    (fun ⟨a0, a1, ()⟩ _ => ⟨((a0, a1, ()), ()), by kernel_rfl, Am.law_ok (c := Am.claw06MailOnce) (fun x => Am.trS_get (Am.olaw06MailOnce x)) (Am.onces a0 a1)⟩)

theorem over : Rows.mailOnceRow.holds Try.pinned (OpenSpec.ofChange Rows.mailOnceSpec) :=
  OpenClaim.holds_of_wide 6 Try.f6 rfl rfl rfl rfl rfl rfl rfl ⟨rfl, rfl, rfl, rfl, rfl⟩ rfl rfl rfl rfl rfl (by kernel_rfl) Try.func6 (by kernel_rfl)
    (of_decide_eq_true (by kernel_rfl)) (by unfold Func.isWrapper; first | (rw [if_pos (by decide +kernel)]; kernel_rfl) | (rw [if_neg (by decide +kernel)]; exact ⟨rfl, rfl⟩))
    (fun os started H enc _ => lifted os started H enc)

end MailOnce

theorem mailOnce : Rows.MailOnceSaid := MailOnce.over
#print axioms mailOnce
end Go.Proofs.Ytkjpoongkdapoaa
