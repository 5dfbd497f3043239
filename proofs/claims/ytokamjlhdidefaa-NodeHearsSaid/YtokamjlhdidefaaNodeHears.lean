/-
  The law 'NodeHears' holds: what hearing of any one, and following any other node, makes of any, is as the document says, or refused.
-/
import Derived.Test.YtokamjlhdidefaaNh
import Derived.Test.YtokamjlhdidefaaRows
namespace Go.Proofs.Ytokamjlhdidefaa
open Go.ChangeShapes Go.WideShapes Go.ChangeAt Go.RowKit
set_option maxRecDepth 100000

namespace Am
theorem law_ok {c : Ct} {o : c.ash.den × MSh c.ms → Option (c.rsh.den × MSh c.ms')} (hG : ∀ x, (c.G x).get = o x) {x : c.ash.den × MSh c.ms} {r : c.rsh.den × MSh c.ms'} (h : o x = some r) :
    (c.fc.G x).get = some (resOf (encL c.rsh r.1), encM c.ms' r.2) := by
  have e : (c.fc.G x).get = (c.G x).get.map fun r => (resOf (encL c.rsh r.1), encM c.ms' r.2) := Tr.get_map' _ _
  rw [e, hG, h]
  rfl
end Am

namespace NodeHears

theorem own : ownKnob Try.prog.godebug = none := by kernel_rfl
theorem laidOut : laidOutB Try.prog = true := by kernel_rfl
def zeroId : Value := .agg (Array.replicate 32 (.int .u8 0))

theorem lifted (os : Os) (started : os.Started) (H : Type) (enc : TypeId × Value → H) :
    ReturnsInHanded {} Try.checked os 5 .any (Rows.nodeHearsSpec.pre6 enc Try.prog Try.f5 Rows.nodeHearsRow.domain false) (Rows.nodeHearsSpec.post enc Try.prog Try.f5 false true false false) :=
  Am.law_lifted (C := Try.checked) (fn := Try.f5) (k := 3) own started (by kernel_rfl) Try.func5 laidOut (by kernel_rfl) (by kernel_rfl) rfl
    (tb := 4) (by kernel_rfl) (by kernel_rfl) (fun H ds h => by match ds, h with | [d0, d1, d2], _ => rfl)
    (ChangeSpec.witness6 (enc := enc) (C := Try.checked) false ⟨#[], #[.agg (#[.int .i64 0] ++ Array.replicate 32 (.int .u8 0) ++ #[.int .i64 0] ++ Array.replicate 32 (.int .u8 0) ++ #[.slice none 0 0, .slice none 0 0]), .agg (#[.int .i64 0] ++ Array.replicate 32 (.int .u8 0) ++ #[.int .i64 0] ++ Array.replicate 32 (.int .u8 0) ++ #[.slice none 0 0, .slice none 0 0]), .agg (#[.int .i64 0] ++ Array.replicate 32 (.int .u8 0))], []⟩ 8 (by kernel_rfl) (by kernel_rfl) (by kernel_rfl) (by kernel_rfl))
    (tys := (.pair (.pair Am.memT (.pair Am.memT (.pair (.sl Am.memT) (.pair (.sl Am.memT) .unit)))) (.pair (.pair Am.memT (.pair Am.memT (.pair (.sl Am.memT) (.pair (.sl Am.memT) .unit)))) (.pair Am.memT .unit)))) (by kernel_rfl) Am.Slaw09NodeHears
    (fun ⟨a0, a1, a2, ()⟩ _ => ⟨((a0, a1, a2, ()), ()), by kernel_rfl, Am.law_ok (c := Am.claw09NodeHears) (fun x => Am.trS_get (Am.olaw09NodeHears x)) (Am.hears9 a0 a1 a2)⟩)

theorem over : Rows.nodeHearsRow.holds Try.pinned (OpenSpec.ofChange Rows.nodeHearsSpec) :=
  OpenClaim.holds_of_wide 5 Try.f5 rfl rfl rfl rfl rfl rfl rfl ⟨rfl, rfl, rfl, rfl, rfl⟩ rfl rfl rfl rfl rfl (by kernel_rfl) Try.func5 (by kernel_rfl)
    (of_decide_eq_true (by kernel_rfl)) (by unfold Func.isWrapper; first | (rw [if_pos (by decide +kernel)]; kernel_rfl) | (rw [if_neg (by decide +kernel)]; exact ⟨rfl, rfl⟩))
    (fun os started H enc _ => lifted os started H enc)

end NodeHears

theorem nodeHears : Rows.NodeHearsSaid := NodeHears.over
#print axioms nodeHears
end Go.Proofs.Ytokamjlhdidefaa
