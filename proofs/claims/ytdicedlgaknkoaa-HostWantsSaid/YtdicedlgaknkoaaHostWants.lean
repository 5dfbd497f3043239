/-
  The law 'HostWants' holds: which hosts may be, and what wanting makes of any, is as the document says.
-/
import Derived.Test.YtdicedlgaknkoaaHw
import Derived.Test.YtdicedlgaknkoaaRows
namespace Go.Proofs.Ytdicedlgaknkoaa
open Go.ChangeShapes Go.WideShapes Go.ChangeAt Go.RowKit
set_option maxRecDepth 100000

namespace Am
theorem law_ok {c : Ct} {o : c.ash.den × MSh c.ms → Option (c.rsh.den × MSh c.ms')} (hG : ∀ x, (c.G x).get = o x) {x : c.ash.den × MSh c.ms} {r : c.rsh.den × MSh c.ms'} (h : o x = some r) :
    (c.fc.G x).get = some (resOf (encL c.rsh r.1), encM c.ms' r.2) := by
  have e : (c.fc.G x).get = (c.G x).get.map fun r => (resOf (encL c.rsh r.1), encM c.ms' r.2) := Tr.get_map' _ _
  rw [e, hG, h]
  rfl
end Am

namespace HostWants

theorem own : ownKnob Try.prog.godebug = none := by kernel_rfl
theorem laidOut : laidOutB Try.prog = true := by kernel_rfl
def zeroId : Value := .agg (Array.replicate 32 (.int .u8 0))

theorem lifted (os : Os) (started : os.Started) (H : Type) (enc : TypeId × Value → H) :
    ReturnsInHanded {} Try.checked os 4 .any (Rows.hostWantsSpec.pre6 enc Try.prog Try.f4 Rows.hostWantsRow.domain false) (Rows.hostWantsSpec.post enc Try.prog Try.f4 false true false false) :=
  Am.law_lifted (C := Try.checked) (fn := Try.f4) (k := 5) own started (by kernel_rfl) Try.func4 laidOut (by kernel_rfl) (by kernel_rfl) rfl
    (tb := 4) (by kernel_rfl) (by kernel_rfl) (fun H ds h => by match ds, h with | [d0, d1, d2, d3, d4], _ => rfl)
    (ChangeSpec.witness6 (enc := enc) (C := Try.checked) false ⟨#[], #[.agg #[.int .i64 0, .int .i64 0, .slice none 0 0, .slice none 0 0, .slice none 0 0], .int .i64 0, .int .i64 0, zeroId, .int .i64 0], []⟩ 8 (by kernel_rfl) (by kernel_rfl) (by kernel_rfl) (by kernel_rfl))
    (tys := (.pair (.pair (.int .i64) (.pair (.int .i64) (.pair (.sl (.pair .id (.pair (.int .i64) .unit))) (.pair (.sl (.pair .id (.pair (.int .i64) (.pair (.int .i64) .unit)))) (.pair (.sl .str) .unit))))) (.pair (.int .i64) (.pair (.int .i64) (.pair .id (.pair (.int .i64) .unit)))))) (by kernel_rfl) Am.Slaw17HostWants
    (fun ⟨a0, a1, a2, a3, a4, ()⟩ _ => ⟨((a0, a1, a2, a3, a4, ()), ()), by kernel_rfl, Am.law_ok (c := Am.claw17HostWants) (fun x => Am.trS_get (Am.olaw17HostWants x)) (Am.wants17 a0 a1 a2 a3 a4)⟩)

theorem over : Rows.hostWantsRow.holds Try.pinned (OpenSpec.ofChange Rows.hostWantsSpec) :=
  OpenClaim.holds_of_wide 4 Try.f4 rfl rfl rfl rfl rfl rfl rfl ⟨rfl, rfl, rfl, rfl, rfl⟩ rfl rfl rfl rfl rfl (by kernel_rfl) Try.func4 (by kernel_rfl)
    (of_decide_eq_true (by kernel_rfl)) (by unfold Func.isWrapper; first | (rw [if_pos (by decide +kernel)]; kernel_rfl) | (rw [if_neg (by decide +kernel)]; exact ⟨rfl, rfl⟩))
    (fun os started H enc _ => lifted os started H enc)

end HostWants

theorem hostWants : Rows.HostWantsSaid := HostWants.over
#print axioms hostWants
end Go.Proofs.Ytdicedlgaknkoaa
