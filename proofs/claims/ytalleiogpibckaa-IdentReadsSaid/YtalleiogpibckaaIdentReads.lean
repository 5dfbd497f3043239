/-
  The law 'IdentReads' holds: the digits of an identifier, and what a text is read as, is as the reference says.
-/
import Derived.Test.YtalleiogpibckaaIp
import Derived.Test.YtalleiogpibckaaRows
namespace Go.Proofs.Ytalleiogpibckaa
open Go.ChangeShapes Go.WideShapes Go.ChangeAt Go.RowKit
set_option maxRecDepth 100000

namespace Am
theorem law_ok {c : Ct} {o : c.ash.den × MSh c.ms → Option (c.rsh.den × MSh c.ms')} (hG : ∀ x, (c.G x).get = o x) {x : c.ash.den × MSh c.ms} {r : c.rsh.den × MSh c.ms'} (h : o x = some r) :
    (c.fc.G x).get = some (resOf (encL c.rsh r.1), encM c.ms' r.2) := by
  have e : (c.fc.G x).get = (c.G x).get.map fun r => (resOf (encL c.rsh r.1), encM c.ms' r.2) := Tr.get_map' _ _
  rw [e, hG, h]
  rfl
end Am

namespace IdentReads

theorem own : ownKnob Try.prog.godebug = none := by kernel_rfl
theorem laidOut : laidOutB Try.prog = true := by kernel_rfl
def zeroId : Value := .agg (Array.replicate 32 (.int .u8 0))

theorem lifted (os : Os) (started : os.Started) (H : Type) (enc : TypeId × Value → H) :
    ReturnsInHanded {} Try.checked os 9 .any (Rows.identReadsSpec.pre6 enc Try.prog Try.f9 Rows.identReadsRow.domain false) (Rows.identReadsSpec.post enc Try.prog Try.f9 false true false false) :=
  Am.law_lifted (C := Try.checked) (fn := Try.f9) (k := 2) own started (by kernel_rfl) Try.func9 laidOut (by kernel_rfl) (by kernel_rfl) rfl
    (tb := 4) (by kernel_rfl) (by kernel_rfl) (fun H ds h => by match ds, h with | [d0, d1], _ => rfl)
    (ChangeSpec.witness6 (enc := enc) (C := Try.checked) false ⟨#[], #[zeroId, .string ⟨#[]⟩], []⟩ 8 (by kernel_rfl) (by kernel_rfl) (by kernel_rfl) (by kernel_rfl))
    (tys := (.pair .id (.pair .str .unit))) (by kernel_rfl) Am.Slaw01IdentReads
    (fun ⟨a0, a1, ()⟩ _ => ⟨((a0, a1, ()), ()), by kernel_rfl, Am.law_ok (c := Am.claw01IdentReads) (fun x => Am.trS_get (Am.olaw01IdentReads x)) (Am.reads a0 a1)⟩)

theorem over : Rows.identReadsRow.holds Try.pinned (OpenSpec.ofChange Rows.identReadsSpec) :=
  OpenClaim.holds_of_wide 9 Try.f9 rfl rfl rfl rfl rfl rfl rfl ⟨rfl, rfl, rfl, rfl, rfl⟩ rfl rfl rfl rfl rfl (by kernel_rfl) Try.func9 (by kernel_rfl)
    (of_decide_eq_true (by kernel_rfl)) (by unfold Func.isWrapper; first | (rw [if_pos (by decide +kernel)]; kernel_rfl) | (rw [if_neg (by decide +kernel)]; exact ⟨rfl, rfl⟩))
    (fun os started H enc _ => lifted os started H enc)

end IdentReads

theorem identReads : Rows.IdentReadsSaid := IdentReads.over
#print axioms identReads
end Go.Proofs.Ytalleiogpibckaa
