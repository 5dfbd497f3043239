/-
  The law 'IdentBits' holds: two identifiers with so many bits in common differ in the next one.
-/
import Derived.Test.YtalleiogpibckaaIc
import Derived.Test.YtalleiogpibckaaRows
namespace Go.Proofs.Ytalleiogpibckaa
open Go.ChangeShapes Go.WideShapes Go.ChangeAt Go.RowKit
set_option maxRecDepth 100000

namespace Am
theorem law_ok {c : Ct} {o : c.ash.den × MSh c.ms → Option (c.rsh.den × MSh c.ms')} (hG : ∀ x, (c.G x).get = o x) {x : c.ash.den × MSh c.ms} {r : c.rsh.den × MSh c.ms'} (h : o x = some r) :
    (c.fc.G x).get = some (resOf (encL c.rsh r.1), encM c.ms' r.2) := by
  have e : (c.fc.G x).get = (c.G x).get.map fun r => (resOf (encL c.rsh r.1), encM c.ms' r.2) := Tr.get_map' _ _
  rw [e, hG, h]
  rfl
end Am

namespace IdentBits

theorem own : ownKnob Try.prog.godebug = none := by kernel_rfl
theorem laidOut : laidOutB Try.prog = true := by kernel_rfl
def zeroId : Value := .agg (Array.replicate 32 (.int .u8 0))

theorem lifted (os : Os) (started : os.Started) (H : Type) (enc : TypeId × Value → H) :
    ReturnsInHanded {} Try.checked os 8 .any (Rows.identBitsSpec.pre6 enc Try.prog Try.f8 Rows.identBitsRow.domain false) (Rows.identBitsSpec.post enc Try.prog Try.f8 false true false false) :=
  Am.law_lifted (C := Try.checked) (fn := Try.f8) (k := 3) own started (by kernel_rfl) Try.func8 laidOut (by kernel_rfl) (by kernel_rfl) rfl
    (tb := 4) (by kernel_rfl) (by kernel_rfl) (fun H ds h => by match ds, h with | [d0, d1, d2], _ => rfl)
    (ChangeSpec.witness6 (enc := enc) (C := Try.checked) false ⟨#[], #[zeroId, zeroId, zeroId], []⟩ 8 (by kernel_rfl) (by kernel_rfl) (by kernel_rfl) (by kernel_rfl))
    (tys := (.pair .id (.pair .id (.pair .id .unit)))) (by kernel_rfl) Am.Slaw01IdentBits
    (fun ⟨a0, a1, a2, ()⟩ _ => ⟨((a0, a1, a2, ()), ()), by kernel_rfl, Am.law_ok (c := Am.claw01IdentBits) (fun x => Am.trS_get (Am.olaw01IdentBits x)) (Am.bitsLaw a0 a1 a2)⟩)

theorem over : Rows.identBitsRow.holds Try.pinned (OpenSpec.ofChange Rows.identBitsSpec) :=
  OpenClaim.holds_of_wide 8 Try.f8 rfl rfl rfl rfl rfl rfl rfl ⟨rfl, rfl, rfl, rfl, rfl⟩ rfl rfl rfl rfl rfl (by kernel_rfl) Try.func8 (by kernel_rfl)
    (of_decide_eq_true (by kernel_rfl)) (by unfold Func.isWrapper; first | (rw [if_pos (by decide +kernel)]; kernel_rfl) | (rw [if_neg (by decide +kernel)]; exact ⟨rfl, rfl⟩))
    (fun os started H enc _ => lifted os started H enc)

end IdentBits

theorem identBits : Rows.IdentBitsSaid := IdentBits.over
#print axioms identBits
end Go.Proofs.Ytalleiogpibckaa
