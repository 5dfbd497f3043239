/-
  The law 'NodeStays' holds: whatever is done with a node that may be, it stays such; it never has itself among those that follow it, unless it is alone; what it asks next is nearer, or its owner, or the first that follows it.
-/
import Derived.Test.YtokamjlhdidefaaNl
import Derived.Test.YtokamjlhdidefaaRows
namespace Go.Proofs.Ytokamjlhdidefaa
open Go.ChangeShapes Go.WideShapes Go.ChangeAt Go.RowKit
set_option maxRecDepth 100000

namespace Am
theorem law_ok {c : Ct} {o : c.ash.den × MSh c.ms → Option (c.rsh.den × MSh c.ms')} (hG : ∀ x, (c.G x).get = o x) {x : c.ash.den × MSh c.ms} {r : c.rsh.den × MSh c.ms'} (h : o x = some r) :
    (c.fc.G x).get = some (resOf (encL c.rsh r.1), encM c.ms' r.2) := by
  have e : (c.fc.G x).get = (c.G x).get.map fun r => (resOf (encL c.rsh r.1), encM c.ms' r.2) := Tr.get_map' _ _
  rw [e, hG, h]
  rfl
end Am

namespace NodeStays

theorem own : ownKnob Try.prog.godebug = none := by kernel_rfl
theorem laidOut : laidOutB Try.prog = true := by kernel_rfl
def zeroId : Value := .agg (Array.replicate 32 (.int .u8 0))

theorem lifted (os : Os) (started : os.Started) (H : Type) (enc : TypeId × Value → H) :
    ReturnsInHanded {} Try.checked os 7 .any (Rows.nodeStaysSpec.pre6 enc Try.prog Try.f7 Rows.nodeStaysRow.domain false) (Rows.nodeStaysSpec.post enc Try.prog Try.f7 false true false false) :=
  Am.law_lifted (C := Try.checked) (fn := Try.f7) (k := 5) own started (by kernel_rfl) Try.func7 laidOut (by kernel_rfl) (by kernel_rfl) rfl
    (tb := 4) (by kernel_rfl) (by kernel_rfl) (fun H ds h => by match ds, h with | [d0, d1, d2, d3, d4], _ => rfl)
    (ChangeSpec.witness6 (enc := enc) (C := Try.checked) false ⟨#[], #[.agg (#[.int .i64 0] ++ Array.replicate 32 (.int .u8 0) ++ #[.int .i64 0] ++ Array.replicate 32 (.int .u8 0) ++ #[.slice none 0 0, .slice none 0 0]), .agg (#[.int .i64 0] ++ Array.replicate 32 (.int .u8 0) ++ #[.int .i64 0] ++ Array.replicate 32 (.int .u8 0) ++ #[.slice none 0 0, .slice none 0 0]), .agg (#[.int .i64 0] ++ Array.replicate 32 (.int .u8 0)), .slice none 0 0, .agg (Array.replicate 32 (.int .u8 0))], []⟩ 8 (by kernel_rfl) (by kernel_rfl) (by kernel_rfl) (by kernel_rfl))
    (tys := (.pair (.pair Am.memT (.pair Am.memT (.pair (.sl Am.memT) (.pair (.sl Am.memT) .unit)))) (.pair (.pair Am.memT (.pair Am.memT (.pair (.sl Am.memT) (.pair (.sl Am.memT) .unit)))) (.pair Am.memT (.pair (.sl (.int .i64)) (.pair .id .unit)))))) (by kernel_rfl) Am.Slaw09NodeStays
    (fun ⟨a0, a1, a2, a3, a4, ()⟩ _ => ⟨((a0, a1, a2, a3, a4, ()), ()), by kernel_rfl, Am.law_ok (c := Am.claw09NodeStays) (fun x => Am.trS_get (Am.olaw09NodeStays x)) (Am.stays9 a0 a1 a2 a3 a4)⟩)

theorem over : Rows.nodeStaysRow.holds Try.pinned (OpenSpec.ofChange Rows.nodeStaysSpec) :=
  OpenClaim.holds_of_wide 7 Try.f7 rfl rfl rfl rfl rfl rfl rfl ⟨rfl, rfl, rfl, rfl, rfl⟩ rfl rfl rfl rfl rfl (by kernel_rfl) Try.func7 (by kernel_rfl)
    (of_decide_eq_true (by kernel_rfl)) (by unfold Func.isWrapper; first | (rw [if_pos (by decide +kernel)]; kernel_rfl) | (rw [if_neg (by decide +kernel)]; exact ⟨rfl, rfl⟩))
    (fun os started H enc _ => lifted os started H enc)

end NodeStays

theorem nodeStays : Rows.NodeStaysSaid := NodeStays.over
#print axioms nodeStays
end Go.Proofs.Ytokamjlhdidefaa
