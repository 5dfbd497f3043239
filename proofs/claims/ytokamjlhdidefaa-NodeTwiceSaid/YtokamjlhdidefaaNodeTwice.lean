/-
  The law 'NodeTwice' holds: what is dropped, heard, or pointed to twice is so once; following the same node twice is following it once.
-/
import Derived.Test.YtokamjlhdidefaaNk
import Derived.Test.YtokamjlhdidefaaRows
namespace Go.Proofs.Ytokamjlhdidefaa
open Go.ChangeShapes Go.WideShapes Go.ChangeAt Go.RowKit
set_option maxRecDepth 100000

namespace Am
theorem law_ok {c : Ct} {o : c.ash.den × MSh c.ms → Option (c.rsh.den × MSh c.ms')} (hG : ∀ x, (c.G x).get = o x) {x : c.ash.den × MSh c.ms} {r : c.rsh.den × MSh c.ms'} (h : o x = some r) :
    (c.fc.G x).get = some (resOf (encL c.rsh r.1), encM c.ms' r.2) := by
  have e : (c.fc.G x).get = (c.G x).get.map fun r => (resOf (encL c.rsh r.1), encM c.ms' r.2) := Tr.get_map' _ _
  rw [e, hG, h]
  rfl
end Am

namespace NodeTwice

theorem own : ownKnob Try.prog.godebug = none := by kernel_rfl
theorem laidOut : laidOutB Try.prog = true := by kernel_rfl
def zeroId : Value := .agg (Array.replicate 32 (.int .u8 0))

theorem lifted (os : Os) (started : os.Started) (H : Type) (enc : TypeId × Value → H) :
    ReturnsInHanded {} Try.checked os 8 .any (Rows.nodeTwiceSpec.pre6 enc Try.prog Try.f8 Rows.nodeTwiceRow.domain false) (Rows.nodeTwiceSpec.post enc Try.prog Try.f8 false true false false) :=
  Am.law_lifted (C := Try.checked) (fn := Try.f8) (k := 4) own started (by kernel_rfl) Try.func8 laidOut (by kernel_rfl) (by kernel_rfl) rfl
    (tb := 4) (by kernel_rfl) (by kernel_rfl) (fun H ds h => by match ds, h with | [d0, d1, d2, d3], _ => rfl)
    (ChangeSpec.witness6 (enc := enc) (C := Try.checked) false ⟨#[], #[.agg (#[.int .i64 0] ++ Array.replicate 32 (.int .u8 0) ++ #[.int .i64 0] ++ Array.replicate 32 (.int .u8 0) ++ #[.slice none 0 0, .slice none 0 0]), .agg (#[.int .i64 0] ++ Array.replicate 32 (.int .u8 0) ++ #[.int .i64 0] ++ Array.replicate 32 (.int .u8 0) ++ #[.slice none 0 0, .slice none 0 0]), .agg (#[.int .i64 0] ++ Array.replicate 32 (.int .u8 0)), .slice none 0 0], []⟩ 8 (by kernel_rfl) (by kernel_rfl) (by kernel_rfl) (by kernel_rfl))
    (tys := (.pair (.pair Am.memT (.pair Am.memT (.pair (.sl Am.memT) (.pair (.sl Am.memT) .unit)))) (.pair (.pair Am.memT (.pair Am.memT (.pair (.sl Am.memT) (.pair (.sl Am.memT) .unit)))) (.pair Am.memT (.pair (.sl (.int .i64)) .unit))))) (by kernel_rfl) Am.Slaw09NodeTwice
    (fun ⟨a0, a1, a2, a3, ()⟩ _ => ⟨((a0, a1, a2, a3, ()), ()), by kernel_rfl, Am.law_ok (c := Am.claw09NodeTwice) (fun x => Am.trS_get (Am.olaw09NodeTwice x)) (Am.twice9 a0 a1 a2 a3)⟩)

theorem over : Rows.nodeTwiceRow.holds Try.pinned (OpenSpec.ofChange Rows.nodeTwiceSpec) :=
  OpenClaim.holds_of_wide 8 Try.f8 rfl rfl rfl rfl rfl rfl rfl ⟨rfl, rfl, rfl, rfl, rfl⟩ rfl rfl rfl rfl rfl (by kernel_rfl) Try.func8 (by kernel_rfl)
    (of_decide_eq_true (by kernel_rfl)) (by unfold Func.isWrapper; first | (rw [if_pos (by decide +kernel)]; kernel_rfl) | (rw [if_neg (by decide +kernel)]; exact ⟨rfl, rfl⟩))
    (fun os started H enc _ => lifted os started H enc)

end NodeTwice

theorem nodeTwice : Rows.NodeTwiceSaid := NodeTwice.over
#print axioms nodeTwice
end Go.Proofs.Ytokamjlhdidefaa
