/-
  The law 'WireBack' holds: what is written is parsed; what is parsed of any text, written, is the text; unlike messages have unlike bytes.
-/
import Derived.Test.YthnmiialdjifiaaWl
import Derived.Test.YthnmiialdjifiaaRows
namespace Go.Proofs.Ythnmiialdjifiaa
open Go.ChangeShapes Go.WideShapes Go.ChangeAt Go.RowKit
set_option maxRecDepth 100000

namespace Am
theorem law_ok {c : Ct} {o : c.ash.den × MSh c.ms → Option (c.rsh.den × MSh c.ms')} (hG : ∀ x, (c.G x).get = o x) {x : c.ash.den × MSh c.ms} {r : c.rsh.den × MSh c.ms'} (h : o x = some r) :
    (c.fc.G x).get = some (resOf (encL c.rsh r.1), encM c.ms' r.2) := by
  have e : (c.fc.G x).get = (c.G x).get.map fun r => (resOf (encL c.rsh r.1), encM c.ms' r.2) := Tr.get_map' _ _
  rw [e, hG, h]
  rfl
end Am

namespace WireBack

theorem own : ownKnob Try.prog.godebug = none := by kernel_rfl
theorem laidOut : laidOutB Try.prog = true := by kernel_rfl
def zeroId : Value := .agg (Array.replicate 32 (.int .u8 0))

theorem lifted (os : Os) (started : os.Started) (H : Type) (enc : TypeId × Value → H) :
    ReturnsInHanded {} Try.checked os 6 .any (Rows.wireBackSpec.pre6 enc Try.prog Try.f6 Rows.wireBackRow.domain false) (Rows.wireBackSpec.post enc Try.prog Try.f6 false true false false) :=
  Am.law_lifted (C := Try.checked) (fn := Try.f6) (k := 3) own started (by kernel_rfl) Try.func6 laidOut (by kernel_rfl) (by kernel_rfl) rfl
    (tb := 4) (by kernel_rfl) (by kernel_rfl) (fun H ds h => by match ds, h with | [d0, d1, d2], _ => rfl)
    (ChangeSpec.witness6 (enc := enc) (C := Try.checked) false ⟨#[], #[.agg (#[.int .i64 0] ++ Array.replicate 32 (.int .u8 0) ++ #[.int .i64 0] ++ Array.replicate 32 (.int .u8 0) ++ #[.int .i64 0, .slice none 0 0, .int .i64 0, .string ⟨#[]⟩, .string ⟨#[]⟩]), .agg (#[.int .i64 0] ++ Array.replicate 32 (.int .u8 0) ++ #[.int .i64 0] ++ Array.replicate 32 (.int .u8 0) ++ #[.int .i64 0, .slice none 0 0, .int .i64 0, .string ⟨#[]⟩, .string ⟨#[]⟩]), .string ⟨#[]⟩], []⟩ 8 (by kernel_rfl) (by kernel_rfl) (by kernel_rfl) (by kernel_rfl))
    (tys := (.pair (.pair (.int .i64) (.pair .id (.pair (.pair (.int .i64) (.pair .id (.pair (.int .i64) .unit))) (.pair (.sl (.pair (.int .i64) (.pair .id (.pair (.int .i64) .unit)))) (.pair (.int .i64) (.pair .str (.pair .str .unit))))))) (.pair (.pair (.int .i64) (.pair .id (.pair (.pair (.int .i64) (.pair .id (.pair (.int .i64) .unit))) (.pair (.sl (.pair (.int .i64) (.pair .id (.pair (.int .i64) .unit)))) (.pair (.int .i64) (.pair .str (.pair .str .unit))))))) (.pair .str .unit)))) (by kernel_rfl) Am.Slaw05WireBack
    (fun ⟨a0, a1, a2, ()⟩ _ => ⟨((a0, a1, a2, ()), ()), by kernel_rfl, Am.law_ok (c := Am.claw05WireBack) (fun x => Am.trS_get (Am.olaw05WireBack x)) (Am.back5 a0 a1 a2)⟩)

theorem over : Rows.wireBackRow.holds Try.pinned (OpenSpec.ofChange Rows.wireBackSpec) :=
  OpenClaim.holds_of_wide 6 Try.f6 rfl rfl rfl rfl rfl rfl rfl ⟨rfl, rfl, rfl, rfl, rfl⟩ rfl rfl rfl rfl rfl (by kernel_rfl) Try.func6 (by kernel_rfl)
    (of_decide_eq_true (by kernel_rfl)) (by unfold Func.isWrapper; first | (rw [if_pos (by decide +kernel)]; kernel_rfl) | (rw [if_neg (by decide +kernel)]; exact ⟨rfl, rfl⟩))
    (fun os started H enc _ => lifted os started H enc)

end WireBack

theorem wireBack : Rows.WireBackSaid := WireBack.over
#print axioms wireBack
end Go.Proofs.Ythnmiialdjifiaa
