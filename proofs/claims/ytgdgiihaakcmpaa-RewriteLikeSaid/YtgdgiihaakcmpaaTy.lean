/-
  Contracts of functions that are proved by hand: math/bits.LeadingZeros8.
-/
import Derived.Test.YtgdgiihaakcmpaaBm24
import Derived.Test.YtgdgiihaakcmpaaProg
import Derived.Shelf.Small.Bits
namespace Go.Proofs.Ytgdgiihaakcmpaa
open Go Go.RowKit Go.Proofs

def sh_lays126_ren : Go.Shelf.Ren := ⟨fun | 126 => 53 | n => n, fun | 5 => 5 | 3 => 3 | 9 => 9 | n => n, fun | n => n⟩
theorem sh_lays126 : Go.Proofs.Lays.n126 Try.prog sh_lays126_ren := {
  mixed := by kernel_rfl
  f126 := Try.func53.trans (congrArg some (by kernel_rfl))
  t3 := Try.underlying3
  a3 := Try.isAgg3
  z3 := Try.sizeOf3
  v3 := Try.zeroValue3
  t5 := Try.underlying5
  a5 := Try.isAgg5
  z5 := Try.sizeOf5
  v5 := Try.zeroValue5
  t9 := Try.underlying9
  a9 := Try.isAgg9
  z9 := Try.sizeOf9
  v9 := Try.zeroValue9 }
theorem sh_bits_Len8 (x : Int) (w : World) (h0 : 0 ≤ x) (h1 : x ≤ 255) :
    Calls Try.prog 53 #[.int .u8 x] w fun e w' => e = .returned (.int .i64 (Lib.bitLen x.toNat)) ∧ w' = w := Any.bits_Len8 sh_lays126 x w h0 h1
def sh_lays131_ren : Go.Shelf.Ren := ⟨fun | 131 => 42 | 126 => 53 | n => n, fun | 5 => 5 | 3 => 3 | 9 => 9 | n => n, fun | n => n⟩
theorem sh_lays131 : Go.Proofs.Lays.n131 Try.prog sh_lays131_ren := {
  mixed := by kernel_rfl
  f126 := Try.func53.trans (congrArg some (by kernel_rfl))
  f131 := Try.func42.trans (congrArg some (by kernel_rfl))
  t3 := Try.underlying3
  a3 := Try.isAgg3
  z3 := Try.sizeOf3
  v3 := Try.zeroValue3
  t5 := Try.underlying5
  a5 := Try.isAgg5
  z5 := Try.sizeOf5
  v5 := Try.zeroValue5
  t9 := Try.underlying9
  a9 := Try.isAgg9
  z9 := Try.sizeOf9
  v9 := Try.zeroValue9 }
theorem sh_bits_LeadingZeros8 (x : Int) (w : World) (h0 : 0 ≤ x) (h1 : x ≤ 255) :
    Calls Try.prog 42 #[.int .u8 x] w fun e w' => e = .returned (.int .i64 (8 - (Lib.bitLen x.toNat : Int))) ∧ w' = w := Any.bits_LeadingZeros8 sh_lays131 x w h0 h1

namespace Am
open Go Go.RowKit

theorem spec_plain {P : Program} {f : FuncId} {ash rsh : Sh} [Inhabited (rsh.den × MSh [])] (F : ash.den → rsh.den) (o : ash.den × MSh [] → Option (rsh.den × MSh [])) (ho : ∀ x, o x = some (F x.1, ())) (hch : ash.chV = true) (he : okF P f = true)
    (h : ∀ (C : Mem) (g : Ghs) (x : ash.den) (vs : List Value) (w : World), RVL C g (encL ash x) vs → Calls P f vs.toArray w (fun e w' => ∃ v, e = .returned v ∧ Below w.heap.size w w' ∧ RV C g (resOf (encL rsh (F x))) v)) :
    Spec P f (Ct.fc { ash := ash, ms := [], foot := false, up := [], rsh := rsh, ks := [], ms' := [], G := fun x => trS (o x) }) := by
  refine ⟨enterOk_of he, ?_⟩
  intro X w C g mem args vs x r bs hrel hG hargs hx hg
  obtain ⟨e1, e2⟩ := both_some hx
  obtain ⟨b, hb, hbr⟩ := Tr.get_map hg
  simp only [Prod.mk.injEq] at hbr
  obtain ⟨rfl, rfl⟩ := hbr
  have hlen := (decM_get e2 rfl).1
  have hml : mem = [] := by
    cases mem with
    | nil => rfl
    | cons a l => simp [encM] at hlen
  subst hml
  rw [trS_get] at hb
  have hb2 : b = (F x.1, ()) := Option.some.inj (hb.symm.trans (ho x))
  subst hb2
  refine (h C g x.1 vs w (decVL hch hargs e1)).mono ?_
  rintro e w' ⟨v, rfl, h1, h2⟩
  exact ⟨v, C, g, rfl, hrel.ext h1, h2⟩

noncomputable def omath_bitsLeadingZeros8 : ((UInt8 × Unit) × Unit) → Option ((Int × Unit) × Unit) := fun x => some ((8 - (Lib.bitLen x.1.1.toNat : Int), ()), ())
noncomputable def cmath_bitsLeadingZeros8 : Ct := { ash := (.cons (.d .u8) .unit), ms := [], foot := false, up := [], rsh := (.cons (.d (.int .i64)) .unit), ks := [], ms' := [], G := fun x => trS (omath_bitsLeadingZeros8 x) }
theorem Smath_bitsLeadingZeros8 : Spec Try.prog 42 cmath_bitsLeadingZeros8.fc :=
  spec_plain (ash := .cons (.d .u8) .unit) (rsh := .cons (.d (.int .i64)) .unit) (fun x => (8 - (Lib.bitLen x.1.toNat : Int), ())) omath_bitsLeadingZeros8 (fun _ => rfl) (by decide) (by kernel_rfl) (by
    intro C g x vs w h
    cases h with
    | cons h t =>
      cases t
      have := RV_u8 h
      subst this
      have h8 := x.1.toNat_lt
      refine (sh_bits_LeadingZeros8 x.1.toNat w (by omega) (by omega)).mono ?_
      rintro e w' ⟨rfl, rfl⟩
      exact ⟨_, rfl, Below.refl _ _, .one (.int _ _) (fun _ e => by cases e) (fun _ e => by cases e)⟩)

end Am
end Go.Proofs.Ytgdgiihaakcmpaa
