/-
  Contracts of functions that are walked by hand.
-/
import Derived.Test.YtalleiogpibckaaTx
namespace Go.Proofs.Ytalleiogpibckaa
namespace Am
open Go Go.RowKit

theorem spec_plain {P : Program} {f : FuncId} {ash rsh : Sh} [Inhabited (rsh.den × MSh [])] (F : ash.den → rsh.den) (o : ash.den × MSh [] → Option (rsh.den × MSh [])) (ho : ∀ x, o x = some (F x.1, ())) (hch : ash.chV = true) (he : okF P f = true)
    (h : ∀ (C : Mem) (g : Ghs) (x : ash.den) (vs : List Value) (w : World), RVL C g (encL ash x) vs → Calls P f vs.toArray w (fun e w' => ∃ v, e = .returned v ∧ Below w.heap.size w w' ∧ RV C g (resOf (encL rsh (F x))) v)) :
    Spec P f (Ct.fc { ash := ash, ms := [], foot := false, up := [], rsh := rsh, ks := [], ms' := [], G := fun x => trS (o x) }) := by
  refine ⟨enterOk_of he, ?_⟩
  intro X w C g mem args vs x r bs hrel hG hargs hx hg
  obtain ⟨e1, e2⟩ := both_some hx
  obtain ⟨b, hb, hbr⟩ := Tr.get_map hg
  simp only [Prod.mk.injEq] at hbr
  obtain ⟨rfl, rfl⟩ := hbr
  have hlen := (decM_get e2 rfl).1
  have hml : mem = [] := by
    cases mem with
    | nil => rfl
    | cons a l => simp [encM] at hlen
  subst hml
  rw [trS_get] at hb
  have hb2 : b = (F x.1, ()) := Option.some.inj (hb.symm.trans (ho x))
  subst hb2
  refine (h C g x.1 vs w (decVL hch hargs e1)).mono ?_
  rintro e w' ⟨v, rfl, h1, h2⟩
  exact ⟨v, C, g, rfl, hrel.ext h1, h2⟩

noncomputable def oidentText : ((Am.Id × Unit) × Unit) → Option ((List UInt8 × Unit) × Unit) := fun x => some ((textL x.1.1, ()), ())
noncomputable def cidentText : Ct := { ash := (.cons (.d .id) .unit), ms := [], foot := false, up := [], rsh := (.cons (.d .str) .unit), ks := [], ms' := [], G := fun x => trS (oidentText x) }
theorem RV_id1 {C : Mem} {g : Ghs} {a : Id} {v : Value} (h : RV C g (.id a) v) : v = .agg (a.l.map u8v).toArray := by
  cases h with
  | id h => cases h; rfl
  | one h h1 h2 => exact absurd rfl (h1 a)
theorem textL_len (a : Id) : (textL a).length = 64 := by
  have : ∀ l : List UInt8, (l.flatMap hexB).length = 2 * l.length := by
    intro l
    induction l with
    | nil => rfl
    | cons x xs ih => simp only [List.flatMap_cons, List.length_append, ih, List.length_cons]; simp [hexB]; omega
  rw [textL, this, a.h]
theorem SidentText : Spec Try.prog 25 cidentText.fc :=
  spec_plain (ash := .cons (.d .id) .unit) (rsh := .cons (.d .str) .unit) (fun x => (textL x.1, ())) oidentText (fun _ => rfl) (by decide) (by kernel_rfl) (by
    intro C g x vs w h
    cases h with
    | cons h t =>
      cases t
      have := RV_id1 h
      subst this
      refine (textCalls x.1 w).mono ?_
      rintro e w' ⟨rfl, h1⟩
      exact ⟨_, rfl, h1, .one (.str _ (by rw [textL_len]; decide)) (fun _ e => by cases e) (fun _ e => by cases e)⟩)

noncomputable def omath_bitsLeadingZeros8 : ((UInt8 × Unit) × Unit) → Option ((Int × Unit) × Unit) := fun x => some ((8 - (Lib.bitLen x.1.1.toNat : Int), ()), ())
noncomputable def cmath_bitsLeadingZeros8 : Ct := { ash := (.cons (.d .u8) .unit), ms := [], foot := false, up := [], rsh := (.cons (.d (.int .i64)) .unit), ks := [], ms' := [], G := fun x => trS (omath_bitsLeadingZeros8 x) }
theorem Smath_bitsLeadingZeros8 : Spec Try.prog 29 cmath_bitsLeadingZeros8.fc :=
  spec_plain (ash := .cons (.d .u8) .unit) (rsh := .cons (.d (.int .i64)) .unit) (fun x => (8 - (Lib.bitLen x.1.toNat : Int), ())) omath_bitsLeadingZeros8 (fun _ => rfl) (by decide) (by kernel_rfl) (by
    intro C g x vs w h
    cases h with
    | cons h t =>
      cases t
      have := RV_u8 h
      subst this
      have h8 := x.1.toNat_lt
      refine (sh_bits_LeadingZeros8 x.1.toNat w (by omega) (by omega)).mono ?_
      rintro e w' ⟨rfl, rfl⟩
      exact ⟨_, rfl, Below.refl _ _, .one (.int _ _) (fun _ e => by cases e) (fun _ e => by cases e)⟩)

noncomputable def ostringsIndexByte : ((List UInt8 × (UInt8 × Unit)) × Unit) → Option ((Int × Unit) × Unit) := fun x => some ((Lib.indexByte x.1.1 x.1.2.1, ()), ())
noncomputable def cstringsIndexByte : Ct := { ash := (.cons (.d .str) (.cons (.d .u8) .unit)), ms := [], foot := false, up := [], rsh := (.cons (.d (.int .i64)) .unit), ks := [], ms' := [], G := fun x => trS (ostringsIndexByte x) }
theorem SstringsIndexByte : Spec Try.prog 30 cstringsIndexByte.fc :=
  spec_plain (ash := .cons (.d .str) (.cons (.d .u8) .unit)) (rsh := .cons (.d (.int .i64)) .unit) (fun x => (Lib.indexByte x.1 x.2.1, ())) ostringsIndexByte (fun _ => rfl) (by decide) (by kernel_rfl) (by
    intro C g x vs w h
    cases h with
    | cons h t =>
      cases t with
      | cons h2 t =>
        cases t
        have e1 := RV_str h
        have e2 := RV_u8 h2
        subst e1; subst e2
        refine (sh_strings_IndexByte ⟨x.1.toArray⟩ x.2.1.toNat w).mono ?_
        rintro e w' ⟨rfl, rfl⟩
        refine ⟨_, rfl, Below.refl _ _, ?_⟩
        have : ((x.2.1.toNat : Int).toNat.toUInt8) = x.2.1 := by simp
        rw [this]
        exact .one (.int _ _) (fun _ e => by cases e) (fun _ e => by cases e))

end Am
end Go.Proofs.Ytalleiogpibckaa
