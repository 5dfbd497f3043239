/-
  A symbolic machine over the model, part 21: contracts that say a little less than the run.
-/
import Derived.Test.YtkidcbialbffgaaAm20
namespace Go.Proofs.Ytkidcbialbffgaa
namespace Am
open Go Go.RowKit

/-- what is so is so -/
def Weak (v u : AV) : Prop := ∀ (C : Mem) (g : Ghs) (x : Value), RV C g v x → RV C g u x
theorem Weak.refl (v : AV) : Weak v v := fun _ _ _ h => h
theorem weak_nil {t : Ty} : Weak .nilsl (.sl t [] none) := by
  intro C g x h
  have := RV_nilsl h
  subst this
  exact .one (.sl (xs := []) (Nat.le_refl _) (fun i x hx => by simp at hx)) (by simp) (by simp)
theorem weak_nil' {t : Ty} {xs : List t.den} (h : xs = []) : Weak .nilsl (.sl t xs none) := by subst h; exact weak_nil
theorem weak_tup {a a' : AV} {l l' : List AV} (h : Weak a a') (ht : Weak (.tup l) (.tup l')) : Weak (.tup (a :: l)) (.tup (a' :: l')) := by
  intro C g x hx
  obtain ⟨ws, rfl, hw⟩ := RV_tup hx
  cases hw with
  | cons h1 h2 =>
    obtain ⟨ws', he, hw'⟩ := RV_tup (ht C g _ (.tup h2))
    simp only [Value.tuple.injEq] at he
    have := congrArg Array.toList he
    simp only at this
    subst this
    exact .tup (.cons (h C g _ h1) hw')

theorem spec_dataW {P : Program} (hm : P.follows .mixedOrders = true) {cs : List (FuncId × Con)} (hcs : ∀ p ∈ cs, Spec P p.1 p.2) {inl : List Nat} {f : FuncId} {ls : List (Nat × Lp)} {ks : List Nat} {tys : Ty} {G : tys.den → CR}
    (hto : tys.ok = true) (htc : tys.chain = true) (hok : okF P f = true) (hks : ks.Nodup) (hn : (ls.map (·.1)).Nodup) (hl : LoopsOk (mkE P cs inl f ls) f ls (loopsOf (bodyOf P f)))
    (hF : ∀ ys r rows, (G ys).get = some (r, rows) → rows.length = ks.length ∧ ∃ r0, run (mkE P cs inl f ls) ks f (enc2 tys ys).2 = some (r0, rows) ∧ Weak r0 r) : Spec P f (conT tys G) := by
  have hs : Spec P f (fun args => match run (mkE P cs inl f ls) ks f args with | some (r, rows) => cond (Nat.beq rows.length ks.length) (.ret r rows) .no | none => .no) := by
    refine spec_mk hm hcs hok hks hn hl ?_
    intro args r rows e
    split at e
    · rename_i r' rows' hr
      cases h1 : Nat.beq rows'.length ks.length with
      | true =>
        rw [h1, cond_true] at e
        simp only [CR.get, CR.elim, Option.some.injEq, Prod.mk.injEq] at e
        obtain ⟨rfl, rfl⟩ := e
        exact ⟨Nat.eq_of_beq_eq_true h1, hr⟩
      | false =>
        rw [h1] at e
        cases e
    · cases e
  refine ⟨hs.1, ?_⟩
  intro w C args vs r rows hsub hargs e
  unfold conT at e
  split at e
  · rename_i ys hys
    obtain ⟨h1, r0, h2, hw⟩ := hF ys r rows e
    refine (hs.2 w C _ vs r0 rows hsub (RVL_enc hto htc hargs hys) (by simp only [h2]; rw [h1, Nat.beq_refl]; rfl)).mono ?_
    rintro ex w' ⟨v, C', g', he, k1, k2, k3, k4⟩
    exact ⟨v, C', g', he, k1, k2, k3, hw _ _ _ k4⟩
  · cases e

end Am
end Go.Proofs.Ytkidcbialbffgaa
