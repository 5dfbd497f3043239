/-
  A symbolic machine over the model, part 19: contracts in a row, each proved from those ahead of it.
-/
import Derived.Test.YtkidcbialbffgaaAm18
import Derived.KernelRfl
namespace Go.Proofs.Ytkidcbialbffgaa
namespace Am
open Go Go.RowKit

theorem look_mem {α : Type} {f : Nat} {x : α} : ∀ {l : List (Nat × α)}, look f l = some x → (f, x) ∈ l
  | [], h => by simp [look] at h
  | (g, y) :: l, h => by
    simp only [look] at h
    cases hb : Nat.beq g f with
    | true =>
      rw [hb] at h
      simp only [cond_true, Option.some.injEq] at h
      rw [h, Nat.eq_of_beq_eq_true hb]
      exact List.mem_cons_self ..
    | false =>
      rw [hb] at h
      exact List.mem_cons_of_mem _ (look_mem (by simpa using h))

def LoopsOk (E : Env) (f : FuncId) : List (Nat × Lp) → List Code → Prop
  | [], [] => True
  | (k, l) :: ls, b :: bs => key b = k ∧ LoopOk E (callee E 3) f l b ∧ LoopsOk E f ls bs
  | _, _ => False

theorem loopsOk_mem {E : Env} {f : FuncId} : ∀ {ls : List (Nat × Lp)} {bs : List Code}, LoopsOk E f ls bs → (ls.map (·.1)).Nodup → ∀ b ∈ bs, ∀ l, look (key b) ls = some l → LoopOk E (callee E 3) f l b
  | [], [], _, _, b, hb, _, _ => by cases hb
  | (k, l) :: ls, b :: bs, h, hn, b', hb', l', hl' => by
    obtain ⟨h1, h2, h3⟩ := h
    simp only [List.map_cons, List.nodup_cons, List.mem_map, not_exists, not_and] at hn
    simp only [look] at hl'
    rcases List.mem_cons.1 hb' with rfl | hb'
    · rw [h1, Nat.beq_refl, cond_true, Option.some.injEq] at hl'
      subst hl'
      exact h2
    · cases hk : Nat.beq k (key b') with
      | true =>
        -- the same key twice: then the loop that is meant stands further on, and has it too
        exfalso
        have hkk := Nat.eq_of_beq_eq_true hk
        have : ∀ {ls : List (Nat × Lp)} {bs : List Code}, LoopsOk E f ls bs → b' ∈ bs → ∃ x ∈ ls, x.1 = key b' := by
          intro ls
          induction ls with
          | nil => intro bs h hb; cases bs with | nil => cases hb | cons _ _ => exact h.elim
          | cons p ls ih =>
            intro bs h hb
            cases bs with
            | nil => cases hb
            | cons c bs =>
              obtain ⟨g1, g2, g3⟩ := h
              rcases List.mem_cons.1 hb with rfl | hb
              · exact ⟨p, by simp, g1.symm⟩
              · obtain ⟨x, hx, he⟩ := ih g3 hb
                exact ⟨x, by simp [hx], he⟩
        obtain ⟨x, hx, he⟩ := this h3 hb'
        exact hn.1 x hx (he.trans hkk.symm)
      | false =>
        rw [hk] at hl'
        exact loopsOk_mem h3 hn.2 b' hb' l' (by simpa using hl')
  | [], _ :: _, h, _, _, _, _, _ => h.elim
  | _ :: _, [], h, _, _, _, _, _ => h.elim

theorem spec_mk {P : Program} (hm : P.follows .mixedOrders = true) {cs : List (FuncId × Con)} (hcs : ∀ p ∈ cs, Spec P p.1 p.2) {inl : List Nat} {f : FuncId} {ls : List (Nat × Lp)} {F : Con} {ks : List Nat} (hok : okF P f = true) (hks : ks.Nodup)
    (hn : (ls.map (·.1)).Nodup) (hl : LoopsOk (mkE P cs inl f ls) f ls (loopsOf (bodyOf P f)))
    (hF : ∀ args r rows, (F args).get = some (r, rows) → rows.length = ks.length ∧ run (mkE P cs inl f ls) ks f args = some (r, rows)) : Spec P f F := by
  unfold okF at hok
  split at hok
  · rename_i fn hfn
    simp only [Bool.and_eq_true, Bool.not_eq_true'] at hok
    obtain ⟨c, hc⟩ := Option.isSome_iff_exists.1 hok.2
    have hb : bodyOf P f = c := by simp [bodyOf, hfn, hc]
    rw [hb] at hl
    refine spec_of_run (E := mkE P cs inl f ls) hm (fun g F h => hcs (g, F) (look_mem h)) (fun g k h => ?_) (mget_funcs hfn) hok.1 hc hks (fun b hb' l hl' => ?_) hF
    · simp only [mkE, Bool.and_eq_true, Bool.not_eq_true'] at h
      simp only [mkE, h.2, cond_false]
    · simp only [mkE, Nat.beq_refl, cond_true] at hl'
      exact loopsOk_mem hl hn b hb' l hl'
  · cases hok

section
variable {C : Mem} {g : Ghs}

theorem RV_enc {t : Ty} (hok : t.ok = true) {v : AV} {x : Value} {y : t.den} (h : RV C g v x) (e : dec t v = some y) : RV C [] (enc t y) x := by
  have htc := TC_dec' (RV_solid h (dec_solid e)) e
  have hrc : RC C [] (enc t y) x.cells.toList := RC_enc' hok htc
  have hagg : ∀ (t : Ty) (y : t.den), (∃ l, enc t y = .agg l) → (∃ ps, v = .agg ps) → RC C [] (enc t y) x.cells.toList → RV C [] (enc t y) x := by
    rintro t y ⟨l, hl⟩ ⟨ps, rfl⟩ hrc
    obtain ⟨cs, rfl, _⟩ := RV_agg h
    rw [hl] at hrc ⊢
    exact .agg (by simpa [Value.cells] using hrc)
  cases t with
  | int k =>
    cases v with
    | int k' n =>
      have := RV_int1 h
      subst this
      exact .one hrc (by simp [enc, enc2]) (by simp [enc, enc2])
    | _ => simp [dec, dec2] at e
  | u8 =>
    cases v with
    | u8 b =>
      have := RV_u8 h
      subst this
      exact .one hrc (by simp [enc, enc2]) (by simp [enc, enc2])
    | _ => simp [dec, dec2] at e
  | bool =>
    cases v with
    | bool b =>
      have := RV_bool h
      subst this
      exact .one hrc (by simp [enc, enc2]) (by simp [enc, enc2])
    | _ => simp [dec, dec2] at e
  | str =>
    cases v with
    | str b =>
      have := RV_str h
      subst this
      exact .one hrc (by simp [enc, enc2]) (by simp [enc, enc2])
    | _ => simp [dec, dec2] at e
  | id =>
    cases v with
    | id a =>
      have := RV_id h
      subst this
      exact RV.id (a := y) (by simpa [Value.cells, enc, enc2] using hrc)
    | _ => simp [dec, dec2] at e
  | unit =>
    refine hagg .unit y ⟨_, rfl⟩ ?_ hrc
    cases v with
    | agg ps => exact ⟨_, rfl⟩
    | _ => simp [dec, dec2] at e
  | pair s t =>
    refine hagg (.pair s t) y ⟨_, rfl⟩ ?_ hrc
    cases v with
    | agg ps => exact ⟨_, rfl⟩
    | _ => simp [dec, dec2] at e
  | sl t =>
    cases v with
    | nilsl =>
      have := RV_nilsl h
      subst this
      exact .one hrc (by simp [enc, enc2]) (by simp [enc, enc2])
    | sl t' xs o =>
      obtain ⟨base, cap, rfl, _, _, _⟩ := RV_sl h
      exact .one hrc (by simp [enc, enc2]) (by simp [enc, enc2])
    | _ => simp [dec, dec2] at e

theorem RVL_enc : ∀ {tys : Ty}, tys.ok = true → tys.chain = true → ∀ {args : List AV} {vs : List Value} {ys : tys.den}, RVL C g args vs → (dec2 tys).2 args = some ys → RVL C [] (enc2 tys ys).2 vs
  | .unit, _, _, args, vs, ys, h, e => by
    cases h with
    | nil => exact .nil
    | cons _ _ => simp [dec2] at e
  | .pair s t, hok, hch, args, vs, ys, h, e => by
    simp only [Ty.ok, Bool.and_eq_true] at hok
    cases h with
    | nil => simp [dec2] at e
    | cons h1 h2 =>
      simp only [dec2] at e
      split at e
      · rename_i a b ha hb
        simp only [Option.some.injEq] at e
        subst e
        exact .cons (RV_enc hok.1.1 h1 ha) (RVL_enc hok.1.2 hok.2 h2 hb)
      · cases e

end

/-- what a contract over data asks: the run on what the data are -/
theorem spec_data {P : Program} (hm : P.follows .mixedOrders = true) {cs : List (FuncId × Con)} (hcs : ∀ p ∈ cs, Spec P p.1 p.2) {inl : List Nat} {f : FuncId} {ls : List (Nat × Lp)} {ks : List Nat} {tys : Ty} {G : tys.den → CR}
    (hto : tys.ok = true) (htc : tys.chain = true) (hok : okF P f = true) (hks : ks.Nodup) (hn : (ls.map (·.1)).Nodup) (hl : LoopsOk (mkE P cs inl f ls) f ls (loopsOf (bodyOf P f)))
    (hF : ∀ ys r rows, (G ys).get = some (r, rows) → rows.length = ks.length ∧ run (mkE P cs inl f ls) ks f (enc2 tys ys).2 = some (r, rows)) : Spec P f (conT tys G) := by
  have hs : Spec P f (fun args => match run (mkE P cs inl f ls) ks f args with | some (r, rows) => cond (Nat.beq rows.length ks.length) (.ret r rows) .no | none => .no) := by
    refine spec_mk hm hcs hok hks hn hl ?_
    intro args r rows e
    split at e
    · rename_i r' rows' hr
      cases h1 : Nat.beq rows'.length ks.length with
      | true =>
        rw [h1, cond_true] at e
        simp only [CR.get, CR.elim, Option.some.injEq, Prod.mk.injEq] at e
        obtain ⟨rfl, rfl⟩ := e
        exact ⟨Nat.eq_of_beq_eq_true h1, hr⟩
      | false =>
        rw [h1] at e
        cases e
    · cases e
  refine ⟨hs.1, ?_⟩
  intro w C args vs r rows hsub hargs e
  unfold conT at e
  split at e
  · rename_i ys hys
    obtain ⟨h1, h2⟩ := hF ys r rows e
    exact hs.2 w C _ vs r rows hsub (RVL_enc hto htc hargs hys) (by simp only [h2]; rw [h1, Nat.beq_refl]; rfl)
  · cases e

end Am
end Go.Proofs.Ytkidcbialbffgaa
