/-
  A symbolic machine over the model, part 15: every run is the model's.
-/
import Derived.Test.YtkjpoongkdapoaaBmB
namespace Go.Proofs.Ytkjpoongkdapoaa
namespace Am
open Go Go.RowKit
set_option linter.unusedVariables false
set_option linter.unusedSimpArgs false

theorem Tr.elim_some {β ρ : Type} {c : Tr β} {k : β → Option ρ} {r : ρ} (h : c.elim k = some r) : ∃ b, c.get = some b ∧ k b = some r := by
  induction c with
  | ret b => exact ⟨b, rfl, h⟩
  | br c x y ihx ihy =>
    cases c with
    | true => exact ihx h
    | false => exact ihy h
  | no => cases h
theorem Tr.get_map {β γ : Type} {f : β → γ} {c : Tr β} {r : γ} (h : (c.map f).get = some r) : ∃ b, c.get = some b ∧ f b = r := by
  induction c with
  | ret b => simp only [Tr.map, Tr.get, Tr.elim, Option.some.injEq] at h; exact ⟨b, rfl, h⟩
  | br c x y ihx ihy =>
    cases c with
    | true => exact ihx h
    | false => exact ihy h
  | no => cases h

/-- what is claimed of a function -/
def Spec (P : Program) (f : FuncId) (fc : Fc) : Prop :=
  EnterOk P f ∧ (∀ (X : Ctx) (w : World) (C : Mem) (g : Ghs) (mem : List Blk) (args : List AV) (vs : List Value) (x : fc.σ) (r : AV) (bs : List Blk),
    Rel X w C C g mem w → X.G = g → RVL C g args vs → fc.dec args mem = some x → (fc.G x).get = some (r, bs) →
      Calls P f vs.toArray w (fun e w' => ∃ v C' g', e = .returned v ∧ Rel X w C C' g' bs w' ∧ RV C' g' r v)) ∧
    (∀ (X : Ctx) (w : World) (C : Mem) (g : Ghs) (mem : List Blk) (args : List AV) (vs : List Value) (x : fc.σ),
    Rel X w C C g mem w → X.G = g → RVL C g args vs → fc.dec args mem = some x → (fc.may && fc.pan x) = true →
      Calls P f vs.toArray w (fun e w' => ∃ v : Value, e = .panicked [{ v, recovered := false }] ∧ BadV v ∧ Sane X w C w'))

/-- one who knows nothing of the world -/
def ctx0 (w : World) : Ctx := { S := fun k => k < w.heap.size, Y := fun _ => False, G := [], ds := [] }
theorem Rel.start {w : World} {C : Mem} (hsub : ∀ a v, C a = some v → w.cell? a = some v) : Rel (ctx0 w) w C C [] [] w :=
  ⟨Keeps.refl _ _, fun _ h => h, hsub, Mem.le_refl _, fun _ _ => rfl, rfl, fun b x h => by simp [ctx0] at h, fun b m x hm => by simp at hm, fun b b' m m' x x' k hm => by simp at hm⟩

section
variable {X : Ctx} {w0 w : World} {C0 C : Mem} {fs : List (List Value)} {g : Ghs} {st : St} {a : Act}

theorem RVL_refine {vs : List AV} {xs : List Value} (h : RVL C g vs xs) {i : Nat} {v : AV} {x : Value} (hx : xs[i]? = some x) (hv : RV C g v x) : RVL C g (vs.set i v) xs := by
  have := RVL.set h i v x hv
  have he : xs.set i x = xs := by
    apply List.ext_getElem?
    intro j
    rw [List.getElem?_set]
    split
    · rename_i hij
      subst hij
      split
      · exact hx.symm
      · rename_i hlt
        rw [List.getElem?_eq_none (by omega)]
    · rfl
  rw [he] at this
  exact this

theorem slot_bool {s : Nat} {b : Bool} (h : SR X w0 C0 fs C g st a w) (e : mget st.tmps s = some (.bool b)) : a.tmps[s]? = some (.bool b) := by
  obtain ⟨x, hx, hr⟩ := RVL_at h.tm e
  have := RV_bool hr
  subst this
  simpa using hx

theorem SR.refine {s : Nat} {b c : Bool} (h : SR X w0 C0 fs C g st a w) (e : mget st.tmps s = some (.bool b)) (hb : b = c) : SR X w0 C0 fs C g (st.put (some s) (.bool c)) a w := by
  subst hb
  refine ⟨h.rel, ?_, h.out, h.df⟩
  simp only [St.put, mset_eq]
  exact RVL_refine h.tm (x := .bool b) (by simpa using slot_bool h e) (RV_boolv b)

theorem wanted_of {ops : Array Oper} {o : Oper} {j : Nat} {want b : Bool} {s : Nat} (h : SR X w0 C0 fs C g st a w) (hg : o.guard = some (j, want)) (hs : guardSlot ops.toList j = some s) (e : mget st.tmps s = some (.bool b)) :
    Region.wanted o (yielded ops a.tmps) = biff b want := by
  have hb := slot_bool h e
  have hs' : (ops[j]?).bind (·.dst) = some s := by simpa [guardSlot] using hs
  simp only [Region.wanted, hg, yielded, hs', Option.bind_some, hb, biff_eq]
  cases b <;> cases want <;> rfl

theorem biff_true {b want : Bool} (h : biff b want = true) : b = want := by rw [biff_eq] at h; simpa using h
theorem biff_false {b want : Bool} (h : biff b want = false) : b = !want := by cases b <;> cases want <;> simp_all [biff]

theorem RV_undef : RV C g (.tup []) undef := .tup .nil
theorem Good.put_undef {d : Option Tmp} (h : Good X w0 C0 fs st a w) : Good X w0 C0 fs (st.put d (.tup [])) (a.put d undef) w := by
  obtain ⟨C, g, h⟩ := h
  exact ⟨C, g, h.put RV_undef d⟩

theorem slot_undef {s : Nat} (h : SR X w0 C0 fs C g st a w) (e : mget st.tmps s = some (.tup [])) : a.tmps[s]? = some undef := by
  obtain ⟨x, hx, hr⟩ := RVL_at h.tm e
  obtain ⟨ws, rfl, hw⟩ := RV_tup hr
  cases hw
  simpa [undef] using hx

theorem wanted_undef {ops : Array Oper} {o : Oper} {j : Nat} {want : Bool} {s : Nat} (h : SR X w0 C0 fs C g st a w) (hg : o.guard = some (j, want)) (hs : guardSlot ops.toList j = some s) (e : mget st.tmps s = some (.tup [])) :
    Region.wanted o (yielded ops a.tmps) = false := by
  have hb := slot_undef h e
  have hs' : (ops[j]?).bind (·.dst) = some s := by simpa [guardSlot] using hs
  simp [Region.wanted, hg, yielded, hs', Option.bind_some, hb, undef]

mutual
theorem RC_plain : ∀ {v : AV} {cs ds : List Value} {C C' : Mem} {g g' : Ghs}, v.plain = true → RC C g v cs → RC C' g' v ds → cs = ds
  | .int _ _, _, _, _, _, _, _, _, .int _ _, .int _ _ => rfl
  | .u8 _, _, _, _, _, _, _, _, .u8 _, .u8 _ => rfl
  | .bool _, _, _, _, _, _, _, _, .bool _, .bool _ => rfl
  | .str _, _, _, _, _, _, _, _, .str _ _, .str _ _ => rfl
  | .id _, _, _, _, _, _, _, _, .id _, .id _ => rfl
  | .agg ps, _, _, _, _, _, _, hp, .agg h1, .agg h2 => RCL_plain (by simpa [AV.plain] using hp) h1 h2
theorem RCL_plain : ∀ {v : List AV} {cs ds : List Value} {C C' : Mem} {g g' : Ghs}, AV.plains v = true → RCL C g v cs → RCL C' g' v ds → cs = ds
  | [], _, _, _, _, _, _, _, .nil, .nil => rfl
  | p :: ps, _, _, _, _, _, _, hp, .cons h1 t1, .cons h2 t2 => by
    simp only [AV.plains, Bool.and_eq_true] at hp
    rw [RC_plain hp.1 h1 h2, RCL_plain hp.2 t1 t2]
end
mutual
theorem RV_plain : ∀ {v : AV} {x y : Value} {C C' : Mem} {g g' : Ghs}, v.plain = true → RV C g v x → RV C' g' v y → x = y
  | _, _, _, _, _, _, _, hp, .any _, _ => by simp [AV.plain] at hp
  | _, _, _, _, _, _, _, hp, .raw _ _, _ => by simp [AV.plain] at hp
  | _, _, _, _, _, _, _, hp, .id h1, .id h2 => by rw [RC_plain hp h1 h2]
  | _, _, _, _, _, _, _, hp, .id h1, .one h2 h3 _ => absurd rfl (h3 _)
  | _, _, _, _, _, _, _, hp, .agg h1, .agg h2 => by rw [RC_plain hp h1 h2]
  | _, _, _, _, _, _, _, hp, .agg h1, .one h2 _ h3 => absurd rfl (h3 _)
  | _, _, _, _, _, _, _, hp, .tup h1, .tup h2 => by rw [RVL_plain (by simpa [AV.plain] using hp) h1 h2]
  | _, _, _, _, _, _, _, hp, .tup h1, .one h2 _ _ => by cases h2
  | _, _, _, _, _, _, _, hp, .one h1 h3 _, .id h2 => absurd rfl (h3 _)
  | _, _, _, _, _, _, _, hp, .one h1 _ h3, .agg h2 => absurd rfl (h3 _)
  | _, _, _, _, _, _, _, hp, .one h1 _ _, .tup h2 => by cases h1
  | _, _, _, _, _, _, _, hp, .one h1 _ _, .any _ => by simp [AV.plain] at hp
  | _, _, _, _, _, _, _, hp, .one h1 _ _, .raw _ _ => by simp [AV.plain] at hp
  | _, _, _, _, _, _, _, hp, .one h1 _ _, .one h2 _ _ => by
    have := RC_plain hp h1 h2
    simpa using this
theorem RVL_plain : ∀ {v : List AV} {x y : List Value} {C C' : Mem} {g g' : Ghs}, AV.plains v = true → RVL C g v x → RVL C' g' v y → x = y
  | [], _, _, _, _, _, _, _, .nil, .nil => rfl
  | p :: ps, _, _, _, _, _, _, hp, .cons h1 t1, .cons h2 t2 => by
    simp only [AV.plains, Bool.and_eq_true] at hp
    rw [RV_plain hp.1 h1 h2, RVL_plain hp.2 t1 t2]
end

mutual
/-- a plain value is what it says in every memory -/
theorem RC_any : ∀ {v : AV} {cs : List Value}, v.plain = true → RC C g v cs → ∀ (C' : Mem) (g' : Ghs), RC C' g' v cs
  | .int _ _, _, _, .int _ _, _, _ => .int _ _
  | .u8 _, _, _, .u8 _, _, _ => .u8 _
  | .bool _, _, _, .bool _, _, _ => .bool _
  | .str _, _, _, .str _ hs, _, _ => .str _ hs
  | .id _, _, _, .id _, _, _ => .id _
  | .agg ps, _, hp, .agg h1, C', g' => .agg (RCL_any (by simpa [AV.plain] using hp) h1 C' g')
theorem RCL_any : ∀ {v : List AV} {cs : List Value}, AV.plains v = true → RCL C g v cs → ∀ (C' : Mem) (g' : Ghs), RCL C' g' v cs
  | [], _, _, .nil, _, _ => .nil
  | p :: ps, _, hp, .cons h1 t1, C', g' => by
    simp only [AV.plains, Bool.and_eq_true] at hp
    exact .cons (RC_any hp.1 h1 C' g') (RCL_any hp.2 t1 C' g')
end
mutual
theorem RV_any : ∀ {v : AV} {x : Value}, v.plain = true → RV C g v x → ∀ (C' : Mem) (g' : Ghs), RV C' g' v x
  | _, _, hp, .any _, _, _ => .any _
  | _, _, hp, .raw _ _, _, _ => by simp [AV.plain] at hp
  | _, _, hp, .id h1, C', g' => .id (RC_any hp h1 C' g')
  | _, _, hp, .agg h1, C', g' => .agg (RC_any hp h1 C' g')
  | _, _, hp, .tup h1, C', g' => .tup (RVL_any (by simpa [AV.plain] using hp) h1 C' g')
  | _, _, hp, .one h1 h2 h3, C', g' => .one (RC_any hp h1 C' g') h2 h3
theorem RVL_any : ∀ {v : List AV} {x : List Value}, AV.plains v = true → RVL C g v x → ∀ (C' : Mem) (g' : Ghs), RVL C' g' v x
  | [], _, _, .nil, _, _ => .nil
  | p :: ps, _, hp, .cons h1 t1, C', g' => by
    simp only [AV.plains, Bool.and_eq_true] at hp
    exact .cons (RV_any hp.1 h1 C' g') (RVL_any hp.2 t1 C' g')
end

theorem strips_RV {vs : List AV} {xs : List Value} (h : RVL C g vs xs) : RVL C [] (strips vs) xs := by
  induction vs generalizing xs with
  | nil => cases h; exact .nil
  | cons v vs ih =>
    cases h with
    | cons hv ht =>
      refine .cons ?_ (ih ht)
      cases hr : v.ren [] with
      | none => exact .any _
      | some u => exact RV.ren [] hv hr

theorem Calls.and_exists {P : Program} {f : FuncId} {args : Array Value} {w : World} {R : Ending → World → Prop} (h : Calls P f args w R) : ∃ e w', R e w' := by
  obtain ⟨e, w', fr, hr, _⟩ := h []
  exact ⟨e, w', hr⟩

theorem firstDec_some : ∀ {l : List Fc} {as : List AV} {t : Tr (AV × List Blk)}, firstDec l as = some t → ∃ fc ∈ l, ∃ x, fc.dec as [] = some x ∧ t = fc.G x
  | [], as, t, h => by simp [firstDec] at h
  | fc :: l, as, t, h => by
    simp only [firstDec] at h
    cases hf : (fc.foot || fc.may) with
    | true =>
      rw [hf, cond_true] at h
      obtain ⟨fc', h1, h2⟩ := firstDec_some h
      exact ⟨fc', by simp [h1], h2⟩
    | false =>
      rw [hf, cond_false] at h
      split at h
      · rename_i x hx
        simp only [Option.some.injEq] at h
        exact ⟨fc, by simp, x, hx, h.symm⟩
      · obtain ⟨fc', h1, h2⟩ := firstDec_some h
        exact ⟨fc', by simp [h1], h2⟩

theorem doQ_sound {E : Env} (hcon : ∀ f, ∀ fc ∈ E.con f, Spec E.P f fc) {o : Oper} {ρ : Type} {K : St → Option ρ} {r : ρ} (h : SR X w0 C0 fs C g st a w) (e : doQ E o st K = some r) {next : Act → Prop}
    (hn : ∀ st' a', SR X w0 C0 fs C g st' a' w → K st' = some r → next a') : o.quiet E.P a (fun w' => Below w.heap.size w w') next := by
  have pureCase : (match pureOp E st o with | some (ok, v) => cond ok (K (st.put o.dst v)) none | none => none) = some r → o.quiet E.P a (fun w' => Below w.heap.size w w') next := by
    intro e
    split at e
    · rename_i ok v hp
      obtain ⟨h1, h2⟩ := cond_some e
      obtain ⟨z, hz, hr⟩ := pureOp_run h.rel h.tm hp h1
      refine ⟨z, fun w' hw => ?_, hn _ _ (h.put hz o.dst) h2⟩
      simp only [Oper.quietAt, hr w' hw, Oper.quietUpon, and_self]
    · cases e
  obtain ⟨dst, op, ty, pos, after, guard⟩ := o
  cases op with
  | call c =>
    obtain ⟨cal, args, ats⟩ := c
    cases cal with
    | value f =>
      simp only [doQ] at e
      cases hf : evalOp st f with
      | none => simp [hf] at e
      | some vf =>
        cases ha : evalAll st args.toList with
        | none => cases vf <;> simp [hf, ha] at e
        | some vs =>
          have hfv := evalOp_RV h.tm hf
          have hav := evalAll_RV h.tm ha
          cases vf with
          | fn ff first captured =>
            cases ff with
            | func gf =>
              simp only [hf, ha, mapp_eq] at e
              obtain ⟨xs, ks, hfe, hr1, hr2⟩ := RV_fn hfv
              have hargs : RVL C g (first ++ (vs ++ captured)) (xs ++ (args.toList.map a.eval ++ ks)) := hr1.append (hav.append hr2)
              split at e
              · rename_i t ht
                obtain ⟨fc, hfc, x, hx, rfl⟩ := firstDec_some ht
                obtain ⟨q, hG, e⟩ := Tr.elim_some e
                obtain ⟨r0, rows⟩ := q
                simp only at e
                split at e
                · obtain ⟨hpl, e2⟩ := cond_some e
                  obtain ⟨hent, hspec, _⟩ := hcon gf fc hfc
                  obtain ⟨fn, hfn, hname, hbody⟩ := hent
                  have hcalls : ∀ w' : World, Below w.heap.size w w' → Calls E.P gf (xs ++ (args.toList.map a.eval ++ ks)).toArray w' (fun e w'' => ∃ v C' g', e = .returned v ∧ Below w.heap.size w w'' ∧ RV C' g' r0 v) := by
                    intro w' hw
                    refine (hspec (ctx0 w') w' C [] [] _ _ x r0 [] (Rel.start (h.rel.ext hw).sub) rfl (strips_RV hargs) hx hG).mono ?_
                    rintro e1 w1 ⟨v, C', g', rfl, hrel, hrv⟩
                    exact ⟨v, C', g', rfl, hw.trans ((Keeps.toBelow hrel.below).mono hw.size), hrv⟩
                  obtain ⟨e0, w1, v, C1, g1, _, _, hrv⟩ := Calls.and_exists (hcalls w (Below.refl _ _))
                  refine ⟨v, fun w' hw => ?_, hn _ _ (h.put (RV_any hpl hrv C g) dst) e2⟩
                  have hrun : (execOp a.eval ⟨dst, .call ⟨.value f, args, ats⟩, ty, pos, after, guard⟩).run E.P w' = .ok (.enter gf (xs ++ (args.toList.map a.eval ++ ks)).toArray) w' := by
                    have harr : (xs.toArray ++ args.map a.eval) ++ ks.toArray = (xs ++ (args.toList.map a.eval ++ ks)).toArray := by
                      rw [← Array.toList_inj]; simp
                    simp only [execOp, resolve, hfe, Deferred.ofValue, Sem.run_bind, Sem.run_pure, Result.andThen_ok, invoke, callFunc, run_program, hfn, hname, hbody, harr, Bool.false_eq_true, if_false]
                  simp only [Oper.quietAt, hrun, Oper.quietUpon, true_and]
                  refine (hcalls w' hw).mono ?_
                  rintro e1 w2 ⟨v2, C2, g2, rfl, hb2, hrv2⟩
                  exact ⟨by rw [RV_plain hpl hrv2 hrv], hb2⟩
                · cases e
              · cases e
            | _ => simp [hf, ha] at e
          | _ => simp [hf, ha] at e
    | invoke xo name =>
      simp only [doQ] at e
      cases hf : evalOp st xo with
      | none => simp [hf] at e
      | some xv =>
        cases ha : evalAll st args.toList with
        | none => simp [hf, ha] at e
        | some vs =>
          have hxv := evalOp_RV h.tm hf
          have hav := evalAll_RV h.tm ha
          simp only [hf, ha] at e
          split at e
          · rename_i gf u hi
            obtain ⟨z, hz, hrunM⟩ := invoke_run hxv hi
            have hargs : RVL C g (u :: vs) (z :: args.toList.map a.eval) := .cons hz hav
            split at e
            · rename_i t ht
              obtain ⟨fc, hfc, x, hx, rfl⟩ := firstDec_some ht
              obtain ⟨q, hG, e⟩ := Tr.elim_some e
              obtain ⟨r0, rows⟩ := q
              simp only at e
              split at e
              · obtain ⟨hpl, e2⟩ := cond_some e
                obtain ⟨hent, hspec, _⟩ := hcon gf fc hfc
                obtain ⟨fn, hfn, hname, hbody⟩ := hent
                have hcalls : ∀ w' : World, Below w.heap.size w w' → Calls E.P gf (z :: args.toList.map a.eval).toArray w' (fun e w'' => ∃ v C' g', e = .returned v ∧ Below w.heap.size w w'' ∧ RV C' g' r0 v) := by
                  intro w' hw
                  refine (hspec (ctx0 w') w' C [] [] _ _ x r0 [] (Rel.start (h.rel.ext hw).sub) rfl (strips_RV hargs) hx hG).mono ?_
                  rintro e1 w1 ⟨v, C', g', rfl, hrel, hrv⟩
                  exact ⟨v, C', g', rfl, hw.trans ((Keeps.toBelow hrel.below).mono hw.size), hrv⟩
                obtain ⟨e0, w1, v, C1, g1, _, _, hrv⟩ := Calls.and_exists (hcalls w (Below.refl _ _))
                refine ⟨v, fun w' hw => ?_, hn _ _ (h.put (RV_any hpl hrv C g) dst) e2⟩
                have hrun : (execOp a.eval ⟨dst, .call ⟨.invoke xo name, args, ats⟩, ty, pos, after, guard⟩).run E.P w' = .ok (.enter gf (z :: args.toList.map a.eval).toArray) w' := invoke_enter hrunM hfn hname hbody w'
                simp only [Oper.quietAt, hrun, Oper.quietUpon, true_and]
                refine (hcalls w' hw).mono ?_
                rintro e1 w2 ⟨v2, C2, g2, rfl, hb2, hrv2⟩
                exact ⟨by rw [RV_plain hpl hrv2 hrv], hb2⟩
              · cases e
            · cases e
          · cases e
    | _ => exact pureCase e
  | _ => exact pureCase e

theorem execQ_sound {E : Env} (hcon : ∀ f, ∀ fc ∈ E.con f, Spec E.P f fc) {ops : Array Oper} {ρ : Type} {r : ρ} {K : St → Option ρ} {next : Act → Prop}
    (hn : ∀ st' a', SR X w0 C0 fs C g st' a' w → K st' = some r → next a') : ∀ (l : List Oper) (st : St) (a : Act), SR X w0 C0 fs C g st a w → execQ E ops.toList l st K = some r → wpQuiet E.P ops (fun w' => Below w.heap.size w w') next l a
  | [], st, a, h, e => wpQuiet_nil (hn st a h (by simpa [execQ] using e))
  | o :: rest, st, a, h, e => by
    refine wpQuiet_step fun Kc hKc => ?_
    simp only [execQ] at e
    have ih := execQ_sound (ops := ops) hcon hn rest
    cases hg : o.guard with
    | none =>
      simp only [hg] at e
      have hw : Region.wanted o (yielded ops a.tmps) = true := by simp [Region.wanted, hg]
      rw [if_pos hw]
      exact doQ_sound hcon h e fun st' a' hG hk => hKc _ (ih st' a' hG hk)
    | some p =>
      obtain ⟨j, want⟩ := p
      simp only [hg] at e
      cases hs : guardSlot ops.toList j with
      | none => simp [hs] at e
      | some s =>
        simp only [hs] at e
        cases hm : mget st.tmps s with
        | none => simp [hm] at e
        | some v =>
          cases v with
          | bool b =>
            simp only [hm] at e
            have hw := wanted_of h hg hs hm
            cases hb : biff b want with
            | true =>
              rw [hb] at e hw
              simp only [cond_true] at e
              rw [if_pos hw]
              exact doQ_sound hcon (h.refine hm (biff_true hb)) e fun st' a' hG hk => hKc _ (ih st' a' hG hk)
            | false =>
              rw [hb] at e hw
              simp only [cond_false] at e
              rw [if_neg (by simp [hw])]
              exact hKc _ (ih _ _ ((h.refine hm (biff_false hb)).put RV_undef o.dst) e)
          | tup l =>
            cases l with
            | nil =>
              simp only [hm] at e
              rw [if_neg (by simp [wanted_undef h hg hs hm])]
              exact hKc _ (ih _ _ (h.put RV_undef o.dst) e)
            | cons _ _ => simp [hm] at e
          | _ => simp [hm] at e


def KeepI : List Oper → Act → Act → Prop
  | [], a, a' => a' = a
  | o :: l, a, a' => ∃ v, KeepI l (a.put o.dst v) a'
theorem wpQuiet_mono {P : Program} {ops : Array Oper} {Cl : World → Prop} {Q Q' : Act → Prop} (h : ∀ a, Q a → Q' a) : ∀ (l : List Oper) (a : Act), wpQuiet P ops Cl Q l a → wpQuiet P ops Cl Q' l a
  | [], a, e => h a e
  | o :: l, a, e => by
    unfold wpQuiet at e ⊢
    split
    · rename_i hw
      rw [if_pos hw] at e
      exact Oper.quiet_mono (wpQuiet_mono h l) e
    · rename_i hw
      rw [if_neg hw] at e
      exact wpQuiet_mono h l _ e
theorem wpQuiet_keep {P : Program} {ops : Array Oper} {Cl : World → Prop} {Q : Act → Prop} : ∀ (l : List Oper) (a : Act), wpQuiet P ops Cl Q l a → wpQuiet P ops Cl (fun a' => Q a' ∧ KeepI l a a') l a
  | [], a, e => ⟨e, rfl⟩
  | o :: l, a, e => by
    unfold wpQuiet at e ⊢
    split
    · rename_i hw
      rw [if_pos hw] at e
      obtain ⟨v, h1, h2⟩ := e
      exact ⟨v, h1, wpQuiet_mono (fun a' h => ⟨h.1, v, h.2⟩) l _ (wpQuiet_keep l _ h2)⟩
    · rename_i hw
      rw [if_neg hw] at e
      exact wpQuiet_mono (fun a' h => ⟨h.1, _, h.2⟩) l _ (wpQuiet_keep l _ e)
theorem anyAll_sr : ∀ (l : List Oper) (st : St) (a a' : Act), SR X w0 C0 fs C g st a w → KeepI l a a' → SR X w0 C0 fs C g (anyAll l st) a' w
  | [], st, a, a', h, k => by
    have : a' = a := k
    subst this; exact h
  | o :: l, st, a, a', h, k => by
    obtain ⟨v, k⟩ := k
    exact anyAll_sr l _ _ _ (h.put (.any v) o.dst) k
theorem execM_sound {E : Env} (hcon : ∀ f, ∀ fc ∈ E.con f, Spec E.P f fc) {ops : Array Oper} {ρ : Type} {r : ρ} {K : St → Option ρ} {next : Act → Prop}
    (hn : ∀ st' a', SR X w0 C0 fs C g st' a' w → K st' = some r → next a') (h : SR X w0 C0 fs C g st a w) (e : execM E ops.toList st K = some r) : wpQuiet E.P ops (fun w' => Below w.heap.size w w') next ops.toList a := by
  unfold execM at e
  cases hd : lastDst ops.toList with
  | none => simp [hd] at e
  | some d =>
    simp only [hd] at e
    obtain ⟨h1, h2⟩ := cond_some e
    cases hq : execQ E ops.toList ops.toList st (slotB d) with
    | none => rw [hq] at h1; cases h1
    | some v =>
      have w1 := execQ_sound (K := slotB d) (r := v) (next := fun a' => a'.tmps[d]? = some (.bool v)) hcon (fun st' a' h' k => by
        unfold slotB at k
        split at k
        · rename_i b hb
          cases k
          exact slot_bool h' hb
        · cases k) ops.toList st a h hq
      refine wpQuiet_mono (fun a' hh => ?_) _ _ (wpQuiet_keep _ _ w1)
      obtain ⟨q, kp⟩ := hh
      have hS := anyAll_sr ops.toList st a a' h kp
      rw [hq] at h2
      have hr : RVL C g (mset (anyAll ops.toList st).tmps d (.bool v)) a'.tmps.toList := by
        rw [mset_eq]
        exact RVL_refine hS.tm (i := d) (x := .bool v) (by rw [Array.getElem?_toList]; exact q) (.one (.bool v) (by simp) (by simp))
      exact hn { anyAll ops.toList st with tmps := mset (anyAll ops.toList st).tmps d (.bool v) } a' ⟨hS.rel, hr, hS.out, hS.df⟩ h2

end
end Am
end Go.Proofs.Ytkjpoongkdapoaa
