/-
  A symbolic machine over the model, part 15b: regions that go in any order and do something.
-/
import Derived.Test.YtkjpoongkdapoaaBm15
import Derived.OrdersHeld
import Derived.Deep.RegionHeld3
namespace Go.Proofs.Ytkjpoongkdapoaa
namespace Am
open Go Go.RowKit
set_option linter.unusedVariables false
set_option linter.unusedSimpArgs false

section
variable {X : Ctx} {w0 w : World} {C0 C : Mem} {fs : List (List Value)} {g : Ghs} {st : St} {a : Act}

mutual
theorem RC_det : ∀ {v : AV} {cs ds : List Value}, v.det = true → RC C g v cs → RC C g v ds → cs = ds
  | .int _ _, _, _, _, .int _ _, .int _ _ => rfl
  | .u8 _, _, _, _, .u8 _, .u8 _ => rfl
  | .bool _, _, _, _, .bool _, .bool _ => rfl
  | .str _, _, _, _, .str _ _, .str _ _ => rfl
  | .id _, _, _, _, .id _, .id _ => rfl
  | .nilsl, _, _, _, .nilsl, .nilsl => rfl
  | .nilfn, _, _, _, .nilfn, .nilfn => rfl
  | .loc _ _, _, _, _, .loc h1, .loc h2 => by rw [h1] at h2; cases h2; rfl
  | .loci _ _ _, _, _, _, .loci _ h1, .loci _ h2 => by rw [h1] at h2; cases h2; rfl
  | .idsl _ _, _, _, _, .idsl h1, .idsl h2 => by rw [h1] at h2; cases h2; rfl
  | .agg ps, _, _, hp, .agg h1, .agg h2 => RCL_plain (by simpa [AV.det] using hp) h1 h2
  | .fn _ _ _, _, _, hp, .fn h1 h2, .fn k1 k2 => by
    simp only [AV.det, Bool.and_eq_true] at hp
    rw [RVL_det hp.1 h1 k1, RVL_det hp.2 h2 k2]
theorem RV_det : ∀ {v : AV} {x y : Value}, v.det = true → RV C g v x → RV C g v y → x = y
  | _, _, _, hp, .any _, _ => by simp [AV.det] at hp
  | _, _, _, hp, .raw _ _, _ => by simp [AV.det] at hp
  | _, _, _, hp, .id h1, .id h2 => by rw [RC_det hp h1 h2]
  | _, _, _, hp, .id h1, .one h2 h3 _ => absurd rfl (h3 _)
  | _, _, _, hp, .agg h1, .agg h2 => by rw [RC_det hp h1 h2]
  | _, _, _, hp, .agg h1, .one h2 _ h3 => absurd rfl (h3 _)
  | _, _, _, hp, .tup h1, .tup h2 => by rw [RVL_det (by simpa [AV.det] using hp) h1 h2]
  | _, _, _, hp, .tup h1, .one h2 _ _ => by cases h2
  | _, _, _, hp, .one h1 h3 _, .id h2 => absurd rfl (h3 _)
  | _, _, _, hp, .one h1 _ h3, .agg h2 => absurd rfl (h3 _)
  | _, _, _, hp, .one h1 _ _, .tup h2 => by cases h1
  | _, _, _, hp, .one h1 _ _, .any _ => by simp [AV.det] at hp
  | _, _, _, hp, .one h1 _ _, .raw _ _ => by simp [AV.det] at hp
  | _, _, _, hp, .one h1 _ _, .one h2 _ _ => by
    have := RC_det hp h1 h2
    simpa using this
theorem RVL_det : ∀ {v : List AV} {x y : List Value}, AV.dets v = true → RVL C g v x → RVL C g v y → x = y
  | [], _, _, _, .nil, .nil => rfl
  | p :: ps, _, _, hp, .cons h1 t1, .cons h2 t2 => by
    simp only [AV.dets, Bool.and_eq_true] at hp
    rw [RV_det hp.1 h1 h2, RVL_det hp.2 t1 t2]
end

/-- the worlds in which what stands still is as it was -/
def SC (C : Mem) : World → Prop := fun w' => ∀ ad v, C ad = some v → w'.cell? ad = some v

theorem deads_rel {mem : List Blk} (hl : mem.length = g.length) {w' : World} (hs : SC C w') : Rel { S := fun _ => False, Y := fun _ => False, G := [], ds := [] } w' C C g (deads mem) w' := by
  have hd : ∀ (b : Nat) (m : Blk), (deads mem)[b]? = some m → m = .dead := by
    intro b m hm
    unfold deads at hm
    rw [mrep_eq] at hm
    exact (List.mem_replicate.1 (List.mem_of_getElem? hm)).2
  refine ⟨Keeps.refl _ _, fun _ h => h.elim, hs, Mem.le_refl _, fun _ _ => rfl, by unfold deads; rw [mrep_eq, mlen_eq]; simpa using hl, fun b x h => by simp at h, ?_, ?_⟩
  · intro b m h hm _
    rw [hd b m hm]
    exact .dead
  · intro b b' m m' h h' k hm _ _ _ hk _
    rw [hd b m hm] at hk
    cases h <;> cases hk

/-- what hangs on no world -/
theorem freeOp_run {E : Env} {o : Oper} {v : AV} {ok : Bool} (ht : RVL C g st.tmps a.tmps.toList) (hk : (match o.op with | .slice _ _ _ _ _ | .fieldAddr _ _ _ | .field _ _ _ | .index _ _ _ | .indexAddr _ _ _ | .extract _ _ | .makeFunc _ _ _ | .build _ _ | .makeInterface _ _ => true | _ => false) = true) (h : pureOp E st o = some (ok, v)) (hok : ok = true) :
    ∃ z, RV C g v z ∧ ∀ w' : World, (execOp a.eval o).run E.P w' = .ok (.value z) w' := by
  obtain ⟨dst, op, ty, pos, after, guard⟩ := o
  unfold pureOp at h
  cases op with
  | build t parts =>
    cases he : evalParts st parts.toList with
    | none => simp [he] at h
    | some ps =>
      simp only [he] at h
      obtain ⟨z, hz, hr⟩ := build_run ht he h
      refine ⟨z, hz, fun w' => ?_⟩
      have : (parts.map fun (p : Nat × Operand) => (p.1, a.eval p.2)) = (parts.toList.map fun p => (p.1, a.eval p.2)).toArray := toList_map _ _
      simp only [execOp]
      rw [show (Array.map (fun x : Nat × Operand => match x with | (i, x) => (i, a.eval x)) parts) = parts.map fun (p : Nat × Operand) => (p.1, a.eval p.2) from rfl, this]
      simp only [Sem.run_bind, hr, Result.andThen_ok, Sem.run_pure]
  | makeFunc f first captured =>
    cases h1 : evalAll st first.toList with
    | none => simp [h1] at h
    | some fs =>
      cases h2 : evalAll st captured.toList with
      | none => simp [h1, h2] at h
      | some ks =>
        simp only [h1, h2, Option.some.injEq, Prod.mk.injEq] at h
        refine ⟨.func f (first.map a.eval) (captured.map a.eval), ?_, fun w' => by simp [execOp, Instr.makeFunc]⟩
        rw [← h.2, toList_map first, toList_map captured]
        exact .one (.fn (evalAll_RV ht h1) (evalAll_RV ht h2)) (by simp) (by simp)
  | slice t x lo hi mx =>
    cases hx : evalOp st x with
    | none => simp [hx] at h
    | some vx =>
      simp only [hx] at h
      obtain ⟨z, hz, hr⟩ := sliceAV_run ht (evalOp_RV ht hx) h hok
      exact ⟨z, hz, fun w' => by simp only [execOp, Sem.run_bind, hr, Result.andThen_ok, Sem.run_pure]⟩
  | fieldAddr s x f =>
    cases hx : evalOp st x with
    | none => simp [hx] at h
    | some vx =>
      simp only [hx] at h
      obtain ⟨z, hz, hr⟩ := fieldAddr_run (evalOp_RV ht hx) h
      exact ⟨z, hz, fun w' => by simp only [execOp, Sem.run_bind, hr, Result.andThen_ok, Sem.run_pure]⟩
  | field s x f =>
    cases hx : evalOp st x with
    | none => simp [hx] at h
    | some vx =>
      cases hf : fieldOff E.P s f with
      | none => simp [hx, hf] at h
      | some p =>
        obtain ⟨o, t⟩ := p
        cases vx with
        | agg ps =>
          simp only [hx, hf] at h
          obtain ⟨h1, h2⟩ := cond_some h
          simp only [Option.map_eq_some_iff, Prod.mk.injEq] at h2
          obtain ⟨u, hu, _, rfl⟩ := h2
          obtain ⟨fs, fd, hun, hfi, ho, hty⟩ := fieldOff_spec hf
          have hxv := evalOp_RV ht hx
          obtain ⟨⟨d, hd⟩, hone⟩ := okT_under h1
          obtain ⟨cs, hxe, hrc⟩ := RV_agg hxv
          obtain ⟨pre, mid, post, rfl, hp, hm, hs, hc⟩ := at_spec _ hrc hu
          have hl : mid.length = E.P.cellsOf t := by rw [RC_size hm, hs]; rfl
          have hvf : ∃ z, RV C g u z ∧ VF E.P t mid z := by
            by_cases h0 : clsT E.P t = 0
            · obtain ⟨z, rfl, hz⟩ := RC_RV0 hm (hc.trans h0) (by rw [hl]; exact hone h0)
              exact ⟨z, hz, .inl ⟨h0, rfl⟩⟩
            · have h12 : u.cls = 1 ∨ u.cls = 2 := by
                rw [hc]
                unfold clsT at h0 ⊢
                split <;> simp_all
              exact ⟨_, RC_RV1 hm h12, .inr ⟨h0, rfl⟩⟩
          obtain ⟨z, hz, hvf⟩ := hvf
          refine ⟨z, hz, fun w' => ?_⟩
          have hpart := part_run (P := E.P) (t := t) (d := d) (pre := pre) (mid := mid) (post := post) (off := o) hd hp.symm hl hvf w' (info_of_under hd)
          simp only [execOp, Instr.field, Sem.run_bind, run_underlying hun, Result.andThen_ok, hfi, hxe, asAgg, Sem.run_pure, hty, ho, hpart]
        | _ => simp [hx, hf] at h
  | indexAddr t x i =>
    cases hx : evalOp st x with
    | none => simp [hx] at h
    | some vx =>
      cases hi : evalOp st i with
      | none => simp [hx, hi] at h
      | some vi =>
        simp only [hx, hi] at h
        obtain ⟨z, hz, hr⟩ := indexAddr_run (evalOp_RV ht hx) (evalOp_RV ht hi) h hok
        exact ⟨z, hz, fun w' => by simp only [execOp, Sem.run_bind, hr, Result.andThen_ok, Sem.run_pure]⟩
  | index t x i =>
    cases hx : evalOp st x with
    | none => simp [hx] at h
    | some vx =>
      cases hi : evalOp st i with
      | none => simp [hx, hi] at h
      | some vi =>
        simp only [hx, hi] at h
        obtain ⟨z, hz, hr⟩ := indexAV_run (evalOp_RV ht hx) (evalOp_RV ht hi) h hok
        exact ⟨z, hz, fun w' => by simp only [execOp, Sem.run_bind, hr, Result.andThen_ok, Sem.run_pure]⟩
  | extract t i =>
    cases hx : evalOp st t with
    | none => simp [hx] at h
    | some vx =>
      cases vx with
      | tup vs =>
        simp only [hx, Option.map_eq_some_iff, Prod.mk.injEq] at h
        obtain ⟨u, hu, _, rfl⟩ := h
        obtain ⟨ws, hxe, hrl⟩ := RV_tup (evalOp_RV ht hx)
        obtain ⟨z, hz, hr⟩ := RVL_at hrl hu
        exact ⟨z, hr, fun w' => by simp [execOp, Instr.extract, hxe, hz]⟩
      | _ => simp [hx] at h
  | makeInterface t x =>
    cases hx : evalOp st x with
    | none => simp [hx] at h
    | some v' =>
      simp only [hx] at h
      obtain ⟨h1, h2⟩ := cond_some h
      simp only [Bool.and_eq_true] at h1
      simp only [Option.some.injEq, Prod.mk.injEq] at h2
      refine ⟨_, by rw [← h2.2]; exact iface_RV (evalOp_RV ht hx), fun w' => ?_⟩
      simp only [execOp, Sem.run_bind, iface_run h1.1, Result.andThen_ok, Sem.run_pure]
  | _ => cases hk
/-- a load of what stands still -/
theorem cptrLoad_run {E : Env} {o : Oper} {v : AV} {ok : Bool} (ht : RVL C g st.tmps a.tmps.toList) (hk : cptrLoad st o = true) (h : pureOp E st o = some (ok, v)) (_hok : ok = true) :
    ∃ z, RV C g v z ∧ ∀ w' : World, (∀ ad v, C ad = some v → w'.cell? ad = some v) → (execOp a.eval o).run E.P w' = .ok (.value z) w' := by
  obtain ⟨dst, op, ty, pos, after, guard⟩ := o
  unfold pureOp at h
  cases op with
  | load t p =>
    cases hp : evalOp st p with
    | none => simp [hp] at h
    | some vp =>
      have hpv := evalOp_RV ht hp
      cases vp with
      | cptr u =>
        simp only [hp] at h
        obtain ⟨h1, h2⟩ := cond_some h
        simp only [Bool.and_eq_true, beq_iff_eq] at h1
        simp only [Option.some.injEq, Prod.mk.injEq] at h2
        obtain ⟨ad, cs, hx, hrc, hat⟩ := RV_cptr hpv
        obtain ⟨z, hz, hr⟩ := loadVar_run (P := E.P) h1.2 hrc h1.1.2 (by rw [RC_size hrc, h1.1.1]; rfl)
        refine ⟨z, by rw [← h2.2]; exact hz, fun w' hw => ?_⟩
        have := hr ad w' (At_lives hw (Below.refl _ _) hat)
        simp [execOp, Instr.loadAt, hx, Instr.sureAddr, this]
      | _ => simp [cptrLoad, hp] at hk
  | _ => simp [cptrLoad] at hk

theorem quietW_val {E : Env} {o : Oper} {ρ : Type} {K : St → Option ρ} {r : ρ} (h : SR X w0 C0 fs C g st a w) (e : quietW E o st K = some r) :
    ∃ z, (∀ w', SC C w' → (execOp a.eval o).run E.P w' = .ok (.value z) w') ∧ ∃ v, RV C g v z ∧ K (st.put o.dst v) = some r := by
  have pureCase : (match pureOp E { st with mem := deads st.mem } o with
      | some (ok, v) => cond ok (cond v.det (K (st.put o.dst v)) none) none
      | none => none) = some r → ∃ z, (∀ w', SC C w' → (execOp a.eval o).run E.P w' = .ok (.value z) w') ∧ ∃ v, RV C g v z ∧ K (st.put o.dst v) = some r := by
    intro e
    split at e
    · rename_i ok v hp
      obtain ⟨h1, e2⟩ := cond_some e
      obtain ⟨hd, e3⟩ := cond_some e2
      have hall : ∀ w', SC C w' → ∃ z, RV C g v z ∧ (execOp a.eval o).run E.P w' = .ok (.value z) w' := by
        intro w' hw'
        obtain ⟨z, hz, hr⟩ := pureOp_run (st := { st with mem := deads st.mem }) (deads_rel h.rel.len hw') h.tm hp h1
        exact ⟨z, hz, hr w' (Below.refl _ _)⟩
      obtain ⟨z, hz, _⟩ := hall w h.rel.sub
      refine ⟨z, fun w' hw' => ?_, v, hz, e3⟩
      obtain ⟨z', hz', hr⟩ := hall w' hw'
      rw [RV_det hd hz hz']
      exact hr
    · cases e
  have freeCase : (match o.op with | .slice _ _ _ _ _ | .fieldAddr _ _ _ | .field _ _ _ | .index _ _ _ | .indexAddr _ _ _ | .extract _ _ | .makeFunc _ _ _ | .build _ _ | .makeInterface _ _ => true | _ => false) = true → (match pureOp E st o with
      | some (ok, v) => cond ok (K (st.put o.dst v)) none
      | none => none) = some r → ∃ z, (∀ w', SC C w' → (execOp a.eval o).run E.P w' = .ok (.value z) w') ∧ ∃ v, RV C g v z ∧ K (st.put o.dst v) = some r := by
    intro hk e
    split at e
    · rename_i ok v hp
      obtain ⟨h1, e2⟩ := cond_some e
      obtain ⟨z, hz, hr⟩ := freeOp_run h.tm hk hp h1
      exact ⟨z, fun w' _ => hr w', v, hz, e2⟩
    · cases e
  have cptrCase : cptrLoad st o = true → (match pureOp E st o with
      | some (ok, v) => cond ok (K (st.put o.dst v)) none
      | none => none) = some r → ∃ z, (∀ w', SC C w' → (execOp a.eval o).run E.P w' = .ok (.value z) w') ∧ ∃ v, RV C g v z ∧ K (st.put o.dst v) = some r := by
    intro hk e
    split at e
    · rename_i ok v hp
      obtain ⟨h1, e2⟩ := cond_some e
      obtain ⟨z, hz, hr⟩ := cptrLoad_run h.tm hk hp h1
      exact ⟨z, fun w' hw => hr w' hw, v, hz, e2⟩
    · cases e
  obtain ⟨dst, op, ty, pos, after, guard⟩ := o
  cases op with
  | slice _ _ _ _ _ => exact freeCase rfl e
  | fieldAddr _ _ _ => exact freeCase rfl e
  | field _ _ _ => exact freeCase rfl e
  | index _ _ _ => exact freeCase rfl e
  | indexAddr _ _ _ => exact freeCase rfl e
  | extract _ _ => exact freeCase rfl e
  | makeFunc _ _ _ => exact freeCase rfl e
  | build _ _ => exact freeCase rfl e
  | makeInterface _ _ => exact freeCase rfl e
  | load t p =>
    simp only [quietW] at e
    obtain ⟨h1, e2⟩ := cond_some e
    exact cptrCase h1 e2
  | move x =>
    simp only [quietW] at e
    cases hx : evalOp st x with
    | none => simp [hx] at e
    | some v =>
      simp only [hx] at e
      exact ⟨a.eval x, fun w' _ => by simp [execOp], v, evalOp_RV h.tm hx, e⟩
  | assign x =>
    simp only [quietW] at e
    cases hx : evalOp st x with
    | none => simp [hx] at e
    | some v =>
      simp only [hx] at e
      exact ⟨a.eval x, fun w' _ => by simp [execOp], v, evalOp_RV h.tm hx, e⟩
  | _ => exact pureCase e

theorem wpAnyH_mono {P : Program} {ops : Array Oper} {Q : Exit → Act → World → Prop} {md : Region.Mode} {S S' : World → Prop} (hS : ∀ w, S' w → S w) : ∀ (fuel : Nat) (listed : Array Bool) (a : Act) (w : World), wpAnyH P md ops Q S' fuel listed a w → wpAnyH P md ops Q S fuel listed a w
  | 0, _, _, _, h => h
  | fuel + 1, _, _, _, h => ⟨h.1, fun i hi => wpOp_mono (fun a' w' h' => ⟨hS _ h'.1, wpAnyH_mono hS fuel _ a' w' h'.2⟩) (h.2 i hi)⟩

theorem Rel.rebase {C' : Mem} {g' : Ghs} {mem mem' : List Blk} {w' : World} (h : Rel X w0 C0 C g mem w) (h' : Rel X w0 C C' g' mem' w') : Rel X w0 C0 C' g' mem' w' :=
  ⟨h'.below, h'.low, h'.sub, Mem.le_trans h.base h'.base, fun a ha => by rw [h'.old a ha, h.old a ha], h'.len, h'.keep, h'.blk, h'.sep⟩
theorem SR.base (h : SR X w0 C0 fs C g st a w) : SR X w0 C fs C g st a w :=
  ⟨⟨h.rel.below, h.rel.low, h.rel.sub, Mem.le_refl _, fun _ _ => rfl, h.rel.len, h.rel.keep, h.rel.blk, h.rel.sep⟩, h.tm, h.out, h.df⟩

theorem firstQuiet_mem {ops : Array Oper} {listed : Array Bool} : ∀ {l : List Nat} {q : Nat}, firstQuiet ops listed l = some q → q ∈ l ∧ Region.free .any ops listed q = true
  | [], _, h => by simp [firstQuiet] at h
  | i :: l, q, h => by
    simp only [firstQuiet] at h
    split at h
    · rename_i o ho
      cases hc : (quietKind o && Region.free .any ops listed i) with
      | true =>
        rw [hc, cond_true, Option.some.injEq] at h
        subst h
        exact ⟨by simp, (Bool.and_eq_true _ _ ▸ hc : _ ∧ _).2⟩
      | false =>
        rw [hc, cond_false] at h
        obtain ⟨h1, h2⟩ := firstQuiet_mem h
        exact ⟨by simp [h1], h2⟩
    · obtain ⟨h1, h2⟩ := firstQuiet_mem h
      exact ⟨by simp [h1], h2⟩

/-- a guard: it is wanted, in a state that knows it; or it is not, and is skipped -/
theorem guarded_cases {ops : Array Oper} {o : Oper} {ρ : Type} {K f : St → Option ρ} {r : ρ} (h : SR X w0 C0 fs C g st a w) (e : guarded ops.toList o st K f = some r) :
    (Region.wanted o (yielded ops a.tmps) = true ∧ ∃ st', SR X w0 C0 fs C g st' a w ∧ f st' = some r) ∨ (Region.wanted o (yielded ops a.tmps) = false ∧ ∃ st', SR X w0 C0 fs C g st' a w ∧ K (st'.put o.dst (.tup [])) = some r) := by
  unfold guarded at e
  cases hg : o.guard with
  | none =>
    simp only [hg] at e
    exact .inl ⟨by simp [Region.wanted, hg], st, h, e⟩
  | some p =>
    obtain ⟨j, want⟩ := p
    simp only [hg] at e
    cases hs : guardSlot ops.toList j with
    | none => simp [hs] at e
    | some s =>
      simp only [hs] at e
      cases hm : mget st.tmps s with
      | none => simp [hm] at e
      | some v =>
        cases v with
        | bool b =>
          simp only [hm] at e
          have hw := wanted_of h hg hs hm
          cases hb : biff b want with
          | true =>
            rw [hb] at e hw
            exact .inl ⟨hw, _, h.refine hm (biff_true hb), e⟩
          | false =>
            rw [hb] at e hw
            exact .inr ⟨hw, _, h.refine hm (biff_false hb), e⟩
        | tup l =>
          cases l with
          | nil =>
            simp only [hm] at e
            exact .inr ⟨wanted_undef h hg hs hm, st, h, e⟩
          | cons _ _ => simp [hm] at e
        | _ => simp [hm] at e

end
end Am
end Go.Proofs.Ytkjpoongkdapoaa
