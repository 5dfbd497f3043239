/-
  A symbolic machine over the model, part 15c: regions of loads and stores that go in any order.
-/
import Derived.Test.YtkjpoongkdapoaaBm16
namespace Go.Proofs.Ytkjpoongkdapoaa
namespace Am
open Go Go.RowKit
set_option linter.unusedVariables false
set_option linter.unusedSimpArgs false

section
variable {X : Ctx} {w0 w : World} {C0 C : Mem} {fs : List (List Value)} {g : Ghs} {st : St} {a : Act}

theorem cell_same {w w' : World} {a : Addr} (h : w'.heap[a.block]? = w.heap[a.block]?) : w'.cell? a = w.cell? a := by
  unfold World.cell?
  rw [h]

/-- what lies there, as long as that block, or what stands still, is as it was -/
theorem held_of (hrel : Rel X w0 C0 C g st.mem w) {b off n c k : Nat} {u : AV} (h : memAt st b off n c = some u) (hk : Ghs.box g b = some k) :
    ∃ mid, RC C g u mid ∧ mid.length = n ∧ u.cls = c ∧ ∀ w' : World, SC C w' → ((∃ v, st.mem[b]? = some (.box v)) → w'.heap[k]? = w.heap[k]?) → ∀ (j : Nat) (v : Value), mid[j]? = some v → w'.cell? ⟨k, off + j, none⟩ = some v := by
  have h0 := h
  have hk0 := hk
  unfold memAt at h
  rw [mget_eq] at h
  unfold Ghs.box at hk
  split at hk
  · rename_i k' T hg
    simp only [Option.some.injEq] at hk
    subst hk
    split at h
    · rename_i v hm
      obtain ⟨mid, h1, h2, h3, h4⟩ := box_of hrel h0 hk0
      exact ⟨mid, h1, h2, h3, fun w' hs hh j x hj => (cell_same (a := ⟨k', off + j, none⟩) (hh ⟨v, hm⟩)).trans (h4 w (Below.refl _ _) j x hj)⟩
    · rename_i v hm
      cases hrel.blk b _ _ hm hg with
      | fro ha hv =>
        obtain ⟨pre, mid, post, rfl, hp, hu, hs, hcl⟩ := at_spec _ hv h
        refine ⟨mid, hu, by rw [RC_size hu, hs], hcl, fun w' hsc _ j v hj => hsc _ _ ?_⟩
        have hlt : j < mid.length := by
          rcases Nat.lt_or_ge j mid.length with h | h
          · exact h
          · rw [List.getElem?_eq_none h] at hj; cases hj
        have := ha.2 (pre.length + j) v (by rw [List.append_assoc, List.getElem?_append_right (by omega), List.getElem?_append_left (by omega)]; simpa using hj)
        simpa [hp] using this
    · cases h
  · cases hk

/-- the blocks that are known, and where they lie -/
def lives (mem : List Blk) (g : Ghs) : Nat → Nat → Prop := fun b k => ∃ m x, mem[b]? = some m ∧ g[b]? = some x ∧ x.fixed = true ∧ liveOf m x = some k
theorem lives_lt {mem : List Blk} {X : Ctx} {w0 w : World} {C0 C : Mem} {g : Ghs} (hrel : Rel X w0 C0 C g mem w) {b k : Nat} (h : lives mem g b k) : k < w.heap.size := by
  obtain ⟨m, x, h1, h2, _, h4⟩ := h
  exact (live_lt (hrel.blk b m x h1 h2) h4).2
theorem load_held {E : Env} {o : Oper} {ops : Array Oper} {T : List Tch} {listed : Array Bool} {i : Nat} {v : AV} {ok : Bool} (hrel : Rel X w0 C0 C g st.mem w) (ht : RVL C g st.tmps a.tmps.toList) (hB : heldLoad ops T listed i st o = true) (h : pureOp E st o = some (ok, v)) (hok : ok = true) :
    ∃ b k z, noHit ops T listed i b ops.size = true ∧ RV C g v z ∧ ∀ w' : World, SC C w' → (lives st.mem g b k → w'.heap[k]? = w.heap[k]?) → (execOp a.eval o).run E.P w' = .ok (.value z) w' := by
  obtain ⟨dst, op, ty, pos, after, guard⟩ := o
  cases op with
  | load t p =>
    simp only [heldLoad] at hB
    unfold pureOp at h
    cases hp : evalOp st p with
    | none => simp [hp] at h
    | some vp =>
      have hpv := evalOp_RV ht hp
      cases vp with
      | loc b off =>
        simp only [hp] at h hB
        obtain ⟨h1, h2⟩ := cond_some h
        simp only [Option.map_eq_some_iff, Prod.mk.injEq] at h2
        obtain ⟨u, hu, _, rfl⟩ := h2
        obtain ⟨k, hk, hx⟩ := RV_loc hpv
        obtain ⟨mid, hm, hl, hc, hcell⟩ := held_of hrel hu hk
        obtain ⟨z, hz, hr⟩ := loadVar_run (P := E.P) h1 hm hc hl
        refine ⟨b, k, z, hB, hz, fun w' hs hw => ?_⟩
        have hlv : (∃ v, st.mem[b]? = some (.box v)) → lives st.mem g b k := by
          rintro ⟨q, hq⟩
          unfold Ghs.box at hk
          split at hk
          · rename_i k' ty hg
            simp only [Option.some.injEq] at hk
            subst hk
            exact ⟨_, _, hq, hg, rfl, rfl⟩
          · cases hk
        have := hr ⟨k, off, none⟩ w' (fun j v hj => by rw [Addr.add_lit]; exact hcell w' hs (fun hq => hw (hlv hq)) j v hj)
        simp [execOp, Instr.loadAt, hx, Instr.sureAddr, this]
      | _ => simp [hp] at hB
  | lookup t m k cok =>
    simp only [heldLoad] at hB
    unfold pureOp at h
    cases hm : evalOp st m with
    | none => simp [hm] at h
    | some vm =>
      cases hk : evalOp st k with
      | none => cases vm <;> simp [hm, hk] at h
      | some vk =>
        have hmv := evalOp_RV ht hm
        have hkv := evalOp_RV ht hk
        simp only [hm, hk] at h hB
        split at h
        · rename_i b n e1 e2
          simp only [Option.some.injEq] at e1 e2
          subst e1; subst e2
          simp only at hB
          split at h
          · rename_i ty' kv hmm
            obtain ⟨h1, h2⟩ := cond_some h
            simp only [Option.some.injEq, Prod.mk.injEq] at h2
            obtain ⟨kk, hx, hg⟩ := RV_mref hmv
            have hy := RV_int1 hkv
            rw [mget_eq] at hmm
            cases hrel.blk b _ _ hmm hg with
            | mp hns hb he _ =>
              obtain ⟨z, hz, hr⟩ := lookup_run (P := E.P) (g := g) (n := n) (k := kk) h1 he cok
              refine ⟨b, kk, z, hB, by rw [← h2.2]; exact hz, fun w' hs hw => ?_⟩
              have := hr w' (by rw [hw ⟨_, _, hmm, hg, rfl, rfl⟩]; exact hb)
              simp only [execOp, hx, hy, Sem.run_bind, this, Result.andThen_ok, Sem.run_pure]
          · cases h
        · cases h
  | _ => simp [heldLoad] at hB

theorem put_mem (st : St) (d : Option Tmp) (v : AV) : (st.put d v).mem = st.mem := by cases d <;> rfl
theorem guarded_mem {ops : Array Oper} {o : Oper} {ρ : Type} {K f : St → Option ρ} {r : ρ} {R : Prop} (h : SR X w0 C0 fs C g st a w) (e : guarded ops.toList o st K f = some r)
    (hf : ∀ st', SR X w0 C0 fs C g st' a w → st'.mem = st.mem → Region.wanted o (yielded ops a.tmps) = true → f st' = some r → R)
    (hk : ∀ st', SR X w0 C0 fs C g st' a w → st'.mem = st.mem → Region.wanted o (yielded ops a.tmps) = false → K (st'.put o.dst (.tup [])) = some r → R) : R := by
  unfold guarded at e
  cases hg : o.guard with
  | none =>
    simp only [hg] at e
    exact hf st h rfl (by simp [Region.wanted, hg]) e
  | some p =>
    obtain ⟨j, want⟩ := p
    simp only [hg] at e
    cases hs : guardSlot ops.toList j with
    | none => simp [hs] at e
    | some s =>
      simp only [hs] at e
      cases hm : mget st.tmps s with
      | none => simp [hm] at e
      | some v =>
        cases v with
        | bool b =>
          simp only [hm] at e
          have hw := wanted_of h hg hs hm
          cases hb : biff b want with
          | true =>
            rw [hb] at e hw
            exact hf _ (h.refine hm (biff_true hb)) (put_mem _ _ _) hw e
          | false =>
            rw [hb] at e hw
            exact hk _ (h.refine hm (biff_false hb)) (put_mem _ _ _) hw e
        | tup l =>
          cases l with
          | nil =>
            simp only [hm] at e
            exact hk st h rfl (wanted_undef h hg hs hm) e
          | cons _ _ => simp [hm] at e
        | _ => simp [hm] at e

theorem hit_ne {t : Tch} {b : Nat} (h : hits t b = true) : ∀ b', hits t b' = false → b' ≠ b := by
  rintro b' h' rfl
  rw [h] at h'
  cases h'

theorem store_step {E : Env} {ρ : Type} [Pan ρ] {call : CallT ρ} {o : Oper} {t : Tch} {K : St → Option ρ} {r : ρ} (h : SR X w0 C0 fs C g st a w) (hB : storeOff t st o = true) (e : doOp E call o st K = some r) {Q : Exit → Act → World → Prop} {next : Act → World → Prop}
    (hn : ∀ (st' : St) (a' : Act) (w' : World) (b k : Nat), SR X w0 C0 fs C g st' a' w' → K st' = some r → (∀ b', hits t b' = false → b' ≠ b) → (∃ u, st.mem[b]? = some (.box u)) → (∃ u, st'.mem[b]? = some (.box u)) → Ghs.box g b = some k → (∀ b', b' ≠ b → st'.mem[b']? = st.mem[b']?) → (∀ k', k' ≠ k → w'.heap[k']? = w.heap[k']?) → next a' w') : o.wp E.P a w next Q := by
  obtain ⟨dst, op, ty, pos, after, guard⟩ := o
  cases op with
  | store ty' p x =>
    unfold doOp at e
    simp only [storeOff] at hB
    cases hp : evalOp st p with
    | none => simp [hp] at e
    | some vp =>
      have hpv := evalOp_RV h.tm hp
      cases hx : evalOp st x with
      | none => cases vp <;> simp [hp, hx] at e
      | some v =>
        have hxv := evalOp_RV h.tm hx
        cases vp with
        | loc b off =>
          simp only [hp, hx] at e hB
          cases hm : mget st.mem b with
          | none => simp [hm] at e
          | some m =>
            cases m with
            | box u =>
              simp only [hm] at e
              obtain ⟨h1, h2⟩ := cond_some e
              simp only [Bool.and_eq_true, beq_iff_eq] at h1
              cases hu : u.put off v.size v.cls v with
              | none => simp [hu] at h2
              | some u' =>
                simp only [hu] at h2
                have hrc := RV_solid hxv h1.1.2
                have hl := RC_size hrc
                obtain ⟨k, hk, hpe⟩ := RV_loc hpv
                rw [mget_eq] at hm
                obtain ⟨T, cs, hheap, hcs, _⟩ := h.rel.store hm hk hrc
                obtain ⟨pre, mid, post, rfl, hpl, hml, hu'⟩ := put_spec u hcs hu hrc hl
                have hrun := store_run (P := E.P) (t := ty') (y := a.eval x) h1.2 (by rw [← Array.length_toList, hl, h1.1.1]; rfl) hheap hpl (by rw [hml, ← hl]; simp) (RC_one hrc)
                have hs := h.set (by rw [mget_eq]; exact hm) hk hu'
                refine wp_skip' (w' := w.setRow k (pre ++ (a.eval x).cells.toList ++ post).toArray) ?_ (hn _ _ _ b k (hs.put (.any undef) dst) h2 (hit_ne hB) ⟨u, hm⟩ ⟨u', by rw [put_mem]; simp only [mset_eq]; exact List.getElem?_set_self (lt_of_getElem? hm)⟩ hk (fun b' hb => ?_) (fun k' hk' => ?_))
                · simp only [execOp, hpe, Sem.run_bind, hrun, Result.andThen_ok, Sem.run_pure]
                · cases dst <;> simp [St.put, mset_eq, List.getElem?_set_ne (Ne.symm hb)]
                · exact setRow_other w k k' _ hk'
            | _ => simp [hm] at e
        | _ => simp [hp] at hB
  | _ => simp [storeOff] at hB

/-- whatever order is picked, whatever new memory comes up beside, and each operation does no more than is said of it -/
def wpAnyG (P : Program) (ops : Array Oper) (Q : Exit → Act → World → Prop) (R : Nat → World → World → Prop) : Nat → Array Bool → Act → World → Prop
  | 0, listed, a, w => ∀ w1, Below w.heap.size w w1 → Region.ready .any ops listed = [] ∧ Q .normal a w1
  | n + 1, listed, a, w => ∀ w1, Below w.heap.size w w1 → (Region.ready .any ops listed = [] → Q .normal a w1) ∧
    ∀ i ∈ Region.ready .any ops listed, wpOp P ops Q i (fun a' w' => R i w1 w' ∧ wpAnyG P ops Q R n (listed.setIfInBounds i true) a' w') a w1

theorem wpAnyG.grow {P : Program} {ops : Array Oper} {Q : Exit → Act → World → Prop} {R : Nat → World → World → Prop} {w w1 : World} (hw : Below w.heap.size w w1) : ∀ {n : Nat} {listed : Array Bool} {a : Act}, wpAnyG P ops Q R n listed a w → wpAnyG P ops Q R n listed a w1
  | 0, _, _, h => fun w2 h2 => h w2 (hw.trans (h2.mono hw.size))
  | _ + 1, _, _, h => fun w2 h2 => h w2 (hw.trans (h2.mono hw.size))
theorem wpAny_of_G {P : Program} {ops : Array Oper} {Q : Exit → Act → World → Prop} {R : Nat → World → World → Prop} : ∀ (n : Nat) (listed : Array Bool) (a : Act) (w : World), wpAnyG P ops Q R n listed a w → wpAny P .any ops Q n listed a w
  | 0, _, _, w, h => h w (Below.refl _ _)
  | n + 1, _, _, w, h => ⟨(h w (Below.refl _ _)).1, fun i hi => wpOp_mono (fun a' w' h' => wpAny_of_G n _ a' w' h'.2) ((h w (Below.refl _ _)).2 i hi)⟩
theorem wpAnyG.mono {P : Program} {ops : Array Oper} {Q : Exit → Act → World → Prop} {R R' : Nat → World → World → Prop} (hR : ∀ i w w', R' i w w' → R i w w') : ∀ {n : Nat} {listed : Array Bool} {a : Act} {w : World}, wpAnyG P ops Q R' n listed a w → wpAnyG P ops Q R n listed a w
  | 0, _, _, _, h => h
  | n + 1, _, _, _, h => fun w1 h1 => ⟨(h w1 h1).1, fun i hi => wpOp_mono (fun a' w' h' => ⟨hR _ _ _ h'.1, wpAnyG.mono hR h'.2⟩) ((h w1 h1).2 i hi)⟩

/-- in every world of a kind an operation yields this, and leaves what is there alone -/
def YieldsG (P : Program) (ops : Array Oper) (Inv : World → Prop) (o : Oper) (v : Value) (a : Act) : Prop :=
  (Region.wanted o (yielded ops a.tmps) = true ∧ ∀ w, Inv w → o.quietAt P a (fun w' => Below w.heap.size w w') w v) ∨ (Region.wanted o (yielded ops a.tmps) = false ∧ v = undef)
theorem YieldsG.of_same {P : Program} {ops : Array Oper} {Inv : World → Prop} {o : Oper} {v : Value} {a a' : Act} (hy : YieldsG P ops Inv o v a) (he : execOp a'.eval o = execOp a.eval o)
    (hw : Region.wanted o (yielded ops a'.tmps) = Region.wanted o (yielded ops a.tmps)) : YieldsG P ops Inv o v a' := by
  unfold YieldsG Oper.quietAt at *
  rw [he, hw]
  exact hy
theorem YieldsG.wpOp {P : Program} {ops : Array Oper} {Inv : World → Prop} {Q : Exit → Act → World → Prop} {i : Nat} {o : Oper} {v : Value} {a : Act} (hi : ops[i]? = some o) (hy : YieldsG P ops Inv o v a)
    {K : Act → World → Prop} {w : World} (hS : Inv w) (h : ∀ w', Below w.heap.size w w' → K (a.put o.dst v) w') : wpOp P ops Q i K a w := by
  unfold Go.wpOp
  simp only [hi]
  rcases hy with ⟨hw, hv⟩ | ⟨hw, rfl⟩
  · simp only [hw, if_true]
    refine .inl ?_
    have h3 := hv w hS
    unfold Oper.quietAt at h3
    unfold Oper.wp
    generalize (execOp a.eval o).run P w = r at h3
    match r, h3 with
    | .ok (.value u) w', h3 =>
      simp only [Oper.quietUpon] at h3
      obtain ⟨rfl, rfl⟩ := h3
      exact h _ (Below.refl _ _)
    | .ok .skip w', h3 =>
      simp only [Oper.quietUpon] at h3
      obtain ⟨rfl, rfl⟩ := h3
      exact h _ (Below.refl _ _)
    | .ok (.enter f args) w', h3 =>
      simp only [Oper.quietUpon] at h3
      obtain ⟨rfl, hc⟩ := h3
      simp only [Oper.upon]
      refine hc.mono ?_
      rintro e w2 ⟨rfl, hb⟩
      exact h _ hb
  · simp only [hw, Bool.false_eq_true, if_false]
    exact h _ (Below.refl _ _)

/-- an operation apart from another one leaves be what that one yields -/
theorem wpOp_putG {P : Program} {ops : Array Oper} {Inv : World → Prop} {Q : Exit → Act → World → Prop} {j : Nat} {oi oj : Oper} {v : Value} (hj : ops[j]? = some oj) (hap : oi.apart ops oj = true)
    (hsi : ∀ cs b, oi.op ≠ .select cs b) (hsj : ∀ cs b, oj.op ≠ .select cs b) (hQ : ∀ c a w, Q (.panic c) (a.put oi.dst v) w → Q (.panic c) a w) {K : Act → World → Prop} {a : Act} {w : World}
    (hy : YieldsG P ops Inv oi v a) (h : wpOp P ops Q j K (a.put oi.dst v) w) : wpOp P ops Q j (fun a' w' => YieldsG P ops Inv oi v a' ∧ K (a'.put oi.dst v) w') a w := by
  obtain ⟨h1, h2, h3⟩ := Oper.apart_spec hap
  have stay : ∀ (b : Act), YieldsG P ops Inv oi v b → ∀ u, YieldsG P ops Inv oi v (b.put oj.dst u) := fun b hb u => hb.of_same (execOp_put oi hsi b oj.dst u h3) (wanted_put oi b oj.dst u h3)
  have next : ∀ {u : Value} {w' : World}, K ((a.put oi.dst v).put oj.dst u) w' → YieldsG P ops Inv oi v (a.put oj.dst u) ∧ K ((a.put oj.dst u).put oi.dst v) w' := fun {u w'} hk => ⟨stay a hy u, by rw [← Act.put_comm a v u h2]; exact hk⟩
  unfold wpOp at h ⊢
  simp only [hj] at h ⊢
  rw [wanted_put oj a oi.dst v h1] at h
  cases hw : Region.wanted oj (yielded ops a.tmps) with
  | false =>
    simp only [hw, Bool.false_eq_true, if_false] at h ⊢
    exact next h
  | true =>
    simp only [hw, if_true] at h ⊢
    rcases h with h | ⟨ha, hl⟩
    · refine .inl ?_
      unfold Oper.wp at h ⊢
      rw [execOp_put oj hsj a oi.dst v h1] at h
      generalize (execOp a.eval oj).run P w = r at h
      match r, h with
      | .ok (.value u) w', h => exact next h
      | .ok .skip w', h => exact next h
      | .ok (.defer d) w', h =>
        simp only [Oper.upon] at h ⊢
        refine ⟨stay { a with defers := d :: a.defers } (hy.of_same rfl rfl) _, ?_⟩
        rw [← Act.put_comm _ v undef h2, ← Act.put_defers]
        exact h
      | .ok (.enter f args) w', h =>
        simp only [Oper.upon] at h ⊢
        refine Calls.mono h fun e w2 he => ?_
        match e, he with
        | .returned u, he => exact next he
        | .panicked c, he => exact hQ _ _ _ he
        | .outgrown, he => exact he
      | .ok (.row row args) w', h =>
        simp only [Oper.upon] at h ⊢
        exact Rows.mono h fun u w2 he => next he
      | .halt x w', h =>
        cases x <;> simp only [Oper.upon] at h ⊢
        exact hQ _ _ _ h
    · refine .inr ⟨?_, hl⟩
      unfold Oper.asks at ha ⊢
      rw [execOp_put oj hsj a oi.dst v h1] at ha
      exact ha

/-- what has come up waited for nothing that has not -/
def Closed (ops : Array Oper) (listed : Array Bool) : Prop := ∀ j oj, ops[j]? = some oj → listed.getD j false = true → ∀ e ∈ oj.after, Region.binds .any e = true → listed.getD e.on false = true
theorem closed_start (ops : Array Oper) (n : Nat) : Closed ops (Array.replicate n false) := by
  intro j oj _ h
  exfalso
  rw [Array.getD_eq_getD_getElem?, Array.getElem?_replicate] at h
  split at h <;> simp at h
theorem Closed.step {ops : Array Oper} {listed : Array Bool} (h : Closed ops listed) {i : Nat} (hi : i ∈ Region.ready .any ops listed) : Closed ops (listed.setIfInBounds i true) := by
  intro j oj hj hl e he hb
  refine getD_set_true ?_
  by_cases hij : i = j
  · subst hij
    obtain ⟨_, o, ho, hall⟩ := mem_ready.1 hi
    rw [hj] at ho
    cases ho
    exact hall e he hb
  · rw [getD_set_ne false hij] at hl
    exact h j oj hj hl e he hb
theorem Closed.waits {ops : Array Oper} {listed : Array Bool} (h : Closed ops listed) {i : Nat} : ∀ (n j : Nat), (∀ oj, ops[j]? = some oj → ∀ e ∈ oj.after, Region.binds .any e = true → listed.getD e.on false = true) → waits ops n i j = true → listed.getD i false = true
  | 0, _, _, hw => by simp [Am.waits] at hw
  | n + 1, j, hj, hw => by
    simp only [Am.waits] at hw
    split at hw
    · rename_i oj ho
      obtain ⟨e, he, hb⟩ := Array.any_eq_true'.1 hw
      simp only [Bool.and_eq_true, Bool.or_eq_true, beq_iff_eq] at hb
      have hl := hj oj ho e he hb.1
      rcases hb.2 with rfl | hw'
      · exact hl
      · exact h.waits n e.on (fun o' ho' e' he' hb' => h e.on o' ho' hl e' he' hb') hw'
    · cases hw

theorem wpAnyG_first {P : Program} {ops : Array Oper} {Q : Exit → Act → World → Prop} {R : Nat → World → World → Prop} {Inv : World → Prop} {i : Nat} {oi : Oper} {v : Value} (hi : ops[i]? = some oi) (hs : Region.noSelect ops = true)
    (hQ : ∀ c a w, Q (.panic c) (a.put oi.dst v) w → Q (.panic c) a w) (hrefl : ∀ w w', Below w.heap.size w w' → R i w w') (hInv : ∀ w w', Inv w → Below w.heap.size w w' → Inv w') :
    ∀ (n : Nat) (listed : Array Bool) (a : Act) (w : World), Closed ops listed →
      (∀ j oj, ops[j]? = some oj → j ≠ i → listed.getD j true = false → (∀ e ∈ oj.after, Region.binds .any e = true → e.on ≠ i) → oi.apart ops oj = true) →
      (∀ j, j < ops.size → listed.getD j true = false → j ≠ i → waits ops ops.size i j = true ∨ ∀ w w', R j w w' → Inv w → Inv w') →
      i ∈ Region.ready .any ops listed → YieldsG P ops Inv oi v a → Inv w → wpAnyG P ops Q R n (listed.setIfInBounds i true) (a.put oi.dst v) w → wpAnyG P ops Q R (n + 1) listed a w := by
  have hsel := Region.noSelect_spec hs
  intro n
  induction n with
  | zero =>
    intro listed a w _ _ _ hr hy hI H w1 hw1
    refine ⟨fun h => (by rw [h] at hr; cases hr), fun j hj => ?_⟩
    by_cases hji : j = i
    · subst hji
      exact hy.wpOp hi (hInv _ _ hI hw1) fun w2 h2 => ⟨hrefl _ _ h2, H.grow (hw1.trans (h2.mono hw1.size))⟩
    · have := ready_mono hj hji
      rw [(H w1 hw1).1] at this
      cases this
  | succ n ih =>
    intro listed a w hc hfree hp hr hy hI H w1 hw1
    refine ⟨fun h => (by rw [h] at hr; cases hr), fun j hj => ?_⟩
    by_cases hji : j = i
    · subst hji
      exact hy.wpOp hi (hInv _ _ hI hw1) fun w2 h2 => ⟨hrefl _ _ h2, H.grow (hw1.trans (h2.mono hw1.size))⟩
    · obtain ⟨hjun, oj, hoj, hall⟩ := mem_ready.1 hj
      have hun : listed.getD i false ≠ true := by
        have h0 := (mem_ready.1 hr).1
        intro h1
        rw [Array.getD_eq_getD_getElem?] at h0 h1
        cases hx : listed[i]? with
        | none => rw [hx] at h0; cases h0
        | some b => rw [hx] at h0 h1; simp at h0 h1; rw [h0] at h1; cases h1
      have hpj : ∀ w w', R j w w' → Inv w → Inv w' := by
        rcases hp j (Array.getElem?_eq_some_iff.1 hoj).1 hjun hji with hw | h
        · exact absurd (hc.waits _ j (fun o' ho' => by rw [hoj] at ho'; cases ho'; exact hall) hw) hun
        · exact h
      have h1 := (H w1 hw1).2 j (ready_mono hj hji)
      have hnot : ∀ e ∈ oj.after, Region.binds .any e = true → e.on ≠ i := fun e he hb heq => by
        have := hall e he hb
        rw [heq] at this
        exact hun this
      have h2 := wpOp_putG hoj (hfree j oj hoj hji hjun hnot) (fun cs b => hsel i oi cs b hi) (fun cs b => hsel j oj cs b hoj) hQ hy h1
      refine wpOp_mono (fun a' w' h3 => ⟨h3.2.1, ih _ a' w' (hc.step hj) ?_ ?_ (ready_mono hr (Ne.symm hji)) h3.1 (hpj w1 w' h3.2.1 (hInv _ _ hI hw1)) ?_⟩) h2
      · intro k ok hk hki hun' hno
        refine hfree k ok hk hki ?_ hno
        by_cases hjk : j = k
        · subst hjk; exact hjun
        · rw [getD_set_ne true hjk] at hun'; exact hun'
      · intro k hks hun' hki
        refine hp k hks ?_ hki
        by_cases hjk : j = k
        · subst hjk; exact hjun
        · rw [getD_set_ne true hjk] at hun'; exact hun'
      · rw [Array.setIfInBounds_comm _ _ hji]
        exact h3.2.2

theorem noHit_spec {ops : Array Oper} {T : List Tch} {listed : Array Bool} {i b : Nat} : ∀ (n : Nat), noHit ops T listed i b n = true → ∀ j, j < n → listed.getD j true = false → j ≠ i → waits ops ops.size i j = true ∨ hits (tchAt T j) b = false
  | 0, _, j, hj, _, _ => by omega
  | n + 1, h, j, hj, hl, hne => by
    simp only [noHit, Bool.and_eq_true, Bool.or_eq_true, Bool.not_eq_true'] at h
    by_cases e : j = n
    · subst e
      rcases h.1 with ((h1 | h1) | h1) | h1
      · exact absurd (Nat.eq_of_beq_eq_true h1) hne
      · rw [hl] at h1; cases h1
      · exact .inr h1
      · exact .inl h1
    · exact noHit_spec n h.2 j (by omega) hl hne

theorem firstQuietB_mem {E : Env} {T : List Tch} {ops : Array Oper} {listed : Array Bool} : ∀ {l : List Nat} {q : Nat}, firstQuietB E ops T st listed l = some q → q ∈ l ∧ Region.free .any ops listed q = true
  | [], _, h => by simp [firstQuietB] at h
  | i :: l, q, h => by
    simp only [firstQuietB] at h
    split at h
    · rename_i o ho
      cases hc : ((quietKind o || heldLoad ops T listed i st o || quietCall E st o || cptrLoad st o) && Region.free .any ops listed i) with
      | true =>
        rw [hc, cond_true, Option.some.injEq] at h
        subst h
        exact ⟨by simp, (Bool.and_eq_true _ _ ▸ hc : _ ∧ _).2⟩
      | false =>
        rw [hc, cond_false] at h
        obtain ⟨h1, h2⟩ := firstQuietB_mem h
        exact ⟨by simp [h1], h2⟩
    · obtain ⟨h1, h2⟩ := firstQuietB_mem h
      exact ⟨by simp [h1], h2⟩

theorem SC.grow {w w' : World} (h : SC C w) (hb : Below w.heap.size w w') : SC C w' := fun ad v hv => by
  have h1 := h ad v hv
  rw [hb.cell (World.block_lt_of_cell? w ad h1)]; exact h1

/-- what an operation leaves as it was -/
def FrmG (C : Mem) (L : Nat → Nat → Prop) (T : List Tch) (j : Nat) (w w' : World) : Prop := match tchAt T j with
  | none => Below w.heap.size w w'
  | some none => ∀ C' : Mem, C'.le C → SC C' w → SC C' w'
  | some (some b) => (∀ C' : Mem, C'.le C → SC C' w → SC C' w') ∧ ∀ b' k, L b' k → hits (some (some b)) b' = false → k < w.heap.size → w'.heap[k]? = w.heap[k]?
theorem FrmG.below {L : Nat → Nat → Prop} {T : List Tch} {j : Nat} {w w' : World} (hb : Below w.heap.size w w') : FrmG C L T j w w' := by
  unfold FrmG
  split
  · exact hb
  · exact fun C' _ h => h.grow hb
  · exact ⟨fun C' _ h => h.grow hb, fun b' k _ _ hk => hb.block k hk⟩
theorem noSS_spec : ∀ {T : List Tch} {j b : Nat}, noSS T = true → tchAt T j ≠ some (some b)
  | [], j, b, _ => by simp [tchAt, mget]
  | some (some _) :: l, j, b, h => by simp [noSS] at h
  | some none :: l, 0, b, _ => by simp [tchAt, mget]
  | none :: l, 0, b, _ => by simp [tchAt, mget]
  | some none :: l, j + 1, b, h => by
    have := noSS_spec (T := l) (j := j) (b := b) (by simpa [noSS] using h)
    simpa [tchAt, mget] using this
  | none :: l, j + 1, b, h => by
    have := noSS_spec (T := l) (j := j) (b := b) (by simpa [noSS] using h)
    simpa [tchAt, mget] using this
theorem FrmG.older {C2 : Mem} {L L2 : Nat → Nat → Prop} {T : List Tch} (hC : C.le C2) (hg : noSS T = true ∨ ∀ b k, L b k → L2 b k) {j : Nat} {w w' : World} (h : FrmG C2 L2 T j w w') : FrmG C L T j w w' := by
  unfold FrmG at h ⊢
  split
  · rename_i ht
    rw [ht] at h
    exact h
  · rename_i ht
    rw [ht] at h
    exact fun C' hc => h C' (Mem.le_trans hc hC)
  · rename_i b ht
    rw [ht] at h
    refine ⟨fun C' hc => h.1 C' (Mem.le_trans hc hC), fun b' k hl => ?_⟩
    rcases hg with hg | hg
    · exact absurd ht (noSS_spec hg)
    · exact h.2 b' k (hg b' k hl)

/-- new memory alone -/
theorem grow_step {E : Env} {ρ : Type} [Pan ρ] {call : CallT ρ} {o : Oper} (hgk : gkind o = true) {K : St → Option ρ} {r : ρ} (h : SR X w0 C0 fs C g st a w)
    (e : doOp E call o st K = some r) {next : Act → World → Prop} {Q : Exit → Act → World → Prop}
    (hn : ∀ st' a' w' C' g', SR X w0 C0 fs C' g' st' a' w' → K st' = some r → C.le C' → (∃ y, g' = g ++ y) → (∃ m, st'.mem = st.mem ++ m) → Below w.heap.size w w' → next a' w') : o.wp E.P a w next Q := by
  have hal : ∀ x, Below w.heap.size w (w.alloc x) := fun x => (Below.refl _ _).alloc (Nat.le_refl _) x
  unfold doOp at e
  obtain ⟨dst, op, ty, pos, after, guard⟩ := o
  cases op with
  | alloc t =>
    cases hty : E.ty t with
    | none => simp [hty] at e
    | some t' =>
      simp only [hty] at e
      obtain ⟨h1, h2⟩ := cond_some e
      simp only [Bool.and_eq_true] at h1
      obtain ⟨i, z, hi, hz, hc, hsz, hvf⟩ := zeroOk_spec h1.1
      have hrc : RC C g (zeroAV t') z.cells.toList := by
        rw [hc]
        exact (RC_zero t' h1.2).1
      refine wp_value (z := .pointer (some ⟨w.heap.size, 0, none⟩)) (w' := w.alloc (.cells z.cells t)) ?_ (hn _ _ _ _ _ (box_alloc h t hrc dst) h2 (Mem.le_refl _) ⟨_, rfl⟩ ⟨_, by rw [put_mem, mapp_eq]⟩ (hal _))
      simp [execOp, Instr.alloc, run_zeroValue hi hz w, run_newVar]
  | box t x =>
    cases hx : evalOp st x with
    | none => simp [hx] at e
    | some v =>
      simp only [hx] at e
      obtain ⟨h1, h2⟩ := cond_some e
      have hrc := RV_solid (evalOp_RV h.tm hx) h1
      refine wp_value (z := .pointer (some ⟨w.heap.size, 0, none⟩)) (w' := w.alloc (.cells (a.eval x).cells t)) ?_ (hn _ _ _ _ _ (box_alloc h t hrc dst) h2 (Mem.le_refl _) ⟨_, rfl⟩ ⟨_, by rw [put_mem, mapp_eq]⟩ (hal _))
      simp [execOp, Instr.box, run_newVar]
  | buildSlice t len parts =>
    cases he : elemT E.P t with
    | none => simp [he] at e
    | some el =>
      cases hty : E.ty el with
      | none => simp [he, hty] at e
      | some t' =>
        simp only [he, hty] at e
        cases hps : evalParts st parts.toList with
        | none => simp [hps] at e
        | some ps =>
          cases hio : inOrder 0 ps with
          | none => simp [hps, hio] at e
          | some vs =>
            cases hda : decAll t' vs with
            | none => simp [hps, hio, hda] at e
            | some xs =>
              simp only [hps, hio, hda] at e
              obtain ⟨h1, h2⟩ := cond_some e
              simp only [Bool.and_eq_true, beq_iff_eq, decide_eq_true_eq, mlen_eq] at h1
              obtain ⟨i, z, hi, hz, hc, hsz, _⟩ := zeroOk_spec h1.1.1.1.2
              obtain ⟨hp1, hp2⟩ := evalParts_RV h.tm hps
              obtain ⟨hv1, hv2⟩ := inOrder_spec ps 0 vs hio
              rw [← hv1] at hp2
              obtain ⟨hcl, hlen, hsize⟩ := decAll_cells hp2 hda
              let ys : List (Nat × Value) := parts.toList.map fun p => (p.1, a.eval p.2)
              have hys2 : ys.map (·.2) = parts.toList.map fun p => a.eval p.2 := by simp [ys]
              have hlv : vs.length = ys.length := by
                have := hp2.length
                simp only [ys, List.length_map] at this ⊢
                exact this
              have hxl : ys.length = xs.length := by rw [← hlen]; simp [ys]
              have hrun := buildSlice_run (P := E.P) (ty := t') (ys := ys) (elemT_spec he) hi hz hsz (by rw [← hlv, h1.1.1.1.1]; exact h1.2) (by
                intro j p hp
                have hj : (ys.map (·.1))[j]? = some p.1 := by simp [hp]
                have hys1 : ys.map (·.1) = ps.map (·.1) := by rw [hp1]; simp [ys]
                rw [hys1, List.getElem?_map, Option.map_eq_some_iff] at hj
                obtain ⟨q, hq, hq1⟩ := hj
                have := hv2 j q hq
                rw [← hq1]; omega) (by
                intro p hp
                apply hsize
                rw [← hys2]
                exact List.mem_map.2 ⟨p, hp, rfl⟩) w
              have hfm : (ys.flatMap fun p => p.2.cells.toList) = (parts.toList.map fun p => a.eval p.2).flatMap fun y => y.cells.toList := by
                rw [← hys2]; exact flat_snd ys
              rw [hfm] at hrun
              have hml : ys.length ≤ maxLen := by
                have : ys.length * 1 ≤ ys.length * t'.size := Nat.mul_le_mul_left _ h1.1.2
                have h3 : ys.length * t'.size ≤ 65536 := by rw [← hlv, h1.1.1.1.1]; exact h1.2
                simp only [maxLen]; omega
              have hml2 : ys.length ≤ lim := by
                have : ys.length * 1 ≤ ys.length * t'.size := Nat.mul_le_mul_left _ h1.1.2
                have h3 : ys.length * t'.size ≤ 65536 := by rw [← hlv, h1.1.1.1.1]; exact h1.2
                simp only [lim]; omega
              have hsr := rows_sr (e := el) h hcl hxl hml hml2 dst
              refine wp_value (z := .slice (some ⟨w.heap.size, 0, none⟩) ys.length ys.length) (w' := w.alloc (.cells ((parts.toList.map fun p => a.eval p.2).flatMap fun y => y.cells.toList).toArray el)) ?_ (hn _ _ _ _ _ hsr h2 (Mem.le_row fun o v e => by rw [RC_none_of h.rel.sub (Nat.le_refl w.heap.size) o none] at e; cases e) ⟨_, rfl⟩ ⟨_, by rw [put_mem, mapp_eq]⟩ (hal _))
              have hpa : (parts.map fun (p : Nat × Operand) => (p.1, a.eval p.2)) = ys.toArray := toList_map _ _
              have hle : len = ys.length := by rw [← hlv, h1.1.1.1.1]
              simp only [execOp]
              rw [show (Array.map (fun x : Nat × Operand => match x with | (i, x) => (i, a.eval x)) parts) = parts.map fun (p : Nat × Operand) => (p.1, a.eval p.2) from rfl, hpa, hle]
              simp only [Sem.run_bind, hrun, Result.andThen_ok, Sem.run_pure]
  | _ => simp [gkind] at hgk

theorem Nat.beq_eq_false_of_ne' {a b : Nat} (h : a ≠ b) : Nat.beq a b = false := by
  cases e : Nat.beq a b with
  | false => rfl
  | true => exact absurd (Nat.eq_of_beq_eq_true e) h

/-- a call that leaves what is there alone -/
theorem doQ_val {E : Env} (hcon : ∀ f, ∀ fc ∈ E.con f, Spec E.P f fc) {o : Oper} (hq : quietCall E st o = true) {ρ : Type} {K : St → Option ρ} {r : ρ} (h : SR X w0 C0 fs C g st a w) (e : doQ E o st K = some r) :
    ∃ z, (∀ w', SC C w' → o.quietAt E.P a (fun w2 => Below w'.heap.size w' w2) w' z) ∧ ∃ v, RV C g v z ∧ K (st.put o.dst v) = some r := by
  obtain ⟨dst, op, ty, pos, after, guard⟩ := o
  cases op with
  | call c =>
    obtain ⟨cal, args, ats⟩ := c
    cases cal with
    | value f =>
      simp only [doQ] at e
      cases hf : evalOp st f with
      | none => simp [hf] at e
      | some vf =>
        cases ha : evalAll st args.toList with
        | none => cases vf <;> simp [hf, ha] at e
        | some vs =>
          have hfv := evalOp_RV h.tm hf
          have hav := evalAll_RV h.tm ha
          cases vf with
          | fn ff first captured =>
            cases ff with
            | func gf =>
              simp only [hf, ha, mapp_eq] at e
              obtain ⟨xs, ks, hfe, hr1, hr2⟩ := RV_fn hfv
              have hargs : RVL C g (first ++ (vs ++ captured)) (xs ++ (args.toList.map a.eval ++ ks)) := hr1.append (hav.append hr2)
              split at e
              · rename_i t ht
                obtain ⟨fc, hfc, x, hx, rfl⟩ := firstDec_some ht
                obtain ⟨q, hG, e⟩ := Tr.elim_some e
                obtain ⟨r0, rows⟩ := q
                simp only at e
                split at e
                · obtain ⟨hpl, e2⟩ := cond_some e
                  obtain ⟨hent, hspec, _⟩ := hcon gf fc hfc
                  obtain ⟨fn, hfn, hname, hbody⟩ := hent
                  have hcalls : ∀ w' : World, SC C w' → Calls E.P gf (xs ++ (args.toList.map a.eval ++ ks)).toArray w' (fun e w'' => ∃ v C' g', e = .returned v ∧ Below w'.heap.size w' w'' ∧ RV C' g' r0 v) := by
                    intro w' hw
                    refine (hspec (ctx0 w') w' C [] [] _ _ x r0 [] (Rel.start hw) rfl (strips_RV hargs) hx hG).mono ?_
                    rintro e1 w1 ⟨v, C', g', rfl, hrel, hrv⟩
                    exact ⟨v, C', g', rfl, Keeps.toBelow hrel.below, hrv⟩
                  obtain ⟨e0, w1, v, C1, g1, _, _, hrv⟩ := Calls.and_exists (hcalls w h.rel.sub)
                  refine ⟨v, fun w' hw => ?_, r0, RV_any hpl hrv C g, e2⟩
                  have hrun : (execOp a.eval ⟨dst, .call ⟨.value f, args, ats⟩, ty, pos, after, guard⟩).run E.P w' = .ok (.enter gf (xs ++ (args.toList.map a.eval ++ ks)).toArray) w' := by
                    have harr : (xs.toArray ++ args.map a.eval) ++ ks.toArray = (xs ++ (args.toList.map a.eval ++ ks)).toArray := by
                      rw [← Array.toList_inj]; simp
                    simp only [execOp, resolve, hfe, Deferred.ofValue, Sem.run_bind, Sem.run_pure, Result.andThen_ok, invoke, callFunc, run_program, hfn, hname, hbody, harr, Bool.false_eq_true, if_false]
                  simp only [Oper.quietAt, hrun, Oper.quietUpon, true_and]
                  refine (hcalls w' hw).mono ?_
                  rintro e1 w2 ⟨v2, C2, g2, rfl, hb2, hrv2⟩
                  exact ⟨by rw [RV_plain hpl hrv2 hrv], hb2⟩
                · cases e
              · cases e
            | _ => simp [hf, ha] at e
          | _ => simp [hf, ha] at e
    | invoke xo name =>
      simp only [doQ] at e
      cases hf : evalOp st xo with
      | none => simp [hf] at e
      | some xv =>
        cases ha : evalAll st args.toList with
        | none => simp [hf, ha] at e
        | some vs =>
          have hxv := evalOp_RV h.tm hf
          have hav := evalAll_RV h.tm ha
          simp only [hf, ha] at e
          split at e
          · rename_i gf u hi
            obtain ⟨z, hz, hrunM⟩ := invoke_run hxv hi
            have hargs : RVL C g (u :: vs) (z :: args.toList.map a.eval) := .cons hz hav
            split at e
            · rename_i t ht
              obtain ⟨fc, hfc, x, hx, rfl⟩ := firstDec_some ht
              obtain ⟨q, hG, e⟩ := Tr.elim_some e
              obtain ⟨r0, rows⟩ := q
              simp only at e
              split at e
              · obtain ⟨hpl, e2⟩ := cond_some e
                obtain ⟨hent, hspec, _⟩ := hcon gf fc hfc
                obtain ⟨fn, hfn, hname, hbody⟩ := hent
                have hcalls : ∀ w' : World, SC C w' → Calls E.P gf (z :: args.toList.map a.eval).toArray w' (fun e w'' => ∃ v C' g', e = .returned v ∧ Below w'.heap.size w' w'' ∧ RV C' g' r0 v) := by
                  intro w' hw
                  refine (hspec (ctx0 w') w' C [] [] _ _ x r0 [] (Rel.start hw) rfl (strips_RV hargs) hx hG).mono ?_
                  rintro e1 w1 ⟨v, C', g', rfl, hrel, hrv⟩
                  exact ⟨v, C', g', rfl, Keeps.toBelow hrel.below, hrv⟩
                obtain ⟨e0, w1, v, C1, g1, _, _, hrv⟩ := Calls.and_exists (hcalls w h.rel.sub)
                refine ⟨v, fun w' hw => ?_, r0, RV_any hpl hrv C g, e2⟩
                have hrun : (execOp a.eval ⟨dst, .call ⟨.invoke xo name, args, ats⟩, ty, pos, after, guard⟩).run E.P w' = .ok (.enter gf (z :: args.toList.map a.eval).toArray) w' := invoke_enter hrunM hfn hname hbody w'
                simp only [Oper.quietAt, hrun, Oper.quietUpon, true_and]
                refine (hcalls w' hw).mono ?_
                rintro e1 w2 ⟨v2, C2, g2, rfl, hb2, hrv2⟩
                exact ⟨by rw [RV_plain hpl hrv2 hrv], hb2⟩
              · cases e
            · cases e
          · cases e
    | _ => simp [quietCall, callDec] at hq
  | _ => simp [quietCall, callDec] at hq

theorem agreeAll_some {ρ : Type} {r : ρ} : ∀ {l : List (Option ρ)}, agreeAll l = some r → ∀ x ∈ l, x = some r
  | [], h, _, hx => by cases hx
  | [y], h, x, hx => by
    simp only [List.mem_singleton] at hx
    subst hx
    exact h
  | y :: z :: l, h, x, hx => by
    obtain ⟨h1, h2⟩ := agree_some h
    rcases List.mem_cons.1 hx with rfl | hx
    · exact h1
    · exact agreeAll_some h2 x hx

/-- a row that is appended to -/
theorem append_step {E : Env} {ρ : Type} [Pan ρ] {call : CallT ρ} {o : Oper} (hap : isApp o = true) {K : St → Option ρ} {r : ρ} (h : SR X w0 C0 fs C g st a w)
    (e : doOp E call o st K = some r) {next : Act → World → Prop} {Q : Exit → Act → World → Prop}
    (hn : ∀ st' a' w' C' g', SR X w0 C0 fs C' g' st' a' w' → K st' = some r → C.le C' → (∀ b k, lives st.mem g b k → w'.heap[k]? = w.heap[k]? ∧ lives st'.mem g' b k) → next a' w') : o.wp E.P a w next Q := by
  unfold doOp at e
  obtain ⟨dst, op, ty, pos, after, guard⟩ := o
  cases op with
  | call c =>
    obtain ⟨cal, args, ats⟩ := c
    cases cal with
    | builtin b =>
      cases b with
      | append =>
        simp only at e
        split at e
        · rename_i s x tT xT e1 e2
          cases hs : evalOp st s with
          | none => simp [hs] at e
          | some sv =>
            cases hx : evalOp st x with
            | none => simp [hs, hx] at e
            | some xv =>
              simp only [hs, hx] at e
              have a1 := toList_two e1
              have a2 := toList_two e2
              subst a1; subst a2
              obtain ⟨z, w', av, st', hrun, ⟨C', g', hsr, hrv, hC, hkeep⟩, hk⟩ := append_run (ty := ty) h (evalOp_RV h.tm hs) (evalOp_RV h.tm hx) e
              refine wp_value (z := z) (w' := w') ?_ (hn _ _ _ C' g' (hsr.put hrv dst) hk hC fun b k hl => ?_)
              · simp [execOp, resolve, invoke, builtin, hrun]
              · obtain ⟨m, x, i1, i2, i3, i4⟩ := hl
                obtain ⟨h1, h2, m', h3, h4⟩ := hkeep b k m x i1 i2 i3 i4
                exact ⟨h1, m', x, by rw [put_mem]; exact h3, h2, i3, h4⟩
        · simp at e
      | _ => simp [isApp] at hap
    | _ => simp [isApp] at hap
  | _ => simp [isApp] at hap

/-- a call by a contract, whatever it comes to -/
theorem callG_step {E : Env} (hcon : ∀ f, ∀ fc ∈ E.con f, Spec E.P f fc) {o : Oper} {t : Tr (AV × List Blk)} (hq : callDec E st o = some t) {ρ : Type} {K : St → Option ρ} {r : ρ} (h : SR X w0 C0 fs C g st a w)
    (e : t.elim (callK o st K) = some r) {next : Act → World → Prop} {Q : Exit → Act → World → Prop}
    (hn : ∀ st' a' w' C' g', SR X w0 C0 fs C' g' st' a' w' → K st' = some r → C.le C' → (∃ y, g' = g ++ y) → (∃ m, st'.mem = st.mem ++ m) → Below w.heap.size w w' → next a' w') : o.wp E.P a w next Q := by
  obtain ⟨dst, op, ty, pos, after, guard⟩ := o
  cases op with
  | call c =>
    obtain ⟨cal, args, ats⟩ := c
    cases cal with
    | value f =>
      simp only [callDec] at hq
      cases hf : evalOp st f with
      | none => simp [hf] at hq
      | some vf =>
        cases ha : evalAll st args.toList with
        | none => cases vf <;> simp [hf, ha] at hq
        | some vs =>
          have hfv := evalOp_RV h.tm hf
          have hav := evalAll_RV h.tm ha
          cases vf with
          | fn ff first captured =>
            cases ff with
            | func gf =>
              simp only [hf, ha, mapp_eq] at hq
              obtain ⟨xs, ks, hfe, hr1, hr2⟩ := RV_fn hfv
              have hargs : RVL C g (first ++ (vs ++ captured)) (xs ++ (args.toList.map a.eval ++ ks)) := hr1.append (hav.append hr2)
              obtain ⟨fc, hfc, x, hx, rfl⟩ := firstDec_some hq
              obtain ⟨q, hG, e⟩ := Tr.elim_some e
              obtain ⟨r0, rows⟩ := q
              simp only [callK] at e
              obtain ⟨hent, hspec, _⟩ := hcon gf fc hfc
              obtain ⟨fn, hfn, hname, hbody⟩ := hent
              have hcalls := hspec (footX X w g st.mem []) w C [] [] _ _ x r0 rows (h.rel.foot (ks := []) rfl) rfl (strips_RV hargs) hx hG
              have hrun : (execOp a.eval ⟨dst, .call ⟨.value f, args, ats⟩, ty, pos, after, guard⟩).run E.P w = .ok (.enter gf (xs ++ (args.toList.map a.eval ++ ks)).toArray) w := by
                have harr : (xs.toArray ++ args.map a.eval) ++ ks.toArray = (xs ++ (args.toList.map a.eval ++ ks)).toArray := by
                  rw [← Array.toList_inj]; simp
                simp only [execOp, resolve, hfe, Deferred.ofValue, Sem.run_bind, Sem.run_pure, Result.andThen_ok, invoke, callFunc, run_program, hfn, hname, hbody, harr, Bool.false_eq_true, if_false]
              unfold Oper.wp
              rw [hrun]
              simp only [Oper.upon]
              refine hcalls.mono ?_
              rintro e1 w1 ⟨v, C', g', rfl, hrel, hrv⟩
              obtain ⟨hm, hbk⟩ := h.merge (ks := []) rfl hrel (Nat.zero_le _)
              rw [mlen_eq] at e
              exact hn _ _ _ C' _ (hm.put (RV.back hbk hrv) dst) e hrel.base ⟨g', by simp [mergeG, putL]⟩ ⟨_, by rw [put_mem, merge_mem]; simp [rowKs, demsB, putL]; rfl⟩ (Keeps.toBelow (hrel.below.mono fun k hk => ⟨hk, fun i m x hi => by cases hi⟩))
            | _ => simp [hf, ha] at hq
          | _ => simp [hf, ha] at hq
    | invoke xo name =>
      simp only [callDec] at hq
      cases hf : evalOp st xo with
      | none => simp [hf] at hq
      | some xv =>
        cases ha : evalAll st args.toList with
        | none => simp [hf, ha] at hq
        | some vs =>
          have hxv := evalOp_RV h.tm hf
          have hav := evalAll_RV h.tm ha
          simp only [hf, ha] at hq
          split at hq
          · rename_i gf u hi
            obtain ⟨z, hz, hrunM⟩ := invoke_run hxv hi
            have hargs : RVL C g (u :: vs) (z :: args.toList.map a.eval) := .cons hz hav
            obtain ⟨fc, hfc, x, hx, rfl⟩ := firstDec_some hq
            obtain ⟨q, hG, e⟩ := Tr.elim_some e
            obtain ⟨r0, rows⟩ := q
            simp only [callK] at e
            obtain ⟨hent, hspec, _⟩ := hcon gf fc hfc
            obtain ⟨fn, hfn, hname, hbody⟩ := hent
            have hcalls := hspec (footX X w g st.mem []) w C [] [] _ _ x r0 rows (h.rel.foot (ks := []) rfl) rfl (strips_RV hargs) hx hG
            unfold Oper.wp
            rw [invoke_enter hrunM hfn hname hbody w]
            simp only [Oper.upon]
            refine hcalls.mono ?_
            rintro e1 w1 ⟨v, C', g', rfl, hrel, hrv⟩
            obtain ⟨hm, hbk⟩ := h.merge (ks := []) rfl hrel (Nat.zero_le _)
            rw [mlen_eq] at e
            exact hn _ _ _ C' _ (hm.put (RV.back hbk hrv) dst) e hrel.base ⟨g', by simp [mergeG, putL]⟩ ⟨_, by rw [put_mem, merge_mem]; simp [rowKs, demsB, putL]; rfl⟩ (Keeps.toBelow (hrel.below.mono fun k hk => ⟨hk, fun i m x hi => by cases hi⟩))
          · cases hq
    | _ => simp [callDec] at hq
  | _ => simp [callDec] at hq

theorem lives_app {mem ms : List Blk} {g gs : Ghs} {b k : Nat} (h : lives mem g b k) : lives (mem ++ ms) (g ++ gs) b k := by
  obtain ⟨m, x, h1, h2, h3, h4⟩ := h
  exact ⟨m, x, by rw [List.getElem?_append_left (lt_of_getElem? h1)]; exact h1, by rw [List.getElem?_append_left (lt_of_getElem? h2)]; exact h2, h3, h4⟩
theorem execB_sound {E : Env} {ρ : Type} [Pan ρ] {call : CallT ρ} (hcall : CallOk E X call) (hcon : ∀ f, ∀ fc ∈ E.con f, Spec E.P f fc) {T : List Tch} {ops : Array Oper} (hsel : Region.noSelect ops = true) {r : ρ} {K : St → Option ρ} {Q : Exit → Act → World → Prop} (hQ : ∀ c a w d v, Q (.panic c) (a.put d v) w → Q (.panic c) a w) (hP : PanOk X w0 C0 r Q)
    (hK : ∀ st' a' w', Good X w0 C0 fs st' a' w' → K st' = some r → Q .normal a' w') : ∀ (n : Nat) (listed : Array Bool) (st : St) (a : Act) (w : World) (C : Mem) (g : Ghs), Closed ops listed → SR X w0 C0 fs C g st a w → execB E call T ops n listed st K = some r →
      wpAnyG E.P ops Q (FrmG C (lives st.mem g) T) n listed a w
  | 0, listed, st, a, w, C, g, hc, h, e => by
    intro w1 hw1
    simp only [execB] at e
    split at e
    · rename_i hr
      exact ⟨hr, (hK st a w1 ⟨C, g, ⟨h.rel.ext hw1, h.tm, h.out, h.df⟩⟩ e)⟩
    · cases e
  | n + 1, listed, st, a, w, C, g, hc, h, e => by
    have ih := execB_sound (call := call) (E := E) (T := T) hcall hcon hsel hQ hP hK n
    simp only [execB] at e
    split at e
    · rename_i hr
      intro w1 hw1
      refine ⟨fun _ => (hK st a w1 ⟨C, g, ⟨h.rel.ext hw1, h.tm, h.out, h.df⟩⟩ e), fun i hi => (by rw [hr] at hi; cases hi)⟩
    · rename_i i rs hr
      split at e
      · rename_i q hq
        obtain ⟨hmem, hfree⟩ := firstQuietB_mem hq
        split at e
        · rename_i o ho
          rw [mget_eq] at ho
          have ho' : ops[q]? = some o := by simpa using ho
          have hrq : q ∈ Region.ready .any ops listed := by rw [hr]; exact hmem
          have hSC : ∀ j, j < ops.size → listed.getD j true = false → j ≠ q → waits ops ops.size q j = true ∨ ∀ w w', FrmG C (lives st.mem g) T j w w' → SC C w → SC C w' := fun j _ _ _ => .inr fun w w' hf hs => by
            unfold FrmG at hf
            split at hf
            · exact hs.grow hf
            · exact hf C (Mem.le_refl _) hs
            · exact hf.1 C (Mem.le_refl _) hs
          refine guarded_mem h e (fun st' h' hmm hw e => ?_) (fun st' h' hmm hw e => ?_)
          · cases hl : heldLoad ops T listed q st' o with
            | true =>
              rw [hl, cond_true] at e
              split at e
              · rename_i ok v hp
                obtain ⟨hok, e2⟩ := cond_some e
                obtain ⟨b, k, z, hbB, hz, hrun⟩ := load_held h'.rel h'.tm hl hp hok
                have hih := ih _ _ _ _ C g (hc.step hrq) (h'.put hz o.dst) e2
                rw [put_mem, hmm] at hih
                rw [hmm] at hrun
                have hex : lives st.mem g b k → k < w.heap.size := fun hl => lives_lt h.rel hl
                refine wpAnyG_first (Inv := fun w' => SC C w' ∧ (lives st.mem g b k → w'.heap[k]? = w.heap[k]?)) ho' hsel (fun c a w => hQ c a w _ _) (fun _ _ hb => FrmG.below hb) (fun w2 w3 hI hb => ⟨hI.1.grow hb, fun hv => by
                    rw [hb.block k ?_, hI.2 hv]
                    have h5 := hI.2 hv
                    rw [Array.getElem?_eq_getElem (hex hv)] at h5
                    exact (Array.getElem?_eq_some_iff.1 h5).1⟩) n listed a w hc (Region.free_spec ho' hfree) ?_ hrq
                  (.inl ⟨hw, fun w' hw' => by
                    unfold Oper.quietAt
                    rw [hrun w' hw'.1 hw'.2]
                    exact ⟨rfl, rfl⟩⟩) ⟨h.rel.sub, fun _ => rfl⟩ hih
                intro j hjs hj hne
                rcases noHit_spec _ hbB j hjs hj hne with h1 | h1
                · exact .inl h1
                · refine .inr fun w2 w3 hR hI => ?_
                  unfold FrmG at hR
                  split at hR
                  · refine ⟨hI.1.grow hR, fun hv => ?_⟩
                    rw [hR.block k ?_, hI.2 hv]
                    have h5 := hI.2 hv
                    rw [Array.getElem?_eq_getElem (hex hv)] at h5
                    exact (Array.getElem?_eq_some_iff.1 h5).1
                  · rename_i ht
                    rw [ht] at h1
                    simp [hits] at h1
                  · rename_i b2 ht
                    rw [ht] at h1
                    refine ⟨hR.1 C (Mem.le_refl _) hI.1, fun hv => ?_⟩
                    refine (hR.2 b k hv h1 ?_).trans (hI.2 hv)
                    have h5 := hI.2 hv
                    rw [Array.getElem?_eq_getElem (hex hv)] at h5
                    exact (Array.getElem?_eq_some_iff.1 h5).1
              · cases e
            | false =>
              rw [hl, cond_false] at e
              cases hqc : quietCall E st' o with
              | true =>
                rw [hqc, cond_true] at e
                obtain ⟨z, hz, v, hv, e2⟩ := doQ_val hcon hqc h' e
                have hih := ih _ _ _ _ C g (hc.step hrq) (h'.put hv o.dst) e2
                rw [put_mem, hmm] at hih
                exact wpAnyG_first (Inv := SC C) ho' hsel (fun c a w => hQ c a w _ _) (fun _ _ hb => FrmG.below hb) (fun _ _ hI hb => hI.grow hb) n listed a w hc (Region.free_spec ho' hfree) hSC hrq (.inl ⟨hw, fun w' hw' => hz w' hw'⟩) h.rel.sub hih
              | false =>
                rw [hqc, cond_false] at e
                obtain ⟨z, hz, v, hv, e2⟩ := quietW_val h' e
                have hih := ih _ _ _ _ C g (hc.step hrq) (h'.put hv o.dst) e2
                rw [put_mem, hmm] at hih
                exact wpAnyG_first (Inv := SC C) ho' hsel (fun c a w => hQ c a w _ _) (fun _ _ hb => FrmG.below hb) (fun _ _ hI hb => hI.grow hb) n listed a w hc (Region.free_spec ho' hfree) hSC hrq (.inl ⟨hw, fun w' hw' => by
                  unfold Oper.quietAt
                  rw [hz w' hw']
                  exact ⟨rfl, rfl⟩⟩) h.rel.sub hih
          · have hih := ih _ _ _ _ C g (hc.step hrq) (h'.put RV_undef o.dst) e
            rw [put_mem, hmm] at hih
            exact wpAnyG_first (Inv := SC C) ho' hsel (fun c a w => hQ c a w _ _) (fun _ _ hb => FrmG.below hb) (fun _ _ hI hb => hI.grow hb) n listed a w hc (Region.free_spec ho' hfree) hSC hrq (.inr ⟨hw, rfl⟩) h.rel.sub hih
        · cases e
      · intro w1 hw1
        refine ⟨fun h0 => (by rw [h0] at hr; cases hr), fun j hj => ?_⟩
        have hj0 := hj
        rw [hr] at hj
        have e := agreeAll_some e _ (List.mem_map.2 ⟨j, hj, rfl⟩)
        split at e
        · rename_i o ho
          rw [mget_eq] at ho
          have ho' : ops[j]? = some o := by simpa using ho
          have h : SR X w0 C0 fs C g st a w1 := ⟨h.rel.ext hw1, h.tm, h.out, h.df⟩
          unfold wpOp
          simp only [ho']
          refine guarded_mem h e (fun st' h' hmm hw e' => ?_) (fun st' h' hmm hw e' => ?_)
          · rw [if_pos hw]
            refine .inl ?_
            unfold stepB at e'
            cases hgk : gkind o with
            | true =>
              rw [hgk, cond_true] at e'
              refine grow_step hgk h' e' fun st2 a2 w2 C2 g2 h2 hk2 hC2 hg2 hm2 hb2 => ⟨FrmG.below hb2, ?_⟩
              refine (ih _ _ _ _ C2 g2 (hc.step hj0) h2 hk2).mono fun i w w' hf => hf.older hC2 (.inr fun b k hl => ?_)
              obtain ⟨y, rfl⟩ := hg2
              obtain ⟨m, hm2⟩ := hm2
              rw [hm2, hmm]
              exact lives_app hl
            | false =>
              rw [hgk, cond_false] at e'
              split at e'
              · rename_i bb ht
                cases hap : isApp o with
                | true =>
                  rw [hap, cond_true] at e'
                  refine append_step hap h' e' fun st2 a2 w2 C2 g2 h2 hk2 hC2 hkp => ⟨?_, ?_⟩
                  · unfold FrmG
                    rw [ht]
                    exact ⟨fun C' hC' _ ad v hv => h2.rel.sub ad v (hC2 ad v (hC' ad v hv)), fun b' k' hl _ _ => (hkp b' k' (by rw [hmm]; exact hl)).1⟩
                  · exact (ih _ _ _ _ C2 g2 (hc.step hj0) h2 hk2).mono fun i w w' hf => hf.older hC2 (.inr fun b k hl => (hkp b k (by rw [hmm]; exact hl)).2)
                | false =>
                rw [hap, cond_false] at e'
                obtain ⟨hso, e2⟩ := cond_some e'
                refine store_step h' hso e2 fun st2 a2 w2 b k h2 hk2 hbN hbx hbx2 hbk hmem hheap => ?_
                have hbk' : ∃ ty, g[b]? = some (.box k ty) := by
                  unfold Ghs.box at hbk
                  split at hbk
                  · rename_i k3 T3 hg3
                    simp only [Option.some.injEq] at hbk
                    subst hbk
                    exact ⟨T3, hg3⟩
                  · cases hbk
                obtain ⟨ty3, hg3⟩ := hbk'
                have hLL : ∀ b' k', lives st.mem g b' k' → lives st2.mem g b' k' := by
                  rintro b' k' ⟨m, x, i1, i2, i3, i4⟩
                  by_cases hb' : b' = b
                  · subst hb'
                    obtain ⟨u2, hu2⟩ := hbx2
                    obtain ⟨u, hu⟩ := hbx
                    rw [hmm, i1] at hu
                    rw [hg3] at i2
                    cases hu; cases i2
                    exact ⟨_, _, hu2, hg3, rfl, i4⟩
                  · exact ⟨m, x, by rw [hmem b' hb', hmm]; exact i1, i2, i3, i4⟩
                refine ⟨?_, (ih _ _ _ _ C g (hc.step hj0) h2 hk2).mono fun i w w' hf => hf.older (Mem.le_refl _) (.inr hLL)⟩
                unfold FrmG
                rw [ht]
                refine ⟨fun C' hC' hs => fun ad v hv => h2.rel.sub ad v (hC' ad v hv), fun b' k' hl hne hlt => ?_⟩
                refine hheap k' fun e => ?_
                subst e
                obtain ⟨u, hu⟩ := hbx
                obtain ⟨m, x, i1, i2, i3, i4⟩ := hl
                have := h'.rel.sep b b' _ _ _ _ _ hu hg3 (by rw [hmm]; exact i1) i2 rfl i4
                subst this
                exact hbN _ hne rfl
              · rename_i ht
                obtain ⟨hss, e2⟩ := cond_some e'
                refine doOp2_sound hcall h'.base e2 (hP.base h'.rel) fun st2 a2 w2 hG hk2 => ?_
                obtain ⟨C2, g2, h2⟩ := hG
                refine ⟨?_, (ih _ _ _ _ C2 g2 (hc.step hj0) ⟨h'.rel.rebase h2.rel, h2.tm, h2.out, h2.df⟩ hk2).mono fun i w w' hf => hf.older h2.rel.base (.inl hss)⟩
                unfold FrmG
                rw [ht]
                exact fun C' hC' _ ad v hv => h2.rel.sub ad v (h2.rel.base ad v (hC' ad v hv))
              · split at e'
                · rename_i t ht
                  refine callG_step hcon ht h' e' fun st2 a2 w2 C2 g2 h2 hk2 hC2 hg2 hm2 hb2 => ⟨FrmG.below hb2, ?_⟩
                  refine (ih _ _ _ _ C2 g2 (hc.step hj0) h2 hk2).mono fun i w w' hf => hf.older hC2 (.inr fun b k hl => ?_)
                  obtain ⟨y, rfl⟩ := hg2
                  obtain ⟨m, hm2⟩ := hm2
                  rw [hm2, hmm]
                  exact lives_app hl
                · cases e'
          · rw [if_neg (by simp [hw])]
            have hih := ih _ _ _ _ C g (hc.step hj0) (h'.put RV_undef o.dst) e'
            rw [put_mem, hmm] at hih
            exact ⟨FrmG.below (Below.refl _ _), hih⟩
        · cases e

end
end Am
end Go.Proofs.Ytkjpoongkdapoaa
