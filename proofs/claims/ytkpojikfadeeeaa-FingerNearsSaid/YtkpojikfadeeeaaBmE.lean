/-
  A symbolic machine over the model, part 15c: regions of loads and stores that go in any order.
-/
import Derived.Test.YtkpojikfadeeeaaBmD
namespace Go.Proofs.Ytkpojikfadeeeaa
namespace Am
open Go Go.RowKit

section
variable {X : Ctx} {w0 w : World} {C0 C : Mem} {fs : List (List Value)} {g : Ghs} {st : St} {a : Act}

theorem cell_same {w w' : World} {a : Addr} (h : w'.heap[a.block]? = w.heap[a.block]?) : w'.cell? a = w.cell? a := by
  unfold World.cell?
  rw [h]

/-- what lies there, as long as that block, or what stands still, is as it was -/
theorem held_of (hrel : Rel X w0 C0 C g st.mem w) {b off n c k : Nat} {u : AV} (h : memAt st b off n c = some u) (hk : Ghs.box g b = some k) :
    ∃ mid, RC C g u mid ∧ mid.length = n ∧ u.cls = c ∧ ∀ w' : World, SC C w' → ((∃ v, st.mem[b]? = some (.box v)) → w'.heap[k]? = w.heap[k]?) → ∀ (j : Nat) (v : Value), mid[j]? = some v → w'.cell? ⟨k, off + j, none⟩ = some v := by
  have h0 := h
  have hk0 := hk
  unfold memAt at h
  rw [mget_eq] at h
  unfold Ghs.box at hk
  split at hk
  · rename_i k' T hg
    simp only [Option.some.injEq] at hk
    subst hk
    split at h
    · rename_i v hm
      obtain ⟨mid, h1, h2, h3, h4⟩ := box_of hrel h0 hk0
      exact ⟨mid, h1, h2, h3, fun w' hs hh j x hj => (cell_same (a := ⟨k', off + j, none⟩) (hh ⟨v, hm⟩)).trans (h4 w (Below.refl _ _) j x hj)⟩
    · rename_i v hm
      cases hrel.blk b _ _ hm hg with
      | fro ha hv =>
        obtain ⟨pre, mid, post, rfl, hp, hu, hs, hcl⟩ := at_spec _ hv h
        refine ⟨mid, hu, by rw [RC_size hu, hs], hcl, fun w' hsc _ j v hj => hsc _ _ ?_⟩
        have hlt : j < mid.length := by
          rcases Nat.lt_or_ge j mid.length with h | h
          · exact h
          · rw [List.getElem?_eq_none h] at hj; cases hj
        have := ha.2 (pre.length + j) v (by rw [List.append_assoc, List.getElem?_append_right (by omega), List.getElem?_append_left (by omega)]; simpa using hj)
        simpa [hp] using this
    · cases h
  · cases hk

theorem load_held {E : Env} {o : Oper} {ops : Array Oper} {T : List Tch} {listed : Array Bool} {i : Nat} {v : AV} {ok : Bool} (hrel : Rel X w0 C0 C g st.mem w) (ht : RVL C g st.tmps a.tmps.toList) (hB : heldLoad ops T listed i st o = true) (h : pureOp E st o = some (ok, v)) (hok : ok = true) :
    ∃ b k z, noHit ops T listed i b ops.size = true ∧ Ghs.box g b = some k ∧ RV C g v z ∧ ∀ w' : World, SC C w' → ((∃ v, st.mem[b]? = some (.box v)) → w'.heap[k]? = w.heap[k]?) → (execOp a.eval o).run E.P w' = .ok (.value z) w' := by
  obtain ⟨dst, op, ty, pos, after, guard⟩ := o
  cases op with
  | load t p =>
    simp only [heldLoad] at hB
    unfold pureOp at h
    cases hp : evalOp st p with
    | none => simp [hp] at h
    | some vp =>
      have hpv := evalOp_RV ht hp
      cases vp with
      | loc b off =>
        simp only [hp] at h hB
        obtain ⟨h1, h2⟩ := cond_some h
        simp only [Option.map_eq_some_iff, Prod.mk.injEq] at h2
        obtain ⟨u, hu, _, rfl⟩ := h2
        obtain ⟨k, hk, hx⟩ := RV_loc hpv
        obtain ⟨mid, hm, hl, hc, hcell⟩ := held_of hrel hu hk
        obtain ⟨z, hz, hr⟩ := loadVar_run (P := E.P) h1 hm hc hl
        refine ⟨b, k, z, hB, hk, hz, fun w' hs hw => ?_⟩
        have := hr ⟨k, off, none⟩ w' (fun j v hj => by rw [Addr.add_lit]; exact hcell w' hs hw j v hj)
        simp [execOp, Instr.loadAt, hx, Instr.sureAddr, this]
      | _ => simp [hp] at hB
  | _ => simp [heldLoad] at hB

theorem put_mem (st : St) (d : Option Tmp) (v : AV) : (st.put d v).mem = st.mem := by cases d <;> rfl
theorem guarded_mem {ops : Array Oper} {o : Oper} {ρ : Type} {K f : St → Option ρ} {r : ρ} {R : Prop} (h : SR X w0 C0 fs C g st a w) (e : guarded ops.toList o st K f = some r)
    (hf : ∀ st', SR X w0 C0 fs C g st' a w → st'.mem = st.mem → Region.wanted o (yielded ops a.tmps) = true → f st' = some r → R)
    (hk : ∀ st', SR X w0 C0 fs C g st' a w → st'.mem = st.mem → Region.wanted o (yielded ops a.tmps) = false → K (st'.put o.dst (.tup [])) = some r → R) : R := by
  unfold guarded at e
  cases hg : o.guard with
  | none =>
    simp only [hg] at e
    exact hf st h rfl (by simp [Region.wanted, hg]) e
  | some p =>
    obtain ⟨j, want⟩ := p
    simp only [hg] at e
    cases hs : guardSlot ops.toList j with
    | none => simp [hs] at e
    | some s =>
      simp only [hs] at e
      cases hm : mget st.tmps s with
      | none => simp [hm] at e
      | some v =>
        cases v with
        | bool b =>
          simp only [hm] at e
          have hw := wanted_of h hg hs hm
          cases hb : biff b want with
          | true =>
            rw [hb] at e hw
            exact hf _ (h.refine hm (biff_true hb)) (put_mem _ _ _) hw e
          | false =>
            rw [hb] at e hw
            exact hk _ (h.refine hm (biff_false hb)) (put_mem _ _ _) hw e
        | tup l =>
          cases l with
          | nil =>
            simp only [hm] at e
            exact hk st h rfl (wanted_undef h hg hs hm) e
          | cons _ _ => simp [hm] at e
        | _ => simp [hm] at e

theorem hit_ne {t : Tch} {b : Nat} (h : (match t with | none => false | some none => true | some (some b') => Nat.beq b' b) = true) : ∀ b', hits t b' = false → b' ≠ b := by
  rintro b' h' rfl
  match t, h, h' with
  | some (some c), h, h' => have h2 : Nat.beq c b' = true := h; simp only [hits] at h'; rw [h2] at h'; cases h'
  | some none, _, h' => cases h'

theorem store_step {E : Env} {ρ : Type} {call : CallT ρ} {o : Oper} {t : Tch} {K : St → Option ρ} {r : ρ} (h : SR X w0 C0 fs C g st a w) (hB : storeOff t st o = true) (e : doOp E call o st K = some r) {Q : Exit → Act → World → Prop} {next : Act → World → Prop}
    (hn : ∀ (st' : St) (a' : Act) (w' : World) (b k : Nat), SR X w0 C0 fs C g st' a' w' → K st' = some r → (∀ b', hits t b' = false → b' ≠ b) → (∃ u, st.mem[b]? = some (.box u)) → (∃ u, st'.mem[b]? = some (.box u)) → Ghs.box g b = some k → (∀ b', b' ≠ b → st'.mem[b']? = st.mem[b']?) → (∀ k', k' ≠ k → w'.heap[k']? = w.heap[k']?) → next a' w') : o.wp E.P a w next Q := by
  obtain ⟨dst, op, ty, pos, after, guard⟩ := o
  cases op with
  | store ty' p x =>
    unfold doOp at e
    simp only [storeOff] at hB
    cases hp : evalOp st p with
    | none => simp [hp] at e
    | some vp =>
      have hpv := evalOp_RV h.tm hp
      cases hx : evalOp st x with
      | none => cases vp <;> simp [hp, hx] at e
      | some v =>
        have hxv := evalOp_RV h.tm hx
        cases vp with
        | loc b off =>
          simp only [hp, hx] at e hB
          cases hm : mget st.mem b with
          | none => simp [hm] at e
          | some m =>
            cases m with
            | box u =>
              simp only [hm] at e
              obtain ⟨h1, h2⟩ := cond_some e
              simp only [Bool.and_eq_true, beq_iff_eq] at h1
              cases hu : u.put off v.size v.cls v with
              | none => simp [hu] at h2
              | some u' =>
                simp only [hu] at h2
                have hrc := RV_solid hxv h1.1.2
                have hl := RC_size hrc
                obtain ⟨k, hk, hpe⟩ := RV_loc hpv
                rw [mget_eq] at hm
                obtain ⟨T, cs, hheap, hcs, _⟩ := h.rel.store hm hk hrc
                obtain ⟨pre, mid, post, rfl, hpl, hml, hu'⟩ := put_spec u hcs hu hrc hl
                have hrun := store_run (P := E.P) (t := ty') (y := a.eval x) h1.2 (by rw [← Array.length_toList, hl, h1.1.1]; rfl) hheap hpl (by rw [hml, ← hl]; simp) (RC_one hrc)
                have hs := h.set (by rw [mget_eq]; exact hm) hk hu'
                refine wp_skip' (w' := w.setRow k (pre ++ (a.eval x).cells.toList ++ post).toArray) ?_ (hn _ _ _ b k (hs.put (.any undef) dst) h2 (hit_ne hB) ⟨u, hm⟩ ⟨u', by rw [put_mem]; simp only [mset_eq]; exact List.getElem?_set_self (lt_of_getElem? hm)⟩ hk (fun b' hb => ?_) (fun k' hk' => ?_))
                · simp only [execOp, hpe, Sem.run_bind, hrun, Result.andThen_ok, Sem.run_pure]
                · cases dst <;> simp [St.put, mset_eq, List.getElem?_set_ne (Ne.symm hb)]
                · exact setRow_other w k k' _ hk'
            | _ => simp [hm] at e
        | _ => simp [hp] at hB
  | _ => simp [storeOff] at hB

/-- whatever order is picked, and each operation does no more than is said of it -/
def wpAnyR (P : Program) (ops : Array Oper) (Q : Exit → Act → World → Prop) (R : Nat → World → World → Prop) : Nat → Array Bool → Act → World → Prop
  | 0, listed, a, w => Region.ready .any ops listed = [] ∧ Q .normal a w
  | n + 1, listed, a, w => (Region.ready .any ops listed = [] → Q .normal a w) ∧
    ∀ i ∈ Region.ready .any ops listed, wpOp P ops Q i (fun a' w' => R i w w' ∧ wpAnyR P ops Q R n (listed.setIfInBounds i true) a' w') a w

theorem wpAny_of_R {P : Program} {ops : Array Oper} {Q : Exit → Act → World → Prop} {R : Nat → World → World → Prop} : ∀ (n : Nat) (listed : Array Bool) (a : Act) (w : World), wpAnyR P ops Q R n listed a w → wpAny P .any ops Q n listed a w
  | 0, _, _, _, h => h
  | n + 1, _, _, _, h => ⟨h.1, fun i hi => wpOp_mono (fun a' w' h' => wpAny_of_R n _ a' w' h'.2) (h.2 i hi)⟩

/-- what has come up waited for nothing that has not -/
def Closed (ops : Array Oper) (listed : Array Bool) : Prop := ∀ j oj, ops[j]? = some oj → listed.getD j false = true → ∀ e ∈ oj.after, Region.binds .any e = true → listed.getD e.on false = true
theorem closed_start (ops : Array Oper) (n : Nat) : Closed ops (Array.replicate n false) := by
  intro j oj _ h
  exfalso
  rw [Array.getD_eq_getD_getElem?, Array.getElem?_replicate] at h
  split at h <;> simp at h
theorem Closed.step {ops : Array Oper} {listed : Array Bool} (h : Closed ops listed) {i : Nat} (hi : i ∈ Region.ready .any ops listed) : Closed ops (listed.setIfInBounds i true) := by
  intro j oj hj hl e he hb
  refine getD_set_true ?_
  by_cases hij : i = j
  · subst hij
    obtain ⟨_, o, ho, hall⟩ := mem_ready.1 hi
    rw [hj] at ho
    cases ho
    exact hall e he hb
  · rw [getD_set_ne false hij] at hl
    exact h j oj hj hl e he hb
theorem Closed.waits {ops : Array Oper} {listed : Array Bool} (h : Closed ops listed) {i : Nat} : ∀ (n j : Nat), (∀ oj, ops[j]? = some oj → ∀ e ∈ oj.after, Region.binds .any e = true → listed.getD e.on false = true) → waits ops n i j = true → listed.getD i false = true
  | 0, _, _, hw => by simp [Am.waits] at hw
  | n + 1, j, hj, hw => by
    simp only [Am.waits] at hw
    split at hw
    · rename_i oj ho
      obtain ⟨e, he, hb⟩ := Array.any_eq_true'.1 hw
      simp only [Bool.and_eq_true, Bool.or_eq_true, beq_iff_eq] at hb
      have hl := hj oj ho e he hb.1
      rcases hb.2 with rfl | hw'
      · exact hl
      · exact h.waits n e.on (fun o' ho' e' he' hb' => h e.on o' ho' hl e' he' hb') hw'
    · cases hw

theorem wpAnyR_first {P : Program} {ops : Array Oper} {Q : Exit → Act → World → Prop} {R : Nat → World → World → Prop} {Inv : World → Prop} {i : Nat} {oi : Oper} {v : Value} (hi : ops[i]? = some oi) (hs : Region.noSelect ops = true)
    (hQ : ∀ c a w, Q (.panic c) (a.put oi.dst v) w → Q (.panic c) a w) (hrefl : ∀ w, R i w w) :
    ∀ (n : Nat) (listed : Array Bool) (a : Act) (w : World), Closed ops listed →
      (∀ j oj, ops[j]? = some oj → j ≠ i → listed.getD j true = false → (∀ e ∈ oj.after, Region.binds .any e = true → e.on ≠ i) → oi.apart ops oj = true) →
      (∀ j, j < ops.size → listed.getD j true = false → j ≠ i → waits ops ops.size i j = true ∨ ∀ w w', R j w w' → Inv w → Inv w') →
      i ∈ Region.ready .any ops listed → YieldsIf P ops Inv oi v a → Inv w → wpAnyR P ops Q R n (listed.setIfInBounds i true) (a.put oi.dst v) w → wpAnyR P ops Q R (n + 1) listed a w := by
  have hsel := Region.noSelect_spec hs
  intro n
  induction n with
  | zero =>
    intro listed a w _ _ _ hr hy hI H
    refine ⟨fun h => (by rw [h] at hr; cases hr), fun j hj => ?_⟩
    by_cases hji : j = i
    · subst hji
      exact hy.wpOp hi hI ⟨hrefl w, H⟩
    · have := ready_mono hj hji
      rw [H.1] at this
      cases this
  | succ n ih =>
    intro listed a w hc hfree hp hr hy hI H
    refine ⟨fun h => (by rw [h] at hr; cases hr), fun j hj => ?_⟩
    by_cases hji : j = i
    · subst hji
      exact hy.wpOp hi hI ⟨hrefl w, H⟩
    · obtain ⟨hjun, oj, hoj, hall⟩ := mem_ready.1 hj
      have hun : listed.getD i false ≠ true := by
        have h0 := (mem_ready.1 hr).1
        intro h1
        rw [Array.getD_eq_getD_getElem?] at h0 h1
        cases hx : listed[i]? with
        | none => rw [hx] at h0; cases h0
        | some b => rw [hx] at h0 h1; simp at h0 h1; rw [h0] at h1; cases h1
      have hpj : ∀ w w', R j w w' → Inv w → Inv w' := by
        rcases hp j (Array.getElem?_eq_some_iff.1 hoj).1 hjun hji with hw | h
        · exact absurd (hc.waits _ j (fun o' ho' => by rw [hoj] at ho'; cases ho'; exact hall) hw) hun
        · exact h
      have h1 := H.2 j (ready_mono hj hji)
      have hnot : ∀ e ∈ oj.after, Region.binds .any e = true → e.on ≠ i := fun e he hb heq => by
        have := hall e he hb
        rw [heq] at this
        exact hun this
      have h2 := wpOp_putIf hoj (hfree j oj hoj hji hjun hnot) (fun cs b => hsel i oi cs b hi) (fun cs b => hsel j oj cs b hoj) hQ hy h1
      refine wpOp_mono (fun a' w' h3 => ⟨h3.2.1, ih _ a' w' (hc.step hj) ?_ ?_ (ready_mono hr (Ne.symm hji)) h3.1 (hpj w w' h3.2.1 hI) ?_⟩) h2
      · intro k ok hk hki hun' hno
        refine hfree k ok hk hki ?_ hno
        by_cases hjk : j = k
        · subst hjk; exact hjun
        · rw [getD_set_ne true hjk] at hun'; exact hun'
      · intro k hks hun' hki
        refine hp k hks ?_ hki
        by_cases hjk : j = k
        · subst hjk; exact hjun
        · rw [getD_set_ne true hjk] at hun'; exact hun'
      · rw [Array.setIfInBounds_comm _ _ hji]
        exact h3.2.2

theorem noHit_spec {ops : Array Oper} {T : List Tch} {listed : Array Bool} {i b : Nat} : ∀ (n : Nat), noHit ops T listed i b n = true → ∀ j, j < n → listed.getD j true = false → j ≠ i → waits ops ops.size i j = true ∨ hits (tchAt T j) b = false
  | 0, _, j, hj, _, _ => by omega
  | n + 1, h, j, hj, hl, hne => by
    simp only [noHit, Bool.and_eq_true, Bool.or_eq_true, Bool.not_eq_true'] at h
    by_cases e : j = n
    · subst e
      rcases h.1 with ((h1 | h1) | h1) | h1
      · exact absurd (Nat.eq_of_beq_eq_true h1) hne
      · rw [hl] at h1; cases h1
      · exact .inr h1
      · exact .inl h1
    · exact noHit_spec n h.2 j (by omega) hl hne

theorem firstQuietB_mem {T : List Tch} {ops : Array Oper} {listed : Array Bool} : ∀ {l : List Nat} {q : Nat}, firstQuietB ops T st listed l = some q → q ∈ l ∧ Region.free .any ops listed q = true
  | [], _, h => by simp [firstQuietB] at h
  | i :: l, q, h => by
    simp only [firstQuietB] at h
    split at h
    · rename_i o ho
      cases hc : ((quietKind o || heldLoad ops T listed i st o) && Region.free .any ops listed i) with
      | true =>
        rw [hc, cond_true, Option.some.injEq] at h
        subst h
        exact ⟨by simp, (Bool.and_eq_true _ _ ▸ hc : _ ∧ _).2⟩
      | false =>
        rw [hc, cond_false] at h
        obtain ⟨h1, h2⟩ := firstQuietB_mem h
        exact ⟨by simp [h1], h2⟩
    · obtain ⟨h1, h2⟩ := firstQuietB_mem h
      exact ⟨by simp [h1], h2⟩

/-- what an operation leaves as it was: what stands still, and the variables that it does not write -/
def Frm (C : Mem) (g : Ghs) (T : List Tch) (live : Nat → Prop) (j : Nat) (w w' : World) : Prop :=
  (SC C w → SC C w') ∧ ∀ b k ty, live b → g[b]? = some (.box k ty) → hits (tchAt T j) b = false → w'.heap[k]? = w.heap[k]?
/-- the variables, at the region's start -/
def lives (mem : List Blk) : Nat → Prop := fun b => ∃ v, mem[b]? = some (.box v)

theorem execB_sound {E : Env} {ρ : Type} {call : CallT ρ} {T : List Tch} {ops : Array Oper} (hsel : Region.noSelect ops = true) {r : ρ} {K : St → Option ρ} {Q : Exit → Act → World → Prop} {L : Nat → Prop}
    (hK : ∀ st' a' w', Good X w0 C0 fs st' a' w' → K st' = some r → Q .normal a' w') : ∀ (n : Nat) (listed : Array Bool) (st : St) (a : Act) (w : World), Closed ops listed → (∀ b, L b ↔ lives st.mem b) → SR X w0 C0 fs C g st a w → execB E call T ops n listed st K = some r →
      wpAnyR E.P ops (NoPanic Q) (Frm C g T L) n listed a w
  | 0, listed, st, a, w, hc, hL, h, e => by
    simp only [execB] at e
    split at e
    · rename_i hr
      exact ⟨hr, NoPanic.normal (hK st a w ⟨C, g, h⟩ e)⟩
    · cases e
  | n + 1, listed, st, a, w, hc, hL, h, e => by
    have ih := execB_sound (call := call) (E := E) (T := T) (L := L) hsel hK n
    have hrefl : ∀ j w, Frm C g T L j w w := fun j w => ⟨fun h => h, fun _ _ _ _ _ _ => rfl⟩
    simp only [execB] at e
    split at e
    · rename_i hr
      refine ⟨fun _ => NoPanic.normal (hK st a w ⟨C, g, h⟩ e), fun i hi => (by rw [hr] at hi; cases hi)⟩
    · rename_i i rs hr
      split at e
      · rename_i q hq
        obtain ⟨hmem, hfree⟩ := firstQuietB_mem hq
        split at e
        · rename_i o ho
          rw [mget_eq] at ho
          have ho' : ops[q]? = some o := by simpa using ho
          have hrq : q ∈ Region.ready .any ops listed := by rw [hr]; exact hmem
          have hSC : ∀ j, j < ops.size → listed.getD j true = false → j ≠ q → waits ops ops.size q j = true ∨ ∀ w w', Frm C g T L j w w' → SC C w → SC C w' := fun j _ _ _ => .inr fun w w' h => h.1
          refine guarded_mem h e (fun st' h' hmm hw e => ?_) (fun st' h' hmm hw e => ?_)
          · cases hl : heldLoad ops T listed q st' o with
            | true =>
              rw [hl, cond_true] at e
              split at e
              · rename_i ok v hp
                obtain ⟨hok, e2⟩ := cond_some e
                obtain ⟨b, k, z, hbB, hk, hz, hrun⟩ := load_held h'.rel h'.tm hl hp hok
                refine wpAnyR_first (Inv := fun w' => SC C w' ∧ (lives st'.mem b → w'.heap[k]? = w.heap[k]?)) ho' hsel (fun c a w hp => hp.elim) (hrefl q) n listed a w hc (Region.free_spec ho' hfree) ?_ hrq
                  (.inl ⟨hw, fun w' hw' => hrun w' hw'.1 hw'.2⟩) ⟨h.rel.sub, fun _ => rfl⟩ (ih _ _ _ _ (hc.step hrq) (by rw [put_mem, hmm]; exact hL) (h'.put hz o.dst) e2)
                intro j hjs hj hne
                rcases noHit_spec _ hbB j hjs hj hne with h1 | h1
                · exact .inl h1
                · refine .inr fun w2 w3 hR hI => ⟨hR.1 hI.1, fun hv => ?_⟩
                  unfold Ghs.box at hk
                  split at hk
                  · rename_i k' ty hg
                    simp only [Option.some.injEq] at hk
                    subst hk
                    exact (hR.2 b k' ty ((hL b).2 (hmm ▸ hv)) hg h1).trans (hI.2 hv)
                  · cases hk
              · cases e
            | false =>
              rw [hl, cond_false] at e
              obtain ⟨z, hz, v, hv, e2⟩ := quietW_val h' e
              exact wpAnyR_first (Inv := SC C) ho' hsel (fun c a w hp => hp.elim) (hrefl q) n listed a w hc (Region.free_spec ho' hfree) hSC hrq (.inl ⟨hw, fun w' hw' => hz w' hw'⟩) h.rel.sub
                (ih _ _ _ _ (hc.step hrq) (by rw [put_mem, hmm]; exact hL) (h'.put hv o.dst) e2)
          · exact wpAnyR_first (Inv := SC C) ho' hsel (fun c a w hp => hp.elim) (hrefl q) n listed a w hc (Region.free_spec ho' hfree) hSC hrq (.inr ⟨hw, rfl⟩) h.rel.sub
                (ih _ _ _ _ (hc.step hrq) (by rw [put_mem, hmm]; exact hL) (h'.put RV_undef o.dst) e)
        · cases e
      · split at e
        · rename_i o ho _
          rw [mget_eq] at ho
          have ho' : ops[i]? = some o := by simpa using ho
          refine ⟨fun h0 => (by rw [h0] at hr; cases hr), fun j hj => ?_⟩
          have hj0 := hj
          rw [hr] at hj
          simp only [List.mem_singleton] at hj
          subst hj
          unfold wpOp
          simp only [ho']
          refine guarded_mem h e (fun st' h' hmm hw e' => ?_) (fun st' h' hmm hw e' => ?_)
          · rw [if_pos hw]
            obtain ⟨hso, e2⟩ := cond_some e'
            refine .inl (store_step h' hso e2 fun st2 a2 w2 b k h2 hk2 hbN hbx hbx2 hbk hmem hheap => ?_)
            have hL2 : ∀ b', L b' ↔ lives st2.mem b' := by
              intro b'
              rw [hL b', ← hmm]
              by_cases hb' : b' = b
              · subst hb'
                exact ⟨fun _ => hbx2, fun _ => hbx⟩
              · unfold lives
                rw [hmem b' hb']
            refine ⟨⟨fun _ => h2.rel.sub, fun b' k' ty hb' hg' hh => ?_⟩, ih _ _ _ _ (hc.step hj0) hL2 h2 hk2⟩
            refine hheap k' fun e => ?_
            subst e
            obtain ⟨u, hu⟩ := hbx
            obtain ⟨v', hv'⟩ := (hL b').1 hb'
            unfold Ghs.box at hbk
            split at hbk
            · rename_i k3 T3 hg3
              simp only [Option.some.injEq] at hbk
              subst hbk
              have := h'.rel.sep b b' _ _ _ _ _ hu hg3 (by rw [hmm]; exact hv') hg' rfl rfl
              exact hbN b' hh this.symm
            · cases hbk
          · rw [if_neg (by simp [hw])]
            exact ⟨hrefl _ _, ih _ _ _ _ (hc.step hj0) (by rw [put_mem, hmm]; exact hL) (h'.put RV_undef o.dst) e'⟩
        · cases e

end
end Am
end Go.Proofs.Ytkpojikfadeeeaa
