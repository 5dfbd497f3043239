/-
  A symbolic machine over the model, part 19: every run of code is the model's.
-/
import Derived.Test.YtkjpoongkdapoaaBm18
import Derived.LoopNIn
import Derived.RangeFuncRecord
namespace Go.Proofs.Ytkjpoongkdapoaa
namespace Am
open Go Go.RowKit
set_option linter.unusedVariables false
set_option linter.unusedSimpArgs false

def toExit : Ex → Exit
  | .normal => .normal
  | .exit i => .exit i
  | .ret => .ret

def LoopOk (E : Env) (fn : FuncId) (l : Lp) (b : Code) : Prop :=
  ∀ (x : l.sh.den × MSh l.ms) (o : OutT l.outs), (l.sum x).get = some o → ∃ n, iter (round1 E fn l b) n x = some o

def ExecOk (E : Env) (fn : FuncId) (ro : Option Nat) (c : Code) : Prop :=
  ∀ (X : Ctx) (w0 : World) (C0 : Mem) (fs : List (List Value)) (ρ : Type) [Pan ρ] (call : CallT ρ) (K : Cont ρ) (r : ρ) (Q : Exit → Act → World → Prop), X.G.length = E.nf → (∀ X, X.G.length = E.nf → CallOk E X call) → YOk E X w0 C0 →
    (∀ X' w0' C0', Ext X w0 C0 X' w0' C0' → PanOk X' w0' C0' r Q) →
    (∀ X' w0' C0', Ext X w0 C0 X' w0' C0' → ∀ e st' a' w', Good X' w0' C0' fs st' a' w' → K e st' = some r → Q (toExit e) a' w') →
      ∀ (st : St) (a : Act) (w : World), Good X w0 C0 fs st a w → exec E call fn c st K = some r → c.wpIn (FW ro) 0 E.P Q a w

theorem panOk_none {X : Ctx} {w0 : World} {C0 : Mem} {ρ : Type} {r : ρ} {Q : Exit → Act → World → Prop} : @PanOk X w0 C0 ρ (panNone ρ) r Q := fun hp => by cases hp
theorem PanOk.seq {X : Ctx} {w0 : World} {C0 : Mem} {ρ : Type} [Pan ρ] {r : ρ} {Q : Exit → Act → World → Prop} (N : Act → World → Prop) (h : PanOk X w0 C0 r Q) : PanOk X w0 C0 r (Exit.then N Q) := h
theorem PanOk.block {X : Ctx} {w0 : World} {C0 : Mem} {ρ : Type} [Pan ρ] {r : ρ} {Q : Exit → Act → World → Prop} (id : Nat) (h : PanOk X w0 C0 r Q) : PanOk X w0 C0 r (Exit.inBlock id Q) := h

section
variable {X : Ctx} {w0 w : World} {C0 C : Mem} {fs : List (List Value)} {g : Ghs} {st : St} {a : Act}

theorem Ex.same_eq {a b : Ex} (h : Ex.same a b = true) : a = b := by
  cases a <;> cases b <;> simp [Ex.same] at h
  · rfl
  · subst h; rfl
  · rfl

theorem cutO_spec {nf m : Nat} (h : SR X w0 C0 fs C g st a w) (ho : st.outer = []) (hm : m = a.tmps.toList.length) (hnf : X.G.length = nf) : ∀ (l : List Out) (e : Ex) (o : OutT l), cutO nf l e st = some o →
    (outE m l o).1 = e ∧ Good X w0 C0 fs (outE m l o).2 a w
  | [], e, o, hc => by simp [cutO] at hc
  | p :: l, e, o, hc => by
    simp only [cutO] at hc
    cases hs : Ex.same p.e e with
    | true =>
      rw [hs, cond_true, Option.map_eq_some_iff] at hc
      obtain ⟨x, hx, rfl⟩ := hc
      exact ⟨Ex.same_eq hs, stOf_good h ho hm hnf hx⟩
    | false =>
      rw [hs, cond_false, Option.map_eq_some_iff] at hc
      obtain ⟨x, hx, rfl⟩ := hc
      exact cutO_spec h ho hm hnf l e x hx

theorem out_nil (h : SR X w0 C0 [] C g st a w) : st.outer = [] := by
  have := h.out
  cases hs : st.outer with
  | nil => rfl
  | cons x l => rw [hs] at this; cases this
theorem nil_out (h : SR X w0 C0 fs C g st a w) (ho : st.outer = []) : fs = [] := by
  have := h.out
  rw [ho] at this
  cases this
  rfl

theorem rounds_sound {E : Env} {fn : FuncId} {ro : Option Nat} {l : Lp} {b : Code} (hb : ExecOk E fn ro b) (hcall : ∀ X, X.G.length = E.nf → CallOk E X (callee E 3 (ρ := (l.sh.den × MSh l.ms) ⊕ OutT l.outs))) {o : OutT l.outs} {Q : Exit → Act → World → Prop} :
    ∀ (n : Nat) (x : l.sh.den × MSh l.ms) (X : Ctx) (w0 : World) (C0 : Mem) (a : Act) (w : World), X.G.length = E.nf → YOk E X w0 C0 →
      (∀ X' w0' C0', Ext X w0 C0 X' w0' C0' → ∀ a' w', Good X' w0' C0' [] (outE l.m l.outs o).2 a' w' → Q (toExit (outE l.m l.outs o).1) a' w') → (∀ o' : OutT l.outs, (outE l.m l.outs o').1 ≠ .normal) →
      Good X w0 C0 [] (stOf l.m l.keep l.sh l.ms x) a w → iter (round1 E fn l b) n x = some o → Code.roundsIn (FW ro) 0 E.P b Q n a w
  | 0, x, X, w0, C0, a, w, _, _, _, _, _, e => by simp [iter] at e
  | n + 1, x, X, w0, C0, a, w, hnf, hY, hQ, hne, h, e => by
    simp only [iter] at e
    rw [roundsIn_succ]
    cases hr : round1 E fn l b x with
    | none => simp [hr] at e
    | some q =>
      simp only [hr] at e
      refine hb X w0 C0 [] _ (callee E 3) _ q _ hnf hcall hY (fun _ _ _ _ => panOk_none) ?_ _ a w h hr
      intro X' w0' C0' hx e' st' a' w' ⟨C', g', h'⟩ he
      obtain ⟨hm, he⟩ := cond_some he
      have hm' := tmps_len h' hm
      have ho := out_nil h'
      have hnf' : X'.G.length = E.nf := by rw [hx.G]; exact hnf
      cases e' with
      | normal =>
        simp only [Option.map_eq_some_iff] at he
        obtain ⟨y, hy, rfl⟩ := he
        simp only at e
        exact rounds_sound hb hcall n y X' w0' C0' a' w' hnf' (hY.ext hx) (fun X2 w2 C2 hx2 => hQ X2 w2 C2 (hx.trans hx2)) hne (stOf_good h' ho hm' hnf' hy) e
      | exit i =>
        simp only [Option.map_eq_some_iff] at he
        obtain ⟨y, hy, rfl⟩ := he
        simp only [Option.some.injEq] at e
        subst e
        obtain ⟨h1, h2⟩ := cutO_spec h' ho hm' hnf' _ _ _ hy
        have := hQ X' w0' C0' hx a' w' h2
        rw [h1] at this
        exact this
      | ret =>
        simp only [Option.map_eq_some_iff] at he
        obtain ⟨y, hy, rfl⟩ := he
        simp only [Option.some.injEq] at e
        subst e
        obtain ⟨h1, h2⟩ := cutO_spec h' ho hm' hnf' _ _ _ hy
        have := hQ X' w0' C0' hx a' w' h2
        rw [h1] at this
        exact this

theorem unroll_sound {E : Env} {fn : FuncId} {ro : Option Nat} {b : Code} (hb : ExecOk E fn ro b) {ρ : Type} [Pan ρ] {call : CallT ρ} (hcall : ∀ X, X.G.length = E.nf → CallOk E X call) {K : Cont ρ} {r : ρ} {fs : List (List Value)} {Q : Exit → Act → World → Prop} :
    ∀ (n : Nat) (X : Ctx) (w0 : World) (C0 : Mem) (st : St) (a : Act) (w : World), X.G.length = E.nf → YOk E X w0 C0 → (∀ X' w0' C0', Ext X w0 C0 X' w0' C0' → PanOk X' w0' C0' r Q) →
      (∀ X' w0' C0', Ext X w0 C0 X' w0' C0' → ∀ e st' a' w', Good X' w0' C0' fs st' a' w' → K e st' = some r → Q (toExit e) a' w') →
      Good X w0 C0 fs st a w → unroll (fun st K => exec E call fn b st K) n st K = some r → Code.roundsIn (FW ro) 0 E.P b Q n a w
  | 0, X, w0, C0, st, a, w, _, _, _, _, _, e => by simp [unroll] at e
  | n + 1, X, w0, C0, st, a, w, hnf, hY, hP, hQ, h, e => by
    simp only [unroll] at e
    rw [roundsIn_succ]
    refine hb X w0 C0 fs _ call _ r _ hnf hcall hY (fun X' w0' C0' hx => (hP X' w0' C0' hx).seq _) ?_ st a w h e
    intro X' w0' C0' hx e' st' a' w' h' he
    cases e' with
    | normal => exact unroll_sound hb hcall n X' w0' C0' st' a' w' (by rw [hx.G]; exact hnf) (hY.ext hx) (fun X2 w2 C2 hx2 => hP X2 w2 C2 (hx.trans hx2)) (fun X2 w2 C2 hx2 => hQ X2 w2 C2 (hx.trans hx2)) h' he
    | exit i => exact hQ X' w0' C0' hx (.exit i) st' a' w' h' he
    | ret => exact hQ X' w0' C0' hx .ret st' a' w' h' he

/-- what a machine leans on -/
structure EnvOk (E : Env) : Prop where
  hm : E.P.follows .mixedOrders = true
  con : ∀ f, ∀ fc ∈ E.con f, Spec E.P f fc
  inl : ∀ f k, E.inl f = true → E.lp f k = none
  inr : ∀ f k, E.inl f = true → E.rf f k = none
  inc : ∀ f k, E.inl f = true → E.ct f k = none

/-- the rest of a body, and its sum -/
def CutOk0 (E : Env) (fn : FuncId) (l : Lp) (b : Code) : Prop :=
  (l.may = false → ∀ (x : l.sh.den × MSh l.ms) (o : OutT l.outs), (l.sum x).get = some o → cut1 E fn l b x = some o) ∧
  (l.may = true → (∀ (x : l.sh.den × MSh l.ms) (o : OutT l.outs), (l.sum x).get = some o → cut1P E fn l b x = some (.ok o)) ∧ ∀ x, l.pan x = true → cut1P E fn l b x = some .pan)
/-- the same, shown of the model itself -/
def CutSem (E : Env) (l : Lp) (b : Code) : Prop :=
  ∀ (ro : Option Nat) (X : Ctx) (w0 : World) (C0 : Mem) (Q : Exit → Act → World → Prop) (a : Act) (w : World) (x : l.sh.den × MSh l.ms) (o : OutT l.outs), X.G.length = E.nf → Good X w0 C0 [] (stOf l.m l.keep l.sh l.ms x) a w → (l.sum x).get = some o →
    (∀ X2 w2 C2, Ext X w0 C0 X2 w2 C2 → ∀ a2 w3, Good X2 w2 C2 [] (outE l.m l.outs o).2 a2 w3 → Q (toExit (outE l.m l.outs o).1) a2 w3) → b.wpIn (FW ro) 0 E.P Q a w
def CutOk (E : Env) (fn : FuncId) (l : Lp) (b : Code) : Prop := CutOk0 E fn l b ∨ (l.may = false ∧ CutSem E l b)
def CutsGood (E : Env) (fn : FuncId) (c : Code) : Prop :=
  ∀ b ∈ cutsOf c, ∀ l, E.ct fn (key b) = some l → CutOk E fn l b ∧ (∀ X, X.G.length = E.nf → CallOk E X (callee E 3 (ρ := OutT l.outs))) ∧ ∀ X, X.G.length = E.nf → CallOk E X (callee E 3 (ρ := PanR (OutT l.outs)))
/-- a loop's summary, and what its rounds call -/
def LoopsGood (E : Env) (fn : FuncId) (c : Code) : Prop :=
  (∀ b ∈ loopsOf c, ∀ l, E.lp fn (key b) = some (.sum l) → LoopOk E fn l b ∧ (∀ o' : OutT l.outs, (outE l.m l.outs o').1 ≠ .normal) ∧ ∀ X, X.G.length = E.nf → CallOk E X (callee E 3 (ρ := (l.sh.den × MSh l.ms) ⊕ OutT l.outs))) ∧ CutsGood E fn c
theorem cutsGood_none {E : Env} {fn : FuncId} (h : ∀ k, E.ct fn k = none) (c : Code) : CutsGood E fn c := fun b _ l hl => by rw [h] at hl; cases hl
theorem LoopsGood.nil {E : Env} {fn : FuncId} {c : Code} (h : loopsOf c = []) (hc : ∀ k, E.ct fn k = none) : LoopsGood E fn c :=
  ⟨fun b hb => (by rw [h] at hb; cases hb), cutsGood_none hc c⟩
theorem LoopsGood.seq1 {E : Env} {fn : FuncId} {x y : Code} (h : LoopsGood E fn (.seq x y)) : LoopsGood E fn x :=
  ⟨fun b hb => h.1 b (by simp [loopsOf, mapp_eq, hb]), fun b hb => h.2 b (by simp [cutsOf, mapp_eq, hb])⟩
theorem LoopsGood.seq2 {E : Env} {fn : FuncId} {x y : Code} (h : LoopsGood E fn (.seq x y)) : LoopsGood E fn y :=
  ⟨fun b hb => h.1 b (by simp [loopsOf, mapp_eq, hb]), fun b hb => h.2 b (by simp [cutsOf, mapp_eq, hb])⟩
theorem LoopsGood.cond1 {E : Env} {fn : FuncId} {c : Operand} {x y : Code} (h : LoopsGood E fn (.cond c x y)) : LoopsGood E fn x :=
  ⟨fun b hb => h.1 b (by simp [loopsOf, mapp_eq, hb]), fun b hb => h.2 b (by simp [cutsOf, mapp_eq, hb])⟩
theorem LoopsGood.cond2 {E : Env} {fn : FuncId} {c : Operand} {x y : Code} (h : LoopsGood E fn (.cond c x y)) : LoopsGood E fn y :=
  ⟨fun b hb => h.1 b (by simp [loopsOf, mapp_eq, hb]), fun b hb => h.2 b (by simp [cutsOf, mapp_eq, hb])⟩
theorem LoopsGood.block {E : Env} {fn : FuncId} {i : Nat} {x : Code} (h : LoopsGood E fn (.block i x)) : LoopsGood E fn x := h
theorem LoopsGood.loop {E : Env} {fn : FuncId} {x : Code} (h : LoopsGood E fn (.loop x)) : LoopsGood E fn x :=
  ⟨fun b hb => h.1 b (by simp [loopsOf, hb]), h.2⟩

theorem exec_sound {E : Env} (hE : EnvOk E) {fn : FuncId} {ro : Option Nat} : ∀ (c : Code), LoopsGood E fn c → (∀ d ∈ rfsOf c, ExecOk E fn ro d) → ExecOk E fn ro c := by
  intro c
  induction c with
  | skip =>
    intro _ _ X w0 C0 fs ρ _ call K r Q hnf hcall hY hP hQ st a w h e
    obtain ⟨C, g, hh⟩ := h
    exact wpIn_skip (hQ X w0 C0 (Ext.refl hh.rel.low) .normal _ _ _ ⟨C, g, hh⟩ e)
  | label _ =>
    intro _ _ X w0 C0 fs ρ _ call K r Q hnf hcall hY hP hQ st a w h e
    obtain ⟨C, g, hh⟩ := h
    exact wpIn_label (hQ X w0 C0 (Ext.refl hh.rel.low) .normal _ _ _ ⟨C, g, hh⟩ e)
  | exit id =>
    intro _ _ X w0 C0 fs ρ _ call K r Q hnf hcall hY hP hQ st a w h e
    obtain ⟨C, g, hh⟩ := h
    exact wpIn_exit (hQ X w0 C0 (Ext.refl hh.rel.low) (.exit id) _ _ _ ⟨C, g, hh⟩ e)
  | ret =>
    intro _ _ X w0 C0 fs ρ _ call K r Q hnf hcall hY hP hQ st a w h e
    obtain ⟨C, g, hh⟩ := h
    exact wpIn_ret (hQ X w0 C0 (Ext.refl hh.rel.low) .ret _ _ _ ⟨C, g, hh⟩ e)
  | region id ops draw =>
    intro _ _ X w0 C0 fs ρ _ call K r Q hnf hcall hY hP hQ st a w h e
    simp only [exec] at e
    obtain ⟨C, g, h⟩ := h
    have hQ1 : ∀ st' a' w', Good X w0 C0 fs st' a' w' → K .normal st' = some r → Q .normal a' w' := fun st' a' w' => hQ X w0 C0 (Ext.refl h.rel.low) .normal st' a' w'
    cases hM : (mergeOk E st ops && cond draw (Region.lexB .any ops) true) with
    | true =>
      rw [hM, cond_true] at e
      obtain ⟨hM1, hM2⟩ := (Bool.and_eq_true _ _ ▸ hM : _ ∧ _)
      unfold mergeOk at hM1
      simp only [Bool.and_eq_true] at hM1
      obtain ⟨_, _, hd, _, _⟩ := hM1
      have hwq := execM_sound (K := fun st => K .normal st) (next := fun a' => ∀ w', Below w.heap.size w w' → Q .normal a' w') hE.con (fun st' a' h' e' w' hw => hQ1 _ _ _ ⟨C, g, h'.rel.ext hw, h'.tm, h'.out, h'.df⟩ e') h e
      cases draw with
      | true => exact quietIn (Cl := fun w' => Below w.heap.size w w') hE.hm hd hM2 (Below.refl _ _).drew hwq
      | false => exact wpIn_region_list (listIn_of_quiet (noDefer_spec hd) _ (fun _ h => h) _ _ (Below.refl _ _) hwq)
    | false =>
    rw [hM, cond_false] at e
    cases draw with
    | true =>
      simp only [cond_true] at e
      obtain ⟨hd, e⟩ := cond_some e
      exact drawY_sound (K := fun st => K .normal st) hE.hm (hcall X hnf) hY hE.con hd (hP X w0 C0 (Ext.refl h.rel.low)) hQ1 h e
    | false =>
      simp only [cond_false] at e
      exact wpIn_region_list (execOps_sound (K := fun st => K .normal st) (hcall X hnf) hY (hP X w0 C0 (Ext.refl h.rel.low)) hQ1 _ st a w ⟨C, g, h⟩ e)
  | seq x y ihx ihy =>
    intro hl hf X w0 C0 fs ρ _ call K r Q hnf hcall hY hP hQ st a w h e
    simp only [exec] at e
    simp only [rfsOf, mapp_eq, List.mem_append] at hf
    refine wpIn_seq (ihx hl.seq1 (fun b hb => hf b (.inl hb)) X w0 C0 fs ρ call _ r _ hnf hcall hY (fun X' w0' C0' hx => (hP X' w0' C0' hx).seq _) ?_ st a w h e)
    intro X' w0' C0' hx x' st' a' w' h' e'
    have ihy' := ihy hl.seq2 (fun b hb => hf b (.inr hb)) X' w0' C0'
    have hnf' : X'.G.length = E.nf := by rw [hx.G]; exact hnf
    cases x' with
    | normal =>
      cases hct : E.ct fn (key y) with
      | none =>
        simp only [hct] at e'
        exact ihy' fs ρ call K r Q hnf' hcall (hY.ext hx) (fun X2 w2 C2 hx2 => hP X2 w2 C2 (hx.trans hx2)) (fun X2 w2 C2 hx2 => hQ X2 w2 C2 (hx.trans hx2)) st' a' w' h' e'
      | some l =>
        simp only [hct] at e'
        obtain ⟨hco, hcall3, hcall4⟩ := hl.2 y (by simp [cutsOf]) l hct
        unfold cutRun at e'
        split at e'
        · rename_i ho
          obtain ⟨hm, e'⟩ := cond_some e'
          split at e'
          · rename_i x0 hx0
            obtain ⟨C, g, h'⟩ := h'
            have hfs := nil_out h' ho
            subst hfs
            obtain ⟨g', _, hu⟩ := upL_spec l.up h'
            have hst := stOf_good hu (by rw [upL_outer]; exact ho) (tmps_len h' hm) hnf' hx0
            rcases hco with hco | ⟨hm0, hsem⟩
            case inr =>
              rw [hm0, Bool.false_and, cond_false] at e'
              obtain ⟨o, h1, h2⟩ := Tr.elim_some e'
              exact hsem ro X' w0' C0' Q a' w' x0 o hnf' hst h1 fun X2 w2 C2 hx2 a2 w3 hg2 => hQ X2 w2 C2 (hx.trans hx2) _ _ _ _ hg2 h2
            cases hp : (l.may && l.pan x0) with
            | true =>
              rw [hp, cond_true] at e'
              rw [Bool.and_eq_true] at hp
              refine ihy' [] (PanR (OutT l.outs)) (callee E 3) _ .pan Q hnf' hcall4 (hY.ext hx) (fun X2 w2 C2 hx2 _ => hP X2 w2 C2 (hx.trans hx2) e') ?_ _ a' w' hst ((hco.2 hp.1).2 x0 hp.2)
              intro X2 w2 C2 hx2 e2 st2 a2 w3 _ ek
              obtain ⟨_, ek⟩ := cond_some ek
              obtain ⟨o, _, ho2⟩ := Option.map_eq_some_iff.1 ek
              cases ho2
            | false =>
            rw [hp, cond_false] at e'
            obtain ⟨o, h1, h2⟩ := Tr.elim_some e'
            cases hmay : l.may with
            | false =>
              have h3 := hco.1 hmay x0 o h1
              refine ihy' [] (OutT l.outs) (callee E 3) _ o Q hnf' hcall3 (hY.ext hx) (fun _ _ _ _ => panOk_none) ?_ _ a' w' hst h3
              intro X2 w2 C2 hx2 e2 st2 a2 w3 ⟨C3, g3, h4⟩ ek
              obtain ⟨hm2, ek⟩ := cond_some ek
              have hm2' := tmps_len h4 hm2
              have ho2 := out_nil h4
              obtain ⟨i1, i2⟩ := cutO_spec h4 ho2 hm2' (by rw [hx2.G]; exact hnf') _ _ _ ek
              have := hQ X2 w2 C2 (hx.trans hx2) _ _ _ _ i2 h2
              rw [i1] at this
              exact this
            | true =>
              have h3 := (hco.2 hmay).1 x0 o h1
              refine ihy' [] (PanR (OutT l.outs)) (callee E 3) _ (.ok o) Q hnf' hcall4 (hY.ext hx) (fun X2 w2 C2 hx2 hpp => by cases hpp) ?_ _ a' w' hst h3
              intro X2 w2 C2 hx2 e2 st2 a2 w3 ⟨C3, g3, h4⟩ ek
              obtain ⟨hm2, ek⟩ := cond_some ek
              obtain ⟨o2, ek, ho3⟩ := Option.map_eq_some_iff.1 ek
              cases ho3
              have hm2' := tmps_len h4 hm2
              have ho2 := out_nil h4
              obtain ⟨i1, i2⟩ := cutO_spec h4 ho2 hm2' (by rw [hx2.G]; exact hnf') _ _ _ ek
              have := hQ X2 w2 C2 (hx.trans hx2) _ _ _ _ i2 h2
              rw [i1] at this
              exact this
          · cases e'
        · cases e'
    | exit i => exact hQ X' w0' C0' hx (.exit i) _ _ _ h' e'
    | ret => exact hQ X' w0' C0' hx .ret _ _ _ h' e'
  | cond c x y ihx ihy =>
    intro hl hf X w0 C0 fs ρ _ call K r Q hnf hcall hY hP hQ st a w h e
    simp only [exec] at e
    simp only [rfsOf, mapp_eq, List.mem_append] at hf
    have ihx := ihx hl.cond1 (fun b hb => hf b (.inl hb)) X w0 C0 fs ρ call K r Q hnf hcall hY hP hQ
    have ihy := ihy hl.cond2 (fun b hb => hf b (.inr hb)) X w0 C0 fs ρ call K r Q hnf hcall hY hP hQ
    cases c with
    | tmp t =>
      cases hmt : mget st.tmps t with
      | none => simp [hmt] at e
      | some v =>
        cases v with
        | bool b =>
          simp only [hmt] at e
          obtain ⟨C, g, h⟩ := h
          have hs := slot_bool h hmt
          have hev : a.eval (.tmp t) = .bool b := by
            rw [Array.getElem?_eq_some_iff] at hs
            obtain ⟨hlt, he⟩ := hs
            simp [Act.eval, Array.getD, hlt, he]
          refine wpIn_cond hev ?_
          cases b with
          | true => exact ihx _ a w ⟨C, g, h.refine hmt rfl⟩ e
          | false => exact ihy _ a w ⟨C, g, h.refine hmt rfl⟩ e
        | _ => simp [hmt] at e
    | const v =>
      cases v with
      | bool b =>
        simp only at e
        refine wpIn_cond (t := b) rfl ?_
        cases b with
        | true => exact ihx _ a w h e
        | false => exact ihy _ a w h e
      | _ => simp at e
    | _ => simp at e
  | block id b ih =>
    intro hl hf X w0 C0 fs ρ _ call K r Q hnf hcall hY hP hQ st a w h e
    simp only [exec] at e
    refine wpIn_block (ih hl hf X w0 C0 fs ρ call _ r _ hnf hcall hY (fun X' w0' C0' hx => (hP X' w0' C0' hx).block _) ?_ st a w h e)
    intro X' w0' C0' hx x' st' a' w' h' e'
    cases x' with
    | normal => exact hQ X' w0' C0' hx .normal _ _ _ h' e'
    | exit i =>
      simp only [toExit, Exit.inBlock]
      simp only at e'
      by_cases hi : i = id
      · subst hi
        simp only [beq_self_eq_true, cond_true] at e'
        rw [if_pos rfl]
        exact hQ X' w0' C0' hx .normal _ _ _ h' e'
      · rw [if_neg hi]
        rw [beq_eq_false_iff_ne.2 hi, cond_false] at e'
        exact hQ X' w0' C0' hx (.exit i) _ _ _ h' e'
    | ret => exact hQ X' w0' C0' hx .ret _ _ _ h' e'
  | loop b ih =>
    intro hl hf X w0 C0 fs ρ _ call K r Q hnf hcall hY hP hQ st a w h e
    simp only [exec] at e
    have hb : ExecOk E fn ro b := ih hl.loop hf
    cases hlp : E.lp fn (key b) with
    | none => simp [hlp] at e
    | some lk =>
      cases lk with
      | unroll n =>
        simp only [hlp] at e
        exact wpIn_loop_rounds n (unroll_sound hb hcall n X w0 C0 st a w hnf hY hP hQ h e)
      | sum l =>
        simp only [hlp] at e
        obtain ⟨hlo, hne, hcall3⟩ := hl.1 b (by simp [loopsOf]) l hlp
        split at e
        · rename_i ho
          obtain ⟨hm, e⟩ := cond_some e
          split at e
          · rename_i x hx
            obtain ⟨o, h1, h2⟩ := Tr.elim_some e
            obtain ⟨n, h3⟩ := hlo x o h1
            obtain ⟨C, g, h⟩ := h
            have hfs := nil_out h ho
            subst hfs
            obtain ⟨g', _, hu⟩ := upL_spec l.up h
            have hst := stOf_good hu (by rw [upL_outer]; exact ho) (tmps_len h hm) hnf hx
            exact wpIn_loop_rounds n (rounds_sound hb hcall3 n x X w0 C0 a w hnf hY (fun X' w0' C0' hx' a' w' hG => hQ X' w0' C0' hx' _ _ _ _ hG h2) hne hst h3)
          · cases e
        · cases e
  | rangeFunc f ps x y _ _ => exact fun _ hf => hf _ (by simp [rfsOf])
  | _ => intro _ _ X w0 C0 fs ρ _ call K r Q hnf hcall hY hP hQ st a w h e; simp [exec] at e

end
end Am
end Go.Proofs.Ytkjpoongkdapoaa
