/-
  What is deferred by wire.Parse: what is panicked is caught.
-/
import Derived.Test.YthnmiialdjifiaaProg
import Derived.Test.YthnmiialdjifiaaBm24
import Derived.RecoverIn
import Derived.Test.YthnmiialdjifiaaWp2
namespace Go.Proofs.Ythnmiialdjifiaa
namespace Am
open Go Go.RowKit
set_option maxRecDepth 100000
set_option linter.unusedVariables false
set_option linter.unusedSimpArgs false

/- code, taken apart -/
def opD : Oper := { dst := none, op := .move (.const (.bool true)), type := 0, pos := "", after := #[], guard := none }
def sq1 : Code → Code
  | .seq a _ => a
  | c => c
def sq2 : Code → Code
  | .seq _ b => b
  | c => c
def rOps : Code → Array Oper
  | .region _ o _ => o
  | _ => #[]
def opN (o : Array Oper) (i : Nat) : Oper := (mget o.toList i).getD opD

/- pieces of a run by the machine, in a state that is carried along -/
section
variable {E : Env} {X : Ctx} {w0 w : World} {C0 : Mem} {fs : List (List Value)} {st st1 : St} {a : Act}

noncomputable def runOps (E : Env) (ops : Array Oper) (st : St) : Option St := execOps E (callee E 3) ops.toList ops.toList st some
noncomputable def runOp (E : Env) (o : Oper) (st : St) : Option St := doOp3 E (callee E 3) o st some
noncomputable def runOp1 (E : Env) (o : Oper) (st : St) : Option St := doOp E (callee E 3) o st some

theorem reg_run (hE : EnvOk E) (hy : E.yld = none) (hnf : X.G.length = E.nf) (h : Good X w0 C0 fs st a w) {ops : Array Oper} {Q : Exit → Act → World → Prop} {id : Nat} (e : runOps E ops st = some st1)
    (k : ∀ a' w', Good X w0 C0 fs st1 a' w' → Q .normal a' w') : (Code.region id ops false).wpIn (FW none) 0 E.P Q a w :=
  wpIn_region_list (execOps_sound (ρ := St) (K := some) (callee_sound hE 3 St X hnf) (fun ks fc hyy => by rw [hy] at hyy; cases hyy) panOk_none (fun st' a' w' hG hk => k a' w' (by cases hk; exact hG)) _ st a w h e)
theorem op_run (hE : EnvOk E) (hy : E.yld = none) (hnf : X.G.length = E.nf) (h : Good X w0 C0 fs st a w) {ops : Array Oper} {Q : Exit → Act → World → Prop} {o : Oper} {rest : List Oper} (hg : o.guard = none) (e : runOp E o st = some st1)
    (k : ∀ a' w', Good X w0 C0 fs st1 a' w' → wpListIn (FW none) 0 E.P ops Q rest a' w') : wpListIn (FW none) 0 E.P ops Q (o :: rest) a w := by
  refine wpListIn_step fun Kc hKc => ?_
  have hw : Region.wanted o (yielded ops a.tmps) = true := by simp [Region.wanted, hg]
  rw [if_pos hw]
  obtain ⟨C, g, h⟩ := h
  exact doOp3_sound (ρ := St) (K := some) (callee_sound hE 3 St X hnf) (fun ks fc hyy => by rw [hy] at hyy; cases hyy) h e panOk_none fun st' a' w' hG hk => hKc _ _ (k a' w' (by cases hk; exact hG))
/-- an operation that neither calls nor panics, in a deferred call's frame -/
theorem op_runS (hE : EnvOk E) (hnf : X.G.length = E.nf) (h : Good X w0 C0 fs st a w) {ops : Array Oper} {Q : Exit → Act → List Frame → World → Prop} {o : Oper} {i : Nat} {rest : List Nat} {cs : List Frame} (ho : ops[i]? = some o) (hg : o.guard = none)
    (hv : ∀ x w', (execOp a.eval o).run E.P w = .ok x w' → (∃ v, x = .value v) ∨ x = .skip) (hp : ∀ v w', (execOp a.eval o).run E.P w ≠ .halt (.panic v) w') (e : runOp1 E o st = some st1)
    (k : ∀ a' w', Good X w0 C0 fs st1 a' w' → wpOpsSIn (FW none) 0 E.P ops Q rest a' cs w') : wpOpsSIn (FW none) 0 E.P ops Q (i :: rest) a cs w := by
  obtain ⟨C, g, h⟩ := h
  have hs := doOp_sound (ρ := St) (K := some) (callee_sound hE 3 St X hnf) h e (next := fun a' w' => Good X w0 C0 fs st1 a' w') (Q := fun _ _ _ => True) panOk_none fun st' a' w' hG hk => by cases hk; exact hG
  have hw : Region.wanted o (yielded ops a.tmps) = true := by simp [Region.wanted, hg]
  simp only [wpOpsSIn, ho, hw, if_true]
  refine ⟨fun _ _ => trivial, ?_⟩
  unfold Oper.wp at hs
  revert hs hv hp
  generalize (execOp a.eval o).run E.P w = q
  intro hv hp hs
  cases q with
  | ok x w' =>
    rcases hv x w' rfl with ⟨v, rfl⟩ | rfl
    · exact k _ _ hs
    · exact k _ _ hs
  | halt x w' =>
    cases x with
    | panic v => exact absurd rfl (hp v w')
    | _ => simp only [Oper.upon] at hs
end

theorem run_value {P : Program} {s : Sem Value} {w : World} {x : Next} {w' : World} (h : ((do pure (.value (← s)) : Sem Next)).run P w = .ok x w') : (∃ v, x = .value v) ∨ x = .skip := by
  simp only [Sem.run_bind, Sem.run_pure] at h
  revert h
  generalize s.run P w = q
  intro h
  cases q with
  | ok v w1 => simp only [Result.andThen_ok] at h; cases h; exact .inl ⟨_, rfl⟩
  | halt _ _ => cases h
theorem run_unit {P : Program} {s : Sem Unit} {w : World} {x : Next} {w' : World} (h : ((do s; pure .skip : Sem Next)).run P w = .ok x w') : (∃ v, x = .value v) ∨ x = .skip := by
  simp only [Sem.run_bind, Sem.run_pure] at h
  revert h
  generalize s.run P w = q
  intro h
  cases q with
  | ok v w1 => simp only [Result.andThen_ok] at h; cases h; exact .inr rfl
  | halt _ _ => cases h
/-- neither calls nor defers -/
def plainOp (o : Oper) : Bool := (match o.guard with | none => true | some _ => false) && (match o.op with
  | .move _ | .assign _ | .extract _ _ | .alloc _ | .store _ _ _ => true
  | _ => false)
theorem plainOp_run {P : Program} {o : Oper} (h : plainOp o = true) {a : Act} {w w' : World} {x : Next} (e : (execOp a.eval o).run P w = .ok x w') : (∃ v, x = .value v) ∨ x = .skip := by
  obtain ⟨dst, op, ty, pos, after, guard⟩ := o
  unfold plainOp at h
  rw [Bool.and_eq_true] at h
  cases op <;> simp only [reduceCtorEq, Bool.false_eq_true, and_false] at h
  · simp only [execOp, Sem.run_pure] at e; cases e; exact .inl ⟨_, rfl⟩
  · simp only [execOp, Sem.run_pure] at e; cases e; exact .inl ⟨_, rfl⟩
  · exact run_value e
  · exact run_unit e
  · exact run_value e
noncomputable def runIdx (E : Env) (ops : Array Oper) : List Nat → St → Option St
  | [], st => some st
  | i :: r, st => match mget ops.toList i with
    | some o => cond (plainOp o) (match runOp1 E o st with | some st1 => runIdx E ops r st1 | none => none) none
    | none => none

section
variable {E : Env} {X : Ctx} {w0 : World} {C0 : Mem} {fs : List (List Value)} {st1 : St}
/-- operations that neither call nor panic, in a deferred call's frame -/
theorem idx_runS (hE : EnvOk E) (hnf : X.G.length = E.nf) {ops : Array Oper} {Q : Exit → Act → List Frame → World → Prop} {cs : List Frame} (k : ∀ a' w', Good X w0 C0 fs st1 a' w' → Q .normal a' cs w') :
    ∀ (l : List Nat) (st : St) (a : Act) (w : World), Good X w0 C0 fs st a w → runIdx E ops l st = some st1 → wpOpsSIn (FW none) 0 E.P ops Q l a cs w
  | [], st, a, w, h, e => by
    simp only [runIdx, Option.some.injEq] at e
    subst e
    exact k a w h
  | i :: rest, st, a, w, ⟨C, g, h⟩, e => by
    simp only [runIdx] at e
    split at e
    · rename_i o ho
      obtain ⟨hp, e⟩ := cond_some e
      split at e
      · rename_i st2 h2
        have hs := doOp_sound (ρ := St) (K := some) (callee_sound hE 3 St X hnf) h h2 (next := fun a' w' => Good X w0 C0 fs st2 a' w') (Q := fun _ _ _ => False) panOk_none fun st' a' w' hG hk => by cases hk; exact hG
        have hg : o.guard = none := by
          unfold plainOp at hp
          rw [Bool.and_eq_true] at hp
          cases hg : o.guard with
          | none => rfl
          | some q => rw [hg] at hp; cases hp.1
        have hw : Region.wanted o (yielded ops a.tmps) = true := by simp [Region.wanted, hg]
        have ho' : ops[i]? = some o := by rw [mget_eq] at ho; simpa using ho
        simp only [wpOpsSIn, ho', hw, if_true]
        refine ⟨fun _ _ => trivial, ?_⟩
        unfold Oper.wp at hs
        have hv := fun (x : Next) (w' : World) => plainOp_run (P := E.P) (a := a) (w := w) (w' := w') (x := x) hp
        revert hs hv
        generalize (execOp a.eval o).run E.P w = q
        intro hs hv
        cases q with
        | ok x w' =>
          rcases hv x w' rfl with ⟨v, rfl⟩ | rfl
          · exact idx_runS hE hnf k rest st2 _ _ hs e
          · exact idx_runS hE hnf k rest st2 _ _ hs e
        | halt x w' =>
          cases x with
          | panic v => exact hs.elim
          | _ => exact hs.elim
      · cases e
    · cases e
end

/-- the closure that catches -/
noncomputable def cB : Code := bodyOf Try.prog 28
noncomputable def cO0 : Array Oper := rOps (sq1 cB)
noncomputable def cO1 : Array Oper := rOps (sq1 (sq2 cB))
def cdX : Code → Code
  | .cond _ x _ => x
  | c => c
noncomputable def cO2 : Array Oper := rOps (cdX (sq2 (sq2 cB)))
theorem cB_eq : cB = .seq (.region 0 cO0 false) (.seq (.region 1 cO1 false) (.cond (.tmp 9) (.region 2 cO2 false) .skip)) := by kernel_rfl
noncomputable def cE : Env := mkE Try.prog [] [] 28 [] [] 0
theorem cE_ok : EnvOk cE := envOk_mk rfl (fun p hp => by cases hp)
noncomputable def cSt (b : Bool) (tm : List AV) (mem : List Blk) : St :=
  { tmps := [.loc 0 0, .loc 1 0, .any, .any, .any, .any, .tup [.agg [], .bool b], .any, .any, .any, .any], outer := [tm], mem := mem }
noncomputable def cRun1 (b : Bool) (tm : List AV) (mem : List Blk) : Option St := match runIdx cE cO0 [2, 3, 4, 5, 6, 7] (cSt b tm mem) with
  | some st => runOps cE cO1 st
  | none => none
noncomputable def cRun (tm : List AV) (mem : List Blk) : Option St := match cRun1 true tm mem with
  | some st => runOps cE cO2 (st.put (some 9) (.bool true))
  | none => none
theorem cOp0 : (cO0[0]?).map (fun o => (o.op, o.guard, o.dst)) = some (.call { callee := .builtin .recover, args := #[], argTypes := #[] }, none, some 5) := by kernel_rfl
theorem cOp1 : (cO0[1]?).map (fun o => (o.op, o.guard, o.dst)) = some (.typeAssert (.tmp 5) 20 57 true, none, some 6) := by kernel_rfl
theorem cFn : (mget Try.prog.funcs.toList 28).map (fun f => (f.body, f.ntmps, f.results)) = some (some cB, 11, #[]) := by kernel_rfl
theorem bad_under : Try.prog.underlying 57 = some (.struct #[]) := by kernel_rfl
theorem bad_zero : (Try.prog.info? 57).map (fun i => (i.zero, i.size)) = some (some (.agg #[]), 0) := by kernel_rfl
theorem cO0_size : List.range cO0.size = [0, 1, 2, 3, 4, 5, 6, 7] := by kernel_rfl
theorem badv_eq {v : Value} (h : BadV v) : v = .iface 57 (.agg #[]) := by
  obtain ⟨C, g, h⟩ := h
  obtain ⟨y, rfl, hy⟩ := RV_iface h
  obtain ⟨cs, rfl, hc⟩ := RV_agg hy
  cases hc with
  | agg h => cases h; rfl

/-- what is handed over by recover, and how the frame below stands then -/
def CatchR (b : Bool) (u u' : FrameMode) (z : Value) : Prop :=
  (b = true ∧ ∃ v, BadV v ∧ u = .panicking [{ v, recovered := false }] ∧ u' = .panicking [{ v, recovered := true }] ∧ z = v) ∨ (b = false ∧ u = .returning ∧ u' = .returning ∧ z = .nilIface)

section
variable {P : Program} {ops : Array Oper} {Q : Exit → Act → List Frame → World → Prop} {o : Oper} {i : Nat} {rest : List Nat} {cs cs' : List Frame} {a : Act} {w w' : World} {v : Value}
theorem opsS_value (ho : ops[i]? = some o) (hg : o.guard = none) (hr : (execOp a.eval o).run P w = .ok (.value v) w') (h : wpOpsSIn (FW none) 0 P ops Q rest (a.put o.dst v) cs w') : wpOpsSIn (FW none) 0 P ops Q (i :: rest) a cs w := by
  have hw : Region.wanted o (yielded ops a.tmps) = true := by simp [Region.wanted, hg]
  simp only [wpOpsSIn, ho, hw, if_true, hr]
  exact ⟨fun _ _ => trivial, h⟩
theorem opsS_recover (ho : ops[i]? = some o) (hg : o.guard = none) (hr : (execOp a.eval o).run P w = .ok .recover w) (hrec : recoverD cs = some (v, cs') ∨ (recoverD cs = none ∧ v = .nilIface ∧ cs' = cs)) (h : wpOpsSIn (FW none) 0 P ops Q rest (a.put o.dst v) cs' w) : wpOpsSIn (FW none) 0 P ops Q (i :: rest) a cs w := by
  have hw : Region.wanted o (yielded ops a.tmps) = true := by simp [Region.wanted, hg]
  simp only [wpOpsSIn, ho, hw, if_true, hr]
  refine ⟨fun _ _ => trivial, ?_⟩
  rcases hrec with h1 | ⟨h1, rfl, rfl⟩
  · simp only [h1]; exact h
  · simp only [h1]; exact h
end

theorem clo {X : Ctx} {w0 w : World} {C0 C : Mem} {g : Ghs} {mem : List Blk} {tm : List AV} {tl : List Value} {pm pn : Value} (hX : X.G.length = 0) (hrel : Rel X w0 C0 C g mem w) (htm : RVL C g tm tl) (h0 : RV C g (.loc 0 0) pm) (h1 : RV C g (.loc 1 0) pn)
    {b : Bool} {u u' : FrameMode} {z : Value} (hc : CatchR b u u' z) {st1 st2 : St} (e1 : cRun1 b tm mem = some st1) (hb : mget st1.tmps 9 = some (.bool b)) (e2 : cond b (runOps cE cO2 (st1.put (some 9) (.bool true))) (some st1) = some st2) (ho : st2.outer = [tm]) :
    CallsDIn (FW none) 0 Try.prog 28 #[pm, pn] u w fun e v w' => (∃ z, e = .returned z) ∧ v = u' ∧ ∃ C' g', Rel X w0 C0 C' g' st2.mem w' ∧ RVL C' g' tm tl := by
  have hfn := cFn
  simp only [Option.map_eq_some_iff, Prod.mk.injEq] at hfn
  obtain ⟨f, hf, hbody, hnt, hres⟩ := hfn
  refine callsDIn_of_wpSIn (mget_funcs hf) hbody trivial fun c₀ cs hu => ?_
  have hX' : ({ X with ds := [] } : Ctx).G.length = cE.nf := hX
  have q0 := cOp0
  have q1 := cOp1
  simp only [Option.map_eq_some_iff, Prod.mk.injEq] at q0 q1
  obtain ⟨o0, ho0, hop0, hg0, hd0⟩ := q0
  obtain ⟨o1, ho1, hop1, hg1, hd1⟩ := q1
  rw [cB_eq]
  refine wpSIn_seq (wpSIn_region ?_)
  rw [cO0_size]
  have hent : SR { X with ds := [] } w0 C0 [tl] C g { tmps := mapp [.loc 0 0, .loc 1 0] (mrep (11 - mlen [AV.loc 0 0, .loc 1 0]) .any), outer := [tm], mem := mem } { tmps := #[pm, pn] ++ Array.replicate (f.ntmps - (#[pm, pn] : Array Value).size) undef, defers := [] } w :=
    ⟨hrel.reds [], (by rw [hnt]; exact enter_tmps (vs := [pm, pn]) (.cons h0 (.cons h1 .nil))), .cons htm .nil, rfl⟩
  refine opsS_recover (v := z) (cs' := { c₀ with mode := u' } :: cs) ho0 hg0 ?_ ?_ ?_
  · simp [execOp, hop0, resolve, invoke, builtin]
  · rcases hc with ⟨_, v, _, rfl, rfl, rfl⟩ | ⟨_, rfl, rfl, rfl⟩
    · exact .inl (by simp [recoverD, hu])
    · refine .inr ⟨by simp [recoverD, hu], rfl, ?_⟩
      congr 1
      obtain ⟨_⟩ := c₀
      simp only at hu
      subst hu
      rfl
  rw [hd0]
  have hput5 := hent.put (.any z) (some 5)
  have hz5 : ({ tmps := #[pm, pn] ++ Array.replicate (f.ntmps - (#[pm, pn] : Array Value).size) undef, defers := [] : Act }.put (some 5) z).eval (.tmp 5) = z := by
    rw [hnt]
    simp [Act.put, Act.eval]
  refine opsS_value (v := .tuple #[.agg #[], .bool b]) (w' := w) ho1 hg1 ?_ ?_
  · have bz := bad_zero
    simp only [Option.map_eq_some_iff, Prod.mk.injEq] at bz
    obtain ⟨bi, hbi, hzero, _⟩ := bz
    rcases hc with ⟨rfl, v, hv, rfl, rfl, rfl⟩ | ⟨rfl, rfl, rfl, rfl⟩
    · have hz := badv_eq hv
      subst hz
      simp only [execOp, hop1, hz5]
      simp [Instr.typeAssert, run_underlying bad_under]
    · simp only [execOp, hop1, hz5]
      simp [Instr.typeAssert, run_underlying bad_under, zeroValue, typeInfo, hbi, hzero]
  rw [hd1]
  have hput6 := hput5.put (v := .tup [.agg [], .bool b]) (x := .tuple #[.agg #[], .bool b]) (.tup (.cons (.agg (cs := []) (.agg .nil)) (.cons (RV_boolv b) .nil))) (some 6)
  unfold cRun1 at e1
  split at e1
  · rename_i stA hA
    refine idx_runS (X := { X with ds := [] }) (w0 := w0) (C0 := C0) (fs := [tl]) cE_ok hX' (st1 := stA) ?_ _ (cSt b tm mem) _ _ ⟨C, g, hput6⟩ hA
    intro a' w' hG
    refine wpSIn_seq (wpSIn_of_wpIn rfl (reg_run cE_ok rfl hX' hG e1 ?_))
    intro a2 w2 ⟨C2, g2, h2⟩
    obtain ⟨y9, hy9, hr9⟩ := RVL_at h2.tm hb
    have h9 : a2.eval (.tmp 9) = .bool b := by
      have := RV_bool hr9
      subst this
      simp only [Array.getElem?_toList] at hy9
      simp [Act.eval, hy9]
    have fin : ∀ a3 w3, Good { X with ds := [] } w0 C0 [tl] st2 a3 w3 → bodyPostS Try.prog f c₀ cs (fun e v w' => (∃ z, e = .returned z) ∧ v = u' ∧ ∃ C' g', Rel X w0 C0 C' g' st2.mem w' ∧ RVL C' g' tm tl) .normal a3 ({ c₀ with mode := u' } :: cs) w3 := by
      intro a3 w3 ⟨C3, g3, h3⟩
      refine ⟨h3.df, u', rfl, .tuple #[], ?_, ⟨_, rfl⟩, rfl, C3, g3, h3.rel.reds X.ds, ?_⟩
      · exact results_list (vs := []) (by rw [hres]; simp)
      · have h4 := h3.out
        rw [ho] at h4
        cases h4 with
        | cons i1 _ => exact i1
    refine wpSIn_cond h9 ?_
    cases b with
    | true =>
      rw [cond_true] at e2
      simp only [if_true]
      have h2' := h2.refine (s := 9) hb rfl
      exact wpSIn_of_wpIn rfl (reg_run cE_ok rfl hX' ⟨C2, g2, h2'⟩ e2 fin)
    | false =>
      rw [cond_false, Option.some.injEq] at e2
      subst e2
      simp only [Bool.false_eq_true, if_false]
      exact wpSIn_of_wpIn rfl (wpIn_skip (fin _ _ ⟨C2, g2, h2⟩))
  · cases e1

end Am
end Go.Proofs.Ythnmiialdjifiaa
namespace Go.Proofs.Ythnmiialdjifiaa
namespace Am
open Go Go.RowKit
set_option maxRecDepth 100000
set_option linter.unusedVariables false
set_option linter.unusedSimpArgs false

abbrev pEntT : Ty := .pair (.int .i64) (.pair .id (.pair (.int .i64) .unit))
abbrev pMsgT : Ty := .pair (.int .i64) (.pair .id (.pair pEntT (.pair (.sl pEntT) (.pair (.int .i64) (.pair .str (.pair .str .unit))))))

noncomputable def pB : Code := bodyOf Try.prog 15
noncomputable def pO0 : Array Oper := rOps (sq1 pB)
noncomputable def pO1 : Array Oper := rOps (sq1 (sq2 pB))
noncomputable def pO2 : Array Oper := rOps (sq1 (sq2 (sq2 pB)))
noncomputable def pO3 : Array Oper := rOps (sq1 (sq2 (sq2 (sq2 pB))))
noncomputable def pR : Code := sq2 (sq2 (sq2 (sq2 pB)))
theorem pB_eq : pB = .seq (.region 0 pO0 false) (.seq (.region 1 pO1 false) (.seq (.region 2 pO2 false) (.seq (.region 3 pO3 false) pR))) := by kernel_rfl
theorem pFn : (mget Try.prog.funcs.toList 15).map (fun f => (f.body, f.ntmps, f.results)) = some (some pB, 27, #[.cell 2 28, .cell 3 30]) := by kernel_rfl
noncomputable def pE (nf : Nat) : Env := mkE Try.prog [(8, cwireText.fc)] [] 15 [] [] nf
theorem pE_ok (nf : Nat) : EnvOk (pE nf) := envOk_mk mixed (hcs_cons SwireText hcs_nil)

/- the states on the way -/
noncomputable def q0 (s : List UInt8) : St := { tmps := mapp [.str s] (mrep (27 - mlen [AV.str s]) .any), outer := [], mem := [] }
noncomputable def q1 (s : List UInt8) : St := (runOps (pE 0) pO0 (q0 s)).getD (q0 s)
noncomputable def q2 (s : List UInt8) : St := (runOp (pE 0) (opN pO1 0) (q1 s)).getD (q0 s)
noncomputable def q3 (s : List UInt8) : St := (runOps (pE 2) pO2 (q2 s)).getD (q0 s)
noncomputable def q4 (s : List UInt8) : St := (runOp (pE 2) (opN pO3 0) (q3 s)).getD (q0 s)
theorem q1_eq (s) : runOps (pE 0) pO0 (q0 s) = some (q1 s) := by kernel_rfl
theorem q2_eq (s) : runOp (pE 0) (opN pO1 0) (q1 s) = some (q2 s) := by kernel_rfl
theorem q3_eq (s) : runOps (pE 2) pO2 (q2 s) = some (q3 s) := by kernel_rfl
theorem q4_eq (s) : runOp (pE 2) (opN pO3 0) (q3 s) = some (q4 s) := by kernel_rfl
noncomputable def zM : pMsgT.den := (0, Id.zero, (0, Id.zero, 0, ()), [], 0, [], [], ())
theorem q2_mem (s) : (q2 s).mem = [.box (zeroAV pMsgT), .box (.int .i64 0)] := by kernel_rfl
theorem q2_fn (s) : mget (q2 s).tmps 7 = some (.fn (.func 28) [] [.loc 0 0, .loc 1 0]) := by kernel_rfl
theorem q4_mem (s) : (q4 s).mem = [.box (zeroAV pMsgT), .box (.int .i64 0), .box (.agg [.str s])] := by kernel_rfl
theorem q4_arg (s) : evalOp (q4 s) (.tmp 11) = some (.loc 2 0) := by kernel_rfl
abbrev MsgR := PanR ((pMsgT.den × Unit) × ((List UInt8 × Unit) × Unit))
theorem q4_dec (s : List UInt8) : c__wireReader_Message.fc.dec [.loc 0 0] (pickB (q4 s).mem [2] [2]) = some (((), ()), ((s, ()), ())) := by kernel_rfl
noncomputable def q5 (s : List UInt8) (r : (pMsgT.den × Unit) × ((List UInt8 × Unit) × Unit)) : St :=
  ((q4 s).merge [2] (encM c__wireReader_Message.ms' r.2)).put (some 12) ((resOf (encL c__wireReader_Message.rsh r.1)).back [2] (q4 s).mem.length)
noncomputable def q6 (s : List UInt8) (r : (pMsgT.den × Unit) × ((List UInt8 × Unit) × Unit)) : St := (runOp (pE 2) (opN pO3 2) (q5 s r)).getD (q0 s)
theorem q6_eq (s r) : runOp (pE 2) (opN pO3 2) (q5 s r) = some (q6 s r) := by kernel_rfl

/- the rest: its bytes are compared -/
def pOuts : List Out := [{ e := .ret, keep := [2, 3], ks := [0, 1], sh := .cons (.loc 0 0) (.cons (.loc 1 0) .unit), ms := [.box (.d pMsgT), .box (.d (.int .i64))] }]
noncomputable def pL : Lp := { m := 27, up := [], ksE := [0, 1], ksA := [], keep := [0, 2, 3], sh := .cons (.d .str) (.cons (.loc 0 0) (.cons (.loc 1 0) .unit)), ms := [.box (.d pMsgT), .box (.d (.int .i64))], outs := pOuts, sum := fun _ => .no }
abbrev PIn := (List UInt8 × Unit × Unit × Unit) × (pMsgT.den × Int × Unit)
abbrev POut := ((Unit × Unit × Unit) × (pMsgT.den × Int × Unit)) ⊕ Empty
noncomputable def rPa (x : PIn) : Option POut := match x with
  | ((s, (), (), ()), (m, e, ())) => bS (owireText ((m, ()), ())) fun v0 => bif bif bif ieq v0.fst.snd.fst 0 then false else true then false else true then bif bif seq v0.fst.fst s then false else true then some (.inl (((), (), ()), zM, 5, ())) else some (.inl (((), (), ()), m, 0, ())) else some (.inl (((), (), ()), zM, 5, ()))
theorem rdPa : ∀ x : PIn, cut1 (pE 2) 15 pL pR x = rPa x
  | ((s, (), (), ()), (m, e, ())) => by kernel_rfl
theorem q6_view (s : List UInt8) (r : (pMsgT.den × Unit) × ((List UInt8 × Unit) × Unit)) : view 2 [0, 1] [0, 2, 3] pL.sh pL.ms (q6 s r) = some ((s, (), (), ()), (r.1.1, 0, ())) := by kernel_rfl

end Am
end Go.Proofs.Ythnmiialdjifiaa
namespace Go.Proofs.Ythnmiialdjifiaa
namespace Am
open Go Go.RowKit
set_option maxRecDepth 100000
set_option linter.unusedVariables false
set_option linter.unusedSimpArgs false

section
variable {X : Ctx} {w0 w : World} {C0 C : Mem} {fs : List (List Value)} {g : Ghs} {st : St} {a : Act}

theorem Rel.reX {mem : List Blk} (h : Rel X w0 C0 C g mem w) (G : Ghs) (ds : List Deferred) (hk : ∀ (b : Nat) (x : Gh), G[b]? = some x → x.fixed = true → g[b]? = some x) : Rel { X with G := G, ds := ds } w0 C0 C g mem w :=
  ⟨h.below, h.low, h.sub, h.base, h.old, h.len, hk, fun b m x hm hx => by
    cases h.blk b m x hm hx with
    | box h1 h2 h3 h4 => exact .box h1 h2 h3 h4
    | fro h1 h2 => exact .fro h1 h2
    | own h0 h1 h2 h3 => exact .own h0 h1 h2 h3
    | clip => exact .clip
    | loop hl => exact .loop hl
    | arr h0 h1 h2 h3 h4 h5 => exact .arr h0 h1 h2 h3 h4 h5
    | arr0 => exact .arr0
    | mp h0 h1 h2 h3 => exact .mp h0 h1 h2 h3
    | dead => exact .dead, h.sep⟩

/-- what is known where a callee has panicked: what was not handed to it -/
theorem pan_rel (h : SR X w0 C0 fs C g st a w) {v0 v1 v2 : AV} (hm : st.mem = [.box v0, .box v1, .box v2]) {w' : World} (k : Sane (footX X w g st.mem [2]) w C w') : ∃ C', C.le C' ∧ Rel X w0 C0 C' g [.box v0, .box v1, .dead] w' := by
  obtain ⟨h1, C', h2, h3, h4⟩ := k
  have hS : ∀ b, X.S b → (footX X w g st.mem [2]).S b := fun b hb => ⟨h.rel.lt hb, fun i m y hi hm hy hl => (live_lt (h.rel.blk i m y hm hy) hl).1 hb⟩
  have hout : ∀ {b : Nat} {m : Blk} {x : Gh} {k : Nat}, b ≠ 2 → st.mem[b]? = some m → g[b]? = some x → liveOf m x = some k → (footX X w g st.mem [2]).S k := by
    intro b m x k hb hm hx hl
    refine ⟨(live_lt (h.rel.blk b m x hm hx) hl).2, fun i m' x' hi hm' hx' hl' => ?_⟩
    have := h.rel.sep b i m m' x x' k hm hx hm' hx' hl hl'
    subst this
    exact hb (by simpa using hi)
  have hbox : ∀ {b : Nat} {v : AV} {x : Gh}, b ≠ 2 → st.mem[b]? = some (.box v) → g[b]? = some x → BlkRel X C' g w' (.box v) x := by
    intro b v x hb hmb hx
    have hbl := h.rel.blk b _ x hmb hx
    cases hbl with
    | box i1 i2 i3 i4 =>
      have hs := hout hb hmb hx rfl
      exact .box i1 (by rw [h1.block _ hs]; exact i2) (RC.mono h2 (Ghs.le_refl _) i3) fun o s => (h4 ⟨_, o, s⟩ hs).trans (i4 o s)
  refine ⟨C', h2, h.rel.below.trans (h1.mono hS), h.rel.low, h3, Mem.le_trans h.rel.base h2, fun b hb => (h4 b (hS _ hb)).trans (h.rel.old b hb), ?_, h.rel.keep, ?_, ?_⟩
  · have := h.rel.len
    rw [hm] at this
    exact this
  · intro b m x hmb hx
    match b with
    | 0 => cases hmb; exact hbox (by decide) (by rw [hm]; rfl) hx
    | 1 => cases hmb; exact hbox (by decide) (by rw [hm]; rfl) hx
    | 2 => cases hmb; exact .dead
    | n + 3 => cases hmb
  · intro b b' m m' x x' k hmb hx hmb' hx' hl hl'
    have aux : ∀ {b : Nat} {m : Blk} {x : Gh}, ([Blk.box v0, .box v1, .dead] : List Blk)[b]? = some m → liveOf m x = some k → st.mem[b]? = some m := by
      intro b m x hb hl
      match b with
      | 0 => cases hb; rw [hm]; rfl
      | 1 => cases hb; rw [hm]; rfl
      | 2 => cases hb; cases hl
      | n + 3 => cases hb
    exact h.rel.sep b b' m m' x x' k (aux hmb hl) hx (aux hmb' hl') hx' hl hl'

/-- marks are taken off ahead of what is deferred -/
theorem leaves_strip {P : Program} {fn : Func} {tmps : Array Value} {R : Ending → World → Prop} {tail : List Deferred} :
    ∀ (Ds : List Nat) (w : World), Ds.Nodup → (∀ D ∈ Ds, ¬ X.S D ∧ w.heap[D]? = some (.deferred (some []))) → SR X w0 C0 fs C g st { tmps := tmps, defers := X.ds } w →
      (∀ w', SR X w0 C0 fs C g st { tmps := tmps, defers := X.ds } w' → LeavesInM (FW none) 0 P fn tmps R tail .returning w') → LeavesInM (FW none) 0 P fn tmps R (Ds.map mark ++ tail) .returning w
  | [], w, _, _, h, k => k w h
  | D :: Ds, w, hn, hD, h, k => by
    obtain ⟨h1, h2⟩ := hD D (by simp)
    obtain ⟨hn1, hn2⟩ := List.nodup_cons.1 hn
    obtain ⟨hc, hno⟩ := cell_none h2 (.inr ⟨_, rfl⟩)
    refine ⟨by simp, .inl ⟨D, _, rfl, run_takeDeferred h2, leaves_strip Ds _ hn2 (fun D' hD' => ?_) ⟨h.rel.putObj _ h2 hc hno h1, h.tm, h.out, h.df⟩ k⟩⟩
    have hne : D' ≠ D := by rintro rfl; exact hn1 hD'
    obtain ⟨h3, h4⟩ := hD D' (by simp [hD'])
    exact ⟨h3, by rw [World.putObj_heap_other hne]; exact h4⟩
end

/- what Parse comes to -/
noncomputable def bwireParse (x : (List UInt8 × Unit) × Unit) : Option ((pMsgT.den × Int × Unit) × Unit) := match o__wireReader_Message (((), ()), ((x.1.1, ()), ())) with
  | some (.ok r) => (match rPa ((x.1.1, (), (), ()), (r.1.1, 0, ())) with
    | some (.inl y) => some ((y.2.1, y.2.2.1, ()), ())
    | _ => none)
  | some .pan => some ((zM, 5, ()), ())
  | none => none
noncomputable def owireParse : (List UInt8 × Unit) × Unit → Option ((pMsgT.den × Int × Unit) × Unit) := shut bwireParse
theorem owireParse_eq (x) : owireParse x = bwireParse x := by rw [owireParse, shut_eq]
noncomputable def cwireParse : Ct := { ash := .cons (.d .str) .unit, ms := [], foot := false, up := [], rsh := .cons (.d pMsgT) (.cons (.d (.int .i64)) .unit), ks := [], ms' := [], G := fun x => trS (owireParse x) }

/- its end: the closure is called, and the results are what stands in their variables -/
noncomputable def pEnd (b : Bool) (tm : List AV) (mem : List Blk) : Option St := match cRun1 b tm mem with
  | some st1 => cond b (runOps cE cO2 (st1.put (some 9) (.bool true))) (some st1)
  | none => none
theorem leaves_clo {X : Ctx} {w0 w : World} {C0 C : Mem} {g : Ghs} {mem : List Blk} {tm : List AV} {tmps : Array Value} {pm pn : Value} {fn : Func} (hfr : fn.results = #[.cell 2 28, .cell 3 30]) (hX : X.G.length = 0) (hrel : Rel X w0 C0 C g mem w) (htm : RVL C g tm tmps.toList) (h0 : RV C g (.loc 0 0) pm) (h1 : RV C g (.loc 1 0) pn)
    {b : Bool} {u u' : FrameMode} {z : Value} (hc : CatchR b u u' z) {st2 : St} (e1 : pEnd b tm mem = some st2) (hb : (cRun1 b tm mem).map (fun s => mget s.tmps 9) = some (some (.bool b))) (ho : st2.outer = [tm]) {out : (cwireParse.rsh.den) × MSh []}
    {vs : List AV} (hv : resAV (pE 0) fn { tmps := tm, outer := [], mem := st2.mem } [.cell 2 28, .cell 3 30] = some vs) {R : Ending → World → Prop}
    (hfin : finish (pE 0) fn [] [] cwireParse.rsh [] { tmps := tm, outer := [], mem := st2.mem } = some out)
    (hR : ∀ w' v C' g', Rel X w0 C0 C' g' [] w' → RV C' g' (resOf (encL cwireParse.rsh out.1)) v → R (.returned v) w') :
    LeavesInM (FW none) 0 Try.prog fn tmps R [{ target := .fn (.func 28) #[pm, pn], args := #[] }] u w := by
  have hun : u ≠ .run := by
    rcases hc with ⟨_, v, _, rfl, _, _⟩ | ⟨_, rfl, _, _⟩ <;> simp
  have hset : settle u' = .returning := by
    rcases hc with ⟨_, v, _, _, rfl, _⟩ | ⟨_, _, rfl, _⟩ <;> simp [settle]
  have hfn := cFn
  simp only [Option.map_eq_some_iff, Prod.mk.injEq] at hfn
  obtain ⟨f, hf, hbody, hnt, hres⟩ := hfn
  obtain ⟨s1, hs1, hs9⟩ := Option.map_eq_some_iff.1 hb
  unfold pEnd at e1
  rw [hs1] at e1
  have hname : (f.name == "runtime.NumGoroutine") = false := by
    obtain ⟨f2, hf2, hn2, _⟩ := (enterOk_of (P := Try.prog) (f := 28) (by kernel_rfl))
    rw [mget_funcs hf] at hf2
    cases hf2
    exact hn2
  refine ⟨hun, .inr ⟨fun h => by simp [FW, Fence.wide] at h, .func 28, #[pm, pn], 28, #[pm, pn], rfl, ?_, fun _ _ => trivial, ?_⟩⟩
  · have hn2 : ¬ f.name = "runtime.NumGoroutine" := by simpa using hname
    simp [invoke, callFunc, mget_funcs hf, hn2, hbody]
  · refine (clo hX hrel htm h0 h1 hc hs1 hs9 e1 ho).mono ?_
    rintro e v w' ⟨⟨z, rfl⟩, rfl, C', g', hr, ht⟩
    simp only
    rw [hset]
    have hsr : SR { X with ds := [] } w0 C0 [] C' g' { tmps := tm, outer := [], mem := st2.mem } { tmps := tmps, defers := [] } w' := ⟨hr.reds [], ht, .nil, rfl⟩
    have hv' : resAV (pE 0) fn { tmps := tm, outer := [], mem := st2.mem } fn.results.toList = some vs := by rw [hfr]; exact hv
    obtain ⟨xs, hx, hxr⟩ := resAV_run hsr _ _ hv'
    obtain ⟨C2, g2, i1, i2⟩ := finish_spec hsr (show _ = (pE 0).nf from hX) hv' hxr hfin
    exact ⟨_, results_list hx, hR _ _ C2 g2 (i1.reds X.ds) (tupV_RV i2)⟩

/- the ends -/
noncomputable def pn2 (s : List UInt8) : St := (pEnd true (q4 s).tmps [.box (zeroAV pMsgT), .box (.int .i64 0), .dead]).getD (q0 s)
theorem pn2_eq (s) : pEnd true (q4 s).tmps [.box (zeroAV pMsgT), .box (.int .i64 0), .dead] = some (pn2 s) := by kernel_rfl
theorem pn2_9 (s) : (cRun1 true (q4 s).tmps [.box (zeroAV pMsgT), .box (.int .i64 0), .dead]).map (fun s => mget s.tmps 9) = some (some (.bool true)) := by kernel_rfl
theorem pn2_out (s) : (pn2 s).outer = [(q4 s).tmps] := by kernel_rfl
noncomputable def pn2_vs (s : List UInt8) (fn : Func) : List AV := (resAV (pE 0) fn { tmps := (q4 s).tmps, outer := [], mem := (pn2 s).mem } [.cell 2 28, .cell 3 30]).getD []
theorem pn2_res (s fn) : resAV (pE 0) fn { tmps := (q4 s).tmps, outer := [], mem := (pn2 s).mem } [.cell 2 28, .cell 3 30] = some (pn2_vs s fn) := by kernel_rfl
theorem pn2_fin (s) {fn : Func} (hfr : fn.results = #[.cell 2 28, .cell 3 30]) : finish (pE 0) fn [] [] cwireParse.rsh [] { tmps := (q4 s).tmps, outer := [], mem := (pn2 s).mem } = some ((zM, 5, ()), ()) := by
  unfold finish
  rw [hfr]
  kernel_rfl
noncomputable def rt0 (y : (Unit × Unit × Unit) × (pMsgT.den × Int × Unit)) : St := (outE 27 pOuts (.inl y)).2
noncomputable def rt2 (y : (Unit × Unit × Unit) × (pMsgT.den × Int × Unit)) : St := (pEnd false (rt0 y).tmps (rt0 y).mem).getD (rt0 y)
theorem rt2_eq (y) : pEnd false (rt0 y).tmps (rt0 y).mem = some (rt2 y) := by kernel_rfl
theorem rt2_9 (y) : (cRun1 false (rt0 y).tmps (rt0 y).mem).map (fun s => mget s.tmps 9) = some (some (.bool false)) := by kernel_rfl
theorem rt2_out (y) : (rt2 y).outer = [(rt0 y).tmps] := by kernel_rfl
noncomputable def rt2_vs (y : (Unit × Unit × Unit) × (pMsgT.den × Int × Unit)) (fn : Func) : List AV := (resAV (pE 0) fn { tmps := (rt0 y).tmps, outer := [], mem := (rt2 y).mem } [.cell 2 28, .cell 3 30]).getD []
theorem rt2_res (y fn) : resAV (pE 0) fn { tmps := (rt0 y).tmps, outer := [], mem := (rt2 y).mem } [.cell 2 28, .cell 3 30] = some (rt2_vs y fn) := by kernel_rfl
theorem rt2_fin (y : (Unit × Unit × Unit) × (pMsgT.den × Int × Unit)) {fn : Func} (hfr : fn.results = #[.cell 2 28, .cell 3 30]) : finish (pE 0) fn [] [] cwireParse.rsh [] { tmps := (rt0 y).tmps, outer := [], mem := (rt2 y).mem } = some ((y.2.1, y.2.2.1, ()), ()) := by
  unfold finish
  rw [hfr]
  kernel_rfl

theorem pO1_list : pO1.toList = [opN pO1 0, opN pO1 1] := by kernel_rfl
theorem pO3_list : pO3.toList = [opN pO3 0, opN pO3 1, opN pO3 2] := by kernel_rfl
theorem pop10 : (opN pO1 0).guard = none := by kernel_rfl
theorem pop11 : ((opN pO1 1).op, (opN pO1 1).guard, (opN pO1 1).dst) = (.defer { callee := .value (.tmp 7), args := #[], argTypes := #[] }, none, none) := by kernel_rfl
theorem pop30 : (opN pO3 0).guard = none := by kernel_rfl
theorem pop31 : ((opN pO3 1).op, (opN pO3 1).guard, (opN pO3 1).dst) = (.call { callee := .value (.func 29), args := #[.tmp 11], argTypes := #[59] }, none, some 12) := by kernel_rfl
theorem pop32 : (opN pO3 2).guard = none := by kernel_rfl
theorem q6_len (s r) : Nat.beq (mlen (q6 s r).tmps) 27 = true := by kernel_rfl
theorem pR_loops : loopsOf pR = [] := by kernel_rfl
theorem box_keep {X : Ctx} {w0 w : World} {C0 C : Mem} {g : Ghs} {mem : List Blk} (h : Rel X w0 C0 C g mem w) {b k : Nat} (hb : Ghs.box X.G b = some k) : Ghs.box g b = some k := by
  unfold Ghs.box at hb ⊢
  split at hb
  · rename_i k' T hx
    rw [h.keep b _ hx rfl]
    exact hb
  · cases hb

set_option maxHeartbeats 2000000 in
theorem SwireParse : Spec Try.prog 15 cwireParse.fc := by
  refine ⟨enterOk_of (by kernel_rfl), ?_, fun X w C g mem args vs x _ _ _ _ hp => by cases hp⟩
  intro X w C g mem args vs x r bs hrel hG hargs hx hg
  obtain ⟨e1, e2⟩ := both_some hx
  obtain ⟨b, hb, hbr⟩ := Tr.get_map hg
  simp only [Prod.mk.injEq] at hbr
  obtain ⟨rfl, rfl⟩ := hbr
  have hlen := (decM_get e2 rfl).1
  have hml : mem = [] := by
    cases mem with
    | nil => rfl
    | cons a l => simp [cwireParse, encM] at hlen
  subst hml
  have hg0 : g = [] := by
    have := hrel.len
    cases g with
    | nil => rfl
    | cons a l => simp at this
  subst hg0
  obtain ⟨⟨s, u1⟩, u2⟩ := x
  have hargs' : RVL C [] (encL cwireParse.ash (s, u1)) vs := decVL (by kernel_rfl) hargs e1
  have hb : (trS (owireParse ((s, u1), u2))).get = some b := hb
  rw [trS_get, owireParse_eq] at hb
  have hfn := pFn
  simp only [Option.map_eq_some_iff, Prod.mk.injEq] at hfn
  obtain ⟨fn, hf, hbody, hnt, hres⟩ := hfn
  refine callsFW' (n := 0) (callsIn_of_wp_marks (mget_funcs hf) hbody trivial ?_ rfl)
  rw [pB_eq]
  have hnf0 : ({ X with ds := [] } : Ctx).G.length = (pE 0).nf := by rw [show ({ X with ds := [] } : Ctx).G = [] from hG]; rfl
  have h0 : Good { X with ds := [] } w C [] (q0 s) { tmps := vs.toArray ++ Array.replicate (fn.ntmps - vs.toArray.size) undef, defers := [] } w :=
    ⟨C, [], hrel.reds [], (by rw [hnt]; exact enter_tmps hargs'), .nil, rfl⟩
  refine wpIn_seq (reg_run (pE_ok 0) rfl hnf0 h0 (q1_eq s) ?_)
  intro a1 w1 h1
  refine wpIn_seq (wpIn_region_list ?_)
  rw [pO1_list]
  refine op_run (pE_ok 0) rfl hnf0 h1 pop10 (q2_eq s) ?_
  intro a2 w2 ⟨C2, g2, h2⟩
  have hr7 := evalOp_RV (x := .tmp 7) h2.tm (q2_fn s)
  obtain ⟨fs7, ks7, hf7, hr71, hr72⟩ := RV_fn hr7
  cases hr71
  cases hr72 with
  | cons i1 t1 =>
  cases t1 with
  | cons i2 t2 =>
  cases t2
  obtain ⟨k0, hk0, rfl⟩ := RV_loc i1
  obtain ⟨k1, hk1, rfl⟩ := RV_loc i2
  have p11 := pop11
  simp only [Prod.mk.injEq] at p11
  obtain ⟨p11o, p11g, p11d⟩ := p11
  refine wpListIn_step fun Kc hKc => ?_
  rw [if_pos (by simp [Region.wanted, p11g])]
  refine ⟨fun _ _ => trivial, ?_⟩
  rw [show (FW none).round = none from rfl, Oper.semAt_none]
  have heval : a2.eval (.tmp 7) = .func (.func 28) #[] #[.pointer (some ⟨k0, 0, none⟩), .pointer (some ⟨k1, 0, none⟩)] := hf7
  have hrun : (execOp a2.eval (opN pO1 1)).run Try.prog w2 = .ok (.defer { target := .fn (.func 28) #[.pointer (some ⟨k0, 0, none⟩), .pointer (some ⟨k1, 0, none⟩)], args := #[] }) w2 := by
    simp only [execOp, p11o]
    simp [resolve, heval, Deferred.ofValue]
  rw [show (pE 0).P = Try.prog from rfl, hrun]
  refine hKc _ _ (wpListIn_nil ?_)
  rw [p11d]
  have hlen2 : g2.length = 2 := by
    have := h2.rel.len
    rw [q2_mem] at this
    exact this.symm
  let D : Deferred := { target := .fn (.func 28) #[.pointer (some ⟨k0, 0, none⟩), .pointer (some ⟨k1, 0, none⟩)], args := #[] }
  let X1 : Ctx := { X with G := g2, ds := [D] }
  have h3 : Good X1 w C [] (q2 s) { a2 with defers := D :: a2.defers } w2 := ⟨C2, g2, h2.rel.reX g2 [D] (fun _ _ h _ => h), h2.tm, h2.out, by rw [h2.df]⟩
  have hnf2 : X1.G.length = (pE 2).nf := hlen2
  refine wpIn_seq (reg_run (pE_ok 2) rfl hnf2 h3 (q3_eq s) ?_)
  intro a3 w3 h3
  refine wpIn_seq (wpIn_region_list ?_)
  rw [pO3_list]
  refine op_run (pE_ok 2) rfl hnf2 h3 pop30 (q4_eq s) ?_
  intro a4 w4 ⟨C4, g4, h4⟩
  have p31 := pop31
  simp only [Prod.mk.injEq] at p31
  obtain ⟨p31o, p31g, p31d⟩ := p31
  refine wpListIn_step fun Kc2 hKc2 => ?_
  rw [if_pos (by simp [Region.wanted, p31g])]
  refine opIn (fun c hc => by rw [p31o] at hc; cases hc) ?_
  have hv := evalOp_RV h4.tm (q4_arg s)
  obtain ⟨fm, hfm, hnm, hbm⟩ := S__wireReader_Message.1
  have hnm' : ¬ fm.name = "runtime.NumGoroutine" := by simpa using hnm
  have hrun2 : (execOp a4.eval (opN pO3 1)).run Try.prog w4 = .ok (.enter 29 #[a4.eval (.tmp 11)]) w4 := by
    simp only [execOp, p31o]
    have hbm' : ¬ fm.body = none := fun h => by rw [h] at hbm; cases hbm
    simp [resolve, Act.eval, Deferred.ofValue, invoke, callFunc, hfm, hnm', hbm']
  unfold Oper.wp
  rw [show (pE 2).P = Try.prog from rfl, hrun2]
  simp only [Oper.upon]
  have hren : AV.renL [2] [.loc 2 0] = some [.loc 0 0] := rfl
  have hr := RVL.ren [2] (.cons hv .nil) hren
  have hk : okKs (q4 s).mem.length [2] = true := by rw [q4_mem]; rfl
  have hloc0 : ∀ {C' : Mem} {g' : Ghs} {mem' : List Blk} {w' w0' : World} {C0' : Mem}, Rel X1 w0' C0' C' g' mem' w' → RV C' g' (.loc 0 0) (.pointer (some ⟨k0, 0, none⟩)) := fun hq => RV_locv (box_keep hq hk0)
  have hloc1 : ∀ {C' : Mem} {g' : Ghs} {mem' : List Blk} {w' w0' : World} {C0' : Mem}, Rel X1 w0' C0' C' g' mem' w' → RV C' g' (.loc 1 0) (.pointer (some ⟨k1, 0, none⟩)) := fun hq => RV_locv (box_keep hq hk1)
  have fin : ∀ (w' : World) (v : Value) (C' : Mem) (g' : Ghs), Rel { X1 with G := [], ds := [] } w C C' g' [] w' → RV C' g' (resOf (encL cwireParse.rsh b.1)) v → ∃ v' C' g', Ending.returned v = .returned v' ∧ Rel X w C C' g' (encM cwireParse.ms' b.2) w' ∧ RV C' g' (resOf (encL cwireParse.rsh b.1)) v' := by
    intro w' v C' g' hq hv
    refine ⟨v, C', g', rfl, hq.reX X.G X.ds (fun b x hb _ => ?_), hv⟩
    rw [hG] at hb; simp at hb
  unfold bwireParse at hb
  simp only at hb
  cases ho : o__wireReader_Message (((), ()), ((s, ()), ())) with
  | none => rw [ho] at hb; cases hb
  | some ro =>
  rw [ho] at hb
  cases ro with
  | pan =>
    have hb := Option.some.inj hb
    subst hb
    refine (S__wireReader_Message.2.2 (footX X1 w4 g4 (q4 s).mem [2]) w4 C4 _ _ _ _ _ (h4.rel.foot hk) rfl hr (q4_dec s) (show isPan (o__wireReader_Message (((), ()), ((s, ()), ()))) = true by rw [ho]; rfl)).mono ?_
    rintro e w5 ⟨v, rfl, hbad, hsn⟩
    obtain ⟨C5, hC5, hr5⟩ := pan_rel h4 (q4_mem s) hsn
    show LeavesInM (FW none) 0 Try.prog fn a4.tmps _ a4.defers (.panicking [{ v, recovered := false }]) w5
    rw [h4.df]
    exact leaves_clo (X := { X1 with G := [], ds := [] }) (b := true) hres rfl (hr5.reX [] [] (fun _ _ h => by cases h)) (RVL.mono hC5 (Ghs.le_refl _) h4.tm) (hloc0 hr5) (hloc1 hr5) (.inl ⟨rfl, v, hbad, rfl, rfl, rfl⟩) (pn2_eq s) (pn2_9 s) (pn2_out s) (pn2_res s fn) (pn2_fin s hres) fin
  | ok r =>
    simp only at hb
    cases hrp : rPa ((s, (), (), ()), (r.1.1, 0, ())) with
    | none => rw [hrp] at hb; cases hb
    | some o =>
    rw [hrp] at hb
    cases o with
    | inr z => nomatch z
    | inl y =>
    have hb := Option.some.inj hb
    subst hb
    refine (spec_call (ρ := St) (K := fun av st => some (st.put (some 12) av)) (r := q5 s r) S__wireReader_Message h4 hk hr (q4_dec s) (q := (resOf (encL c__wireReader_Message.rsh r.1), encM c__wireReader_Message.ms' r.2)) ?_ (Nat.le_refl 1) rfl).mono ?_
    · have hG1 : (c__wireReader_Message.G (((), ()), ((s, ()), ()))).get = some r := by
        show (trS (okP (o__wireReader_Message (((), ()), ((s, ()), ()))))).get = some r
        rw [trS_get, ho]
        rfl
      exact (Tr.get_map' _ _).trans (congrArg (Option.map _) hG1)
    rintro e w5 (⟨v, av, st', C', g', rfl, i1, i2, i3, i4, i5⟩ | ⟨v, rfl, _, _, hp⟩)
    · have hsr : SR X1 w C [] C' g' st' a4 w5 := ⟨i1, i2, i3, h4.df⟩
      have h5 := hsr.put i4 (some 12)
      rw [Option.some.injEq] at i5
      rw [i5] at h5
      refine hKc2 _ _ ?_
      rw [p31d]
      refine op_run (pE_ok 2) rfl hnf2 ⟨C', g', h5⟩ pop32 (q6_eq s r) ?_
      intro a6 w6 ⟨C6, g6, h6⟩
      refine wpListIn_nil ?_
      have hst := stOf_good h6 (out_nil h6) (tmps_len h6 (q6_len s r)) hnf2 (q6_view s r)
      have hex := exec_sound (pE_ok 2) (fn := 15) (ro := none) pR (LoopsGood.nil pR_loops fun _ => rfl) (rf_none (fun k => by simp [pE, mkE, mkEc, look]) _)
      refine hex X1 w C [] _ (callee (pE 2) 3) (fun e st => cond (Nat.beq (mlen st.tmps) 27) (cutO 2 pOuts e st) none) (.inl y : POut) _ hnf2 (fun X' hX' => callee_sound (pE_ok 2) 3 _ X' hX') (fun ks fc hy => by cases hy) (fun _ _ _ _ => panOk_none) ?_ _ a6 w6 hst ((rdPa _).trans hrp)
      intro X7 w7 C7 hx7 e7 st7 a7 w7' ⟨C8, g8, h8⟩ ek
      obtain ⟨hm2, ek⟩ := cond_some ek
      have hm2' := tmps_len h8 hm2
      obtain ⟨j1, j2⟩ := cutO_spec h8 (out_nil h8) hm2' (by rw [hx7.G]; exact hnf2) _ _ _ ek
      subst j1
      obtain ⟨C9, g9, h9⟩ := j2
      obtain ⟨Ds, d1, d2, d3⟩ := hx7.ds
      show LeavesInM (FW none) 0 Try.prog fn a7.tmps _ a7.defers .returning w7'
      rw [h9.df, d1]
      refine leaves_strip (X := X1) (w0 := w) (C0 := C) Ds _ d2 (fun D hD => ⟨(d3 D hD).2.1, (h9.rel.below.block D (d3 D hD).1).trans (d3 D hD).2.2⟩) (h9.back hx7) ?_
      intro w10 h10
      exact leaves_clo (X := { X1 with G := [], ds := [] }) (b := false) hres rfl (h10.rel.reX [] [] (fun _ _ h => by cases h)) h10.tm (hloc0 h10.rel) (hloc1 h10.rel) (.inr ⟨rfl, rfl, rfl, rfl⟩) (rt2_eq y) (rt2_9 y) (rt2_out y) (rt2_res y fn) (rt2_fin y hres) fin
    · cases hp

end Am
end Go.Proofs.Ythnmiialdjifiaa
