/-
  MailOnce's last loop, a range over a map: where all that is left is none, it ends, whatever the order.
-/
import Derived.Test.YtkjpoongkdapoaaMo1
import Derived.Maps.RangeRun
import Derived.Maps.Range
namespace Go.Proofs.Ytkjpoongkdapoaa
namespace Am
open Go Go.RowKit
set_option maxRecDepth 100000
set_option linter.unusedVariables false
set_option linter.unusedSimpArgs false

/- code, taken apart -/
def opD : Oper := { dst := none, op := .move (.const (.bool true)), type := 0, pos := "", after := #[], guard := none }
def sq1 : Code → Code
  | .seq a _ => a
  | c => c
def sq2 : Code → Code
  | .seq _ b => b
  | c => c
def rOps : Code → Array Oper
  | .region _ o _ => o
  | _ => #[]
def opN (o : Array Oper) (i : Nat) : Oper := (mget o.toList i).getD opD
def blkB : Code → Code
  | .block _ b => b
  | c => c
def lpB : Code → Code
  | .loop b => b
  | c => c
def cdX : Code → Code
  | .cond _ x _ => x
  | c => c

section
variable {P : Program} {ops : Array Oper} {Q : Exit → Act → World → Prop} {o : Oper} {rest : List Oper} {a : Act} {w w' : World} {ro : Option Nat}
theorem ops_val {z : Value} {d : Option Tmp} (hg : o.guard = none) (hdst : o.dst = d) (hd : ∀ c, o.op ≠ .defer c) (hr : (execOp a.eval o).run P w = .ok (.value z) w') (h : wpListIn (FW ro) 0 P ops Q rest (a.put d z) w') : wpListIn (FW ro) 0 P ops Q (o :: rest) a w := by
  subst hdst
  refine wpListIn_step fun Kc hKc => ?_
  rw [if_pos (by simp [Region.wanted, hg])]
  exact opIn hd (wp_value hr (hKc _ _ h))
theorem eval_ne {d t : Nat} {z : Value} (h : t ≠ d) : (a.put (some d) z).eval (.tmp t) = a.eval (.tmp t) := by
  simp [Act.put, Act.eval, Ne.symm h]
theorem eval_eq {d : Nat} {z : Value} (h : d < a.tmps.size) : (a.put (some d) z).eval (.tmp d) = z := by
  simp [Act.put, Act.eval, h]
theorem tm_put {C : Mem} {g : Ghs} {ts : List AV} {d : Nat} {z : Value} (hd : mset ts d .any = ts) (h : RVL C g ts a.tmps.toList) : RVL C g ts (a.put (some d) z).tmps.toList := by
  rw [toList_put]
  simp only
  have := RVL.set h d .any z (.any z)
  rw [mset_eq] at hd
  rw [hd] at this
  exact this
theorem put_size {d : Nat} {z : Value} : (a.put (some d) z).tmps.size = a.tmps.size := by simp [Act.put]
theorem put_defers {d : Nat} {z : Value} : (a.put (some d) z).defers = a.defers := rfl
end

theorem ents_zero {C : Mem} : ∀ {kv : List (Int × Int)} {es : List MapEntry}, EntR C (.int .i64) kv es → kv.all (fun p => decide (p.2 = 0)) = true → ∀ e ∈ es, e.val = .int .i64 0
  | [], _, h, _, e, he => by
    simp only [EntR] at h
    subst h
    cases he
  | p :: kv, _, ⟨e', r, h0, h1, h2, h3⟩, hz, e, he => by
    simp only [List.all_cons, Bool.and_eq_true, decide_eq_true_iff] at hz
    subst h0
    rcases List.mem_cons.1 he with rfl | he
    · have := RV_int1 h2
      rw [this, hz.1]
    · exact ents_zero h3 hz.2 e he

abbrev mailT : Ty := .pair (.sl (.pair (.int .i64) (.pair (.int .i64) (.pair (.int .i64) (.pair .str .unit))))) (.pair (.int .i64) (.pair (.int .i64) .unit))
noncomputable def mC : Code := cutAt Try.prog 6 48
noncomputable def mO48 : Array Oper := rOps (sq1 (sq1 mC))
noncomputable def mLB : Code := lpB (blkB (sq2 (sq1 mC)))
noncomputable def mO49 : Array Oper := rOps (sq1 mLB)
noncomputable def mIn : Code := blkB (sq2 (sq2 mLB))
noncomputable def mO50 : Array Oper := rOps (sq1 mIn)
noncomputable def mO51 : Array Oper := rOps (sq1 (sq2 mIn))
noncomputable def m52 : Code := cdX (sq2 (sq2 mIn))
noncomputable def mT : Code := sq2 mC
theorem mC_eq : mC = .seq (.seq (.region 48 mO48 false) (.block 7 (.loop (.seq (.region 49 mO49 false) (.seq (.cond (.tmp 212) .skip (.exit 7)) (.block 8 (.seq (.region 50 mO50 false) (.seq (.region 51 mO51 false) (.cond (.tmp 216) m52 .skip))))))))) mT := by kernel_rfl
theorem mO48_list : mO48.toList = [opN mO48 0, opN mO48 1] := by kernel_rfl
theorem mO49_list : mO49.toList = [opN mO49 0, opN mO49 1] := by kernel_rfl
theorem mO50_list : mO50.toList = [opN mO50 0, opN mO50 1, opN mO50 2] := by kernel_rfl
theorem mO51_list : mO51.toList = [opN mO51 0, opN mO51 1] := by kernel_rfl
theorem p480 : ((opN mO48 0).op, (opN mO48 0).guard, (opN mO48 0).dst) = (.move (.tmp 7), none, some 209) := by kernel_rfl
theorem p481 : ((opN mO48 1).op, (opN mO48 1).guard, (opN mO48 1).dst) = (.range 44 (.tmp 209), none, some 210) := by kernel_rfl
theorem p490 : ((opN mO49 0).op, (opN mO49 0).guard, (opN mO49 0).dst) = (.next (.tmp 210) false, none, some 211) := by kernel_rfl
theorem p491 : ((opN mO49 1).op, (opN mO49 1).guard, (opN mO49 1).dst) = (.extract (.tmp 211) 0, none, some 212) := by kernel_rfl
theorem p500 : ((opN mO50 0).op, (opN mO50 0).guard, (opN mO50 0).dst) = (.entry (.tmp 210), none, some 213) := by kernel_rfl
theorem p501 : ((opN mO50 1).op, (opN mO50 1).guard, (opN mO50 1).dst) = (.extract (.tmp 213) 1, none, some 214) := by kernel_rfl
theorem p502 : ((opN mO50 2).op, (opN mO50 2).guard, (opN mO50 2).dst) = (.assign (.tmp 214), none, some 24) := by kernel_rfl
theorem p510 : ((opN mO51 0).op, (opN mO51 0).guard, (opN mO51 0).dst) = (.move (.tmp 24), none, some 215) := by kernel_rfl
theorem p511 : ((opN mO51 1).op, (opN mO51 1).guard, (opN mO51 1).dst) = (.binOp .neq 3 (.tmp 215) (.const (.int .i64 0)) 3, none, some 216) := by kernel_rfl
def isMapT (t : Option TypeDesc) : Bool := match t with
  | some (.map _ _) => true
  | _ => false
theorem map_under : ∃ k e, Try.prog.underlying 44 = some (.map k e) := by
  have h : isMapT (Try.prog.underlying 44) = true := by kernel_rfl
  unfold isMapT at h
  split at h
  · rename_i k e hu
    exact ⟨k, e, hu⟩
  · cases h

noncomputable def rlaw06MailOncex1000048 (x : (Unit × Unit × Unit) × (mailT.den × List (Int × Int) × Unit)) : Option (((Bool × Unit) × Unit) ⊕ Empty) := match x with
  | (((), (), ()), (m, kv, ())) => bif kv.all (fun p => decide (p.2 = 0)) then (bS (olaw06Alive ((), ())) fun v0 => bif v0.fst.fst then bS (omailRight ((m, ()), ())) fun v1 => some (.inl v1) else some (.inl ((false, ()), ()))) else none
noncomputable def wlaw06MailOncex1000048 : (Unit × Unit × Unit) × (mailT.den × List (Int × Int) × Unit) → Option (((Bool × Unit) × Unit) ⊕ Empty) := shut rlaw06MailOncex1000048
theorem wlaw06MailOncex1000048_eq (x) : wlaw06MailOncex1000048 x = rlaw06MailOncex1000048 x := by rw [wlaw06MailOncex1000048, shut_eq]
noncomputable def llaw06MailOncex1000048 : Lp := { m := 222, up := [], ksE := [], ksA := [], keep := [5, 7], sh := (.cons (.loc 0 0) (.cons (.mref 1) .unit)), ms := [.box (.d (.pair (.sl (.pair (.int .i64) (.pair (.int .i64) (.pair (.int .i64) (.pair .str .unit))))) (.pair (.int .i64) (.pair (.int .i64) .unit)))), .mp (.int .i64)], outs := [{ e := .ret, keep := [4], ks := [], sh := (.cons (.d .bool) .unit), ms := [] }], sum := fun x => (trO1 trO0) (wlaw06MailOncex1000048 x) }

/- what comes behind -/
noncomputable def l53 : Lp := { m := 222, up := [], ksE := [], ksA := [], keep := [5], sh := .cons (.loc 0 0) .unit, ms := [.box (.d mailT)], outs := [{ e := .ret, keep := [4], ks := [], sh := (.cons (.d .bool) .unit), ms := [] }], sum := fun x => .no }
noncomputable def e53 : Env := mkE Try.prog [(12, claw06Alive.fc), (10, cmailRight.fc)] [] 6 [] [] 0
theorem e53_ok : EnvOk e53 := envOk_mk mixed (hcs_cons Slaw06Alive (hcs_cons SmailRight hcs_nil))
noncomputable def r53 (m : mailT.den) : Option (((Bool × Unit) × Unit) ⊕ Empty) := bS (olaw06Alive ((), ())) fun v0 => bif v0.fst.fst then bS (omailRight ((m, ()), ())) fun v1 => some (.inl v1) else some (.inl ((false, ()), ()))
theorem rd53 (m : mailT.den) : cut1 e53 6 l53 mT (((), ()), (m, ())) = r53 m := by kernel_rfl
theorem mT_loops : loopsOf mT = [] := by kernel_rfl

noncomputable def mSt (m : mailT.den) (kv : List (Int × Int)) : St := stOf 222 llaw06MailOncex1000048.keep llaw06MailOncex1000048.sh llaw06MailOncex1000048.ms (((), (), ()), (m, kv, ()))
theorem mSt_7 (m kv) : mget (mSt m kv).tmps 7 = some (.mref 1) := by kernel_rfl
theorem mSt_any (m kv) : mset (mSt m kv).tmps 209 .any = (mSt m kv).tmps ∧ mset (mSt m kv).tmps 210 .any = (mSt m kv).tmps ∧ mset (mSt m kv).tmps 211 .any = (mSt m kv).tmps ∧ mset (mSt m kv).tmps 212 .any = (mSt m kv).tmps ∧ mset (mSt m kv).tmps 213 .any = (mSt m kv).tmps ∧ mset (mSt m kv).tmps 214 .any = (mSt m kv).tmps ∧ mset (mSt m kv).tmps 24 .any = (mSt m kv).tmps ∧ mset (mSt m kv).tmps 215 .any = (mSt m kv).tmps ∧ mset (mSt m kv).tmps 216 .any = (mSt m kv).tmps :=
  ⟨by kernel_rfl, by kernel_rfl, by kernel_rfl, by kernel_rfl, by kernel_rfl, by kernel_rfl, by kernel_rfl, by kernel_rfl, by kernel_rfl⟩
theorem mSt_len (m kv) : (mSt m kv).tmps.length = 222 := by kernel_rfl
theorem mSt_view (m kv) : view 0 [] [5] l53.sh l53.ms (mSt m kv) = some (((), ()), (m, ())) := by kernel_rfl

set_option maxHeartbeats 1000000 in
theorem handlaw06MailOncex1000048 : ∀ E : Env, E.P = Try.prog → E.nf = 0 → CutSem E llaw06MailOncex1000048 (cutAt Try.prog 6 48) := by
  intro E hP hnf ro X w0 C0 Q a w x o hX hG hs hQ
  obtain ⟨⟨⟨⟩, ⟨⟩, ⟨⟩⟩, m, kv, ⟨⟩⟩ := x
  obtain ⟨C, g, h⟩ := hG
  have h : SR X w0 C0 [] C g (mSt m kv) a w := h
  have hs : wlaw06MailOncex1000048 (((), (), ()), (m, kv, ())) = some o := (trO1_get trO0_get _).symm.trans hs
  rw [wlaw06MailOncex1000048_eq] at hs
  have hs : (bif kv.all (fun p => decide (p.2 = 0)) then r53 m else none) = some o := hs
  obtain ⟨hz, hs⟩ := cond_some hs
  obtain ⟨k, h7, hgk⟩ := RV_mref (evalOp_RV (x := .tmp 7) h.tm (mSt_7 m kv))
  have hsz : a.tmps.size = 222 := by
    have := RVL.length h.tm
    rw [mSt_len] at this
    simpa using this.symm
  cases h.rel.blk 1 (.mp (.int .i64) kv) _ rfl hgk with
  | mp g0 g1 g2 g3 =>
  rename_i es clock
  have hval := ents_zero g2 hz
  have hkl := blk_lt g1
  obtain ⟨kt, et, hu⟩ := map_under
  have hcmp : ∀ (A : Act) {w3 : World}, A.eval (.tmp 215) = .int .i64 0 → (execOp A.eval (opN mO51 1)).run Try.prog w3 = .ok (.value (.bool false)) w3 := by
    intro A w3 hA
    have q := p511
    simp only [Prod.mk.injEq] at q
    have hc : A.eval (.const (.int .i64 0)) = .int .i64 0 := rfl
    simp only [execOp, q.1, hA, hc]
    simp [eqGuard, binOp, Op.intCmp]
  obtain ⟨y209, y210, y211, y212, y213, y214, y24, y215, y216⟩ := mSt_any m kv
  have q480 := p480; have q481 := p481; have q490 := p490; have q491 := p491; have q500 := p500; have q501 := p501; have q502 := p502; have q510 := p510; have q511 := p511
  simp only [Prod.mk.injEq] at q480 q481 q490 q491 q500 q501 q502 q510 q511
  rw [hP, show cutAt Try.prog 6 48 = mC from rfl, mC_eq]
  refine wpIn_seq (wpIn_seq (wpIn_region_list ?_))
  rw [mO48_list]
  refine ops_val (z := .map (some k)) (w' := w) q480.2.1 q480.2.2 (fun c hc => by rw [q480.1] at hc; cases hc) (by simp only [execOp, q480.1, h7, Sem.run_pure]) ?_
  have e209 : (a.put (some 209) (.map (some k))).eval (.tmp 209) = .map (some k) := eval_eq (by rw [hsz]; omega)
  refine ops_val (z := .pointer (some ⟨w.heap.size, 0, none⟩)) (w' := w.alloc (.mapIter (some k) clock #[] clock)) q481.2.1 q481.2.2 (fun c hc => by rw [q481.1] at hc; cases hc) ?_ ?_
  · simp only [execOp, q481.1, e209]
    simp [Instr.range, run_underlying hu, getObj, Sem.run, g1]
  refine wpListIn_nil ?_
  have hB1 : Below w.heap.size w (w.alloc (.mapIter (some k) clock #[] clock)) := (Below.refl _ _).alloc (Nat.le_refl _) _
  -- what holds ahead of each round
  let I : Act → World → Prop := fun a' w' => Below w.heap.size w w' ∧ RVL C g (mSt m kv).tmps a'.tmps.toList ∧ a'.defers = X.ds ∧ a'.eval (.tmp 210) = .pointer (some ⟨w.heap.size, 0, none⟩) ∧
    ∃ seen c0, w'.heap[w.heap.size]? = some (.mapIter (some k) clock seen c0) ∧ clock ≤ c0
  refine wpIn_block (wpIn_loop I (fun _ w' => w'.rangeLeft k w.heap.size) ?_ ?_)
  · refine ⟨hB1, tm_put y210 (tm_put y209 h.tm), h.df, ?_, #[], clock, heap_alloc_new w _, Nat.le_refl _⟩
    exact eval_eq (by rw [put_size, hsz]; omega)
  · rintro a1 w1 ⟨b1, b2, b3, b4, seen, c0, b5, b6⟩
    have hsz1 : a1.tmps.size = 222 := by
      have := RVL.length b2
      rw [mSt_len] at this
      simpa using this.symm
    have hb : w1.heap[k]? = some (.map es clock) := (b1.block k hkl).trans g1
    have hleft : w1.rangeLeft k w.heap.size = (leftOf es seen).size := by simp [World.rangeLeft, hb, b5]
    refine wpIn_seq (wpIn_region_list ?_)
    rw [mO49_list]
    rcases run_next_at (P := Try.prog) w1 (opN mO49 0).type w.heap.size k clock c0 seen es clock b5 hb g3.2 b6 with ⟨hz0, hrun⟩ | ⟨e, he, w2, hw2, hrun⟩
    · -- nothing is left
      refine ops_val (z := .tuple #[.bool false]) (w' := w1) q490.2.1 q490.2.2 (fun c hc => by rw [q490.1] at hc; cases hc) (by simp only [execOp, q490.1, b4, Sem.run_bind, hrun, Result.andThen_ok, Sem.run_pure]) ?_
      have e211 : (a1.put (some 211) (.tuple #[.bool false])).eval (.tmp 211) = .tuple #[.bool false] := eval_eq (by rw [hsz1]; omega)
      refine ops_val (z := .bool false) (w' := w1) q491.2.1 q491.2.2 (fun c hc => by rw [q491.1] at hc; cases hc) (by simp only [execOp, q491.1, e211]; simp [Instr.extract]) ?_
      refine wpListIn_nil ?_
      have e212 : ((a1.put (some 211) (.tuple #[.bool false])).put (some 212) (.bool false)).eval (.tmp 212) = .bool false := eval_eq (by rw [put_size, hsz1]; omega)
      refine wpIn_seq (wpIn_cond (t := false) e212 (wpIn_exit ?_))
      -- behind the loop
      have hT : SR X w0 C0 [] C g (mSt m kv) ((a1.put (some 211) (.tuple #[.bool false])).put (some 212) (.bool false)) w1 := ⟨h.rel.ext b1, tm_put y212 (tm_put y211 b2), h.out, b3⟩
      have hst := stOf_good (m := 222) hT rfl (by simp [put_size, hsz1]) (by rw [hX, hnf]) (mSt_view m kv)
      have hex := exec_sound e53_ok (fn := 6) (ro := ro) mT (LoopsGood.nil mT_loops fun _ => rfl) (rf_none (fun k => by simp [e53, mkE, mkEc, look]) _)
      refine hex X w0 C0 [] _ (callee e53 3) (fun e st => cond (Nat.beq (mlen st.tmps) 222) (cutO 0 l53.outs e st) none) o _ (by rw [hX, hnf]; rfl) (fun X' hX' => callee_sound e53_ok 3 _ X' hX') (fun ks fc hy => by cases hy) (fun _ _ _ _ => panOk_none) ?_ _ _ w1 hst ((rd53 m).trans hs)
      intro X7 w7 C7 hx7 e7 st7 a7 w7' ⟨C8, g8, h8⟩ ek
      obtain ⟨hm2, ek⟩ := cond_some ek
      have hm2' := tmps_len h8 hm2
      obtain ⟨j1, j2⟩ := cutO_spec h8 (out_nil h8) hm2' (by rw [hx7.G, hX, hnf]) _ _ _ ek
      subst j1
      exact hQ X7 w7 C7 hx7 a7 w7' j2
    · -- one more
      obtain ⟨hes, hns⟩ := mem_left he
      have hev := hval e hes
      let w3 : World := ChangeMaps.setBlock w2 w.heap.size (.mapIter (some k) clock (seen.push e.born) clock)
      have hw3 : Below w.heap.size w w3 := by
        have h2 : Below w.heap.size w w2 := by
          rcases hw2 with rfl | rfl
          · exact b1
          · exact b1.drew
        exact ⟨h2.os, h2.tape, h2.output, by simp only [w3, ChangeMaps.setBlock, Array.size_setIfInBounds]; exact h2.size, fun j hj => by
          simp only [w3, ChangeMaps.setBlock]
          rw [Array.getElem?_setIfInBounds_ne (by omega)]
          exact h2.block j hj⟩
      have hlt : w.heap.size < w2.heap.size := by
        have h5 := blk_lt b5
        rcases hw2 with rfl | rfl
        · exact h5
        · exact h5
      have hit : w3.heap[w.heap.size]? = some (.mapIter (some k) clock (seen.push e.born) clock) := by
        simp only [w3, ChangeMaps.setBlock]
        rw [Array.getElem?_setIfInBounds_self_of_lt hlt]
      have hb3 : w3.heap[k]? = some (.map es clock) := (hw3.block k hkl).trans g1
      refine ops_val (z := .tuple #[.bool true, e.key, e.val]) (w' := w3) q490.2.1 q490.2.2 (fun c hc => by rw [q490.1] at hc; cases hc) (by simp only [execOp, q490.1, b4, Sem.run_bind, hrun, Result.andThen_ok, Sem.run_pure]; rfl) ?_
      have e211 : (a1.put (some 211) (.tuple #[.bool true, e.key, e.val])).eval (.tmp 211) = .tuple #[.bool true, e.key, e.val] := eval_eq (by rw [hsz1]; omega)
      refine ops_val (z := .bool true) (w' := w3) q491.2.1 q491.2.2 (fun c hc => by rw [q491.1] at hc; cases hc) (by simp only [execOp, q491.1, e211]; simp [Instr.extract]) ?_
      refine wpListIn_nil ?_
      generalize ha2 : (a1.put (some 211) (.tuple #[.bool true, e.key, e.val])).put (some 212) (.bool true) = a2
      have hsz2 : a2.tmps.size = 222 := by rw [← ha2, put_size, put_size, hsz1]
      have e212 : a2.eval (.tmp 212) = .bool true := by rw [← ha2]; exact eval_eq (by rw [put_size, hsz1]; omega)
      have e210 : a2.eval (.tmp 210) = .pointer (some ⟨w.heap.size, 0, none⟩) := by rw [← ha2, eval_ne (by omega), eval_ne (by omega), b4]
      have ht2 : RVL C g (mSt m kv).tmps a2.tmps.toList := by rw [← ha2]; exact tm_put y212 (tm_put y211 b2)
      have hd2 : a2.defers = X.ds := by rw [← ha2]; exact b3
      refine wpIn_seq (wpIn_cond (t := true) e212 (wpIn_skip ?_))
      refine wpIn_block (wpIn_seq (wpIn_region_list ?_))
      rw [mO50_list]
      have hent := run_entry_at (P := Try.prog) w3 w.heap.size k clock seen es clock e hit hb3 hes g3.1
      refine ops_val (z := .tuple #[e.key, e.val]) (w' := w3) q500.2.1 q500.2.2 (fun c hc => by rw [q500.1] at hc; cases hc) (by simp only [execOp, q500.1, e210, Sem.run_bind, hent, Result.andThen_ok, Sem.run_pure]) ?_
      have e213 : (a2.put (some 213) (.tuple #[e.key, e.val])).eval (.tmp 213) = .tuple #[e.key, e.val] := eval_eq (by rw [hsz2]; omega)
      refine ops_val (z := e.val) (w' := w3) q501.2.1 q501.2.2 (fun c hc => by rw [q501.1] at hc; cases hc) (by simp only [execOp, q501.1, e213]; simp [Instr.extract]) ?_
      have e214 : ((a2.put (some 213) (.tuple #[e.key, e.val])).put (some 214) e.val).eval (.tmp 214) = e.val := eval_eq (by rw [put_size, hsz2]; omega)
      refine ops_val (z := e.val) (w' := w3) q502.2.1 q502.2.2 (fun c hc => by rw [q502.1] at hc; cases hc) (by simp only [execOp, q502.1, e214, Sem.run_pure]) ?_
      refine wpListIn_nil ?_
      refine wpIn_seq (wpIn_region_list ?_)
      rw [mO51_list]
      have e24 : (((a2.put (some 213) (.tuple #[e.key, e.val])).put (some 214) e.val).put (some 24) e.val).eval (.tmp 24) = e.val := eval_eq (by rw [put_size, put_size, hsz2]; omega)
      refine ops_val (z := e.val) (w' := w3) q510.2.1 q510.2.2 (fun c hc => by rw [q510.1] at hc; cases hc) (by simp only [execOp, q510.1, e24, Sem.run_pure]) ?_
      have e215 : ((((a2.put (some 213) (.tuple #[e.key, e.val])).put (some 214) e.val).put (some 24) e.val).put (some 215) e.val).eval (.tmp 215) = e.val := eval_eq (by rw [put_size, put_size, put_size, hsz2]; omega)
      refine ops_val (z := .bool false) (w' := w3) q511.2.1 q511.2.2 (fun c hc => by rw [q511.1] at hc; cases hc) (hcmp _ (e215.trans hev)) ?_
      refine wpListIn_nil ?_
      have e216 : (((((a2.put (some 213) (.tuple #[e.key, e.val])).put (some 214) e.val).put (some 24) e.val).put (some 215) e.val).put (some 216) (.bool false)).eval (.tmp 216) = .bool false := eval_eq (by rw [put_size, put_size, put_size, put_size, hsz2]; omega)
      refine wpIn_cond (t := false) e216 (wpIn_skip ?_)
      refine ⟨⟨hw3, tm_put y216 (tm_put y215 (tm_put y24 (tm_put y214 (tm_put y213 ht2)))), hd2, ?_, seen.push e.born, clock, hit, Nat.le_refl _⟩, ?_⟩
      · rw [eval_ne (by omega), eval_ne (by omega), eval_ne (by omega), eval_ne (by omega), eval_ne (by omega), e210]
      · rw [hleft]
        have : w3.rangeLeft k w.heap.size = (leftOf es (seen.push e.born)).size := by simp [World.rangeLeft, hb3, hit]
        rw [this]
        exact left_shrinks es seen e he

end Am
end Go.Proofs.Ytkjpoongkdapoaa
