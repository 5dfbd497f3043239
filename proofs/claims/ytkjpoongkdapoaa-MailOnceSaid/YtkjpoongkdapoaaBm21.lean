/-
  A symbolic machine over the model, part 21: a function's contract out of its run.
-/
import Derived.Test.YtkjpoongkdapoaaBm20
import Derived.KernelRfl
namespace Go.Proofs.Ytkjpoongkdapoaa
namespace Am
open Go Go.RowKit
set_option linter.unusedVariables false
set_option linter.unusedSimpArgs false

section
variable {X : Ctx} {w0 w : World} {C0 C : Mem} {fs : List (List Value)} {g : Ghs} {st : St} {a : Act}

theorem Rel.reds {X : Ctx} {mem : List Blk} (h : Rel X w0 C0 C g mem w) (ds : List Deferred) : Rel { X with ds := ds } w0 C0 C g mem w :=
  ⟨h.below, h.low, h.sub, h.base, h.old, h.len, h.keep, fun b m x hm hx => by
    cases h.blk b m x hm hx with
    | box h1 h2 h3 h4 => exact .box h1 h2 h3 h4
    | fro h1 h2 => exact .fro h1 h2
    | own h0 h1 h2 h3 => exact .own h0 h1 h2 h3
    | clip => exact .clip
    | loop hl => exact .loop hl
    | arr h0 h1 h2 h3 h4 h5 => exact .arr h0 h1 h2 h3 h4 h5
    | arr0 => exact .arr0
    | mp h0 h1 h2 h3 => exact .mp h0 h1 h2 h3
    | dead => exact .dead, h.sep⟩

theorem frzR_spec : ∀ {vs : List AV} {zs : List Value} {C : Mem} {st : St}, SR X w0 C0 fs C g st a w → RVL C g vs zs → ∃ C', C.le C' ∧ SR X w0 C0 fs C' g (frzR st vs).2 a w ∧ RVL C' g (frzR st vs).1 zs
  | [], _, C, st, h, .nil => ⟨C, Mem.le_refl _, h, .nil⟩
  | v :: vs, _, C, st, h, .cons (v := x) hv ht => by
    have one : ∃ C1, C.le C1 ∧ SR X w0 C0 fs C1 g (match v with | .fn f a c => frozen1 st (.fn f a c) | v => (v, st)).2 a w ∧ RV C1 g (match v with | .fn f a c => frozen1 st (.fn f a c) | v => (v, st)).1 x := by
      cases v with
      | fn f p q =>
        obtain ⟨C1, h1, h2, h3⟩ := frozen1_spec h hv
        exact ⟨C1, h1, h2, RV.mono (Mem.le_refl _) (Ghs.nil_le g) h3⟩
      | _ => exact ⟨C, Mem.le_refl _, h, hv⟩
    obtain ⟨C1, hC1, h1, hr1⟩ := one
    obtain ⟨C2, hC2, h2, hr2⟩ := frzR_spec h1 (RVL.mono hC1 (Ghs.le_refl _) ht)
    exact ⟨C2, Mem.le_trans hC1 hC2, h2, .cons (RV.mono hC2 (Ghs.le_refl _) hr1) hr2⟩

theorem frzD_asl {t : Ty} {b : Nat} {lo hi : Int} {e : TypeId} {xs : List t.den} {C : Mem} {st : St} (h : SR X w0 C0 fs C g st a w) (hm : mget st.mem b = some (.arr t e xs)) {cs : List Value} (hc : RC C g (.asl t b lo hi) cs) :
    ∃ C', C.le C' ∧ SR X w0 C0 fs C' g { st with mem := mset st.mem b .dead } a w ∧ RC C' g (.sl t (dsub xs lo hi) none) cs := by
  rw [mget_eq] at hm
  rw [mset_eq]
  cases hc with
  | asl hg h0 hb =>
    rename_i blk e' n cap base
    cases blk with
    | none =>
      cases h.rel.blk b _ _ hm hg with
      | arr0 =>
        refine ⟨C, Mem.le_refl _, h.up (Mem.le_refl _) (Ghs.le_refl _) h.rel.kill, ?_⟩
        have e1 : dsub ([] : List t.den) lo hi = [] := by simp [dsub]
        have e2 : (hi - lo).toNat = 0 := by omega
        rw [e1, e2]
        exact .sl ⟨Nat.zero_le _, Nat.zero_le _⟩ Row_nil
    | some k =>
      obtain ⟨cs0, h1, h2, h3, h4⟩ := h.rel.still hm hg
      refine ⟨_, h3, h.up h3 (Ghs.le_refl _) h4, ?_⟩
      have hl : (dsub xs lo hi).length = (hi - lo).toNat := by
        simp only [dsub, List.length_take, List.length_drop]
        omega
      rw [← hl]
      refine .sl ⟨by omega, by omega⟩ ?_
      by_cases hne : dsub xs lo hi = []
      · rw [hne]; exact Row_nil
      · have hlt : lo < hi := by
          refine Int.not_le.1 fun hle => hne ?_
          apply List.eq_nil_of_length_eq_zero
          rw [hl]; omega
        obtain ⟨k', hk', hbase⟩ := hb (by omega)
        simp only [Option.some.injEq] at hk'
        subst hk'
        subst hbase
        have hrow : Row (C.row k cs0) t (some ⟨k, 0, none⟩) xs := (h1.mono h3).row Mem.row_at
        have hd := Row_drop hrow lo.toNat
        rw [Nat.zero_add] at hd
        exact Row_take hd _
theorem frzDL_spec {f : St → AV → AV × St} (hf : ∀ (C : Mem) (st : St) (v : AV), SR X w0 C0 fs C g st a w → ∀ cs, RC C g v cs → ∃ C', C.le C' ∧ SR X w0 C0 fs C' g (f st v).2 a w ∧ RC C' g (f st v).1 cs) : ∀ {vs : List AV} {cs : List Value} {C : Mem} {st : St}, SR X w0 C0 fs C g st a w → RCL C g vs cs →
    ∃ C', C.le C' ∧ SR X w0 C0 fs C' g (frzDL f st vs).2 a w ∧ RCL C' g (frzDL f st vs).1 cs
  | [], _, C, st, h, .nil => ⟨C, Mem.le_refl _, h, .nil⟩
  | v :: vs, _, C, st, h, .cons hv ht => by
    obtain ⟨C1, hC1, h1, hr1⟩ := hf C st v h _ hv
    obtain ⟨C2, hC2, h2, hr2⟩ := frzDL_spec hf h1 (RCL.mono hC1 (Ghs.le_refl _) ht)
    exact ⟨C2, Mem.le_trans hC1 hC2, h2, .cons (RC.mono hC2 (Ghs.le_refl _) hr1) hr2⟩
theorem frzD_RC : ∀ (n : Nat) (C : Mem) (st : St) (v : AV), SR X w0 C0 fs C g st a w → ∀ cs, RC C g v cs → ∃ C', C.le C' ∧ SR X w0 C0 fs C' g (frzD n st v).2 a w ∧ RC C' g (frzD n st v).1 cs
  | 0, C, st, v, h, cs, hc => ⟨C, Mem.le_refl _, h, hc⟩
  | n + 1, C, st, v, h, cs, hc => by
    cases v with
    | agg ps =>
      cases hc with
      | agg hc =>
        obtain ⟨C1, hC1, h1, hr1⟩ := frzDL_spec (frzD_RC n) h hc
        exact ⟨C1, hC1, h1, .agg hr1⟩
    | asl t b lo hi =>
      simp only [frzD]
      split
      · rename_i t' e xs hm
        by_cases ht : t' = t
        · subst ht
          simp only [dif_pos]
          exact frzD_asl h hm hc
        · simp only [dif_neg ht]
          exact ⟨C, Mem.le_refl _, h, hc⟩
      · exact ⟨C, Mem.le_refl _, h, hc⟩
    | _ => exact ⟨C, Mem.le_refl _, h, hc⟩
theorem frzD_RV (n : Nat) (C : Mem) (st : St) (v : AV) (h : SR X w0 C0 fs C g st a w) (x : Value) (hx : RV C g v x) : ∃ C', C.le C' ∧ SR X w0 C0 fs C' g (frzD n st v).2 a w ∧ RV C' g (frzD n st v).1 x := by
  have keep : (frzD n st v) = (v, st) → ∃ C', C.le C' ∧ SR X w0 C0 fs C' g (frzD n st v).2 a w ∧ RV C' g (frzD n st v).1 x := fun e => by
    rw [e]; exact ⟨C, Mem.le_refl _, h, hx⟩
  cases n with
  | zero => exact keep rfl
  | succ n =>
    cases v with
    | agg ps =>
      obtain ⟨cs, rfl, hc⟩ := RV_agg hx
      obtain ⟨C1, hC1, h1, hr1⟩ := frzD_RC (n + 1) C st _ h cs hc
      exact ⟨C1, hC1, h1, .agg hr1⟩
    | asl t b lo hi =>
      cases hx with
      | one hc h1 h2 =>
        obtain ⟨C1, hC1, h1, hr1⟩ := frzD_RC (n + 1) C st _ h _ hc
        refine ⟨C1, hC1, h1, .one hr1 ?_ ?_⟩
        · intro q hq
          simp only [frzD] at hq
          split at hq
          · split at hq <;> cases hq
          · cases hq
        · intro q hq
          simp only [frzD] at hq
          split at hq
          · split at hq <;> cases hq
          · cases hq
    | _ => exact keep rfl
theorem frzS_spec : ∀ {s : Sh} {vs : List AV} {zs : List Value} {C : Mem} {st : St}, SR X w0 C0 fs C g st a w → RVL C g vs zs → ∃ C', C.le C' ∧ SR X w0 C0 fs C' g (frzS s st vs).2 a w ∧ RVL C' g (frzS s st vs).1 zs
  | .cons s c, v :: vs, _, C, st, h, .cons (v := x) hv ht => by
    have one : ∃ C1, C.le C1 ∧ SR X w0 C0 fs C1 g (match s with | .asl _ _ => (v, st) | _ => frzD 6 st v).2 a w ∧ RV C1 g (match s with | .asl _ _ => (v, st) | _ => frzD 6 st v).1 x := by
      cases s with
      | asl _ _ => exact ⟨C, Mem.le_refl _, h, hv⟩
      | _ => exact frzD_RV 6 C st v h x hv
    obtain ⟨C1, hC1, h1, hr1⟩ := one
    obtain ⟨C2, hC2, h2, hr2⟩ := frzS_spec (s := c) h1 (RVL.mono hC1 (Ghs.le_refl _) ht)
    exact ⟨C2, Mem.le_trans hC1 hC2, h2, .cons (RV.mono hC2 (Ghs.le_refl _) hr1) hr2⟩
  | .cons s c, [], _, C, st, h, ht => ⟨C, Mem.le_refl _, h, ht⟩
  | .d _, vs, _, C, st, h, ht => ⟨C, Mem.le_refl _, h, by cases vs <;> exact ht⟩
  | .own _ _, vs, _, C, st, h, ht => ⟨C, Mem.le_refl _, h, by cases vs <;> exact ht⟩
  | .agg _, vs, _, C, st, h, ht => ⟨C, Mem.le_refl _, h, by cases vs <;> exact ht⟩
  | .tup _, vs, _, C, st, h, ht => ⟨C, Mem.le_refl _, h, by cases vs <;> exact ht⟩
  | .cptr _, vs, _, C, st, h, ht => ⟨C, Mem.le_refl _, h, by cases vs <;> exact ht⟩
  | .fn _ _ _, vs, _, C, st, h, ht => ⟨C, Mem.le_refl _, h, by cases vs <;> exact ht⟩
  | .loc _ _, vs, _, C, st, h, ht => ⟨C, Mem.le_refl _, h, by cases vs <;> exact ht⟩
  | .idsl _ _, vs, _, C, st, h, ht => ⟨C, Mem.le_refl _, h, by cases vs <;> exact ht⟩
  | .nil, vs, _, C, st, h, ht => ⟨C, Mem.le_refl _, h, by cases vs <;> exact ht⟩
  | .nilfn, vs, _, C, st, h, ht => ⟨C, Mem.le_refl _, h, by cases vs <;> exact ht⟩
  | .any, vs, _, C, st, h, ht => ⟨C, Mem.le_refl _, h, by cases vs <;> exact ht⟩
  | .yld _, vs, _, C, st, h, ht => ⟨C, Mem.le_refl _, h, by cases vs <;> exact ht⟩
  | .lst _, vs, _, C, st, h, ht => ⟨C, Mem.le_refl _, h, by cases vs <;> exact ht⟩
  | .asl _ _, vs, _, C, st, h, ht => ⟨C, Mem.le_refl _, h, by cases vs <;> exact ht⟩
  | .mref _, vs, _, C, st, h, ht => ⟨C, Mem.le_refl _, h, by cases vs <;> exact ht⟩
  | .unit, vs, _, C, st, h, ht => ⟨C, Mem.le_refl _, h, by cases vs <;> exact ht⟩

theorem mrange_get : ∀ (n i j : Nat), (mrange i n)[j]? = if j < n then some (i + j) else none
  | 0, i, j => by simp [mrange]
  | n + 1, i, 0 => by simp [mrange]
  | n + 1, i, j + 1 => by
    simp only [mrange, List.getElem?_cons_succ, mrange_get n (i + 1) j]
    by_cases h : j < n
    · rw [if_pos h, if_pos (by omega)]; congr 1; omega
    · rw [if_neg h, if_neg (by omega)]
theorem mrange_len : ∀ (n i : Nat), (mrange i n).length = n
  | 0, _ => rfl
  | n + 1, i => by simp [mrange, mrange_len n]

theorem finish_spec {E : Env} {fn : Func} {up : List Up} {ks : List Nat} {rsh : Sh} {ms : List BSh} {vs : List AV} {zs : List Value} {out : rsh.den × MSh ms} (h : SR X w0 C0 fs C g st a w) (hnf : X.G.length = E.nf) (hv : resAV E fn st fn.results.toList = some vs) (hz : RVL C g vs zs)
    (e : finish E fn up ks rsh ms st = some out) : ∃ C' g', Rel X w0 C0 C' g' (encM ms out.2) w ∧ RVL C' g' (encL rsh out.1) zs := by
  unfold finish at e
  rw [hv] at e
  simp only at e
  obtain ⟨C9, hC9, h9, hz9⟩ := frzS_spec (s := rsh) h hz
  revert e h9 hz9
  generalize frzS rsh st vs = q
  obtain ⟨vs, st⟩ := q
  simp only
  intro e h hz
  obtain ⟨C1, hC1, h1, hr1⟩ := frzR_spec h hz
  have e2 : view E.nf (resKs ks ms (upL { tmps := (frzR st vs).1, outer := [], mem := (frzR st vs).2.mem } up)) (mrange 0 (mlen (frzR st vs).1)) rsh ms (upL { tmps := (frzR st vs).1, outer := [], mem := (frzR st vs).2.mem } up) = some out := e
  have hs : SR X w0 C0 [] C1 g { tmps := (frzR st vs).1, outer := [], mem := (frzR st vs).2.mem } { tmps := zs.toArray, defers := X.ds } w := ⟨h1.rel, hr1, .nil, rfl⟩
  obtain ⟨g2, _, hu⟩ := upL_spec up hs
  obtain ⟨g', zs', i1, i2, i3, i4⟩ := view_spec hu hnf e2
  have hlen : (frzR st vs).1.length = zs.length := RVL.length hr1
  have : zs' = zs := by
    rw [mlen_eq, mrange_len, hlen] at i3
    apply List.ext_getElem?
    intro j
    by_cases hj : j < zs.length
    · have := i4 j j (by rw [mlen_eq, hlen, mrange_get, if_pos hj]; simp)
      rw [← this]
    · rw [List.getElem?_eq_none (by omega), List.getElem?_eq_none (by omega)]
  rw [this] at i2
  exact ⟨C1, g', i1, i2⟩

/-- a function's whole run -/
theorem runB_sound {E : Env} (hE : EnvOk E) {f : FuncId} {args : List AV} {mem : List Blk} {up : List Up} {ks : List Nat} {rsh : Sh} {ms : List BSh} {out : rsh.den × MSh ms} (hl : LoopsGood E f (bodyOf E.P f)) (hrf : ∀ d ∈ rfsOf (bodyOf E.P f), ExecOk E f none d)
    (h : runB E f args mem up ks rsh ms = some out) {X : Ctx} {w : World} {C : Mem} {g : Ghs} {vs : List Value} (hrel : Rel X w C C g mem w) (hnf : X.G.length = E.nf) (hargs : RVL C g args vs) (hY : YOk E X w C) :
    Calls E.P f vs.toArray w (fun e w' => ∃ zs C' g', e = .returned (tupV zs) ∧ Rel X w C C' g' (encM ms out.2) w' ∧ RVL C' g' (encL rsh out.1) zs) := by
  unfold runB at h
  split at h
  · rename_i fn hfn
    have hfn' := mget_funcs hfn
    cases hname : fn.name == "runtime.NumGoroutine" with
    | true => simp [hname] at h
    | false =>
      simp only [hname, cond_false] at h
      split at h
      · rename_i c hbody
        have hb : bodyOf E.P f = c := by simp [bodyOf, hfn, hbody]
        rw [hb] at hl hrf
        refine callsFW' (n := 0) (callsIn_of_wp_marks hfn' hbody trivial ?_ rfl)
        have hex : ExecOk E f none c := exec_sound hE c hl hrf
        have hX : ({ X with ds := [] } : Ctx).G.length = E.nf := hnf
        refine hex { X with ds := [] } w C [] _ (callee E 3) _ out _ hX (fun X' hX' => callee_sound hE 3 _ X' hX') (fun ks fc hy l hl => hY ks fc hy l hl) (fun _ _ _ _ => panOk_none) ?_
          { tmps := mapp args (mrep (fn.ntmps - mlen args) .any), outer := [], mem := mem } _ _ ⟨C, g, hrel.reds [], enter_tmps hargs, .nil, rfl⟩ h
        intro X' w0' C0' hx e' st' a' w' ⟨C', g', h'⟩ ek
        have key : finish E fn up ks rsh ms st' = some out → LeavesInM (FW none) 0 E.P fn a'.tmps (fun e w' => ∃ zs C' g', e = .returned (tupV zs) ∧ Rel X w C C' g' (encM ms out.2) w' ∧ RVL C' g' (encL rsh out.1) zs) a'.defers .returning w' := by
          intro ek
          cases hv : resAV E fn st' fn.results.toList with
          | none => unfold finish at ek; rw [hv] at ek; cases ek
          | some vs' =>
            refine leaves_ext h' hx rfl hv fun w2 zs h2 hz => ?_
            obtain ⟨C2, g2, i1, i2⟩ := finish_spec h2 hX hv hz ek
            exact ⟨zs, C2, g2, rfl, i1.reds X.ds, i2⟩
        cases e' with
        | normal => exact key ek
        | ret => exact key ek
        | exit i => cases ek
      · cases h
  · cases h

/-- a function's whole run that may end with a panic -/
theorem runQ_sound {E : Env} (hE : EnvOk E) {f : FuncId} {args : List AV} {mem : List Blk} {up : List Up} {ks : List Nat} {rsh : Sh} {ms : List BSh} {out : PanR (rsh.den × MSh ms)} (hl : LoopsGood E f (bodyOf E.P f)) (hrf : ∀ d ∈ rfsOf (bodyOf E.P f), ExecOk E f none d)
    (h : runQ E f args mem up ks rsh ms = some out) {X : Ctx} {w : World} {C : Mem} {g : Ghs} {vs : List Value} (hrel : Rel X w C C g mem w) (hnf : X.G.length = E.nf) (hargs : RVL C g args vs) (hY : YOk E X w C) :
    Calls E.P f vs.toArray w (fun e w' => (∃ r zs C' g', out = .ok r ∧ e = .returned (tupV zs) ∧ Rel X w C C' g' (encM ms r.2) w' ∧ RVL C' g' (encL rsh r.1) zs) ∨ (out = .pan ∧ ∃ v : Value, e = .panicked [{ v, recovered := false }] ∧ BadV v ∧ Sane X w C w')) := by
  unfold runQ at h
  split at h
  · rename_i fn hfn
    have hfn' := mget_funcs hfn
    cases hname : fn.name == "runtime.NumGoroutine" with
    | true => simp [hname] at h
    | false =>
      simp only [hname, cond_false] at h
      split at h
      · rename_i c hbody
        have hb : bodyOf E.P f = c := by simp [bodyOf, hfn, hbody]
        rw [hb] at hl hrf
        refine callsFW' (n := 0) (callsIn_of_wp_marks hfn' hbody trivial ?_ rfl)
        have hex : ExecOk E f none c := exec_sound hE c hl hrf
        have hX : ({ X with ds := [] } : Ctx).G.length = E.nf := hnf
        refine hex { X with ds := [] } w C [] _ (callee E 3) _ out _ hX (fun X' hX' => callee_sound hE 3 _ X' hX') (fun ks fc hy l hl => hY ks fc hy l hl) (fun X' w0' C0' hx hp a' v w' hd hb hs => leaves_panx hs hd hx rfl fun w2 hs2 => .inr ⟨by cases hp; rfl, v, rfl, hb, hs2⟩) ?_
          { tmps := mapp args (mrep (fn.ntmps - mlen args) .any), outer := [], mem := mem } _ _ ⟨C, g, hrel.reds [], enter_tmps hargs, .nil, rfl⟩ h
        intro X' w0' C0' hx e' st' a' w' ⟨C', g', h'⟩ ek
        have key : (finish E fn up ks rsh ms st').map PanR.ok = some out → LeavesInM (FW none) 0 E.P fn a'.tmps (fun e w' => (∃ r zs C' g', out = .ok r ∧ e = .returned (tupV zs) ∧ Rel X w C C' g' (encM ms r.2) w' ∧ RVL C' g' (encL rsh r.1) zs) ∨ (out = .pan ∧ ∃ v : Value, e = .panicked [{ v, recovered := false }] ∧ BadV v ∧ Sane X w C w')) a'.defers .returning w' := by
          intro ek
          obtain ⟨out, ek1, rfl⟩ := Option.map_eq_some_iff.1 ek
          clear ek
          have ek := ek1
          clear ek1
          cases hv : resAV E fn st' fn.results.toList with
          | none => unfold finish at ek; rw [hv] at ek; cases ek
          | some vs' =>
            refine leaves_ext h' hx rfl hv fun w2 zs h2 hz => ?_
            obtain ⟨C2, g2, i1, i2⟩ := finish_spec h2 hX hv hz ek
            exact .inl ⟨out, zs, C2, g2, rfl, rfl, i1.reds X.ds, i2⟩
        cases e' with
        | normal => exact key ek
        | ret => exact key ek
        | exit i => cases ek
      · cases h
  · cases h

theorem look_mem {α : Type _} {f : Nat} {x : α} : ∀ {l : List (Nat × α)}, look f l = some x → (f, x) ∈ l
  | [], h => by simp [look] at h
  | (g, y) :: l, h => by
    simp only [look] at h
    cases hb : Nat.beq g f with
    | true =>
      rw [hb] at h
      simp only [cond_true, Option.some.injEq] at h
      rw [h, Nat.eq_of_beq_eq_true hb]
      exact List.mem_cons_self ..
    | false =>
      rw [hb] at h
      exact List.mem_cons_of_mem _ (look_mem (by simpa using h))
theorem looks_mem {α : Type _} {f : Nat} {x : α} : ∀ {l : List (Nat × α)}, x ∈ looks f l → (f, x) ∈ l
  | [], h => by simp [looks] at h
  | (g, y) :: l, h => by
    simp only [looks] at h
    cases hb : Nat.beq g f with
    | true =>
      rw [hb, cond_true] at h
      rcases List.mem_cons.1 h with rfl | h
      · rw [Nat.eq_of_beq_eq_true hb]
        exact List.mem_cons_self ..
      · exact List.mem_cons_of_mem _ (looks_mem h)
    | false =>
      rw [hb] at h
      exact List.mem_cons_of_mem _ (looks_mem (by simpa using h))

def LkOk (E : Env) (f : FuncId) (b : Code) : Lk → Prop
  | .sum l => LoopOk E f l b ∧ ∀ o' : OutT l.outs, (outE l.m l.outs o').1 ≠ .normal
  | .unroll _ => True
def LoopsOk (E : Env) (f : FuncId) : List (Nat × Lk) → List Code → Prop
  | [], [] => True
  | (k, l) :: ls, b :: bs => key b = k ∧ LkOk E f b l ∧ LoopsOk E f ls bs
  | _, _ => False

theorem loopsOk_mem {E : Env} {f : FuncId} : ∀ {ls : List (Nat × Lk)} {bs : List Code}, LoopsOk E f ls bs → (ls.map (·.1)).Nodup → ∀ b ∈ bs, ∀ l, look (key b) ls = some l → LkOk E f b l
  | [], [], _, _, b, hb, _, _ => by cases hb
  | (k, l) :: ls, b :: bs, h, hn, b', hb', l', hl' => by
    obtain ⟨h1, h2, h3⟩ := h
    simp only [List.map_cons, List.nodup_cons, List.mem_map, not_exists, not_and] at hn
    simp only [look] at hl'
    rcases List.mem_cons.1 hb' with rfl | hb'
    · rw [h1, Nat.beq_refl, cond_true, Option.some.injEq] at hl'
      subst hl'
      exact h2
    · cases hk : Nat.beq k (key b') with
      | true =>
        exfalso
        have hkk := Nat.eq_of_beq_eq_true hk
        have : ∀ {ls : List (Nat × Lk)} {bs : List Code}, LoopsOk E f ls bs → b' ∈ bs → ∃ x ∈ ls, x.1 = key b' := by
          intro ls
          induction ls with
          | nil => intro bs h hb; cases bs with | nil => cases hb | cons _ _ => exact h.elim
          | cons p ls ih =>
            intro bs h hb
            cases bs with
            | nil => cases hb
            | cons c bs =>
              obtain ⟨g1, g2, g3⟩ := h
              rcases List.mem_cons.1 hb with rfl | hb
              · exact ⟨p, by simp, g1.symm⟩
              · obtain ⟨x, hx, he⟩ := ih g3 hb
                exact ⟨x, by simp [hx], he⟩
        obtain ⟨x, hx, he⟩ := this h3 hb'
        exact hn.1 x hx (he.trans hkk.symm)
      | false =>
        rw [hk] at hl'
        exact loopsOk_mem h3 hn.2 b' hb' l' (by simpa using hl')
  | [], _ :: _, h, _, _, _, _, _ => h.elim
  | _ :: _, [], h, _, _, _, _, _ => h.elim

theorem envOk_mkc {P : Program} (hm : P.follows .mixedOrders = true) {cs : List (FuncId × Fc)} (hcs : ∀ p ∈ cs, Spec P p.1 p.2) {inl : List Nat} {f : FuncId} {ls : List (Nat × Lk)} {rs : List (Nat × Rf)} {nf : Nat} {cts : List (Nat × Lp)} : EnvOk (mkEc P cs inl f ls rs nf cts) := by
  refine ⟨hm, fun g fc h => hcs (g, fc) (looks_mem h), fun g k h => ?_, fun g k h => ?_, fun g k h => ?_⟩
  · simp only [mkEc, Bool.and_eq_true, Bool.not_eq_true'] at h
    simp only [mkEc, h.2, cond_false]
  · simp only [mkEc, Bool.and_eq_true, Bool.not_eq_true'] at h
    simp only [mkEc, h.2, cond_false]
  · simp only [mkEc, Bool.and_eq_true, Bool.not_eq_true'] at h
    simp only [mkEc, h.2, cond_false]
theorem envOk_mk {P : Program} (hm : P.follows .mixedOrders = true) {cs : List (FuncId × Fc)} (hcs : ∀ p ∈ cs, Spec P p.1 p.2) {inl : List Nat} {f : FuncId} {ls : List (Nat × Lk)} {rs : List (Nat × Rf)} {nf : Nat} : EnvOk (mkE P cs inl f ls rs nf) := envOk_mkc hm hcs

theorem EnvOk.yielding {E : Env} (h : EnvOk E) (nf : Nat) (ks : List Nat) (fc : Fc) : EnvOk (E.yielding nf ks fc) := ⟨h.hm, h.con, h.inl, h.inr, h.inc⟩

theorem loopsGood_mkc {E : Env} (hE : EnvOk E) {f : FuncId} {ls : List (Nat × Lk)} (hlp : ∀ k, E.lp f k = look k ls) (hn : (ls.map (·.1)).Nodup) {c : Code} (hl : LoopsOk E f ls (loopsOf c)) (hc : CutsGood E f c) : LoopsGood E f c := by
  refine ⟨fun b hb l hbl => ?_, hc⟩
  rw [hlp] at hbl
  obtain ⟨h1, h2⟩ := loopsOk_mem hl hn b hb _ hbl
  exact ⟨h1, h2, fun X hX => callee_sound hE 3 _ X hX⟩
theorem loopsGood_mk {E : Env} (hE : EnvOk E) {f : FuncId} {ls : List (Nat × Lk)} (hlp : ∀ k, E.lp f k = look k ls) (hn : (ls.map (·.1)).Nodup) {c : Code} (hl : LoopsOk E f ls (loopsOf c)) (hc : ∀ k, E.ct f k = none) : LoopsGood E f c :=
  loopsGood_mkc hE hlp hn hl (cutsGood_none hc c)

/-- the rests of a body that are summed up -/
def CutsOk (E : Env) (f : FuncId) (c : Code) : List (Nat × Lp) → Prop
  | [] => True
  | (k, l) :: r => (mlen (keyed k (cutsOf c)) = 1 ∧ CutOk E f l (headC (keyed k (cutsOf c)))) ∧ CutsOk E f c r
theorem keyed_mem {k : Nat} {b : Code} : ∀ {l : List Code}, b ∈ l → key b = k → b ∈ keyed k l
  | [], h, _ => by cases h
  | c :: l, h, hk => by
    simp only [keyed]
    rcases List.mem_cons.1 h with rfl | h
    · rw [hk, Nat.beq_refl, cond_true]; exact List.mem_cons_self ..
    · have := keyed_mem h hk
      cases Nat.beq (key c) k with
      | true => rw [cond_true]; exact List.mem_cons_of_mem _ this
      | false => exact this
theorem cutsOk_look {E : Env} {f : FuncId} {c : Code} : ∀ {cts : List (Nat × Lp)}, CutsOk E f c cts → ∀ b ∈ cutsOf c, ∀ l, look (key b) cts = some l → CutOk E f l b
  | [], _, b, _, l, h => by cases h
  | (k, l0) :: r, ⟨⟨h1, h2⟩, h3⟩, b, hb, l, h => by
    simp only [look] at h
    cases hk : Nat.beq k (key b) with
    | true =>
      rw [hk, cond_true, Option.some.injEq] at h
      subst h
      have hkk := Nat.eq_of_beq_eq_true hk
      have hm := keyed_mem hb hkk.symm
      rw [mlen_eq, List.length_eq_one_iff] at h1
      obtain ⟨a, ha⟩ := h1
      rw [ha] at hm h2
      rw [List.mem_singleton] at hm
      subst hm
      exact h2
    | false =>
      rw [hk, cond_false] at h
      exact cutsOk_look h3 b hb l h
theorem cutsGood_mk {E : Env} (hE : EnvOk E) {f : FuncId} {c : Code} {cts : List (Nat × Lp)} (hct : ∀ k, E.ct f k = look k cts) (h : CutsOk E f c cts) : CutsGood E f c := fun b hb l hl => by
  rw [hct] at hl
  exact ⟨cutsOk_look h b hb l hl, fun X hX => callee_sound hE 3 _ X hX, fun X hX => callee_sound hE 3 _ X hX⟩

theorem enterOk_of {P : Program} {f : FuncId} (h : okF P f = true) : EnterOk P f := by
  unfold okF at h
  split at h
  · rename_i fn hfn
    simp only [Bool.and_eq_true, Bool.not_eq_true'] at h
    exact ⟨fn, mget_funcs hfn, h.1, by simpa using h.2⟩
  · cases h

/-- the contract that a run bears out -/
theorem spec_ofc {P : Program} (hm : P.follows .mixedOrders = true) {cs : List (FuncId × Fc)} (hcs : ∀ p ∈ cs, Spec P p.1 p.2) {inl : List Nat} {f : FuncId} {ls : List (Nat × Lk)} {rs : List (Nat × Rf)} {cts : List (Nat × Lp)} {c : Ct} (hok : okF P f = true) (hsh : (c.ash.chV && okM c.ms) = true)
    (hn : (ls.map (·.1)).Nodup) (hl : LoopsOk (mkEc P cs inl f ls rs c.ms.length cts) f ls (loopsOf (bodyOf P f))) (hr : ∀ d ∈ rfsOf (bodyOf P f), ExecOk (mkEc P cs inl f ls rs c.ms.length cts) f none d) (hc : CutsOk (mkEc P cs inl f ls rs c.ms.length cts) f (bodyOf P f) cts)
    (hF : ∀ x r, (c.G x).get = some r → run (mkEc P cs inl f ls rs c.ms.length cts) f c x = some r) (hmay : c.may = false := by rfl) : Spec P f c.fc := by
  have hE : EnvOk (mkEc P cs inl f ls rs c.ms.length cts) := envOk_mkc hm hcs
  simp only [Bool.and_eq_true] at hsh
  refine ⟨enterOk_of hok, ?_, fun X w C g mem args vs x _ _ _ _ hp => by rw [show (c.fc.may && c.fc.pan x) = (c.may && c.pan x) from rfl, hmay] at hp; cases hp⟩
  intro X w C g mem args vs x r bs hrel hG hargs hx hg
  obtain ⟨e1, e2⟩ := both_some hx
  obtain ⟨b, hb, hbr⟩ := Tr.get_map hg
  simp only [Prod.mk.injEq] at hbr
  obtain ⟨rfl, rfl⟩ := hbr
  have hlen := (decM_get e2 hsh.2).1
  have hml : mem.length = c.ms.length := by
    rw [← hlen]
    have : ∀ (l : List BSh) (y : MSh l), (encM l y).length = l.length := by
      intro l
      induction l with
      | nil => intro y; rfl
      | cons s l ih => intro y; simp [encM, ih]
    exact this _ _
  refine (runB_sound hE (loopsGood_mkc hE (fun k => by simp [mkEc]) hn hl (cutsGood_mk hE (fun k => by simp [mkEc]) hc)) hr (hF x b hb) (hrel.form hsh.2 e2) (by rw [hG, ← hrel.len, hml]; rfl) (decVL hsh.1 hargs e1) (fun ks fc hy => by cases hy)).mono ?_
  rintro e w' ⟨zs, C', g', rfl, h1, h2⟩
  exact ⟨_, C', g', rfl, h1, tupV_RV h2⟩

/-- the same, of one that may panic -/
theorem spec_ofp {P : Program} (hm : P.follows .mixedOrders = true) {cs : List (FuncId × Fc)} (hcs : ∀ p ∈ cs, Spec P p.1 p.2) {inl : List Nat} {f : FuncId} {ls : List (Nat × Lk)} {rs : List (Nat × Rf)} {cts : List (Nat × Lp)} {c : Ct} (hok : okF P f = true) (hsh : (c.ash.chV && okM c.ms) = true)
    (hn : (ls.map (·.1)).Nodup) (hl : LoopsOk (mkEc P cs inl f ls rs c.ms.length cts) f ls (loopsOf (bodyOf P f))) (hr : ∀ d ∈ rfsOf (bodyOf P f), ExecOk (mkEc P cs inl f ls rs c.ms.length cts) f none d) (hc : CutsOk (mkEc P cs inl f ls rs c.ms.length cts) f (bodyOf P f) cts)
    (hF : ∀ x r, (c.G x).get = some r → runP (mkEc P cs inl f ls rs c.ms.length cts) f c x = some (.ok r)) (hQ : ∀ x, c.pan x = true → runP (mkEc P cs inl f ls rs c.ms.length cts) f c x = some .pan) : Spec P f c.fc := by
  have hE : EnvOk (mkEc P cs inl f ls rs c.ms.length cts) := envOk_mkc hm hcs
  simp only [Bool.and_eq_true] at hsh
  have hml : ∀ {mem : List Blk} {y : MSh c.ms}, decM c.ms mem = some y → mem.length = c.ms.length := by
    intro mem y e2
    rw [← (decM_get e2 hsh.2).1]
    have : ∀ (l : List BSh) (y : MSh l), (encM l y).length = l.length := by
      intro l
      induction l with
      | nil => intro y; rfl
      | cons s l ih => intro y; simp [encM, ih]
    exact this _ _
  have hlg := loopsGood_mkc hE (fun k => by simp [mkEc]) hn hl (cutsGood_mk hE (fun k => by simp [mkEc]) hc)
  refine ⟨enterOk_of hok, ?_, ?_⟩
  · intro X w C g mem args vs x r bs hrel hG hargs hx hg
    obtain ⟨e1, e2⟩ := both_some hx
    obtain ⟨b, hb, hbr⟩ := Tr.get_map hg
    simp only [Prod.mk.injEq] at hbr
    obtain ⟨rfl, rfl⟩ := hbr
    refine (runQ_sound hE hlg hr (hF x b hb) (hrel.form hsh.2 e2) (by rw [hG, ← hrel.len, hml e2]; rfl) (decVL hsh.1 hargs e1) (fun ks fc hy => by cases hy)).mono ?_
    rintro e w' (⟨r, zs, C', g', hr, rfl, h1, h2⟩ | ⟨hr, _⟩)
    · cases hr
      exact ⟨_, C', g', rfl, h1, tupV_RV h2⟩
    · cases hr
  · intro X w C g mem args vs x hrel hG hargs hx hp
    obtain ⟨e1, e2⟩ := both_some hx
    rw [Bool.and_eq_true] at hp
    refine (runQ_sound hE hlg hr (hQ x hp.2) (hrel.form hsh.2 e2) (by rw [hG, ← hrel.len, hml e2]; rfl) (decVL hsh.1 hargs e1) (fun ks fc hy => by cases hy)).mono ?_
    rintro e w' (⟨r, zs, C', g', hr, _⟩ | ⟨_, h⟩)
    · cases hr
    · exact h

theorem spec_of {P : Program} (hm : P.follows .mixedOrders = true) {cs : List (FuncId × Fc)} (hcs : ∀ p ∈ cs, Spec P p.1 p.2) {inl : List Nat} {f : FuncId} {ls : List (Nat × Lk)} {rs : List (Nat × Rf)} {c : Ct} (hok : okF P f = true) (hsh : (c.ash.chV && okM c.ms) = true)
    (hn : (ls.map (·.1)).Nodup) (hl : LoopsOk (mkE P cs inl f ls rs c.ms.length) f ls (loopsOf (bodyOf P f))) (hr : ∀ d ∈ rfsOf (bodyOf P f), ExecOk (mkE P cs inl f ls rs c.ms.length) f none d)
    (hF : ∀ x r, (c.G x).get = some r → run (mkE P cs inl f ls rs c.ms.length) f c x = some r) (hmay : c.may = false := by rfl) : Spec P f c.fc :=
  spec_ofc (cts := []) hm hcs hok hsh hn hl hr trivial hF hmay

end
end Am
end Go.Proofs.Ytkjpoongkdapoaa
