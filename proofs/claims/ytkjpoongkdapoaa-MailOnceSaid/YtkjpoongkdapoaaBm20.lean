/-
  A symbolic machine over the model, part 20: functions.
-/
import Derived.Test.YtkjpoongkdapoaaBm19
import Derived.RangeFuncLeaves
namespace Go.Proofs.Ytkjpoongkdapoaa
namespace Am
open Go Go.RowKit
set_option linter.unusedVariables false
set_option linter.unusedSimpArgs false

section
variable {X : Ctx} {w0 w : World} {C0 C : Mem} {fs : List (List Value)} {g : Ghs} {st : St} {a : Act}

def noCells : Obj → Prop
  | .cells .. => False
  | .map .. => False
  | _ => True
theorem live_cells {m : Blk} {h : Gh} {k : Nat} (hr : BlkRel X C g w m h) (hl : liveOf m h = some k) : ∃ o, w.heap[k]? = some o ∧ ¬ noCells o := by
  cases hr with
  | box h1 h2 h3 h4 => simp [liveOf] at hl; subst hl; exact ⟨_, h2, fun h => h⟩
  | arr h0 h1 h2 h3 h4 h5 => simp [liveOf] at hl; subst hl; exact ⟨_, h1, fun h => h⟩
  | mp h0 h1 h2 _ => simp [liveOf] at hl; subst hl; exact ⟨_, h1, fun h => h⟩
  | own h0 h1 h2 h3 =>
    rename_i e sz n xs k2 cap
    simp only [liveOf, Value.ownBlock, Option.some.injEq] at hl
    subst hl
    obtain ⟨_, h5⟩ := h1
    rcases h5 with ⟨hbad, _⟩ | ⟨k', cap', cur, hv, _, hh, _⟩
    · cases hbad
    · simp only [Value.slice.injEq, Option.some.injEq, Addr.mk.injEq] at hv
      exact ⟨.cells cur e (0, 0), by rw [hv.1.1]; exact hh, fun h => h⟩
  | _ => simp [liveOf] at hl

/-- a block of the model's own is turned -/
theorem Rel.putObj {mem : List Blk} (h : Rel X w0 C0 C g mem w) {l : Nat} {o : Obj} (o' : Obj) (hl : w.heap[l]? = some o) (hc : ∀ a : Addr, a.block = l → w.cell? a = none) (ho : noCells o) (hS : ¬ X.S l) : Rel X w0 C0 C g mem (w.putObj l o') := by
  have hg : w.grownBy (w.putObj l o') (some l) := ⟨rfl, rfl, rfl, by simp, fun k _ hk => World.putObj_heap_other (fun e => hk (by rw [e]))⟩
  refine ⟨h.below.trans (.grown hg (fun k hk => h.lt hk) fun k hk => by cases hk; exact hS), h.low, fun a v e => ?_, h.base, h.old, h.len, h.keep, ?_, h.sep⟩
  · have h1 := h.sub a v e
    have hne : a.block ≠ l := fun he => by rw [hc a he] at h1; cases h1
    rw [World.cell?_of_block (w := w) (World.putObj_heap_other hne)]
    exact h1
  · intro b m x hm hx
    have hr := h.blk b m x hm hx
    refine hr.grown hg fun k hk e => ?_
    obtain ⟨o2, hh, hno⟩ := live_cells hr hk
    simp only [Option.some.injEq] at e
    subst e
    rw [hl] at hh
    cases hh
    exact hno ho

theorem cell_none {l : Nat} {o : Obj} (hl : w.heap[l]? = some o) (ho : (∃ r, o = .loop r) ∨ ∃ d, o = .deferred d) : (∀ a : Addr, a.block = l → w.cell? a = none) ∧ noCells o := by
  rcases ho with ⟨r, rfl⟩ | ⟨d, rfl⟩
  · refine ⟨fun a ha => ?_, trivial⟩
    subst ha
    simp [World.cell?, hl]
  · refine ⟨fun a ha => ?_, trivial⟩
    subst ha
    simp [World.cell?, hl]

/-- what a result variable holds -/
def resVal (tmps : Array Value) : ResultVar → Sem Value
  | .tmp t => pure (tmps.getD t undef)
  | .cell a t => do loadVar t (← asAddr (tmps.getD a undef))

def tupV : List Value → Value
  | [v] => v
  | vs => .tuple vs.toArray

theorem results_list {P : Program} {fn : Func} {tmps : Array Value} {vs : List Value} {w : World} (h : (fn.results.toList.mapM (resVal tmps)).run P w = .ok vs w) :
    (results fn tmps).run P w = .ok (tupV vs) w := by
  have e : results fn tmps = (fn.results.mapM (resVal tmps)) >>= fun vs => pure (if h : vs.size = 1 then vs[0] else .tuple vs) := rfl
  rw [e, Array.mapM_eq_mapM_toList]
  simp only [Sem.run_bind, map_eq_pure_bind, bind_assoc, pure_bind]
  rw [h]
  simp only [Result.andThen_ok, Sem.run_pure]
  match vs with
  | [] => rfl
  | [v] => rfl
  | v :: u :: r => simp [tupV]

theorem tmp_getD {t : Nat} {v : AV} (h : RVL C g st.tmps a.tmps.toList) (e : mget st.tmps t = some v) : RV C g v (a.tmps.getD t undef) := by
  obtain ⟨x, hx, hr⟩ := RVL_at h e
  have : a.tmps.getD t undef = x := by
    simp only [Array.getElem?_toList] at hx
    simp [hx]
  rw [this]; exact hr

theorem resAV_run {E : Env} {fn : Func} (h : SR X w0 C0 fs C g st a w) : ∀ (l : List ResultVar) (vs : List AV), resAV E fn st l = some vs → ∃ xs, (l.mapM (resVal a.tmps)).run E.P w = .ok xs w ∧ RVL C g vs xs
  | [], vs, e => by
    simp only [resAV, Option.some.injEq] at e
    subst e
    exact ⟨[], by simp, .nil⟩
  | .tmp t :: r, vs, e => by
    simp only [resAV] at e
    split at e
    · rename_i v vs' hv hvs
      simp only [Option.some.injEq] at e
      subst e
      obtain ⟨xs, hx, hr⟩ := resAV_run h r vs' hvs
      exact ⟨_, by simp [resVal, hx], .cons (tmp_getD h.tm hv) hr⟩
    · cases e
  | .cell b t :: r, vs, e => by
    simp only [resAV] at e
    split at e
    · rename_i bl off vs' hv hvs
      obtain ⟨ht, e⟩ := cond_some e
      simp only [Option.map_eq_some_iff] at e
      obtain ⟨u, hu, rfl⟩ := e
      obtain ⟨xs, hx, hr⟩ := resAV_run h r vs' hvs
      obtain ⟨k, hk, hval⟩ := RV_loc (tmp_getD h.tm hv)
      obtain ⟨mid, hm, hl, hc, hcell⟩ := box_of h.rel hu hk
      obtain ⟨z, hz, hrun⟩ := loadVar_run (P := E.P) ht hm hc hl
      have := hrun ⟨k, off, none⟩ w (fun j v hj => by rw [Addr.add_lit]; exact hcell w (Below.refl _ _) j v hj)
      exact ⟨_, by simp [resVal, hval, asAddr, this, hx], .cons hz hr⟩
    · cases e

/-- a function is left: marks are taken off, its results are what they are -/
theorem leaves_ok {E : Env} {fn : Func} {vs : List AV} (hv : resAV E fn st fn.results.toList = some vs) {tmps : Array Value} {R : Ending → World → Prop}
    (hR : ∀ w' zs, SR X w0 C0 fs C g st { tmps := tmps, defers := X.ds } w' → RVL C g vs zs → R (.returned (tupV zs)) w') :
    ∀ (Ds : List Nat) (w : World), Ds.Nodup → (∀ D ∈ Ds, ¬ X.S D ∧ w.heap[D]? = some (.deferred (some []))) → SR X w0 C0 fs C g st { tmps := tmps, defers := X.ds } w →
      LeavesInM (FW none) 0 E.P fn tmps R (Ds.map mark) .returning w
  | [], w, _, _, h => by
    obtain ⟨xs, hx, hr⟩ := resAV_run h _ _ hv
    exact ⟨_, results_list hx, hR w xs h hr⟩
  | D :: Ds, w, hn, hD, h => by
    obtain ⟨h1, h2⟩ := hD D (by simp)
    obtain ⟨hn1, hn2⟩ := List.nodup_cons.1 hn
    obtain ⟨hc, hno⟩ := cell_none h2 (.inr ⟨_, rfl⟩)
    refine ⟨by simp, .inl ⟨D, _, rfl, run_takeDeferred h2, leaves_ok hv hR Ds _ hn2 (fun D' hD' => ?_) ⟨h.rel.putObj _ h2 hc hno h1, h.tm, h.out, h.df⟩⟩⟩
    have hne : D' ≠ D := by rintro rfl; exact hn1 hD'
    obtain ⟨h3, h4⟩ := hD D' (by simp [hD'])
    exact ⟨h3, by rw [World.putObj_heap_other hne]; exact h4⟩

theorem SR.back {X' : Ctx} {w0' : World} {C0' : Mem} (h : SR X' w0' C0' fs C g st a w) (k : Ext X w0 C0 X' w0' C0') : SR X w0 C0 fs C g st { tmps := a.tmps, defers := X.ds } w :=
  ⟨h.rel.back k, h.tm, h.out, rfl⟩

/-- the same from a later beginning -/
theorem leaves_ext {E : Env} {fn : Func} {X' : Ctx} {w0' : World} {C0' : Mem} {vs : List AV} (h : SR X' w0' C0' fs C g st a w) (k : Ext X w0 C0 X' w0' C0') (hds : X.ds = []) (hv : resAV E fn st fn.results.toList = some vs) {R : Ending → World → Prop}
    (hR : ∀ w' zs, SR X w0 C0 fs C g st { tmps := a.tmps, defers := X.ds } w' → RVL C g vs zs → R (.returned (tupV zs)) w') : LeavesInM (FW none) 0 E.P fn a.tmps R a.defers .returning w := by
  obtain ⟨Ds, h1, h2, h3⟩ := k.ds
  have hd := h.df
  rw [h1, hds, List.append_nil] at hd
  rw [hd]
  exact leaves_ok hv hR Ds w h2 (fun D hD => ⟨(h3 D hD).2.1, (h.rel.below.block D (h3 D hD).1).trans (h3 D hD).2.2⟩) (h.back k)

theorem Sane.putObj (hlow : ∀ k, X.S k → k < w0.heap.size) (h : Sane X w0 C0 w) {l : Nat} {o : Obj} (o' : Obj) (hl : w.heap[l]? = some o) (hc : ∀ a : Addr, a.block = l → w.cell? a = none) (hS : ¬ X.S l) : Sane X w0 C0 (w.putObj l o') := by
  have hg : w.grownBy (w.putObj l o') (some l) := ⟨rfl, rfl, rfl, by simp, fun k _ hk => World.putObj_heap_other (fun e => hk (by rw [e]))⟩
  obtain ⟨h1, C', h2, h3, h4⟩ := h
  refine ⟨h1.trans (.grown hg (fun k hk => Nat.lt_of_lt_of_le (hlow k hk) h1.size) fun k hk => by cases hk; exact hS), C', h2, fun a v e => ?_, h4⟩
  have h5 := h3 a v e
  have hne : a.block ≠ l := fun he => by rw [hc a he] at h5; cases h5
  rw [World.cell?_of_block (w := w) (World.putObj_heap_other hne)]
  exact h5
/-- a function is left by a panic: marks are taken off -/
theorem leaves_pan {P : Program} {fn : Func} {tmps : Array Value} {R : Ending → World → Prop} {v : Value} (hlow : ∀ k, X.S k → k < w0.heap.size) (hR : ∀ w', Sane X w0 C0 w' → R (.panicked [{ v, recovered := false }]) w') :
    ∀ (Ds : List Nat) (w : World), Ds.Nodup → (∀ D ∈ Ds, ¬ X.S D ∧ w.heap[D]? = some (.deferred (some []))) → Sane X w0 C0 w → LeavesInM (FW none) 0 P fn tmps R (Ds.map mark) (.panicking [{ v, recovered := false }]) w
  | [], w, _, _, h => hR w h
  | D :: Ds, w, hn, hD, h => by
    obtain ⟨h1, h2⟩ := hD D (by simp)
    obtain ⟨hn1, hn2⟩ := List.nodup_cons.1 hn
    obtain ⟨hc, hno⟩ := cell_none h2 (.inr ⟨_, rfl⟩)
    refine ⟨by simp, .inl ⟨D, _, rfl, run_takeDeferred h2, leaves_pan hlow hR Ds _ hn2 (fun D' hD' => ?_) (h.putObj hlow _ h2 hc h1)⟩⟩
    have hne : D' ≠ D := by rintro rfl; exact hn1 hD'
    obtain ⟨h3, h4⟩ := hD D' (by simp [hD'])
    exact ⟨h3, by rw [World.putObj_heap_other hne]; exact h4⟩
theorem Sane.back {X' : Ctx} {w0' : World} {C0' : Mem} (h : Sane X' w0' C0' w) (k : Ext X w0 C0 X' w0' C0') : Sane X w0 C0 w := by
  obtain ⟨h1, C', h2, h3, h4⟩ := h
  exact ⟨k.keeps.trans (h1.mono k.S), C', Mem.le_trans k.base h2, h3, fun a ha => (h4 a (k.S _ ha)).trans (k.old a ha)⟩
theorem leaves_panx {P : Program} {fn : Func} {X' : Ctx} {w0' : World} {C0' : Mem} {v : Value} (h : Sane X' w0' C0' w) (hd : a.defers = X'.ds) (k : Ext X w0 C0 X' w0' C0') (hds : X.ds = []) {R : Ending → World → Prop}
    (hR : ∀ w', Sane X w0 C0 w' → R (.panicked [{ v, recovered := false }]) w') : LeavesInM (FW none) 0 P fn a.tmps R a.defers (.panicking [{ v, recovered := false }]) w := by
  obtain ⟨Ds, h1, h2, h3⟩ := k.ds
  rw [h1, hds, List.append_nil] at hd
  rw [hd]
  exact leaves_pan k.low hR Ds w h2 (fun D hD => ⟨(h3 D hD).2.1, (h.1.block D (h3 D hD).1).trans (h3 D hD).2.2⟩) (h.back k)

theorem enter_tmps {args : List AV} {vs : List Value} {n : Nat} (h : RVL C g args vs) : RVL C g (mapp args (mrep (n - mlen args) .any)) (vs.toArray ++ Array.replicate (n - vs.toArray.size) undef).toList := by
  rw [mapp_eq, mrep_eq, mlen_eq, RVL.length h]
  simp only [Array.toList_append, Array.toList_replicate, List.size_toArray]
  refine h.append ?_
  have := RVL.anys (C := C) (g := g) (List.replicate (n - vs.length) undef)
  simpa using this

theorem mget_funcs {P : Program} {f : FuncId} {fn : Func} (h : mget P.funcs.toList f = some fn) : P.funcs[f]? = some fn := by
  rw [mget_eq] at h; simpa using h

theorem tupV_RV {vs : List AV} {zs : List Value} (h : RVL C g vs zs) : RV C g (resOf vs) (tupV zs) := by
  cases h with
  | nil => exact .tup .nil
  | cons h1 h2 =>
    cases h2 with
    | nil => exact h1
    | cons h2 h3 => exact .tup (.cons h1 (.cons h2 h3))

theorem resultAV_spec {E : Env} {fn : Func} {v : AV} (h : resultAV E fn st = some v) : ∃ vs, resAV E fn st fn.results.toList = some vs ∧ v = resOf vs := by
  unfold resultAV at h
  split at h
  · rename_i u hu
    simp only [Option.some.injEq] at h
    subst h
    exact ⟨_, hu, rfl⟩
  · rename_i vs hne hvs
    simp only [Option.some.injEq] at h
    subst h
    refine ⟨_, hvs, ?_⟩
    match vs, hne with
    | [], _ => rfl
    | [u], hne => exact absurd rfl (hne u)
    | u :: u' :: l, _ => rfl
  · cases h

theorem EnvOk.quiet {E : Env} (hE : EnvOk E) : EnvOk { E with yld := none } := ⟨hE.hm, hE.con, hE.inl, hE.inr, hE.inc⟩

theorem rf_none {E : Env} {f : FuncId} {ro : Option Nat} (h : ∀ k, E.rf f k = none) : ∀ (c : Code), ∀ d ∈ rfsOf c, ExecOk E f ro d := by
  intro c
  induction c with
  | seq x y ihx ihy =>
    intro d hd
    simp only [rfsOf, mapp_eq, List.mem_append] at hd
    exact hd.elim (ihx d) (ihy d)
  | cond c x y ihx ihy =>
    intro d hd
    simp only [rfsOf, mapp_eq, List.mem_append] at hd
    exact hd.elim (ihx d) (ihy d)
  | block id b ih => exact ih
  | loop b ih => exact ih
  | rangeFunc g ps x y _ _ =>
    intro d hd
    simp only [rfsOf, List.mem_singleton] at hd
    subst hd
    intro X w0 C0 fs ρ _ call K r Q hnf hcall hY hP hQ st a w h' e
    simp [exec, h] at e
  | _ => intro d hd; simp [rfsOf] at hd

theorem callee_sound {E : Env} (hE : EnvOk E) : ∀ (n : Nat) (ρ : Type) [Pan ρ] (X : Ctx), X.G.length = E.nf → CallOk E X (callee E n (ρ := ρ))
  | 0, ρ, _, X, _ => by
    intro f args st K r w0 C0 fs C g tl vs w _ _ _ _ e
    simp [callee] at e
  | n + 1, ρ, _, X, hnf => by
    intro f args st K r w0 C0 fs C g tl vs w hrel htm hout hargs e
    simp only [callee] at e
    have hsr : SR X w0 C0 fs C g st { tmps := tl.toArray, defers := X.ds } w := ⟨hrel, htm, hout, rfl⟩
    split at e
    · rename_i fc l hF
      obtain ⟨h1, h2⟩ := conCall_sound (fc :: l) (fun q hq => hE.con f q (by rw [hF]; exact hq)) hsr hargs e
      exact ⟨h1, h2⟩
    · obtain ⟨hi, e⟩ := cond_some e
      split at e
      · rename_i fn hfn
        have hfn := mget_funcs hfn
        cases hname : fn.name == "runtime.NumGoroutine" with
        | true => simp [hname] at e
        | false =>
          simp only [hname, cond_false] at e
          split at e
          · rename_i c hbody
            refine ⟨⟨fn, hfn, hname, by simp [hbody]⟩, callsFW' (n := 0) (callsIn_of_wp_marks hfn hbody trivial ?_ rfl)⟩
            have hex : ExecOk { E with yld := none } f none c := exec_sound hE.quiet c ⟨fun b _ l hl => (by rw [show ({ E with yld := none } : Env).lp f (key b) = E.lp f (key b) from rfl, hE.inl f _ hi] at hl; cases hl), cutsGood_none (E := { E with yld := none }) (fun k => hE.inc f k hi) c⟩
              (rf_none (E := { E with yld := none }) (fun k => hE.inr f k hi) c)
            have hX : ({ X with ds := [] } : Ctx).G.length = ({ E with yld := none } : Env).nf := hnf
            have hrel0 : Rel { X with ds := [] } w0 C0 C g st.mem w := ⟨hrel.below, hrel.low, hrel.sub, hrel.base, hrel.old, hrel.len, hrel.keep, fun b m x hm hx => by
              cases hrel.blk b m x hm hx with
              | box h1 h2 h3 h4 => exact .box h1 h2 h3 h4
              | fro h1 h2 => exact .fro h1 h2
              | own h0 h1 h2 h3 => exact .own h0 h1 h2 h3
              | clip => exact .clip
              | loop hl => exact .loop hl
              | arr h0 h1 h2 h3 h4 h5 => exact .arr h0 h1 h2 h3 h4 h5
              | arr0 => exact .arr0
              | mp h0 h1 h2 h3 => exact .mp h0 h1 h2 h3
              | dead => exact .dead, hrel.sep⟩
            refine hex { X with ds := [] } w0 C0 (tl :: fs) ρ (callee E n) _ r _ hX (fun X' hX' => callee_sound hE n ρ X' hX') (fun ks fc hy => by cases hy)
              (fun X' w0' C0' hx hp a' v w' hd hb hs => leaves_panx hs hd hx rfl fun w2 hs2 => .inr ⟨v, rfl, hb, hs2, hp⟩) ?_
              { tmps := mapp args (mrep (fn.ntmps - mlen args) .any), outer := st.tmps :: st.outer, mem := st.mem } _ _ ⟨C, g, hrel0, enter_tmps hargs, .cons htm hout, rfl⟩ e
            intro X' w0' C0' hx e' st' a' w' ⟨C', g', h'⟩ ek
            have key : (match resultAV E fn st', st'.outer with
                | some v, t :: o => K v { tmps := t, outer := o, mem := st'.mem }
                | _, _ => none) = some r → LeavesInM (FW none) 0 E.P fn a'.tmps (fun e w' => (∃ (v : Value) (av : AV) (st' : St) (C' : Mem) (g' : Ghs), e = .returned v ∧ Rel X w0 C0 C' g' st'.mem w' ∧ RVL C' g' st'.tmps tl ∧ OutR C' g' st'.outer fs ∧ RV C' g' av v ∧ K av st' = some r) ∨ (∃ v : Value, e = .panicked [{ v, recovered := false }] ∧ BadV v ∧ Sane X w0 C0 w' ∧ Pan.pan = some r)) a'.defers .returning w' := by
              intro ek
              split at ek
              · rename_i v t o hv ho
                obtain ⟨vs', hvs, rfl⟩ := resultAV_spec hv
                refine leaves_ext h' hx rfl hvs fun w2 zs h2 hz => ?_
                have hout' := h2.out
                rw [ho] at hout'
                cases hout' with
                | cons i1 i2 =>
                  refine .inl ⟨_, _, { tmps := t, outer := o, mem := st'.mem }, C', g', rfl, ?_, i1, i2, tupV_RV hz, ek⟩
                  have h3 := h2.rel
                  exact ⟨h3.below, h3.low, h3.sub, h3.base, h3.old, h3.len, h3.keep, fun b m x hm hx => by
                    cases h3.blk b m x hm hx with
                    | box h1 h2 h3 h4 => exact .box h1 h2 h3 h4
                    | fro h1 h2 => exact .fro h1 h2
                    | own h0 h1 h2 h3 => exact .own h0 h1 h2 h3
                    | clip => exact .clip
                    | loop hl => exact .loop hl
                    | arr h0 h1 h2 h3 h4 h5 => exact .arr h0 h1 h2 h3 h4 h5
                    | arr0 => exact .arr0
                    | mp h0 h1 h2 h3 => exact .mp h0 h1 h2 h3
                    | dead => exact .dead, h3.sep⟩
              · cases ek
            cases e' with
            | normal => exact key ek
            | ret => exact key ek
            | exit i => cases ek
          · cases e
      · cases e

end
end Am
end Go.Proofs.Ytkjpoongkdapoaa
