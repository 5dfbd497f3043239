/-
  A symbolic machine over the model, part 17: calls; a function's whole run.
-/
import Derived.Test.YtkidcbialbffgaaAm16
namespace Go.Proofs.Ytkidcbialbffgaa
namespace Am
open Go Go.RowKit

section
variable {w0 w : World} {C0 C : Mem} {fs : List (List Value)} {g : Ghs} {st : St} {a : Act}

theorem shift_get {g1 g : Ghs} {n b : Nat} {x : Gh} (hn : g1.length = n) (h : g[b]? = some x) : (g1 ++ g)[b + n]? = some x := by
  rw [List.getElem?_append_right (by omega)]
  have : b + n - g1.length = b := by omega
  rw [this]; exact h
theorem shift_box {g1 g : Ghs} {n b k : Nat} (hn : g1.length = n) (h : Ghs.box g b = some k) : Ghs.box (g1 ++ g) (b + n) = some k := by
  unfold Ghs.box at *
  rw [List.getElem?_append_right (by omega)]
  have : b + n - g1.length = b := by omega
  rw [this]; exact h

mutual
theorem RC.shift {C : Mem} {g g1 : Ghs} {n : Nat} (hn : g1.length = n) : ∀ {v : AV} {cs : List Value}, RC C g v cs → RC C (g1 ++ g) (v.shift n) cs
  | _, _, .int k m => .int k m
  | _, _, .u8 b => .u8 b
  | _, _, .bool b => .bool b
  | _, _, .str b => .str b
  | _, _, .id a => .id a
  | _, _, .agg h => by
    simp only [AV.shift]
    exact .agg (RCL.shift hn h)
  | _, _, .sl hl h => by
    simp only [AV.shift]
    exact .sl hl h
  | _, _, .own hl h hg => by
    simp only [AV.shift]
    exact .own hl h (shift_get hn hg)
  | _, _, .nilsl => .nilsl
  | _, _, .loc h => by
    simp only [AV.shift]
    exact .loc (shift_box hn h)
  | _, _, .loci hi h => by
    simp only [AV.shift]
    exact .loci hi (shift_box hn h)
  | _, _, .idsl h => by
    simp only [AV.shift]
    exact .idsl (shift_box hn h)
  | _, _, .cptr h ha => by
    simp only [AV.shift]
    exact .cptr (RC.shift hn h) ha
  | _, _, .fn h1 h2 => by
    simp only [AV.shift]
    exact .fn (RVL.shift hn h1) (RVL.shift hn h2)
  | _, _, .nilfn => .nilfn
theorem RCL.shift {C : Mem} {g g1 : Ghs} {n : Nat} (hn : g1.length = n) : ∀ {v : List AV} {cs : List Value}, RCL C g v cs → RCL C (g1 ++ g) (AV.shiftL n v) cs
  | _, _, .nil => .nil
  | _, _, .cons h t => by
    simp only [AV.shiftL]
    exact .cons (RC.shift hn h) (RCL.shift hn t)
theorem RV.shift {C : Mem} {g g1 : Ghs} {n : Nat} (hn : g1.length = n) : ∀ {v : AV} {x : Value}, RV C g v x → RV C (g1 ++ g) (v.shift n) x
  | _, _, .any v => .any v
  | _, _, .raw hm hg => by
    simp only [AV.shift]
    exact .raw hm (shift_get hn hg)
  | _, _, .id h => by
    have := RC.shift hn h
    simp only [AV.shift] at this ⊢
    exact .id this
  | _, _, .agg h => by
    have := RC.shift hn h
    simp only [AV.shift] at this ⊢
    exact .agg this
  | _, _, .tup h => by
    simp only [AV.shift]
    exact .tup (RVL.shift hn h)
  | v, _, .one h h1 h2 => by
    refine .one (RC.shift hn h) (fun x hx => ?_) (fun x hx => ?_)
    · cases v with
      | sl t xs o => cases o <;> simp [AV.shift] at hx
      | id b => exact h1 b rfl
      | _ => simp [AV.shift] at hx
    · cases v with
      | sl t xs o => cases o <;> simp [AV.shift] at hx
      | agg b => exact h2 b rfl
      | _ => simp [AV.shift] at hx
theorem RVL.shift {C : Mem} {g g1 : Ghs} {n : Nat} (hn : g1.length = n) : ∀ {v : List AV} {x : List Value}, RVL C g v x → RVL C (g1 ++ g) (AV.shiftL n v) x
  | _, _, .nil => .nil
  | _, _, .cons h t => by
    simp only [AV.shiftL]
    exact .cons (RV.shift hn h) (RVL.shift hn t)
end

theorem allRows_get : ∀ {l : List Blk}, allRows l = true → ∀ (b : Nat) (m : Blk), l[b]? = some m → ∃ e sz, m = .row e sz
  | [], _, b, m, h => by simp at h
  | .row e sz :: l, hr, 0, m, h => by simp at h; exact ⟨e, sz, h.symm⟩
  | .row e sz :: l, hr, b + 1, m, h => allRows_get (l := l) (by simpa [allRows] using hr) b m (by simpa using h)
  | .box _ :: l, hr, _, _, _ => by simp [allRows] at hr
  | .fro _ :: l, hr, _, _, _ => by simp [allRows] at hr
  | .dead :: l, hr, _, _, _ => by simp [allRows] at hr

theorem BlkRel.row_lower {w0 w w' : World} {C : Mem} {g g' : Ghs} {e : TypeId} {sz : Nat} {x : Gh} (h : BlkRel w C g w' (.row e sz) x) (hs : w0.heap.size ≤ w.heap.size) : BlkRel w0 C g' w' (.row e sz) x := by
  cases h with
  | own ho hx hC =>
    refine .own ⟨ho.1, ?_⟩ hx hC
    rcases ho.2 with h | ⟨k, cap, cur, h1, h2, h3⟩
    · exact .inl h
    · exact .inr ⟨k, cap, cur, h1, by omega, h3⟩
  | clip => exact .clip

theorem get_app {α : Type} {k l : List α} {b : Nat} {x : α} (h : (k ++ l)[b]? = some x) : (b < k.length ∧ k[b]? = some x) ∨ (k.length ≤ b ∧ l[b - k.length]? = some x) := by
  rcases Nat.lt_or_ge b k.length with hb | hb
  · rw [List.getElem?_append_left hb] at h; exact .inl ⟨hb, h⟩
  · rw [List.getElem?_append_right hb] at h; exact .inr ⟨hb, h⟩

theorem Rel.join {w' : World} {C' : Mem} {g' : Ghs} {mem rows : List Blk} (h : Rel w0 C0 C g mem w) (h2 : Rel w C C' g' rows w') (hr : allRows rows = true) : Rel w0 C0 C' (g ++ g') (mem ++ rows) w' := by
  have hsz := h.below.size
  have hlow : ∀ (b : Nat) (m : Blk) (x : Gh), rows[b]? = some m → g'[b]? = some x → BlkRel w0 C' (g ++ g') w' m x := by
    intro b m x hm hx
    obtain ⟨e, sz, rfl⟩ := allRows_get hr b m hm
    exact (h2.blk b _ x hm hx).row_lower hsz
  refine ⟨h.below.trans (h2.below.mono hsz), h2.sub, Mem.le_trans h.base h2.base, fun a ha => by rw [h2.old a (by omega), h.old a ha], by simp [h.len, h2.len], ?_, ?_⟩
  · intro b m x hm hx
    rcases get_app hm with ⟨hb, hm⟩ | ⟨hb, hm⟩
    · rw [List.getElem?_append_left (by rw [← h.len]; exact hb)] at hx
      have := h.blk b m x hm hx
      refine (this.mono h2.base (Ghs.le_append _ _) (fun k hk o s => h2.old _ (live_lt this hk).2)).ext h2.below
    · rw [List.getElem?_append_right (by rw [← h.len]; exact hb), ← h.len] at hx
      exact hlow _ m x hm hx
  · intro b b' m m' x x' k h1 h1' h3 h3' h5 h6
    rcases get_app h1 with ⟨hb, hm⟩ | ⟨hb, hm⟩ <;> rcases get_app h3 with ⟨hb', hm'⟩ | ⟨hb', hm'⟩
    · rw [List.getElem?_append_left (by rw [← h.len]; exact hb)] at h1'
      rw [List.getElem?_append_left (by rw [← h.len]; exact hb')] at h3'
      exact h.sep b b' m m' x x' k hm h1' hm' h3' h5 h6
    · rw [List.getElem?_append_left (by rw [← h.len]; exact hb)] at h1'
      rw [List.getElem?_append_right (by rw [← h.len]; exact hb'), ← h.len] at h3'
      have e1 := (live_lt (h.blk b m x hm h1') h5).2
      have e2 := (live_lt (h2.blk _ m' x' hm' h3') h6).1
      omega
    · rw [List.getElem?_append_right (by rw [← h.len]; exact hb), ← h.len] at h1'
      rw [List.getElem?_append_left (by rw [← h.len]; exact hb')] at h3'
      have e1 := (live_lt (h.blk b' m' x' hm' h3') h6).2
      have e2 := (live_lt (h2.blk _ m x hm h1') h5).1
      omega
    · rw [List.getElem?_append_right (by rw [← h.len]; exact hb), ← h.len] at h1'
      rw [List.getElem?_append_right (by rw [← h.len]; exact hb'), ← h.len] at h3'
      have := h2.sep _ _ m m' x x' k hm h1' hm' h3' h5 h6
      omega

/-- what a result variable holds -/
def resVal (tmps : Array Value) : ResultVar → Sem Value
  | .tmp t => pure (tmps.getD t undef)
  | .cell a t => do loadVar t (← asAddr (tmps.getD a undef))

def tupV : List Value → Value
  | [v] => v
  | vs => .tuple vs.toArray

theorem results_list {P : Program} {fn : Func} {tmps : Array Value} {vs : List Value} {w : World} (h : (fn.results.toList.mapM (resVal tmps)).run P w = .ok vs w) :
    (results fn tmps).run P w = .ok (tupV vs) w := by
  have e : results fn tmps = (fn.results.mapM (resVal tmps)) >>= fun vs => pure (if h : vs.size = 1 then vs[0] else .tuple vs) := rfl
  rw [e, Array.mapM_eq_mapM_toList]
  simp only [Sem.run_bind, map_eq_pure_bind, bind_assoc, pure_bind]
  rw [h]
  simp only [Result.andThen_ok, Sem.run_pure]
  match vs with
  | [] => rfl
  | [v] => rfl
  | v :: u :: r => simp [tupV]

theorem tmp_getD {t : Nat} {v : AV} (h : RVL C g st.tmps a.tmps.toList) (e : mget st.tmps t = some v) : RV C g v (a.tmps.getD t undef) := by
  obtain ⟨x, hx, hr⟩ := RVL_at h e
  have : a.tmps.getD t undef = x := by
    simp only [Array.getElem?_toList] at hx
    simp [hx]
  rw [this]; exact hr

theorem resAV_run {E : Env} {fn : Func} (h : SR w0 C0 fs C g st a w) : ∀ (l : List ResultVar) (vs : List AV), resAV E fn st l = some vs → ∃ xs, (l.mapM (resVal a.tmps)).run E.P w = .ok xs w ∧ RVL C g vs xs
  | [], vs, e => by
    simp only [resAV, Option.some.injEq] at e
    subst e
    exact ⟨[], by simp, .nil⟩
  | .tmp t :: r, vs, e => by
    simp only [resAV] at e
    split at e
    · rename_i v vs' hv hvs
      simp only [Option.some.injEq] at e
      subst e
      obtain ⟨xs, hx, hr⟩ := resAV_run h r vs' hvs
      exact ⟨_, by simp [resVal, hx], .cons (tmp_getD h.tm hv) hr⟩
    · cases e
  | .cell b t :: r, vs, e => by
    simp only [resAV] at e
    split at e
    · rename_i bl off vs' hv hvs
      obtain ⟨ht, e⟩ := cond_some e
      simp only [Option.map_eq_some_iff] at e
      obtain ⟨u, hu, rfl⟩ := e
      obtain ⟨xs, hx, hr⟩ := resAV_run h r vs' hvs
      obtain ⟨k, hk, hval⟩ := RV_loc (tmp_getD h.tm hv)
      obtain ⟨mid, hm, hl, hc, hcell⟩ := box_of h.rel hu hk
      obtain ⟨z, hz, hrun⟩ := loadVar_run (P := E.P) ht hm hc hl
      have := hrun ⟨k, off, none⟩ w (fun j v hj => by rw [Addr.add_lit]; exact hcell w (Below.refl _ _) j v hj)
      exact ⟨_, by simp [resVal, hval, asAddr, this, hx], .cons hz hr⟩
    · cases e

theorem resultAV_run {E : Env} {fn : Func} (h : SR w0 C0 fs C g st a w) {v : AV} (e : resultAV E fn st = some v) : ∃ x, (results fn a.tmps).run E.P w = .ok x w ∧ RV C g v x := by
  unfold resultAV at e
  split at e
  · rename_i u hu
    simp only [Option.some.injEq] at e
    subst e
    obtain ⟨xs, hx, hr⟩ := resAV_run h _ _ hu
    cases hr with
    | cons h1 h2 =>
      cases h2
      exact ⟨_, results_list hx, h1⟩
  · rename_i vs hne hvs
    simp only [Option.some.injEq] at e
    subst e
    obtain ⟨xs, hx, hr⟩ := resAV_run h _ _ hvs
    refine ⟨_, results_list hx, ?_⟩
    cases hr with
    | nil => exact .tup .nil
    | cons h1 h2 =>
      cases h2 with
      | nil => exact absurd rfl (hne _)
      | cons h2 h3 => exact .tup (.cons h1 (.cons h2 h3))
  · cases e

theorem enter_tmps {args : List AV} {vs : List Value} {n : Nat} (h : RVL C g args vs) : RVL C g (mapp args (mrep (n - mlen args) .any)) (vs.toArray ++ Array.replicate (n - vs.toArray.size) undef).toList := by
  rw [mapp_eq, mrep_eq, mlen_eq, RVL.length h]
  simp only [Array.toList_append, Array.toList_replicate, List.size_toArray]
  refine h.append ?_
  have := RVL.anys (C := C) (g := g) (List.replicate (n - vs.length) undef)
  simpa using this

theorem mget_funcs {P : Program} {f : FuncId} {fn : Func} (h : mget P.funcs.toList f = some fn) : P.funcs[f]? = some fn := by
  rw [mget_eq] at h; simpa using h

theorem callee_sound {E : Env} (hm : E.P.follows .mixedOrders = true) (hcon : ∀ f F, E.con f = some F → Spec E.P f F) (hinl : ∀ f k, E.inl f = true → E.lp f k = none) : ∀ n, CallOk E (callee E n)
  | 0 => by
    intro f args st K r w0 C0 fs C g tl vs w _ _ _ _ e
    simp [callee] at e
  | n + 1 => by
    intro f args st K r w0 C0 fs C g tl vs w hrel htm hout hargs e
    simp only [callee] at e
    cases hF : E.con f with
    | some F =>
      simp only [hF] at e
      have hsr : SR w0 C0 fs C g st { tmps := tl.toArray, defers := [] } w := ⟨hrel, htm, hout, rfl⟩
      obtain ⟨C1, hC1, h1, hr1⟩ := frozenL_spec hsr hargs
      obtain ⟨hent, hspec⟩ := hcon f F hF
      obtain ⟨r0, rows, hFa, e⟩ := CR.elim_some e
      obtain ⟨hrows, e⟩ := cond_some e
      refine ⟨hent, (hspec w C1 _ _ r0 rows h1.rel.sub hr1 hFa).mono ?_⟩
      rintro ex w' ⟨v, C2, g2, rfl, hC2, _, hrel2, hrv⟩
      refine ⟨v, _, _, C2, g ++ g2, rfl, ?_, ?_, ?_, ?_, e⟩
      · rw [mapp_eq]
        exact h1.rel.join hrel2 hrows
      · exact RVL.mono hC2 (Ghs.le_append _ _) h1.tm
      · exact OutR.mono hC2 (Ghs.le_append _ _) h1.out
      · rw [mlen_eq]
        exact RV.shift h1.rel.len.symm hrv
    | none =>
      simp only [hF] at e
      obtain ⟨hi, e⟩ := cond_some e
      split at e
      · rename_i fn hfn
        have hfn := mget_funcs hfn
        cases hname : fn.name == "runtime.NumGoroutine" with
        | true => simp [hname] at e
        | false =>
          simp only [hname, cond_false] at e
          split at e
          · rename_i c hbody
            refine ⟨⟨fn, hfn, hname, by simp [hbody]⟩, calls_of_wp hfn hbody ?_⟩
            refine exec_sound hm hcon (callee_sound hm hcon hinl n) c (fun b _ l hl => by rw [hinl f _ hi] at hl; cases hl) w0 C0 (tl :: fs) _ r _ ?_ { tmps := mapp args (mrep (fn.ntmps - mlen args) .any), outer := st.tmps :: st.outer, mem := st.mem } _ _ ⟨C, g, hrel, enter_tmps hargs, .cons htm hout, rfl⟩ e
            intro x st' a' w' ⟨C', g', h'⟩ e'
            have key : (match resultAV E fn st', st'.outer with
                | some v, t :: o => K v { tmps := t, outer := o, mem := st'.mem }
                | _, _ => none) = some r → bodyPost E.P fn (fun e w' => ∃ (v : Value) (av : AV) (st' : St) (C' : Mem) (g' : Ghs), e = .returned v ∧ Rel w0 C0 C' g' st'.mem w' ∧ RVL C' g' st'.tmps tl ∧ OutR C' g' st'.outer fs ∧ RV C' g' av v ∧ K av st' = some r) .ret a' w' := by
              intro e'
              split at e'
              · rename_i v t o hv ho
                obtain ⟨z, hz, hrz⟩ := resultAV_run h' hv
                have hout' := h'.out
                rw [ho] at hout'
                cases hout' with
                | cons h1 h2 => exact ⟨h'.df, z, hz, z, v, { tmps := t, outer := o, mem := st'.mem }, C', g', rfl, h'.rel, h1, h2, hrz, e'⟩
              · cases e'
            cases x with
            | normal => exact key e'
            | ret => exact key e'
            | exit i => cases e'
          · cases e
      · cases e

theorem rowsOf_le {mem : List Blk} : ∀ (ks : List Nat), (rowsOf mem ks).length ≤ ks.length
  | [] => Nat.le_refl _
  | k :: ks => by
    have := rowsOf_le (mem := mem) ks
    simp only [rowsOf]
    split <;> simp only [List.length_cons] <;> omega

theorem pick_rows {mem : List Blk} (h : Rel w0 C0 C g mem w) : ∀ (ks : List Nat), (rowsOf mem ks).length = ks.length →
    ∀ (b : Nat) (m : Blk), (rowsOf mem ks)[b]? = some m → ∃ (k : Nat) (x : Gh), ks[b]? = some k ∧ mem[k]? = some m ∧ g[k]? = some x ∧ (pick ks g)[b]? = some x ∧ ∃ (e : TypeId) (sz : Nat), m = Blk.row e sz
  | [], _, b, m, hb => by simp [rowsOf] at hb
  | k :: ks, hlen, b, m, hb => by
    have hle := rowsOf_le (mem := mem) ks
    simp only [rowsOf] at hlen hb
    split at hlen
    · rename_i e sz hmk
      simp only [hmk] at hb
      have hmem : mem[k]? = some (.row e sz) := by rw [← mget_eq]; exact hmk
      have hgk : ∃ x, g[k]? = some x := by
        have := lt_of_getElem? hmem
        rw [h.len] at this
        exact ⟨_, List.getElem?_eq_getElem this⟩
      obtain ⟨x, hx⟩ := hgk
      cases b with
      | zero =>
        simp only [List.getElem?_cons_zero, Option.some.injEq] at hb
        subst hb
        exact ⟨k, x, rfl, hmem, hx, pick_get (j := 0) rfl hx, e, sz, rfl⟩
      | succ b =>
        simp only [List.getElem?_cons_succ] at hb
        obtain ⟨k', x', h1, h2, h3, h4, h5⟩ := pick_rows h ks (by simpa using hlen) b m hb
        exact ⟨k', x', by simpa using h1, h2, h3, pick_get (j := b + 1) (by simpa using h1) h3, h5⟩
    · simp only [List.length_cons] at hlen
      omega

/-- a run's result is one of the contract's form -/
theorem Rel.pick {mem : List Blk} (h : Rel w0 C0 C g mem w) (ks : List Nat) (hk : ks.Nodup) (hl : (rowsOf mem ks).length = ks.length) :
    Rel w0 C0 C (pick ks g) (rowsOf mem ks) w := by
  refine ⟨h.below, h.sub, h.base, h.old, ?_, ?_, ?_⟩
  · rw [hl]; exact (List.length_map _).symm
  · intro b m x hm hx
    obtain ⟨k, x', h1, h2, h3, h4, e, sz, rfl⟩ := pick_rows h ks hl b m hm
    rw [h4] at hx
    simp only [Option.some.injEq] at hx
    subst hx
    exact (h.blk k _ _ h2 h3).row_lower (Nat.le_refl _)
  · intro b b' m m' x x' k h1 h2 h3 h4 h5 h6
    obtain ⟨k1, x1, i1, i2, i3, i4, _⟩ := pick_rows h ks hl b m h1
    obtain ⟨k2, x2, j1, j2, j3, j4, _⟩ := pick_rows h ks hl b' m' h3
    rw [i4] at h2; rw [j4] at h4
    simp only [Option.some.injEq] at h2 h4
    subst h2; subst h4
    have := h.sep k1 k2 m m' _ _ k i2 i3 j2 j3 h5 h6
    subst this
    have hlt := lt_of_getElem? i1
    exact (List.getElem?_inj hlt hk).1 (i1.trans j1.symm)

theorem spec_of_run {E : Env} (hm : E.P.follows .mixedOrders = true) (hcon : ∀ f F, E.con f = some F → Spec E.P f F) (hinl : ∀ f k, E.inl f = true → E.lp f k = none) {f : FuncId} {F : Con} {ks : List Nat} {fn : Func} {c : Code}
    (hfn : E.P.funcs[f]? = some fn) (hname : (fn.name == "runtime.NumGoroutine") = false) (hbody : fn.body = some c) (hks : ks.Nodup)
    (hl : ∀ b ∈ loopsOf c, ∀ l, E.lp f (key b) = some l → LoopOk E (callee E 3) f l b)
    (hF : ∀ args r rows, (F args).get = some (r, rows) → rows.length = ks.length ∧ run E ks f args = some (r, rows)) : Spec E.P f F := by
  refine ⟨⟨fn, hfn, hname, by simp [hbody]⟩, ?_⟩
  intro w C args vs r rows hsub hargs e
  obtain ⟨hlen, e⟩ := hF args r rows e
  have hfm : mget E.P.funcs.toList f = some fn := by rw [mget_eq]; simpa using hfn
  simp only [run, hfm, hname, cond_false, hbody] at e
  refine calls_of_wp hfn hbody ?_
  have hrel : Rel w C C [] [] w := ⟨Below.refl _ _, hsub, Mem.le_refl _, fun _ _ => rfl, rfl, fun b m x hm => by simp at hm, fun b b' m m' x x' k hm => by simp at hm⟩
  refine exec_sound hm hcon (callee_sound hm hcon hinl 3) c hl w C [] _ (r, rows) _ ?_ { tmps := mapp args (mrep (fn.ntmps - mlen args) .any), outer := [], mem := [] } _ _ ⟨C, [], hrel, enter_tmps hargs, .nil, rfl⟩ e
  intro x st' a' w' ⟨C', g', h'⟩ e'
  have key : (match resultAV E fn st' with
            | some v => match v.ren ks with
              | some r => some (r, rowsOf st'.mem ks)
              | none => none
            | none => none) = some (r, rows) → bodyPost E.P fn (fun e w' => ∃ v C' g', e = .returned v ∧ C.le C' ∧ (∀ a : Addr, a.block < w.heap.size → C' a = C a) ∧ Rel w C C' g' rows w' ∧ RV C' g' r v) .ret a' w' := by
    intro e'
    cases hv : resultAV E fn st' with
    | none => simp [hv] at e'
    | some v =>
      simp only [hv] at e'
      cases hr : v.ren ks with
      | none => simp [hr] at e'
      | some u =>
        simp only [hr, Option.some.injEq, Prod.mk.injEq] at e'
        obtain ⟨rfl, rfl⟩ := e'
        obtain ⟨z, hz, hrz⟩ := resultAV_run h' hv
        exact ⟨h'.df, z, hz, z, C', pick ks g', rfl, h'.rel.base, h'.rel.old, h'.rel.pick ks hks hlen, RV.ren ks hrz hr⟩
  cases x with
  | normal => exact key e'
  | ret => exact key e'
  | exit i => cases e'

end
end Am
end Go.Proofs.Ytkidcbialbffgaa
