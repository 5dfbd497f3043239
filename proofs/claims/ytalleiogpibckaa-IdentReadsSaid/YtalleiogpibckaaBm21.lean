/-
  A symbolic machine over the model, part 21: a function's contract out of its run.
-/
import Derived.Test.YtalleiogpibckaaBm20
import Derived.KernelRfl
namespace Go.Proofs.Ytalleiogpibckaa
namespace Am
open Go Go.RowKit

section
variable {X : Ctx} {w0 w : World} {C0 C : Mem} {fs : List (List Value)} {g : Ghs} {st : St} {a : Act}

theorem Rel.reds {X : Ctx} {mem : List Blk} (h : Rel X w0 C0 C g mem w) (ds : List Deferred) : Rel { X with ds := ds } w0 C0 C g mem w :=
  ⟨h.below, h.low, h.sub, h.base, h.old, h.len, h.keep, fun b m x hm hx => by
    cases h.blk b m x hm hx with
    | box h1 h2 h3 h4 => exact .box h1 h2 h3 h4
    | fro h1 h2 => exact .fro h1 h2
    | own h0 h1 h2 h3 => exact .own h0 h1 h2 h3
    | clip => exact .clip
    | loop hl => exact .loop hl
    | dead => exact .dead, h.sep⟩

theorem frzR_spec : ∀ {vs : List AV} {zs : List Value} {C : Mem} {st : St}, SR X w0 C0 fs C g st a w → RVL C g vs zs → ∃ C', C.le C' ∧ SR X w0 C0 fs C' g (frzR st vs).2 a w ∧ RVL C' g (frzR st vs).1 zs
  | [], _, C, st, h, .nil => ⟨C, Mem.le_refl _, h, .nil⟩
  | v :: vs, _, C, st, h, .cons (v := x) hv ht => by
    have one : ∃ C1, C.le C1 ∧ SR X w0 C0 fs C1 g (match v with | .fn f a c => frozen1 st (.fn f a c) | v => (v, st)).2 a w ∧ RV C1 g (match v with | .fn f a c => frozen1 st (.fn f a c) | v => (v, st)).1 x := by
      cases v with
      | fn f p q =>
        obtain ⟨C1, h1, h2, h3⟩ := frozen1_spec h hv
        exact ⟨C1, h1, h2, RV.mono (Mem.le_refl _) (Ghs.nil_le g) h3⟩
      | _ => exact ⟨C, Mem.le_refl _, h, hv⟩
    obtain ⟨C1, hC1, h1, hr1⟩ := one
    obtain ⟨C2, hC2, h2, hr2⟩ := frzR_spec h1 (RVL.mono hC1 (Ghs.le_refl _) ht)
    exact ⟨C2, Mem.le_trans hC1 hC2, h2, .cons (RV.mono hC2 (Ghs.le_refl _) hr1) hr2⟩

theorem mrange_get : ∀ (n i j : Nat), (mrange i n)[j]? = if j < n then some (i + j) else none
  | 0, i, j => by simp [mrange]
  | n + 1, i, 0 => by simp [mrange]
  | n + 1, i, j + 1 => by
    simp only [mrange, List.getElem?_cons_succ, mrange_get n (i + 1) j]
    by_cases h : j < n
    · rw [if_pos h, if_pos (by omega)]; congr 1; omega
    · rw [if_neg h, if_neg (by omega)]
theorem mrange_len : ∀ (n i : Nat), (mrange i n).length = n
  | 0, _ => rfl
  | n + 1, i => by simp [mrange, mrange_len n]

theorem finish_spec {E : Env} {fn : Func} {up : List Up} {ks : List Nat} {rsh : Sh} {ms : List BSh} {vs : List AV} {zs : List Value} {out : rsh.den × MSh ms} (h : SR X w0 C0 fs C g st a w) (hnf : X.G.length = E.nf) (hv : resAV E fn st fn.results.toList = some vs) (hz : RVL C g vs zs)
    (e : finish E fn up ks rsh ms st = some out) : ∃ C' g', Rel X w0 C0 C' g' (encM ms out.2) w ∧ RVL C' g' (encL rsh out.1) zs := by
  unfold finish at e
  rw [hv] at e
  simp only at e
  obtain ⟨C1, hC1, h1, hr1⟩ := frzR_spec h hz
  have e2 : view E.nf (resKs ks ms (upL { tmps := (frzR st vs).1, outer := [], mem := (frzR st vs).2.mem } up)) (mrange 0 (mlen (frzR st vs).1)) rsh ms (upL { tmps := (frzR st vs).1, outer := [], mem := (frzR st vs).2.mem } up) = some out := e
  have hs : SR X w0 C0 [] C1 g { tmps := (frzR st vs).1, outer := [], mem := (frzR st vs).2.mem } { tmps := zs.toArray, defers := X.ds } w := ⟨h1.rel, hr1, .nil, rfl⟩
  obtain ⟨g2, _, hu⟩ := upL_spec up hs
  obtain ⟨g', zs', i1, i2, i3, i4⟩ := view_spec hu hnf e2
  have hlen : (frzR st vs).1.length = zs.length := RVL.length hr1
  have : zs' = zs := by
    rw [mlen_eq, mrange_len, hlen] at i3
    apply List.ext_getElem?
    intro j
    by_cases hj : j < zs.length
    · have := i4 j j (by rw [mlen_eq, hlen, mrange_get, if_pos hj]; simp)
      rw [← this]
    · rw [List.getElem?_eq_none (by omega), List.getElem?_eq_none (by omega)]
  rw [this] at i2
  exact ⟨C1, g', i1, i2⟩

/-- a function's whole run -/
theorem runB_sound {E : Env} (hE : EnvOk E) {f : FuncId} {args : List AV} {mem : List Blk} {up : List Up} {ks : List Nat} {rsh : Sh} {ms : List BSh} {out : rsh.den × MSh ms} (hl : LoopsGood E f (bodyOf E.P f)) (hrf : ∀ d ∈ rfsOf (bodyOf E.P f), ExecOk E f none d)
    (h : runB E f args mem up ks rsh ms = some out) {X : Ctx} {w : World} {C : Mem} {g : Ghs} {vs : List Value} (hrel : Rel X w C C g mem w) (hnf : X.G.length = E.nf) (hargs : RVL C g args vs) (hY : YOk E X w C) :
    Calls E.P f vs.toArray w (fun e w' => ∃ zs C' g', e = .returned (tupV zs) ∧ Rel X w C C' g' (encM ms out.2) w' ∧ RVL C' g' (encL rsh out.1) zs) := by
  unfold runB at h
  split at h
  · rename_i fn hfn
    have hfn' := mget_funcs hfn
    cases hname : fn.name == "runtime.NumGoroutine" with
    | true => simp [hname] at h
    | false =>
      simp only [hname, cond_false] at h
      split at h
      · rename_i c hbody
        have hb : bodyOf E.P f = c := by simp [bodyOf, hfn, hbody]
        rw [hb] at hl hrf
        refine callsFW' (n := 0) (callsIn_of_wp_marks hfn' hbody trivial ?_ rfl)
        have hex : ExecOk E f none c := exec_sound hE c hl hrf
        have hX : ({ X with ds := [] } : Ctx).G.length = E.nf := hnf
        refine hex { X with ds := [] } w C [] _ (callee E 3) _ out _ hX (fun X' hX' => callee_sound hE 3 _ X' hX') (fun ks fc hy l hl => hY ks fc hy l hl) ?_
          { tmps := mapp args (mrep (fn.ntmps - mlen args) .any), outer := [], mem := mem } _ _ ⟨C, g, hrel.reds [], enter_tmps hargs, .nil, rfl⟩ h
        intro X' w0' C0' hx e' st' a' w' ⟨C', g', h'⟩ ek
        have key : finish E fn up ks rsh ms st' = some out → LeavesInM (FW none) 0 E.P fn a'.tmps (fun e w' => ∃ zs C' g', e = .returned (tupV zs) ∧ Rel X w C C' g' (encM ms out.2) w' ∧ RVL C' g' (encL rsh out.1) zs) a'.defers .returning w' := by
          intro ek
          cases hv : resAV E fn st' fn.results.toList with
          | none => unfold finish at ek; rw [hv] at ek; cases ek
          | some vs' =>
            refine leaves_ext h' hx rfl hv fun w2 zs h2 hz => ?_
            obtain ⟨C2, g2, i1, i2⟩ := finish_spec h2 hX hv hz ek
            exact ⟨zs, C2, g2, rfl, i1.reds X.ds, i2⟩
        cases e' with
        | normal => exact key ek
        | ret => exact key ek
        | exit i => cases ek
      · cases h
  · cases h

theorem look_mem {α : Type _} {f : Nat} {x : α} : ∀ {l : List (Nat × α)}, look f l = some x → (f, x) ∈ l
  | [], h => by simp [look] at h
  | (g, y) :: l, h => by
    simp only [look] at h
    cases hb : Nat.beq g f with
    | true =>
      rw [hb] at h
      simp only [cond_true, Option.some.injEq] at h
      rw [h, Nat.eq_of_beq_eq_true hb]
      exact List.mem_cons_self ..
    | false =>
      rw [hb] at h
      exact List.mem_cons_of_mem _ (look_mem (by simpa using h))
theorem looks_mem {α : Type _} {f : Nat} {x : α} : ∀ {l : List (Nat × α)}, x ∈ looks f l → (f, x) ∈ l
  | [], h => by simp [looks] at h
  | (g, y) :: l, h => by
    simp only [looks] at h
    cases hb : Nat.beq g f with
    | true =>
      rw [hb, cond_true] at h
      rcases List.mem_cons.1 h with rfl | h
      · rw [Nat.eq_of_beq_eq_true hb]
        exact List.mem_cons_self ..
      · exact List.mem_cons_of_mem _ (looks_mem h)
    | false =>
      rw [hb] at h
      exact List.mem_cons_of_mem _ (looks_mem (by simpa using h))

def LkOk (E : Env) (f : FuncId) (b : Code) : Lk → Prop
  | .sum l => LoopOk E f l b ∧ ∀ o' : OutT l.outs, (outE l.m l.outs o').1 ≠ .normal
  | .unroll _ => True
def LoopsOk (E : Env) (f : FuncId) : List (Nat × Lk) → List Code → Prop
  | [], [] => True
  | (k, l) :: ls, b :: bs => key b = k ∧ LkOk E f b l ∧ LoopsOk E f ls bs
  | _, _ => False

theorem loopsOk_mem {E : Env} {f : FuncId} : ∀ {ls : List (Nat × Lk)} {bs : List Code}, LoopsOk E f ls bs → (ls.map (·.1)).Nodup → ∀ b ∈ bs, ∀ l, look (key b) ls = some l → LkOk E f b l
  | [], [], _, _, b, hb, _, _ => by cases hb
  | (k, l) :: ls, b :: bs, h, hn, b', hb', l', hl' => by
    obtain ⟨h1, h2, h3⟩ := h
    simp only [List.map_cons, List.nodup_cons, List.mem_map, not_exists, not_and] at hn
    simp only [look] at hl'
    rcases List.mem_cons.1 hb' with rfl | hb'
    · rw [h1, Nat.beq_refl, cond_true, Option.some.injEq] at hl'
      subst hl'
      exact h2
    · cases hk : Nat.beq k (key b') with
      | true =>
        exfalso
        have hkk := Nat.eq_of_beq_eq_true hk
        have : ∀ {ls : List (Nat × Lk)} {bs : List Code}, LoopsOk E f ls bs → b' ∈ bs → ∃ x ∈ ls, x.1 = key b' := by
          intro ls
          induction ls with
          | nil => intro bs h hb; cases bs with | nil => cases hb | cons _ _ => exact h.elim
          | cons p ls ih =>
            intro bs h hb
            cases bs with
            | nil => cases hb
            | cons c bs =>
              obtain ⟨g1, g2, g3⟩ := h
              rcases List.mem_cons.1 hb with rfl | hb
              · exact ⟨p, by simp, g1.symm⟩
              · obtain ⟨x, hx, he⟩ := ih g3 hb
                exact ⟨x, by simp [hx], he⟩
        obtain ⟨x, hx, he⟩ := this h3 hb'
        exact hn.1 x hx (he.trans hkk.symm)
      | false =>
        rw [hk] at hl'
        exact loopsOk_mem h3 hn.2 b' hb' l' (by simpa using hl')
  | [], _ :: _, h, _, _, _, _, _ => h.elim
  | _ :: _, [], h, _, _, _, _, _ => h.elim

theorem envOk_mk {P : Program} (hm : P.follows .mixedOrders = true) {cs : List (FuncId × Fc)} (hcs : ∀ p ∈ cs, Spec P p.1 p.2) {inl : List Nat} {f : FuncId} {ls : List (Nat × Lk)} {rs : List (Nat × Rf)} {nf : Nat} : EnvOk (mkE P cs inl f ls rs nf) := by
  refine ⟨hm, fun g fc h => hcs (g, fc) (looks_mem h), fun g k h => ?_, fun g k h => ?_⟩
  · simp only [mkE, Bool.and_eq_true, Bool.not_eq_true'] at h
    simp only [mkE, h.2, cond_false]
  · simp only [mkE, Bool.and_eq_true, Bool.not_eq_true'] at h
    simp only [mkE, h.2, cond_false]

theorem EnvOk.yielding {E : Env} (h : EnvOk E) (nf : Nat) (ks : List Nat) (fc : Fc) : EnvOk (E.yielding nf ks fc) := ⟨h.hm, h.con, h.inl, h.inr⟩

theorem loopsGood_mk {E : Env} (hE : EnvOk E) {f : FuncId} {ls : List (Nat × Lk)} (hlp : ∀ k, E.lp f k = look k ls) (hn : (ls.map (·.1)).Nodup) {c : Code} (hl : LoopsOk E f ls (loopsOf c)) : LoopsGood E f c := by
  intro b hb l hbl
  rw [hlp] at hbl
  obtain ⟨h1, h2⟩ := loopsOk_mem hl hn b hb _ hbl
  exact ⟨h1, h2, fun X hX => callee_sound hE 3 _ X hX⟩

theorem enterOk_of {P : Program} {f : FuncId} (h : okF P f = true) : EnterOk P f := by
  unfold okF at h
  split at h
  · rename_i fn hfn
    simp only [Bool.and_eq_true, Bool.not_eq_true'] at h
    exact ⟨fn, mget_funcs hfn, h.1, by simpa using h.2⟩
  · cases h

/-- the contract that a run bears out -/
theorem spec_of {P : Program} (hm : P.follows .mixedOrders = true) {cs : List (FuncId × Fc)} (hcs : ∀ p ∈ cs, Spec P p.1 p.2) {inl : List Nat} {f : FuncId} {ls : List (Nat × Lk)} {rs : List (Nat × Rf)} {c : Ct} (hok : okF P f = true) (hsh : (c.ash.chV && okM c.ms) = true)
    (hn : (ls.map (·.1)).Nodup) (hl : LoopsOk (mkE P cs inl f ls rs c.ms.length) f ls (loopsOf (bodyOf P f))) (hr : ∀ d ∈ rfsOf (bodyOf P f), ExecOk (mkE P cs inl f ls rs c.ms.length) f none d)
    (hF : ∀ x r, (c.G x).get = some r → run (mkE P cs inl f ls rs c.ms.length) f c x = some r) : Spec P f c.fc := by
  have hE : EnvOk (mkE P cs inl f ls rs c.ms.length) := envOk_mk hm hcs
  simp only [Bool.and_eq_true] at hsh
  refine ⟨enterOk_of hok, ?_⟩
  intro X w C g mem args vs x r bs hrel hG hargs hx hg
  obtain ⟨e1, e2⟩ := both_some hx
  obtain ⟨b, hb, hbr⟩ := Tr.get_map hg
  simp only [Prod.mk.injEq] at hbr
  obtain ⟨rfl, rfl⟩ := hbr
  have hlen := (decM_get e2 hsh.2).1
  have hml : mem.length = c.ms.length := by
    rw [← hlen]
    have : ∀ (l : List BSh) (y : MSh l), (encM l y).length = l.length := by
      intro l
      induction l with
      | nil => intro y; rfl
      | cons s l ih => intro y; simp [encM, ih]
    exact this _ _
  refine (runB_sound hE (loopsGood_mk hE (fun k => by simp [mkE]) hn hl) hr (hF x b hb) (hrel.form hsh.2 e2) (by rw [hG, ← hrel.len, hml]; rfl) (decVL hsh.1 hargs e1) (fun ks fc hy => by cases hy)).mono ?_
  rintro e w' ⟨zs, C', g', rfl, h1, h2⟩
  exact ⟨_, C', g', rfl, h1, tupV_RV h2⟩

end
end Am
end Go.Proofs.Ytalleiogpibckaa
