/-
  A symbolic machine over the model, part 13: every operation, and every run, is the model's.
-/
import Derived.Test.YtkjpoongkdapoaaBm12
namespace Go.Proofs.Ytkjpoongkdapoaa
namespace Am
open Go Go.RowKit
set_option linter.unusedVariables false
set_option linter.unusedSimpArgs false

section
variable {X : Ctx} {w0 w : World} {C0 C : Mem} {fs : List (List Value)} {g : Ghs} {st : St} {a : Act}

theorem store_run {P : Program} {t : TypeId} {k off : Nat} {T : TypeId} {pre mid post : List Value} {y : Value} (hi : (P.info? t).isSome = true) (hsz : y.cells.size = P.cellsOf t) (hb : w.heap[k]? = some (.cells (pre ++ mid ++ post).toArray T (0, 0))) (hp : pre.length = off) (hm : mid.length = y.cells.size)
    (h1 : ∀ v ∈ y.cells.toList, v.oneCell' = true) : (Instr.storeAt t (.pointer (some ⟨k, off, none⟩)) y).run P w = .ok () (w.setRow k (pre ++ y.cells.toList ++ post).toArray) := by
  obtain ⟨i, hi⟩ := Option.isSome_iff_exists.1 hi
  have hs : (sizeOf t).run P w = .ok (P.cellsOf t) w := by simp [sizeOf, typeInfo, hi, Program.cellsOf]
  have hst := run_storeCells_at P k off T y.cells.toList 0 (pre ++ mid ++ post).toArray w hb (by simp; omega) h1
  have e1 : ((pre ++ mid ++ post).toArray.toList.take (off + 0)) = pre := by
    simp only [Nat.add_zero, List.append_assoc]
    rw [← hp]; exact List.take_left
  have e2 : ((pre ++ mid ++ post).toArray.toList.drop (off + 0 + y.cells.toList.length)) = post := by
    have : off + 0 + y.cells.toList.length = (pre ++ mid).length := by simp; omega
    rw [this]
    exact List.drop_left
  rw [e1, e2] at hst
  simp [Instr.storeAt, Instr.sureAddr, storeVar, hs, hsz, hst]

theorem SR.set (h : SR X w0 C0 fs C g st a w) {b k : Nat} {u u' : AV} {cs' : List Value} (hb : mget st.mem b = some (.box u)) (hk : Ghs.box g b = some k) (hu : RC C g u' cs') :
    SR X w0 C0 fs C g { st with mem := mset st.mem b (.box u') } a (w.setRow k cs'.toArray) := by
  rw [mget_eq] at hb
  obtain ⟨T, cs, _, _, hr⟩ := h.rel.store hb hk hu
  rw [mset_eq]
  exact h.up (Mem.le_refl _) (Ghs.le_refl _) hr

theorem elemT_spec {P : Program} {t e : TypeId} (h : elemT P t = some e) : P.underlying t = some (.slice e) := by
  unfold elemT at h
  split at h
  · simp only [Option.some.injEq] at h; subst h; assumption
  · cases h

theorem dem_sr {C' : Mem} {g' : Ghs} {b : Nat} {w' : World} (h : SR X w0 C0 fs C g st a w) (hC : C.le C') (hg : Ghs.but b g g') (hr : Rel X w0 C0 C' g' (st.mem.map (Blk.dem b)) w') : SR X w0 C0 fs C' g' (st.dem b) a w' :=
  ⟨hr, RVL.dem hC hg h.tm, OutR.dem hC hg h.out, h.df⟩

theorem rowOf_mem {t : Ty} {e : TypeId} {s : AV} {xs : List t.den} {b : Nat} {st1 : St} (e1 : rowOf st t e s = some (xs, b, st1)) (b' : Nat) (m : Blk) (h : st.mem[b']? = some m) : st1.mem[b']? = some m := by
  unfold rowOf at e1
  split at e1
  · simp only [Option.some.injEq, Prod.mk.injEq] at e1
    obtain ⟨_, _, rfl⟩ := e1
    simp only [mapp_eq]
    rw [List.getElem?_append_left (lt_of_getElem? h)]
    exact h
  · split at e1
    · split at e1
      · rename_i ht
        subst ht
        obtain ⟨_, e2⟩ := cond_some e1
        simp only [Option.some.injEq, Prod.mk.injEq] at e2
        obtain ⟨_, _, rfl⟩ := e2
        exact h
      · cases e1
    · cases e1
  · cases e1
theorem rowOf_spec {t : Ty} {e : TypeId} {s : AV} {x : Value} {xs : List t.den} {b : Nat} {st1 : St} (h : SR X w0 C0 fs C g st a w) (hx : RV C g s x) (e1 : rowOf st t e s = some (xs, b, st1)) :
    ∃ g1, g.le g1 ∧ SR X w0 C0 fs C g1 st1 a w ∧ st1.mem[b]? = some (.row e t.size) ∧ RC C g1 (.sl t xs (some b)) [x] := by
  unfold rowOf at e1
  split at e1
  · simp only [Option.some.injEq, Prod.mk.injEq] at e1
    obtain ⟨rfl, rfl, rfl⟩ := e1
    have := RV_nilsl hx
    subst this
    have hr := h.rel.nilrow e t.size none 0
    refine ⟨g ++ [.row (.slice none 0 0) false], Ghs.le_append _ _, ?_, ?_, ?_⟩
    · have := h.up (Mem.le_refl _) (Ghs.le_append _ _) hr
      rw [mapp_eq]
      exact this
    · simp [mapp_eq, mlen_eq]
    · have := RC.own (C := C) (g := g ++ [.row (.slice none 0 0) false]) (t := t) (xs := []) (b := mlen st.mem) (base := none) (cap := 0) (o := false) ⟨Nat.le_refl _, Nat.zero_le _⟩ Row_nil (by simp [mlen_eq, h.rel.len])
      exact this
  · rename_i t' xs' b'
    split at e1
    · rename_i e' sz hm
      split at e1
      · rename_i ht
        subst ht
        obtain ⟨h1, h2⟩ := cond_some e1
        simp only [Bool.and_eq_true, beq_iff_eq] at h1
        simp only [Option.some.injEq, Prod.mk.injEq] at h2
        obtain ⟨rfl, rfl, rfl⟩ := h2
        obtain ⟨base, cap, rfl, _, hrc, _, _⟩ := RV_sl hx
        rw [mget_eq] at hm
        exact ⟨g, Ghs.le_refl _, h, by rw [hm, h1.1, h1.2], hrc⟩
      · cases e1
    · cases e1
  · cases e1

theorem zero_size {t : Ty} {i : TypeInfo} {z : Value} (hc : z.cells.toList = zcells t) (hs : i.size = t.size) (hok : t.ok = true) : z.cells.size = i.size := by
  have h1 := RC_size (RC_zero (C := fun _ => none) (g := []) t hok).1
  have h2 : z.cells.size = (zcells t).length := by rw [← hc]; simp
  rw [h2, h1, hs]
  have : ∀ (t : Ty), t.ok = true → (zero2 t).1.size = t.size ∧ (t.chain = true → AV.sizes (zero2 t).2 = t.size) := by
    intro t
    induction t with
    | pair s t ihs iht =>
      intro h
      simp only [Ty.ok, Bool.and_eq_true] at h
      have a1 := (ihs h.1.1).1
      have a2 := (iht h.1.2).2 h.2
      exact ⟨by simp [zero2, AV.size, AV.sizes, Ty.size, a1, a2], fun _ => by simp [zero2, AV.sizes, Ty.size, a1, a2]⟩
    | unit => intro _; exact ⟨rfl, fun _ => rfl⟩
    | _ => intro _; exact ⟨rfl, fun h => by simp [Ty.chain] at h⟩
  exact (this t hok).1

theorem fits_iff {n m : Int} {b : Nat} : fits n m b = true ↔ (n + m) * b ≤ 140737488355328 ∧ n + m < 4611686018427387904 := by
  unfold fits
  rw [Bool.and_eq_true, ile_iff, ile_iff]
  omega

theorem append_run {E : Env} {tT xT ty : TypeId} {sv xv : AV} {x y : Value} {ρ : Type} {K : AV → St → Option ρ} {r : ρ} (h : SR X w0 C0 fs C g st a w) (hx : RV C g sv x) (hy : RV C g xv y) (e1 : appendAV E st tT xT sv xv K = some r) :
    ∃ z w' av st', (Builtin.append_ #[tT, xT] ty #[x, y]).run E.P w = .ok z w' ∧ (∃ C' g', SR X w0 C0 fs C' g' st' a w' ∧ RV C' g' av z ∧ C.le C' ∧ ∀ (b' k : Nat) (m : Blk) (x : Gh), st.mem[b']? = some m → g[b']? = some x → x.fixed = true → liveOf m x = some k → w'.heap[k]? = w.heap[k]? ∧ g'[b']? = some x ∧ ∃ m', st'.mem[b']? = some m' ∧ liveOf m' x = some k) ∧ K av st' = some r := by
  unfold appendAV at e1
  cases he : elemT E.P tT with
  | none => simp [he] at e1
  | some e =>
    cases hty : E.ty e with
    | none => simp [he, hty] at e1
    | some t =>
      simp only [he, hty] at e1
      cases hro : rowOf st t e sv with
      | none => simp [hro] at e1
      | some p =>
        obtain ⟨xs, b, st1⟩ := p
        simp only [hro] at e1
        cases hno : newsOf st1 t xv with
        | none => simp [hno] at e1
        | some ys =>
          simp only [hno] at e1
          obtain ⟨h1, e2⟩ := cond_some e1
          obtain ⟨h2, e3⟩ := cond_some e2
          simp only [Bool.and_eq_true, decide_eq_true_eq] at h1
          obtain ⟨i, z, hi, hz, hc, hsz, _⟩ := zeroOk_spec h1.1.1.1
          obtain ⟨g1, hg1, hsr, hmb, hrc⟩ := rowOf_spec h hx hro
          obtain ⟨news, hn, hsrc⟩ := newsOf_src (E := E) hsr (RV.mono (Mem.le_refl _) hg1 hy) hno
          have hp : plainT E.P xT := by
            have h3 := h1.2
            split at h3
            · rename_i e' hu; exact .inl ⟨e', hu⟩
            · rename_i hu; exact .inr hu
            · cases h3
          rw [fits_iff] at h2
          simp only [dlen] at h2
          have hby : bytesT E.P e = i.bytes := by simp [bytesT, hi]
          rw [← hsz] at hsrc
          obtain ⟨v', w', C', g', hrun, hC, hbut, hrel', hrv, hkeep⟩ := hsr.rel.append (P := E.P) (ty := ty) hmb hrc (elemT_spec he) hp hi hz hsz (zero_size hc hsz h1.1.1.2) hsrc hn (by omega) (by
            have := h2.1
            rw [hby] at this
            have h4 : (((xs.length + ys.length) * i.bytes : Nat) : Int) = ((xs.length : Int) + ys.length) * i.bytes := by rw [Int.natCast_mul, Int.natCast_add]
            rw [← h4] at this
            omega)
          refine ⟨v', w', _, _, hrun, ⟨C', g', dem_sr hsr hC hbut hrel', .one hrv (by simp) (by simp), hC, fun b' k m x hm' hg' hf hl => ?_⟩, e3⟩
          have hm1 := rowOf_mem hro b' _ hm'
          have hg2 := hg1 _ _ hg'
          have hne : ∀ u, g1[b]? = some (.row u true) → u.ownBlock ≠ some k := by
            intro u hu hk
            have := hsr.rel.sep b b' _ _ _ _ k hmb hu hm1 hg2 hk hl
            subst this
            rw [hu] at hg2
            cases hg2
            cases hf
          have hlt : k < w.heap.size := (live_lt (hsr.rel.blk b' _ _ hm1 hg2) hl).2
          refine ⟨hkeep k hlt hne, ?_, ?_⟩
          · refine hbut.fixed hg2 hf
          · refine ⟨m.dem b, ?_, by rw [live_dem]; exact hl⟩
            show (st1.mem.map (Blk.dem b))[b']? = _
            rw [List.getElem?_map, hm1]
            rfl

/-- of the blocks that are known: those, in this order -/
def pick (ks : List Nat) (g : Ghs) : Ghs := ks.map fun k => (g[k]?).getD .dead

theorem pick_get {ks : List Nat} {g : Ghs} {j k : Nat} {x : Gh} (h : ks[j]? = some k) (hg : g[k]? = some x) : (pick ks g)[j]? = some x := by
  simp [pick, h, hg]

theorem idx_get : ∀ {ks : List Nat} {b j : Nat}, idx ks b = some j → ks[j]? = some b
  | [], b, j, h => by simp [idx] at h
  | k :: ks, b, j, h => by
    simp only [idx] at h
    cases hb : Nat.beq k b with
    | true =>
      rw [hb, cond_true, Option.some.injEq] at h
      subst h
      have := Nat.eq_of_beq_eq_true hb
      simp [this]
    | false =>
      rw [hb, cond_false, Option.map_eq_some_iff] at h
      obtain ⟨i, hi, rfl⟩ := h
      have := idx_get hi
      simpa using this
theorem pick_box {ks : List Nat} {g : Ghs} {j b k : Nat} (h : idx ks b = some j) (hg : Ghs.box g b = some k) : Ghs.box (pick ks g) j = some k := by
  unfold Ghs.box at *
  cases hb : g[b]? with
  | none => rw [hb] at hg; simp at hg
  | some x =>
    rw [pick_get (idx_get h) hb]
    rw [hb] at hg
    exact hg

mutual
theorem RC.ren {C : Mem} {g : Ghs} (ks : List Nat) : ∀ {v u : AV} {cs : List Value}, RC C g v cs → v.ren ks = some u → RC C (pick ks g) u cs
  | _, _, _, .int k n, e => by simp only [AV.ren, Option.some.injEq] at e; subst e; exact .int k n
  | _, _, _, .u8 b, e => by simp only [AV.ren, Option.some.injEq] at e; subst e; exact .u8 b
  | _, _, _, .bool b, e => by simp only [AV.ren, Option.some.injEq] at e; subst e; exact .bool b
  | _, _, _, .str b hs, e => by simp only [AV.ren, Option.some.injEq] at e; subst e; exact .str b hs
  | _, _, _, .id a, e => by simp only [AV.ren, Option.some.injEq] at e; subst e; exact .id a
  | _, _, _, .agg h, e => by
    simp only [AV.ren, Option.map_eq_some_iff] at e
    obtain ⟨ps, e, rfl⟩ := e
    exact .agg (RCL.ren ks h e)
  | _, _, _, .sl hl h, e => by simp only [AV.ren, Option.some.injEq] at e; subst e; exact .sl hl h
  | _, _, _, .own (b := b) hl h hg, e => by
    simp only [AV.ren, Option.some.injEq] at e
    subst e
    cases hi : idx ks b with
    | none => exact .sl hl h
    | some j => exact .own hl h (pick_get (idx_get hi) hg)
  | _, _, _, .nilsl, e => by simp only [AV.ren, Option.some.injEq] at e; subst e; exact .nilsl
  | _, _, _, .loc h, e => by
    simp only [AV.ren, Option.map_eq_some_iff] at e
    obtain ⟨j, hj, rfl⟩ := e
    exact .loc (pick_box hj h)
  | _, _, _, .loci hi h, e => by
    simp only [AV.ren, Option.map_eq_some_iff] at e
    obtain ⟨j, hj, rfl⟩ := e
    exact .loci hi (pick_box hj h)
  | _, _, _, .idsl h, e => by
    simp only [AV.ren, Option.map_eq_some_iff] at e
    obtain ⟨j, hj, rfl⟩ := e
    exact .idsl (pick_box hj h)
  | _, _, _, .yld h, e => by
    simp only [AV.ren, Option.map_eq_some_iff] at e
    obtain ⟨j, hj, rfl⟩ := e
    exact .yld (pick_get (idx_get hj) h)
  | _, _, _, .cptr h ha, e => by
    simp only [AV.ren, Option.map_eq_some_iff] at e
    obtain ⟨p, e, rfl⟩ := e
    exact .cptr (RC.ren ks h e) ha
  | _, _, _, .fn h1 h2, e => by
    simp only [AV.ren] at e
    split at e
    · rename_i x y e1 e2
      simp only [Option.some.injEq] at e
      subst e
      exact .fn (RVL.ren ks h1 e1) (RVL.ren ks h2 e2)
    · cases e
  | _, _, _, .nilfn, e => by simp only [AV.ren, Option.some.injEq] at e; subst e; exact .nilfn
  | _, _, _, .lst ha, e => by simp only [AV.ren, Option.some.injEq] at e; subst e; exact .lst ha
  | _, _, _, .iface h, e => by
    simp only [AV.ren, Option.map_eq_some_iff] at e
    obtain ⟨p, e, rfl⟩ := e
    exact .iface (RV.ren ks h e)
  | _, _, _, .asl h h0 hb, e => by
    simp only [AV.ren, Option.map_eq_some_iff] at e
    obtain ⟨j, hj, rfl⟩ := e
    exact .asl (pick_get (idx_get hj) h) h0 hb
  | _, _, _, .elp h h0, e => by
    simp only [AV.ren, Option.map_eq_some_iff] at e
    obtain ⟨j, hj, rfl⟩ := e
    exact .elp (pick_get (idx_get hj) h) h0
  | _, _, _, .mref h, e => by
    simp only [AV.ren, Option.map_eq_some_iff] at e
    obtain ⟨j, hj, rfl⟩ := e
    exact .mref (pick_get (idx_get hj) h)
theorem RCL.ren {C : Mem} {g : Ghs} (ks : List Nat) : ∀ {v u : List AV} {cs : List Value}, RCL C g v cs → AV.renL ks v = some u → RCL C (pick ks g) u cs
  | _, _, _, .nil, e => by simp only [AV.renL, Option.some.injEq] at e; subst e; exact .nil
  | _, _, _, .cons h t, e => by
    simp only [AV.renL] at e
    split at e
    · rename_i x y e1 e2
      simp only [Option.some.injEq] at e
      subst e
      exact .cons (RC.ren ks h e1) (RCL.ren ks t e2)
    · cases e
theorem RV.ren {C : Mem} {g : Ghs} (ks : List Nat) : ∀ {v u : AV} {x : Value}, RV C g v x → v.ren ks = some u → RV C (pick ks g) u x
  | _, _, _, .any v, e => by simp only [AV.ren, Option.some.injEq] at e; subst e; exact .any v
  | _, _, _, .raw _ _, e => by simp [AV.ren] at e
  | _, _, _, .id h, e => by
    have := RC.ren ks h e
    simp only [AV.ren, Option.some.injEq] at e
    subst e
    exact .id this
  | _, _, _, .agg h, e => by
    have := RC.ren ks h e
    simp only [AV.ren, Option.map_eq_some_iff] at e
    obtain ⟨ps, e, rfl⟩ := e
    exact .agg this
  | _, _, _, .tup h, e => by
    simp only [AV.ren, Option.map_eq_some_iff] at e
    obtain ⟨ps, e, rfl⟩ := e
    exact .tup (RVL.ren ks h e)
  | v, u, _, .one h h1 h2, e => by
    have := RC.ren ks h e
    refine .one this ?_ ?_
    · rintro y rfl
      cases v with
      | id q => exact h1 _ rfl
      | sl t xs own => cases own <;> simp [AV.ren] at e
      | fn f p q => simp only [AV.ren] at e; split at e <;> cases e
      | _ => simp [AV.ren] at e
    · rintro y rfl
      cases v with
      | agg q => exact h2 _ rfl
      | sl t xs own => cases own <;> simp [AV.ren] at e
      | fn f p q => simp only [AV.ren] at e; split at e <;> cases e
      | _ => simp [AV.ren] at e
theorem RVL.ren {C : Mem} {g : Ghs} (ks : List Nat) : ∀ {v u : List AV} {x : List Value}, RVL C g v x → AV.renL ks v = some u → RVL C (pick ks g) u x
  | _, _, _, .nil, e => by simp only [AV.renL, Option.some.injEq] at e; subst e; exact .nil
  | _, _, _, .cons h t, e => by
    simp only [AV.renL] at e
    split at e
    · rename_i x y e1 e2
      simp only [Option.some.injEq] at e
      subst e
      exact .cons (RV.ren ks h e1) (RVL.ren ks t e2)
    · cases e
end

/-- what freezing does, at values and at cells -/
def FrzOk (X : Ctx) (w0 : World) (C0 : Mem) (fs : List (List Value)) (g : Ghs) (a : Act) (w : World) (f : St → AV → Option (AV × St)) : Prop :=
  ∀ (C : Mem) (st st' : St) (v u : AV), SR X w0 C0 fs C g st a w → f st v = some (u, st') →
    (∀ cs, RC C g v cs → ∃ C', C.le C' ∧ SR X w0 C0 fs C' g st' a w ∧ RC C' [] u cs) ∧
    (∀ x, RV C g v x → ∃ C', C.le C' ∧ SR X w0 C0 fs C' g st' a w ∧ RV C' [] u x)

theorem frzL_RVL {f : St → AV → Option (AV × St)} (hf : FrzOk X w0 C0 fs g a w f) : ∀ (vs us : List AV) (C : Mem) (st st' : St) (xs : List Value), SR X w0 C0 fs C g st a w → frzL f st vs = some (us, st') → RVL C g vs xs →
    ∃ C', C.le C' ∧ SR X w0 C0 fs C' g st' a w ∧ RVL C' [] us xs
  | [], us, C, st, st', xs, h, e, hx => by
    simp only [frzL, Option.some.injEq, Prod.mk.injEq] at e
    obtain ⟨rfl, rfl⟩ := e
    cases hx
    exact ⟨C, Mem.le_refl _, h, .nil⟩
  | v :: vs, us, C, st, st', xs, h, e, hx => by
    cases hx with
    | cons hv ht =>
      simp only [frzL] at e
      split at e
      · rename_i u st1 h1
        split at e
        · rename_i us' st2 h2
          simp only [Option.some.injEq, Prod.mk.injEq] at e
          obtain ⟨rfl, rfl⟩ := e
          obtain ⟨C1, hC1, s1, r1⟩ := (hf C st st1 v u h h1).2 _ hv
          obtain ⟨C2, hC2, s2, r2⟩ := frzL_RVL hf vs us' C1 st1 st2 _ s1 h2 (RVL.mono hC1 (Ghs.le_refl _) ht)
          exact ⟨C2, Mem.le_trans hC1 hC2, s2, .cons (RV.mono hC2 (Ghs.le_refl _) r1) r2⟩
        · cases e
      · cases e
theorem frzL_RCL {f : St → AV → Option (AV × St)} (hf : FrzOk X w0 C0 fs g a w f) : ∀ (vs us : List AV) (C : Mem) (st st' : St) (xs : List Value), SR X w0 C0 fs C g st a w → frzL f st vs = some (us, st') → RCL C g vs xs →
    ∃ C', C.le C' ∧ SR X w0 C0 fs C' g st' a w ∧ RCL C' [] us xs
  | [], us, C, st, st', xs, h, e, hx => by
    simp only [frzL, Option.some.injEq, Prod.mk.injEq] at e
    obtain ⟨rfl, rfl⟩ := e
    cases hx
    exact ⟨C, Mem.le_refl _, h, .nil⟩
  | v :: vs, us, C, st, st', xs, h, e, hx => by
    cases hx with
    | cons hv ht =>
      simp only [frzL] at e
      split at e
      · rename_i u st1 h1
        split at e
        · rename_i us' st2 h2
          simp only [Option.some.injEq, Prod.mk.injEq] at e
          obtain ⟨rfl, rfl⟩ := e
          obtain ⟨C1, hC1, s1, r1⟩ := (hf C st st1 v u h h1).1 _ hv
          obtain ⟨C2, hC2, s2, r2⟩ := frzL_RCL hf vs us' C1 st1 st2 _ s1 h2 (RCL.mono hC1 (Ghs.le_refl _) ht)
          exact ⟨C2, Mem.le_trans hC1 hC2, s2, .cons (RC.mono hC2 (Ghs.le_refl _) r1) r2⟩
        · cases e
      · cases e

theorem RC.mono1 {C C' : Mem} {g : Ghs} (hC : C.le C') {v : AV} {cs : List Value} (h : RC C g v cs) : RC C' g v cs := RC.mono hC (Ghs.le_refl _) h

theorem frz_ok : ∀ n, FrzOk X w0 C0 fs g a w (frz n)
  | 0 => fun C st st' v u h e => by simp [frz] at e
  | n + 1 => fun C st st' v u h e => by
    have ih : FrzOk X w0 C0 fs g a w (frz n) := frz_ok n
    have plain : (v.ren []).map (fun u => (u, st)) = some (u, st') → (∀ cs, RC C g v cs → ∃ C', C.le C' ∧ SR X w0 C0 fs C' g st' a w ∧ RC C' [] u cs) ∧
        (∀ x, RV C g v x → ∃ C', C.le C' ∧ SR X w0 C0 fs C' g st' a w ∧ RV C' [] u x) := by
      intro e
      simp only [Option.map_eq_some_iff, Prod.mk.injEq] at e
      obtain ⟨u', hu, rfl, rfl⟩ := e
      exact ⟨fun cs hc => ⟨C, Mem.le_refl _, h, RC.ren [] hc hu⟩, fun x hx => ⟨C, Mem.le_refl _, h, RV.ren [] hx hu⟩⟩
    cases v with
    | fn f x y =>
      simp only [frz] at e
      split at e
      · rename_i x' st1 h1
        split at e
        · rename_i y' st2 h2
          simp only [Option.some.injEq, Prod.mk.injEq] at e
          obtain ⟨rfl, rfl⟩ := e
          have key : ∀ cs, RC C g (.fn f x y) cs → ∃ C', C.le C' ∧ SR X w0 C0 fs C' g st2 a w ∧ RC C' [] (.fn f x' y') cs := by
            intro cs hc
            cases hc with
            | fn hx hy =>
              obtain ⟨C1, hC1, s1, r1⟩ := frzL_RVL ih x x' C st st1 _ h h1 hx
              obtain ⟨C2, hC2, s2, r2⟩ := frzL_RVL ih y y' C1 st1 st2 _ s1 h2 (RVL.mono hC1 (Ghs.le_refl _) hy)
              exact ⟨C2, Mem.le_trans hC1 hC2, s2, .fn (RVL.mono hC2 (Ghs.le_refl _) r1) r2⟩
          refine ⟨key, fun z hz => ?_⟩
          cases hz with
          | one hz _ _ =>
            obtain ⟨C', hC, s', r'⟩ := key _ hz
            exact ⟨C', hC, s', .one r' (by simp) (by simp)⟩
        · cases e
      · cases e
    | agg ps =>
      simp only [frz] at e
      split at e
      · rename_i x' st1 h1
        simp only [Option.some.injEq, Prod.mk.injEq] at e
        obtain ⟨rfl, rfl⟩ := e
        have key : ∀ cs, RC C g (.agg ps) cs → ∃ C', C.le C' ∧ SR X w0 C0 fs C' g st1 a w ∧ RC C' [] (.agg x') cs := by
          intro cs hc
          cases hc with
          | agg hx =>
            obtain ⟨C1, hC1, s1, r1⟩ := frzL_RCL ih ps x' C st st1 _ h h1 hx
            exact ⟨C1, hC1, s1, .agg r1⟩
        refine ⟨key, fun z hz => ?_⟩
        obtain ⟨cs, rfl, hc⟩ := RV_agg hz
        obtain ⟨C', hC, s', r'⟩ := key _ hc
        exact ⟨C', hC, s', .agg r'⟩
      · cases e
    | loc b o =>
      simp only [frz] at e
      obtain ⟨ho, e2⟩ := cond_some e
      clear e
      have e := e2
      clear e2
      have ho := Nat.eq_of_beq_eq_true ho
      subst ho
      have key : ∀ k, Ghs.box g b = some k → ∃ C', C.le C' ∧ SR X w0 C0 fs C' g st' a w ∧ RC C' [] u [.pointer (some ⟨k, 0, none⟩)] ∧ ∃ q, u = .cptr q := by
        intro k hk
        split at e
        · rename_i q hm
          split at e
          · rename_i q' st2 h2
            simp only [Option.some.injEq, Prod.mk.injEq] at e
            obtain ⟨rfl, rfl⟩ := e
            rw [mget_eq] at hm
            obtain ⟨cs, hu, hC, hrel⟩ := h.rel.freeze hm hk
            have s1 : SR X w0 C0 fs (C.row k cs) g { st with mem := mset st.mem b (.fro q) } a w := by
              rw [mset_eq]
              exact h.up hC (Ghs.le_refl _) hrel
            obtain ⟨C2, hC2, s2, r2⟩ := (ih (C.row k cs) _ _ q q' s1 h2).1 cs (RC.mono1 hC hu)
            exact ⟨C2, Mem.le_trans hC hC2, s2, .cptr r2 ((Mem.row_at).mono hC2), _, rfl⟩
          · cases e
        · rename_i q hm
          split at e
          · rename_i q' st2 h2
            simp only [Option.some.injEq, Prod.mk.injEq] at e
            obtain ⟨rfl, rfl⟩ := e
            rw [mget_eq] at hm
            unfold Ghs.box at hk
            split at hk
            · rename_i k' T hg
              simp only [Option.some.injEq] at hk
              subst hk
              cases h.rel.blk b _ _ hm hg with
              | fro ha hv =>
                obtain ⟨C2, hC2, s2, r2⟩ := (ih C _ _ q q' h h2).1 _ hv
                exact ⟨C2, hC2, s2, .cptr r2 (ha.mono hC2), _, rfl⟩
            · cases hk
          · cases e
        · cases e
      refine ⟨fun cs hc => ?_, fun x hx => ?_⟩
      · cases hc with
        | loc hk =>
          obtain ⟨C', hC, s', r', _⟩ := key _ hk
          exact ⟨C', hC, s', r'⟩
      · obtain ⟨k, hk, rfl⟩ := RV_loc hx
        obtain ⟨C', hC, s', r', q, rfl⟩ := key _ hk
        exact ⟨C', hC, s', .one r' (by simp) (by simp)⟩
    | _ => exact plain (by simpa only [frz] using e)

theorem frz_RV (n : Nat) {v u : AV} {x : Value} {st st' : St} {C : Mem} (h : SR X w0 C0 fs C g st a w) (hx : RV C g v x) (e : frz n st v = some (u, st')) : ∃ C', C.le C' ∧ SR X w0 C0 fs C' g st' a w ∧ RV C' [] u x :=
  (frz_ok n C st st' v u h e).2 x hx

theorem frozen1_spec {v : AV} {x : Value} (h : SR X w0 C0 fs C g st a w) (hx : RV C g v x) : ∃ C', C.le C' ∧ SR X w0 C0 fs C' g (frozen1 st v).2 a w ∧ RV C' [] (frozen1 st v).1 x := by
  unfold frozen1
  split
  · rename_i b off
    obtain ⟨k, hk, rfl⟩ := RV_idsl hx
    split
    · rename_i u hm
      split
      · rename_i a' hat
        rw [mget_eq] at hm
        obtain ⟨cs, hu, hC, hrel⟩ := h.rel.freeze hm hk
        refine ⟨C.row k cs, hC, ?_, ?_⟩
        · rw [mset_eq]
          exact h.up hC (Ghs.le_refl _) hrel
        · obtain ⟨pre, mid, post, rfl, hp, hmid, _, _⟩ := at_spec _ hu hat
          cases hmid
          have hA := At_part (C := C.row k (pre ++ a'.l.map u8v ++ post)) (ad := ⟨k, 0, none⟩) Mem.row_at
          simp only [Nat.zero_add, hp] at hA
          have := RC.sl (C := C.row k (pre ++ a'.l.map u8v ++ post)) (g := []) (t := .u8) (xs := a'.l) (cap := 32) ⟨Nat.le_of_eq a'.h, by rw [show List.length (a'.l : List Ty.u8.den) = 32 from a'.h]; simp [lim]⟩ (TC_u8s hA)
          rw [show List.length (a'.l : List Ty.u8.den) = 32 from a'.h] at this
          exact .one this (by simp) (by simp)
      · exact ⟨C, Mem.le_refl _, h, .any _⟩
    · rename_i u hm
      split
      · rename_i a' hat
        rw [mget_eq] at hm
        refine ⟨C, Mem.le_refl _, h, ?_⟩
        unfold Ghs.box at hk
        split at hk
        · rename_i k' T hg
          simp only [Option.some.injEq] at hk
          subst hk
          cases h.rel.blk b _ _ hm hg with
          | fro ha hv =>
            obtain ⟨pre, mid, post, rfl, hp, hmid, _, _⟩ := at_spec _ hv hat
            cases hmid
            have hA := At_part ha
            simp only [Nat.zero_add, hp] at hA
            have := RC.sl (C := C) (g := []) (t := .u8) (xs := a'.l) (cap := 32) ⟨Nat.le_of_eq a'.h, by rw [show List.length (a'.l : List Ty.u8.den) = 32 from a'.h]; simp [lim]⟩ (TC_u8s hA)
            rw [show List.length (a'.l : List Ty.u8.den) = 32 from a'.h] at this
            exact .one this (by simp) (by simp)
        · cases hk
      · exact ⟨C, Mem.le_refl _, h, .any _⟩
    · exact ⟨C, Mem.le_refl _, h, .any _⟩
  · rename_i f a' c'
    cases hz : frz 8 st (.fn f a' c') with
    | none => exact ⟨C, Mem.le_refl _, h, .any _⟩
    | some p =>
      obtain ⟨u, st'⟩ := p
      simp only [Option.getD_some]
      exact frz_RV 8 h hx hz
  · refine ⟨C, Mem.le_refl _, h, ?_⟩
    cases hr : v.ren [] with
    | none => exact .any _
    | some u =>
      have := RV.ren [] hx hr
      exact this

theorem frozenL_spec : ∀ {vs : List AV} {xs : List Value} {C : Mem} {st : St}, SR X w0 C0 fs C g st a w → RVL C g vs xs → ∃ C', C.le C' ∧ SR X w0 C0 fs C' g (frozenL st vs).2 a w ∧ RVL C' [] (frozenL st vs).1 xs
  | [], _, C, st, h, .nil => ⟨C, Mem.le_refl _, h, .nil⟩
  | v :: vs, _, C, st, h, .cons hv ht => by
    obtain ⟨C1, hC1, h1, hr1⟩ := frozen1_spec h hv
    obtain ⟨C2, hC2, h2, hr2⟩ := frozenL_spec h1 (RVL.mono hC1 (Ghs.le_refl _) ht)
    exact ⟨C2, Mem.le_trans hC1 hC2, h2, .cons (RV.mono hC2 (Ghs.le_refl _) hr1) hr2⟩

end
end Am
end Go.Proofs.Ytkjpoongkdapoaa
