/-
  A symbolic machine over the model, part 8: structs that are built; all pure operations.
-/
import Derived.Test.YtkjpoongkdapoaaBm7
namespace Go.Proofs.Ytkjpoongkdapoaa
namespace Am
open Go Go.RowKit
set_option linter.unusedVariables false
set_option linter.unusedSimpArgs false

section
variable {C : Mem} {g : Ghs}

theorem sameCell_eq {a b : Value} (h : sameCell a b = true) : a = b := by
  unfold sameCell at h
  split at h
  · simp only [Bool.and_eq_true, decide_eq_true_eq] at h
    rw [IntKind.same_eq h.1, h.2]
  · simp only [decide_eq_true_eq] at h; rw [h]
  · rename_i x y
    simp only [decide_eq_true_eq] at h
    congr 1
    apply ByteArray.ext
    exact Array.toList_inj.1 h
  · rfl
  · cases h
theorem sameCells_eq : ∀ {a b : List Value}, sameCells a b = true → a = b
  | [], [], _ => rfl
  | x :: xs, y :: ys, h => by
    simp only [sameCells, Bool.and_eq_true] at h
    rw [sameCell_eq h.1, sameCells_eq h.2]
  | [], _ :: _, h => by simp [sameCells] at h
  | _ :: _, [], h => by simp [sameCells] at h

theorem RC_zero : ∀ (t : Ty), t.ok = true → RC C g (zero2 t).1 (zcells t) ∧ (t.chain = true → RCL C g (zero2 t).2 (zcells t)) := by
  intro t
  induction t with
  | int k => exact fun _ => ⟨.int k 0, fun h => by simp [Ty.chain] at h⟩
  | u8 => exact fun _ => ⟨.u8 0, fun h => by simp [Ty.chain] at h⟩
  | bool => exact fun _ => ⟨.bool false, fun h => by simp [Ty.chain] at h⟩
  | str => exact fun _ => ⟨.str [] (Nat.zero_le _), fun h => by simp [Ty.chain] at h⟩
  | id => exact fun _ => ⟨.id Id.zero, fun h => by simp [Ty.chain] at h⟩
  | unit => exact fun _ => ⟨.agg .nil, fun _ => .nil⟩
  | sl e _ => exact fun _ => ⟨.nilsl, fun h => by simp [Ty.chain] at h⟩
  | pair s t ihs iht =>
    intro h
    simp only [Ty.ok, Bool.and_eq_true] at h
    have := RCL.cons (ihs h.1.1).1 ((iht h.1.2).2 h.2)
    exact ⟨.agg this, fun _ => this⟩

theorem zeroOk_spec {P : Program} {t : TypeId} {ty : Ty} (h : zeroOk P t ty = true) : ∃ i z, P.info? t = some i ∧ i.zero = some z ∧ z.cells.toList = zcells ty ∧ i.size = ty.size ∧ VF P t (zcells ty) z := by
  unfold zeroOk at h
  split at h
  · rename_i i hi
    simp only [Bool.and_eq_true, beq_iff_eq] at h
    split at h
    · rename_i z hz
      simp only [Bool.and_eq_true] at h
      have hc := sameCells_eq h.1.1
      refine ⟨i, z, hi, hz, hc, h.2, ?_⟩
      have hv := h.1.2
      cases z with
      | agg cs => exact .inr ⟨by simpa using hv, by rw [← hc]; simp [Value.cells]⟩
      | tuple _ => simp at hv
      | _ => exact .inl ⟨by simpa using hv, by rw [← hc]; simp [Value.cells]⟩
    · simp at h
  · cases h

theorem run_zeroValue {P : Program} {t : TypeId} {i : TypeInfo} {z : Value} (hi : P.info? t = some i) (hz : i.zero = some z) (w : World) : (zeroValue t).run P w = .ok z w := by
  simp [zeroValue, typeInfo, hi, hz]

/-- cells that are laid over a part -/
theorem foldl_zip (v : List Value) : ∀ (pre mid post : List Value) (s : Nat), mid.length = v.length → s = pre.length →
    (v.zipIdx 0).foldl (fun (cs : Array Value) (c : Value × Nat) => cs.setIfInBounds (s + c.2) c.1) (pre ++ mid ++ post).toArray = (pre ++ v ++ post).toArray := by
  suffices H : ∀ (v pre mid post : List Value) (s k : Nat), mid.length = v.length → s + k = pre.length →
      (v.zipIdx k).foldl (fun (cs : Array Value) (c : Value × Nat) => cs.setIfInBounds (s + c.2) c.1) (pre ++ mid ++ post).toArray = (pre ++ v ++ post).toArray from
    fun pre mid post s hm hs => H v pre mid post s 0 hm (by omega)
  intro v
  induction v with
  | nil =>
    intro pre mid post s k hm _
    have : mid = [] := List.eq_nil_of_length_eq_zero (by simpa using hm)
    subst this
    rfl
  | cons x v ih =>
    intro pre mid post s k hm hs
    match mid, hm with
    | m :: mid, hm =>
      simp only [List.zipIdx_cons, List.foldl_cons]
      have : (pre ++ m :: mid ++ post).toArray.setIfInBounds (s + k) x = ((pre ++ [x]) ++ mid ++ post).toArray := by
        rw [hs, List.setIfInBounds_toArray]
        congr 1
        simp
      rw [this, ih (pre ++ [x]) mid post s (k + 1) (by simpa using hm) (by simp; omega)]
      simp

theorem fill_step {place : Nat → Option (Nat × Nat)} {i : Nat} {v : Value} {rest : List (Nat × Value)} {pre mid post : List Value} (hp : place i = some (pre.length, v.cells.size)) (hm : mid.length = v.cells.size) :
    Instr.fill place (pre ++ mid ++ post).toArray ((i, v) :: rest) = Instr.fill place (pre ++ v.cells.toList ++ post).toArray rest := by
  have hle : ¬ ((pre ++ mid ++ post).toArray.size < pre.length + v.cells.size) := by simp; omega
  simp only [Instr.fill, hp, ne_eq, not_true, decide_false, Bool.false_or]
  rw [if_neg (by simpa using hle)]
  congr 1
  rw [← foldl_zip v.cells.toList pre mid post pre.length (by simpa using hm) rfl]
  rw [← Array.foldl_toList]
  simp

theorem RCL_part : ∀ {ps : List AV} {cs : List Value}, RCL C g ps cs → ∀ (i : Nat) (p : AV), ps[i]? = some p → ∃ pre mid post, cs = pre ++ mid ++ post ∧ pre.length = AV.sizes (ps.take i) ∧ mid.length = p.size ∧
      ∀ (v : AV) (new : List Value), RC C g v new → RCL C g (ps.set i v) (pre ++ new ++ post)
  | _, _, .nil, i, p, h => by simp at h
  | _, _, .cons (p := q) (c := c) (cs := cs) h t, 0, p, e => by
    simp at e; subst e
    exact ⟨[], c, cs, by simp, by simp [AV.sizes], RC_size h, fun v new hv => by simpa using RCL.cons hv t⟩
  | _, _, .cons (p := q) (ps := ps) (c := c) h t, i + 1, p, e => by
    obtain ⟨pre, mid, post, hcs, hl, hm, hset⟩ := RCL_part t i p (by simpa using e)
    refine ⟨c ++ pre, mid, post, by simp [hcs], by simp [AV.sizes, hl, RC_size h], hm, fun v new hv => ?_⟩
    have := RCL.cons h (hset v new hv)
    simpa using this

theorem layOk_spec {P : Program} : ∀ (fs : List Field) (off : Nat) (zs : List AV), layOk P off fs zs = true → ∀ (i : Nat) (z : AV), zs[i]? = some z → ∃ f, fs[i]? = some f ∧ f.offset = off + AV.sizes (zs.take i) ∧ P.cellsOf f.type = z.size ∧ (P.info? f.type).isSome = true
  | [], _, [], _, i, z, h => by simp at h
  | f :: fs, off, z :: zs, h, i, z', e => by
    simp only [layOk, Bool.and_eq_true, beq_iff_eq] at h
    cases i with
    | zero => simp at e; subst e; exact ⟨f, rfl, by simp [AV.sizes, h.1.1.1], h.1.1.2, h.1.2⟩
    | succ i =>
      obtain ⟨f', hf, ho, hs, hi⟩ := layOk_spec fs _ zs h.2 i z' (by simpa using e)
      exact ⟨f', by simpa using hf, by simp [AV.sizes, ho]; omega, hs, hi⟩
  | [], _, _ :: _, h, _, _, _ => by simp [layOk] at h
  | _ :: _, _, [], h, _, _, _ => by simp [layOk] at h

theorem layOk_set {P : Program} : ∀ (fs : List Field) (off : Nat) (zs : List AV), layOk P off fs zs = true → ∀ (i : Nat) (z v : AV), zs[i]? = some z → v.size = z.size → layOk P off fs (zs.set i v) = true
  | [], _, [], _, i, z, v, h, _ => by simp at h
  | f :: fs, off, z :: zs, h, i, z', v, e, hs => by
    simp only [layOk, Bool.and_eq_true, beq_iff_eq] at h
    cases i with
    | zero =>
      simp at e; subst e
      simp only [List.set_cons_zero, layOk, Bool.and_eq_true, beq_iff_eq, hs]
      exact h
    | succ i =>
      have := layOk_set fs _ zs h.2 i z' v (by simpa using e) hs
      simp only [List.set_cons_succ, layOk, Bool.and_eq_true, beq_iff_eq]
      exact ⟨h.1, this⟩
  | [], _, _ :: _, h, _, _, _, _, _ => by simp [layOk] at h
  | _ :: _, _, [], h, _, _, _, _, _ => by simp [layOk] at h

theorem evalParts_RV {st : St} {a : Act} (ht : RVL C g st.tmps a.tmps.toList) : ∀ {xs : List (Nat × Operand)} {vs : List (Nat × AV)}, evalParts st xs = some vs → vs.map (·.1) = xs.map (·.1) ∧ RVL C g (vs.map (·.2)) (xs.map fun p => a.eval p.2)
  | [], vs, h => by simp [evalParts] at h; subst h; exact ⟨rfl, .nil⟩
  | (i, x) :: xs, vs, h => by
    simp only [evalParts] at h
    split at h
    · rename_i v vs' hv hvs
      simp at h; subst h
      obtain ⟨h1, h2⟩ := evalParts_RV ht hvs
      exact ⟨by simp [h1], .cons (evalOp_RV ht hv) h2⟩
    · simp at h

theorem RV_solid {v : AV} {x : Value} (h : RV C g v x) (hs : v.solid = true) : RC C g v x.cells.toList := by
  refine RV_cells h ?_ ?_ ?_
  · rintro rfl; simp [AV.solid] at hs
  · rintro vs rfl; simp [AV.solid] at hs
  · rintro t n b rfl; simp [AV.solid] at hs

theorem fill_parts {P : Program} {fs : Array Field} {places : Array (Nat × Nat)} (hp : ∀ (i : Nat) (f : Field), fs[i]? = some f → (P.info? f.type).isSome = true → places[i]? = some (f.offset, P.cellsOf f.type)) :
    ∀ (vs : List (Nat × AV)) (ys : List (Nat × Value)) (ps ps' : List AV) (cs : List Value), vs.map (·.1) = ys.map (·.1) → RVL C g (vs.map (·.2)) (ys.map (·.2)) → RCL C g ps cs → layOk P 0 fs.toList ps = true → setPart ps vs = some ps' →
      ∃ cs', Instr.fill (places[·]?) cs.toArray ys = some cs'.toArray ∧ RCL C g ps' cs' := by
  intro vs
  induction vs with
  | nil =>
    intro ys ps ps' cs h1 _ h3 _ h5
    match ys, h1 with
    | [], _ =>
      simp only [setPart, Option.some.injEq] at h5
      subst h5
      exact ⟨cs, rfl, h3⟩
  | cons v vs ih =>
    intro ys ps ps' cs h1 h2 h3 h4 h5
    obtain ⟨i, v⟩ := v
    match ys, h1 with
    | (i', y) :: ys, h1 =>
      simp only [List.map_cons, List.cons.injEq] at h1
      obtain ⟨hi, h1⟩ := h1
      have hi : i = i' := hi
      subst hi
      simp only [List.map_cons] at h2
      cases h2 with
      | cons hv h2 =>
        simp only [setPart, mget_eq] at h5
        cases hpi : ps[i]? with
        | none => simp [hpi] at h5
        | some p =>
          simp only [hpi] at h5
          obtain ⟨h6, h7⟩ := cond_some h5
          simp only [Bool.and_eq_true, beq_iff_eq] at h6
          obtain ⟨pre, mid, post, rfl, hl, hm, hset⟩ := RCL_part h3 i p hpi
          obtain ⟨f, hf, ho, hs, hinfo⟩ := layOk_spec _ _ _ h4 i p hpi
          have hrc := RV_solid hv h6.2
          have hsz := RC_size hrc
          have hcs : y.cells.size = p.size := by rw [← Array.length_toList, hsz, h6.1]
          have hpl := hp i f (by simpa using hf) hinfo
          have hfill := fill_step (place := (places[·]?)) (i := i) (v := y) (rest := ys) (pre := pre) (mid := mid) (post := post) (by
            rw [hpl, ho, hs, hcs, hl]; simp) (by rw [hm, hcs])
          obtain ⟨cs', hf', hr'⟩ := ih ys (ps.set i v) ps' (pre ++ y.cells.toList ++ post) h1 h2 (hset v _ hrc) (layOk_set _ _ _ h4 i p v hpi h6.1.symm) (by rw [← mset_eq]; exact h7)
          exact ⟨cs', by rw [hfill]; exact hf', hr'⟩

theorem fill_bytes : ∀ (vs : List (Nat × AV)) (ys : List (Nat × Value)) (a a' : Id), vs.map (·.1) = ys.map (·.1) → RVL C g (vs.map (·.2)) (ys.map (·.2)) → setByte a vs = some a' →
      Instr.fill (fun i => some (i * 1, 1)) (a.l.map u8v).toArray ys = some (a'.l.map u8v).toArray := by
  intro vs
  induction vs with
  | nil =>
    intro ys a a' h1 _ h5
    match ys, h1 with
    | [], _ =>
      simp only [setByte, Option.some.injEq] at h5
      subst h5
      rfl
  | cons v vs ih =>
    intro ys a a' h1 h2 h5
    obtain ⟨i, v⟩ := v
    match ys, h1 with
    | (i', y) :: ys, h1 =>
      simp only [List.map_cons, List.cons.injEq] at h1
      obtain ⟨hi, h1'⟩ := h1
      have hi : i = i' := hi
      subst hi
      simp only [List.map_cons] at h2
      cases h2 with
      | cons hv h2 =>
        cases v with
        | u8 b =>
          simp only [setByte] at h5
          obtain ⟨h6, h7⟩ := cond_some h5
          simp only [decide_eq_true_eq] at h6
          have hy := RV_u8 hv
          subst hy
          have hlen : i < (a.l.map u8v).length := by rw [List.length_map, a.h]; exact h6
          have hsplit : a.l.map u8v = (a.l.map u8v).take i ++ [(a.l.map u8v)[i]] ++ (a.l.map u8v).drop (i + 1) := by
            rw [List.append_assoc, List.singleton_append, List.getElem_cons_drop, List.take_append_drop]
          have hset : (a.l.map u8v).take i ++ [u8v b] ++ (a.l.map u8v).drop (i + 1) = ((a.set i b).l.map u8v) := by
            simp only [Id.set]
            rw [List.map_set, List.set_eq_take_append_cons_drop, if_pos (by simpa using hlen)]
            simp
          have hc : (u8v b).cells.size = 1 := rfl
          have hfill := fill_step (place := fun i => some (i * 1, 1)) (i := i) (v := u8v b) (rest := ys) (pre := (a.l.map u8v).take i) (mid := [(a.l.map u8v)[i]]) (post := (a.l.map u8v).drop (i + 1)) (by
            simp only [hc, List.length_take]; rw [Nat.min_eq_left (by omega)]; simp) (by rfl)
          rw [← hsplit] at hfill
          rw [hfill]
          have : (u8v b).cells.toList = [u8v b] := rfl
          rw [this, hset]
          exact ih ys (a.set i b) a' h1' h2 h7
        | _ => simp [setByte] at h5

theorem places_run {P : Program} (w : World) : ∀ (fs : List Field), (∀ f ∈ fs, (P.info? f.type).isSome = true) → (fs.mapM (fun f => (do pure (f.offset, ← sizeOf f.type) : Sem (Nat × Nat)))).run P w = .ok (fs.map fun f => (f.offset, P.cellsOf f.type)) w := by
  intro fs
  induction fs with
  | nil => intro _; simp
  | cons f fs ih =>
    intro h
    obtain ⟨i, hi⟩ := Option.isSome_iff_exists.1 (h f (by simp))
    have hs : (sizeOf f.type).run P w = .ok (P.cellsOf f.type) w := by simp [sizeOf, typeInfo, hi, Program.cellsOf]
    have := ih fun f' hf' => h f' (by simp [hf'])
    simp only [List.mapM_cons, Sem.run_bind, hs, Result.andThen_ok, Sem.run_pure, this, List.map_cons]

theorem layOk_info {P : Program} : ∀ (fs : List Field) (off : Nat) (zs : List AV), layOk P off fs zs = true → ∀ f ∈ fs, (P.info? f.type).isSome = true
  | [], _, _, _, f, hf => by simp at hf
  | f :: fs, off, z :: zs, h, f', hf' => by
    simp only [layOk, Bool.and_eq_true] at h
    rcases List.mem_cons.1 hf' with rfl | hm
    · exact h.1.2
    · exact layOk_info fs _ zs h.2 f' hm
  | _ :: _, _, [], h, _, _ => by simp [layOk] at h

theorem build_run {E : Env} {st : St} {a : Act} (ht : RVL C g st.tmps a.tmps.toList) {t : TypeId} {xs : List (Nat × Operand)} {vs : List (Nat × AV)} {v : AV} {ok : Bool} (he : evalParts st xs = some vs) (h : buildAV E t vs = some (ok, v)) :
    ∃ z, RV C g v z ∧ ∀ w : World, (Instr.build t (xs.map fun p => (p.1, a.eval p.2)).toArray).run E.P w = .ok z w := by
  obtain ⟨h1, h2⟩ := evalParts_RV ht he
  have hm1 : vs.map (·.1) = (xs.map fun p => (p.1, a.eval p.2)).map (·.1) := by rw [h1]; simp
  have hm2 : RVL C g (vs.map (·.2)) ((xs.map fun p => (p.1, a.eval p.2)).map (·.2)) := by simpa [Function.comp_def] using h2
  unfold buildAV at h
  cases hu : E.P.underlying t with
  | none => simp [hu] at h
  | some d =>
    cases hty : E.ty t with
    | none => cases d <;> simp [hu, hty] at h
    | some ty =>
      cases d with
      | array n e =>
        cases ty with
        | id =>
          simp only [hu, hty] at h
          obtain ⟨h3, h4⟩ := cond_some h
          simp only [Bool.and_eq_true, beq_iff_eq] at h3
          simp only [Option.map_eq_some_iff, Prod.mk.injEq] at h4
          obtain ⟨a', hs, _, rfl⟩ := h4
          obtain ⟨i, z, hi, hz, hc, _, _⟩ := zeroOk_spec h3.1.1
          have hue := isU8_under h3.1.2
          refine ⟨_, .id (.id a'), fun w => ?_⟩
          have hzc : z.cells = (Id.zero.l.map u8v).toArray := by rw [← Array.toList_inj, hc]; rfl
          have := fill_bytes vs _ Id.zero a' hm1 hm2 hs
          simp only [Instr.build, Sem.run_bind, run_zeroValue hi hz w, Result.andThen_ok, run_underlying hu, run_sizeOf' hue w, h3.2, hzc, this, Sem.run_pure]
        | _ => simp only [hu, hty, reduceCtorEq] at h
      | struct fs =>
        simp only [hu, hty] at h
        split at h
        · rename_i zs hzs
          obtain ⟨h3, h4⟩ := cond_some h
          simp only [Bool.and_eq_true] at h3
          simp only [Option.map_eq_some_iff, Prod.mk.injEq] at h4
          obtain ⟨ps', hs, _, rfl⟩ := h4
          obtain ⟨i, z, hi, hz, hc, _, _⟩ := zeroOk_spec h3.1.1
          have hrc := (RC_zero (C := C) (g := g) ty h3.1.2).1
          have hzs' : (zero2 ty).1 = .agg zs := hzs
          rw [hzs'] at hrc
          cases hrc with
          | agg hrcl =>
            obtain ⟨cs', hf, hr'⟩ := fill_parts (P := E.P) (fs := fs) (places := (fs.toList.map fun f => (f.offset, E.P.cellsOf f.type)).toArray) (fun i f hf _ => by simp [hf]) vs _ zs ps' _ hm1 hm2 hrcl h3.2 hs
            refine ⟨_, .agg (.agg hr'), fun w => ?_⟩
            have hzc : z.cells = (zcells ty).toArray := by rw [← Array.toList_inj, hc]
            have hpl := places_run (P := E.P) w fs.toList (layOk_info _ _ _ h3.2)
            have hpl' : (fs.mapM (fun f => (do pure (f.offset, ← sizeOf f.type) : Sem (Nat × Nat)))).run E.P w = .ok (fs.toList.map fun f => (f.offset, E.P.cellsOf f.type)).toArray w := by
              rw [Array.mapM_eq_mapM_toList]
              simp only [Sem.run_map, hpl, Result.andThen_ok]
            simp only [Instr.build, Sem.run_bind, run_zeroValue hi hz w, Result.andThen_ok, run_underlying hu, hpl', hzc, hf, Sem.run_pure]
        · simp at h
      | _ => simp only [hu, hty, reduceCtorEq] at h

end
end Am
end Go.Proofs.Ytkjpoongkdapoaa
