/-
  A symbolic machine over the model, part 14: every operation is the model's.
-/
import Derived.Test.YtkjpoongkdapoaaBm13
import Derived.Lib.ConvBytes
namespace Go.Proofs.Ytkjpoongkdapoaa
namespace Am
open Go Go.RowKit
set_option linter.unusedVariables false
set_option linter.unusedSimpArgs false

section
variable {X : Ctx} {w0 w : World} {C0 C : Mem} {fs : List (List Value)} {g : Ghs} {st : St} {a : Act}

theorem flat_snd : ∀ (ys : List (Nat × Value)), (ys.flatMap fun p => p.2.cells.toList) = (ys.map (·.2)).flatMap fun y => y.cells.toList
  | [] => rfl
  | p :: ys => by simp [flat_snd ys]

theorem elp_store {P : Program} {t : TypeId} {ty : Ty} {b : Nat} {i : Int} {el : TypeId} {xs : List ty.den} {x y : Value} {v : AV} {d : ty.den} (h : SR X w0 C0 fs C g st a w) (hm : mget st.mem b = some (.arr ty el xs)) (hp : RV C g (.elp ty b i) x) (hv : RV C g v y) (hs : v.solid = true)
    (hd : dec ty v = some d) (hi : (P.info? t).isSome = true) (hz : v.size = sizeT P t) :
    ∃ (k : Nat) (cs : List Value), x = .pointer (some ⟨k, i.toNat * ty.size, none⟩) ∧ (Instr.storeAt t (.pointer (some ⟨k, i.toNat * ty.size, none⟩)) y).run P w = .ok () (w.setRow k cs.toArray) ∧
      SR X w0 C0 fs C g { st with mem := mset st.mem b (.arr ty el (dset ty xs i d)) } a (w.setRow k cs.toArray) := by
  obtain ⟨k, e', n, hx, hg, hi0, hi1⟩ := RV_elp hp
  have hrc := RV_solid hv hs
  have htc := TC_dec' hrc hd
  rw [mget_eq] at hm
  cases h.rel.blk b _ _ hm hg with
  | arr g0 g1 g2 g3 g4 g5 =>
    rename_i cap cs sp
    have hlt : i.toNat < xs.length := by omega
    obtain ⟨pre, mid, post, hcs, hpl, hml, hset⟩ := g3.set i.toNat d y.cells.toList hlt htc
    subst hcs
    have hl := RC_size hrc
    have hl2 := TC_size _ _ _ htc
    have hheap : w.heap[k]? = some (.cells (pre ++ mid ++ (post ++ sp)).toArray el (0, 0)) := by rw [g1, ← List.append_assoc]
    have hsz : y.cells.size = P.cellsOf t := by rw [← Array.length_toList, hl, hz]; rfl
    have hrun := store_run (P := P) (t := t) (y := y) hi hsz hheap hpl (by rw [hml, ← hl2]; simp) (RC_one hrc)
    refine ⟨k, pre ++ y.cells.toList ++ (post ++ sp), hx, hrun, ?_⟩
    rw [mset_eq]
    refine h.up (Mem.le_refl _) (Ghs.le_refl _) (h.rel.over hm hg rfl rfl ⟨rfl, rfl, rfl, by simp, fun j _ hj => setRow_other w k j _ (fun e => hj (by rw [e]))⟩ g5 ?_)
    have hlen : (dset ty xs i d).length = xs.length := by simp [dset]
    have hb := BlkRel.arr (X := X) (C := C) (g := g) (w := w.setRow k (pre ++ y.cells.toList ++ (post ++ sp)).toArray) (t := ty) (e := el) (xs := dset ty xs i d) (k := k) (cap := cap) (cs := pre ++ y.cells.toList ++ post) (sp := sp) g0
      (by rw [← List.append_assoc]; exact setRow_heap w k _ _ el _ hheap) (by rw [← g2]; simp only [List.length_append]; omega) hset ⟨by rw [hlen]; exact g4.1, g4.2.1, by rw [hlen]; exact g4.2.2⟩ g5
    rw [hlen] at hb
    exact hb
theorem dec_cls {t : Ty} {v : AV} {x : t.den} (h : dec t v = some x) (h1 : ∀ q, v ≠ .id q) (h2 : ∀ q, v ≠ .agg q) : (enc t x).cls = 0 := by
  cases t <;> first | rfl | skip
  all_goals (exfalso; cases v <;> first | exact h1 _ rfl | exact h2 _ rfl | simp [dec, dec2] at h)
theorem dec_cls2 {t : Ty} {v : AV} {x : t.den} (h : dec t v = some x) (h1 : (∃ q, v = .id q) ∨ ∃ q, v = .agg q) : (enc t x).cls = 1 ∨ (enc t x).cls = 2 := by
  rcases h1 with ⟨q, rfl⟩ | ⟨q, rfl⟩
  all_goals (cases t <;> first | exact .inl rfl | exact .inr rfl | (simp [dec, dec2] at h))
theorem dec_RV {t : Ty} {v : AV} {x : t.den} {y : Value} (hok : t.ok = true) (hv : RV C g v y) (hd : dec t v = some x) : RV C [] (enc t x) y := by
  cases hv with
  | any => cases t <;> simp [dec, dec2] at hd
  | raw => cases t <;> simp [dec, dec2] at hd
  | tup => cases t <;> simp [dec, dec2] at hd
  | id h => exact RC_RV1 (RC_enc' hok (TC_dec' h hd)) (dec_cls2 hd (.inl ⟨_, rfl⟩))
  | agg h => exact RC_RV1 (RC_enc' hok (TC_dec' h hd)) (dec_cls2 hd (.inr ⟨_, rfl⟩))
  | one h h1 h2 =>
    obtain ⟨q, hq, hr⟩ := RC_RV0 (RC_enc' (g := []) hok (TC_dec' h hd)) (dec_cls hd h1 h2) rfl
    simp only [List.cons.injEq, and_true] at hq
    rw [hq]; exact hr
theorem clear_sr {E : Env} {tT rt el el2 : TypeId} {ty : Ty} {b : Nat} {lo hi : Int} {xs : List ty.den} {x : Value} (h : SR X w0 C0 fs C g st a w) (hm : mget st.mem b = some (.arr ty el2 xs)) (hp : RV C g (.asl ty b lo hi) x) (he : elemT E.P tT = some el) (hz : zeroOk E.P el ty = true) (_hsz : 0 < ty.size) (heq : el = el2) :
    ∃ w', (Builtin.clear_ #[tT] rt #[x]).run E.P w = .ok (.tuple #[]) w' ∧ SR X w0 C0 fs C g { st with mem := mset st.mem b (.arr ty el2 (dclear ty xs lo hi)) } a w' := by
  subst heq
  obtain ⟨blk, e', n, cap0, base, rfl, hg, h0, hb⟩ := RV_asl hp
  obtain ⟨i, z, hi0, hz0, hzc, hzs, _⟩ := zeroOk_spec hz
  have hu := elemT_spec he
  rw [mget_eq] at hm
  have same : ∀ {xs : List ty.den}, hi - lo = 0 → dclear ty xs lo hi = xs := by
    intro xs hh
    have : hi.toNat = lo.toNat := by omega
    simp [dclear, this]
  by_cases hh : hi - lo = 0
  · refine ⟨w, ?_, ?_⟩
    · rw [hh]
      cases base <;> simp [Builtin.clear_, run_underlying hu]
    · rw [same hh, mset_eq]
      have hself : st.mem.set b (.arr ty el xs) = st.mem := by
        apply List.ext_getElem?
        intro j
        rw [List.getElem?_set]
        split
        · rename_i hj
          subst hj
          rw [if_pos (lt_of_getElem? hm), hm]
        · rfl
      rw [hself]
      exact h
  · obtain ⟨k, rfl, rfl⟩ := hb (by omega)
    cases h.rel.blk b _ _ hm hg with
    | arr g0 g1 g2 g3 g4 g5 =>
      rename_i cap cs sp
      obtain ⟨c1, c23, hcs, k1, k23⟩ := g3.split lo.toNat
      obtain ⟨c2, c3, hcs2, k2, k3⟩ := k23.split (hi.toNat - lo.toNat)
      have hl1 := k1.length
      have hl2 := k2.length
      simp only [List.length_take, List.length_drop] at hl1 hl2
      have e1 : min lo.toNat xs.length = lo.toNat := by omega
      have e2 : min (hi.toNat - lo.toNat) (xs.length - lo.toNat) = hi.toNat - lo.toNat := by omega
      rw [e1] at hl1
      rw [e2] at hl2
      have kz : CellsL C ty (List.replicate (hi.toNat - lo.toNat) ty.zero) (List.replicate (hi.toNat - lo.toNat) (zcells ty)).flatten := CellsL.zeros ty _
      have hlz := kz.length
      rw [List.length_replicate] at hlz
      have hdr : (xs.drop lo.toNat).drop (hi.toNat - lo.toNat) = xs.drop hi.toNat := by rw [List.drop_drop, show lo.toNat + (hi.toNat - lo.toNat) = hi.toNat by omega]
      rw [hdr] at k3
      have hnew : CellsL C ty (dclear ty xs lo hi) (c1 ++ (List.replicate (hi.toNat - lo.toNat) (zcells ty)).flatten ++ c3) := by
        unfold dclear
        exact (k1.append kz).append k3
      have hheap : w.heap[k]? = some (.cells (c1 ++ c2 ++ (c3 ++ sp)).toArray el (0, 0)) := by rw [g1, hcs, hcs2]; simp
      have hzn : (hi - lo).toNat = hi.toNat - lo.toNat := by omega
      have hzcl : (Builtin.zeroCells z.cells (hi - lo).toNat).toList = (List.replicate (hi.toNat - lo.toNat) (zcells ty)).flatten := by rw [zeroCells_flat, hzc, hzn]
      have hst := run_storeCells_at E.P k (lo.toNat * ty.size) el (List.replicate (hi.toNat - lo.toNat) (zcells ty)).flatten 0 (c1 ++ c2 ++ (c3 ++ sp)).toArray w hheap (by simp only [List.size_toArray, List.length_append, Nat.add_zero, hlz, hl1, hl2]; omega) (fun v hv => kz.one v hv)
      have f1 : ((c1 ++ c2 ++ (c3 ++ sp)).toArray.toList.take (lo.toNat * ty.size + 0)) = c1 := by
        simp only [Nat.add_zero, List.append_assoc]
        rw [← hl1]; exact List.take_left
      have f2 : ((c1 ++ c2 ++ (c3 ++ sp)).toArray.toList.drop (lo.toNat * ty.size + 0 + (List.replicate (hi.toNat - lo.toNat) (zcells ty)).flatten.length)) = c3 ++ sp := by
        rw [hlz, Nat.add_zero, ← hl1, ← hl2, ← List.length_append]
        exact List.drop_left
      rw [f1, f2] at hst
      refine ⟨w.setRow k (c1 ++ (List.replicate (hi.toNat - lo.toNat) (zcells ty)).flatten ++ (c3 ++ sp)).toArray, ?_, ?_⟩
      · obtain ⟨m, hm2⟩ : ∃ m, (hi - lo).toNat = m + 1 := ⟨(hi - lo).toNat - 1, by omega⟩
        rw [hm2] at hzcl ⊢
        simp only [Builtin.clear_, List.getElem?_toArray, List.getElem?_cons_zero, Sem.run_bind, run_underlying hu, Result.andThen_ok, run_zeroValue hi0 hz0, hzcl, hst, Sem.run_pure]
      · rw [mset_eq]
        refine h.up (Mem.le_refl _) (Ghs.le_refl _) (h.rel.over hm hg rfl rfl ⟨rfl, rfl, rfl, by simp, fun j _ hj => setRow_other w k j _ (fun e => hj (by rw [e]))⟩ g5 ?_)
        have hlen : (dclear ty xs lo hi).length = xs.length := by
          simp only [dclear, List.length_append, List.length_take, List.length_replicate, List.length_drop]
          omega
        have hb := BlkRel.arr (X := X) (C := C) (g := g) (w := w.setRow k (c1 ++ (List.replicate (hi.toNat - lo.toNat) (zcells ty)).flatten ++ (c3 ++ sp)).toArray) (t := ty) (e := el) (xs := dclear ty xs lo hi) (k := k) (cap := cap) (cs := c1 ++ (List.replicate (hi.toNat - lo.toNat) (zcells ty)).flatten ++ c3) (sp := sp) g0
          (by rw [List.append_assoc _ c3]; exact setRow_heap w k _ _ el _ hheap) (by
            rw [← g2, hcs, hcs2]
            simp only [List.length_append, hlz, hl2]
            omega) hnew ⟨by rw [hlen]; exact g4.1, g4.2.1, by rw [hlen]; exact g4.2.2⟩ g5
        rw [hlen] at hb
        exact hb
theorem born_push {es : Array MapEntry} {clock : Nat} {k v : Value} (h : BornOk es clock) : BornOk (es.push ⟨k, v, clock⟩) (clock + 1) := by
  obtain ⟨h1, h2⟩ := h
  refine ⟨?_, fun x hx => ?_⟩
  · rw [Array.toList_push, List.map_append, List.nodup_append]
    refine ⟨h1, by simp, fun a ha b hb hab => ?_⟩
    obtain ⟨x, hx, rfl⟩ := List.mem_map.1 ha
    simp only [List.map_cons, List.map_nil, List.mem_singleton] at hb
    have := h2 x hx
    omega
  · rw [Array.toList_push] at hx
    rcases List.mem_append.1 hx with hx | hx
    · have := h2 x hx; omega
    · simp only [List.mem_singleton] at hx
      subst hx
      simp
theorem born_set {es es' : Array MapEntry} {clock j : Nat} {e e' : MapEntry} (h : BornOk es clock) (hs : es'.toList = es.toList.set j e') (he : es.toList[j]? = some e) (hb : e'.born = e.born) : BornOk es' clock := by
  obtain ⟨h1, h2⟩ := h
  have hm : es'.toList.map (·.born) = es.toList.map (·.born) := by
    rw [hs, List.map_set, hb]
    apply List.ext_getElem?
    intro q
    rw [List.getElem?_set]
    by_cases hq : j = q
    · subst hq
      rw [if_pos rfl, List.getElem?_map, he]
      have hlt : j < es.toList.length := by
        rcases Nat.lt_or_ge j es.toList.length with h | h
        · exact h
        · rw [List.getElem?_eq_none h] at he; cases he
      rw [List.length_map, if_pos hlt]; rfl
    · rw [if_neg hq]
  refine ⟨by rw [hm]; exact h1, fun x hx => ?_⟩
  rw [hs] at hx
  rcases List.mem_or_eq_of_mem_set hx with hx | rfl
  · exact h2 x hx
  · rw [hb]; exact h2 e (List.mem_of_getElem? he)
theorem mapPut_sr {E : Env} {t : TypeId} {ty : Ty} {b : Nat} {kv : List (Int × ty.den)} {n : Int} {x y : Value} {v : AV} {d : ty.den} (h : SR X w0 C0 fs C g st a w) (hm : mget st.mem b = some (.mp ty kv)) (hp : RV C g (.mref b) x) (hv : RV C g v y) (hd : dec ty v = some d) (hok : mapOk E.P t ty = true) :
    ∃ w', (Instr.mapUpdate t x (.int .i64 n) y).run E.P w = .ok () w' ∧ SR X w0 C0 fs C g { st with mem := mset st.mem b (.mp ty (mpset ty kv n d)) } a w' := by
  obtain ⟨k, hx, hg⟩ := RV_mref hp
  subst hx
  obtain ⟨kt, e, hu, hk, hz, htok, hc, hT⟩ := mapOk_spec hok
  have hkey : MapKept.IsKey (.int .i64) (.int .i64 n) := rfl
  have hyr : RV C [] (enc ty d) y := dec_RV htok hv hd
  rw [mget_eq] at hm
  cases h.rel.blk b _ _ hm hg with
  | mp g0 g1 g2 g3 =>
    rename_i es clock
    have hCn : ∀ o s, C ⟨k, o, s⟩ = none := fun o s => by
      cases hq : C ⟨k, o, s⟩ with
      | none => rfl
      | some q =>
        have := h.rel.sub _ _ hq
        unfold World.cell? at this
        simp only [g1, reduceCtorEq] at this
    have hup : ∀ (es' : Array MapEntry) (c' : Nat), EntR C ty (mpset ty kv n d) es'.toList → BornOk es' c' → SR X w0 C0 fs C g { st with mem := mset st.mem b (.mp ty (mpset ty kv n d)) } a { w with heap := w.heap.setIfInBounds k (.map es' c') } := by
      intro es' c' he hbn
      rw [mset_eq]
      have hh := MapKept.heap_set (o' := .map es' c') g1
      exact h.up (Mem.le_refl _) (Ghs.le_refl _) (h.rel.over hm hg rfl rfl ⟨rfl, rfl, rfl, by simp, fun j _ hj => hh.2 j (fun e => hj (by rw [e]))⟩ hCn (.mp g0 hh.1 he hbn))
    rcases find_key n g2 0 with ⟨f1, f2, f3, f4⟩ | ⟨p, j, e', f1, f2, f3, f4, f5, f6, f7⟩
    · refine ⟨_, ?_, hup (es.push ⟨.int .i64 n, y, clock⟩) (clock + 1) (by rw [Array.toList_push]; exact f4 d y clock hyr) (born_push g3)⟩
      simp [Instr.mapUpdate, run_underlying hu, MapKept.run_getObj_map g1, MapKept.run_checkKey hk hkey, MapKept.run_findKey hk f2, MapKept.run_setObj_map _ g1]
    · rw [Nat.zero_add] at f3
      have hj : es[j]? = some e' := by rw [← Array.getElem?_toList]; exact f4
      have hset : (es.modify j fun q => { q with key := .int .i64 n, val := y }).toList = es.toList.set j { e' with key := .int .i64 n, val := y } := by
        apply List.ext_getElem?
        intro q
        rw [Array.getElem?_toList, Array.getElem?_modify, List.getElem?_set]
        by_cases hq : j = q
        · subst hq
          have hlt : j < es.toList.length := CellsL.row.lt_of_get f4
          rw [if_pos rfl, if_pos rfl, hj, if_pos hlt]
          rfl
        · rw [if_neg hq, if_neg hq, Array.getElem?_toList]
      refine ⟨_, ?_, hup (es.modify j fun q => { q with key := .int .i64 n, val := y }) clock (by rw [hset]; exact f7 d y hyr) (born_set g3 hset f4 rfl)⟩
      have hkk : ((es[j]?).map (·.key)).getD (.int .i64 n) = .int .i64 n := by rw [hj]; exact f5
      simp [Instr.mapUpdate, run_underlying hu, MapKept.run_getObj_map g1, MapKept.run_checkKey hk hkey, MapKept.run_findKey hk f3, MapKept.run_setObj_map _ g1, hj, f5, MapKept.run_keyThatStays hkey]
theorem mapPut_step {E : Env} {t : TypeId} {m k x : Operand} {ρ : Type} {K : St → Option ρ} {r : ρ} {o : Oper} {next : Act → World → Prop} {Q : Exit → Act → World → Prop} (ho : execOp a.eval o = (do Instr.mapUpdate t (a.eval m) (a.eval k) (a.eval x); pure .skip)) (h : SR X w0 C0 fs C g st a w) (e : mapPut E t m k x o.dst st K = some r)
    (hn : ∀ (st' : St) (a' : Act) (w' : World), Good X w0 C0 fs st' a' w' → K st' = some r → next a' w') : o.wp E.P a w next Q := by
  unfold mapPut at e
  cases hm : evalOp st m with
  | none => simp [hm] at e
  | some vm =>
    cases hk : evalOp st k with
    | none => cases vm <;> simp [hm, hk] at e
    | some vk =>
      cases hx : evalOp st x with
      | none => cases vm <;> simp [hm, hk, hx] at e
      | some vx =>
        simp only [hm, hk, hx] at e
        split at e
        · rename_i b n v e1 e2 e3
          simp only [Option.some.injEq] at e1 e2 e3
          subst e1; subst e2; subst e3
          split at e
          · rename_i ty' kv hmm
            cases hd : dec ty' vx with
            | none => simp [hd] at e
            | some y =>
              simp only [hd] at e
              obtain ⟨h1, h2⟩ := cond_some e
              simp only [Bool.and_eq_true] at h1
              obtain ⟨w', hrun, hsr⟩ := mapPut_sr (E := E) (t := t) (n := n) h hmm (evalOp_RV h.tm hm) (evalOp_RV h.tm hx) hd h1.1
              have hkv := RV_int1 (evalOp_RV h.tm hk)
              refine wp_skip' (w' := w') ?_ (hn _ _ _ ⟨_, _, hsr.put (.any undef) o.dst⟩ h2)
              rw [ho, hkv]
              simp only [Sem.run_bind, hrun, Result.andThen_ok, Sem.run_pure]
          · cases e
        · cases e

theorem buildSlice_run {P : Program} {t e : TypeId} {ty : Ty} {i : TypeInfo} {z : Value} {ys : List (Nat × Value)} (ht : P.underlying t = some (.slice e)) (hi : P.info? e = some i) (hz : i.zero = some z) (hs : i.size = ty.size) (hb : ys.length * ty.size ≤ 65536)
    (ho : ∀ (j : Nat) (p : Nat × Value), ys[j]? = some p → p.1 = j) (hc : ∀ p ∈ ys, p.2.cells.size = ty.size) (w : World) :
    (Instr.buildSlice t ys.length ys.toArray).run P w = .ok (.slice (some ⟨w.heap.size, 0, none⟩) ys.length ys.length) (w.alloc (.cells (ys.flatMap fun p => p.2.cells.toList).toArray e)) := by
  have h24 : ¬ (16777216 < ys.length * ty.size) := by omega
  have hfill : ∀ init : Array Value, init.size = ys.length * ty.size → Instr.fill (fun i => some (i * ty.size, ty.size)) init ys = some (ys.flatMap fun p => p.2.cells.toList).toArray := by
    intro init hin
    have := fill_all (sz := ty.size) ys 0 [] init.toList (by simp) (by simpa using hin) (fun j p hp => by have := ho j p hp; omega) hc
    simpa using this
  simp only [Instr.buildSlice, Sem.run_bind, run_underlying ht, Result.andThen_ok, sizeOf, typeInfo, run_program, hi, Sem.run_pure, hs, Sem.run_ite]
  rw [if_neg (by simpa using h24)]
  by_cases h0 : ys.length * ty.size = 0
  · simp only [h0, if_true]
    have := hfill #[] (by simp [h0])
    have e0 : (Array.range 0).map (fun x => (#[] : Array Value)[x % (#[] : Array Value).size]!) = #[] := by simp
    rw [e0]
    simp only [this, newRow, Sem.run_bind, run_newObj, Result.andThen_ok, Sem.run_pure, World.alloc_eq]
  · simp only [h0, if_false, zeroValue, typeInfo, Sem.run_bind, run_program, Result.andThen_ok, hi, Sem.run_pure, hz]
    have := hfill ((Array.range (ys.length * ty.size)).map (fun x => z.cells[x % z.cells.size]!)) (by simp)
    simp only [this, newRow, Sem.run_bind, run_newObj, Result.andThen_ok, Sem.run_pure, World.alloc_eq]

theorem rows_sr (h : SR X w0 C0 fs C g st a w) {t : Ty} {xs : List t.den} {cs : List Value} {e : TypeId} {n : Nat} (hc : Cells C t xs cs) (hn : n = xs.length) (hm : n ≤ maxLen) (hlm : n ≤ lim) (d : Option Tmp) :
    SR X w0 C0 fs (C.row w.heap.size cs) (g ++ [.row (.slice (some ⟨w.heap.size, 0, none⟩) n n) true]) ({ st with mem := mapp st.mem [Blk.row e t.size] }.put d (.sl t xs (some (mlen st.mem)))) (a.put d (.slice (some ⟨w.heap.size, 0, none⟩) n n)) (w.alloc (.cells cs.toArray e)) := by
  subst hn
  have hr := h.rel.newrow (e := e) (sz := t.size) hc.1 hm
  have hnone := fun o s => RC_none_of h.rel.sub (Nat.le_refl w.heap.size) o s
  have hC : C.le (C.row w.heap.size cs) := Mem.le_row fun o v e => by rw [hnone o none] at e; cases e
  have h2 := h.up hC (Ghs.le_append _ _) hr
  rw [mapp_eq, mlen_eq]
  refine h2.put ?_ d
  have hrow := (hc.mono hC).row (Mem.row_at (C := C) (k := w.heap.size) (cs := cs))
  exact .one (.own (o := true) ⟨Nat.le_refl _, hlm⟩ hrow (by simp [h.rel.len])) (by simp) (by simp)

theorem bytes_below (w : World) (e : TypeId) (s : ByteArray) : Below w.heap.size w (Lib.bytesWorld w e s) := by
  have hf : ∀ (v : World) (ad : Addr) (n : Nat), (v.freeze ad n).os = v.os ∧ (v.freeze ad n).tape = v.tape ∧ (v.freeze ad n).output = v.output := by
    intro v ad n
    unfold World.freeze
    split <;> exact ⟨rfl, rfl, rfl⟩
  obtain ⟨h1, h2, h3⟩ := hf (w.drew.alloc (.cells (Lib.bytesCells w e s) e)) ⟨w.heap.size, (Lib.bytesCells w e s).size, none⟩ 1
  exact ⟨h1, h2, h3, by rw [Lib.bytesWorld_size]; omega, fun k hk => Lib.bytesWorld_at_old w e s k hk⟩
theorem doOp_sound {E : Env} {ρ : Type} [Pan ρ] {call : CallT ρ} (hcall : CallOk E X call) {o : Oper} {K : St → Option ρ} {r : ρ} (h : SR X w0 C0 fs C g st a w)
    (e : doOp E call o st K = some r) {next : Act → World → Prop} {Q : Exit → Act → World → Prop} (hP : PanOk X w0 C0 r Q)
    (hn : ∀ st' a' w', Good X w0 C0 fs st' a' w' → K st' = some r → next a' w') : o.wp E.P a w next Q := by
  unfold doOp at e
  obtain ⟨dst, op, ty, pos, after, guard⟩ := o
  cases op with
  | alloc t =>
    cases hty : E.ty t with
    | none => simp [hty] at e
    | some t' =>
      simp only [hty] at e
      obtain ⟨h1, h2⟩ := cond_some e
      simp only [Bool.and_eq_true] at h1
      obtain ⟨i, z, hi, hz, hc, hsz, hvf⟩ := zeroOk_spec h1.1
      have hrc : RC C g (zeroAV t') z.cells.toList := by
        rw [hc]
        exact (RC_zero t' h1.2).1
      refine wp_value (z := .pointer (some ⟨w.heap.size, 0, none⟩)) (w' := w.alloc (.cells z.cells t)) ?_ (hn _ _ _ ⟨_, _, box_alloc h t hrc dst⟩ h2)
      simp [execOp, Instr.alloc, run_zeroValue hi hz w, run_newVar]
  | convert s d x =>
    simp only at e
    split at e
    · rename_i l el hx hu
      obtain ⟨h1, h2⟩ := cond_some e
      simp only [Bool.and_eq_true, Option.isSome_iff_exists] at h1
      obtain ⟨h1, u, hs⟩ := h1
      have hu8 : E.P.underlying el = some (.int .u8) := by
        unfold isU8 at h1
        split at h1
        · assumption
        · cases h1
      have hv := evalOp_RV h.tm hx
      have hxe := RV_str hv
      have hrun := Lib.run_convert_string_bytes (P := E.P) w s d el ⟨l.toArray⟩ hs hu hu8
      have hsz : (⟨l.toArray⟩ : ByteArray).size = l.length := by simp [ByteArray.size]
      obtain ⟨hC, hrel⟩ := h.rel.brow (w' := Lib.bytesWorld w el ⟨l.toArray⟩) (cs := l.map u8v) (bytes_below w el ⟨l.toArray⟩) (fun j v hj => by
        rw [List.getElem?_map, Option.map_eq_some_iff] at hj
        obtain ⟨b, hb, rfl⟩ := hj
        have hjl := lt_of_getElem? hb
        rw [Lib.bytesWorld_cell w el ⟨l.toArray⟩ j (by rw [hsz]; exact hjl)]
        have : (⟨l.toArray⟩ : ByteArray).data.toList.getD j 0 = b := by simp [List.getD, hb]
        rw [this]
        rfl)
      have hsr : SR X w0 C0 fs (C.row w.heap.size (l.map u8v)) g st a (Lib.bytesWorld w el ⟨l.toArray⟩) := ⟨hrel, RVL.mono hC (Ghs.le_refl _) h.tm, OutR.mono hC (Ghs.le_refl _) h.out, h.df⟩
      have hrow : Row (C.row w.heap.size (l.map u8v)) .u8 (some ⟨w.heap.size, 0, none⟩) l := TC_u8s Mem.row_at
      have hcap := grownCap_ge w l.length 0 el
      refine wp_value (z := .slice (some ⟨w.heap.size, 0, none⟩) l.length (grownCap w l.length 0 el)) (w' := Lib.bytesWorld w el ⟨l.toArray⟩) ?_ (hn _ _ _ ⟨_, _, hsr.put (.one (.sl (t := .u8) ⟨hcap, RV_strl hv⟩ hrow) (by simp) (by simp)) dst⟩ h2)
      simp only [execOp, hxe, Sem.run_bind, hrun, Result.andThen_ok, Sem.run_pure, hsz]
    · exact doOp_pure (o := ⟨dst, .convert s d x, ty, pos, after, guard⟩) h e hn
  | panic x =>
    cases hx : evalOp st x with
    | none => simp [hx] at e
    | some v =>
      have hv := evalOp_RV h.tm hx
      cases v with
      | iface t u =>
        cases u with
        | agg l =>
          cases l with
          | nil =>
            simp only [hx] at e
            obtain ⟨h1, h2⟩ := cond_some e
            have := Nat.eq_of_beq_eq_true h1
            subst this
            obtain ⟨z, hz, _⟩ := RV_iface hv
            have hrun : (execOp a.eval ⟨dst, .panic x, ty, pos, after, guard⟩).run E.P w = .halt (.panic (a.eval x)) w := by
              simp [execOp, Instr.panic, hz, goPanic]
            unfold Oper.wp
            rw [hrun]
            exact hP h2 a _ w h.df ⟨C, g, hv⟩ h.rel.sane
          | cons _ _ => simp [hx] at e
        | _ => simp [hx] at e
      | _ => simp [hx] at e
  | box t x =>
    cases hx : evalOp st x with
    | none => simp [hx] at e
    | some v =>
      simp only [hx] at e
      obtain ⟨h1, h2⟩ := cond_some e
      have hrc := RV_solid (evalOp_RV h.tm hx) h1
      refine wp_value (z := .pointer (some ⟨w.heap.size, 0, none⟩)) (w' := w.alloc (.cells (a.eval x).cells t)) ?_ (hn _ _ _ ⟨_, _, box_alloc h t hrc dst⟩ h2)
      simp [execOp, Instr.box, run_newVar]
  | store t p x =>
    cases hp : evalOp st p with
    | none => simp [hp] at e
    | some vp =>
      have hpv := evalOp_RV h.tm hp
      cases hx : evalOp st x with
      | none => cases vp <;> simp [hp, hx] at e
      | some v =>
        have hxv := evalOp_RV h.tm hx
        cases vp with
        | loc b off =>
          simp only [hp, hx] at e
          cases hm : mget st.mem b with
          | none => simp [hm] at e
          | some m =>
            cases m with
            | box u =>
              simp only [hm] at e
              obtain ⟨h1, h2⟩ := cond_some e
              simp only [Bool.and_eq_true, beq_iff_eq] at h1
              cases hu : u.put off v.size v.cls v with
              | none => simp [hu] at h2
              | some u' =>
                simp only [hu] at h2
                have hrc := RV_solid hxv h1.1.2
                have hl := RC_size hrc
                obtain ⟨k, hk, hpe⟩ := RV_loc hpv
                rw [mget_eq] at hm
                obtain ⟨T, cs, hheap, hcs, _⟩ := h.rel.store hm hk hrc
                obtain ⟨pre, mid, post, rfl, hpl, hml, hu'⟩ := put_spec u hcs hu hrc hl
                have hrun := store_run (P := E.P) (t := t) (y := a.eval x) h1.2 (by rw [← Array.length_toList, hl, h1.1.1]; rfl) hheap hpl (by rw [hml, ← hl]; simp) (RC_one hrc)
                have hs := h.set (by rw [mget_eq]; exact hm) hk hu'
                refine wp_skip' (w' := w.setRow k (pre ++ (a.eval x).cells.toList ++ post).toArray) ?_ (hn _ _ _ ⟨_, _, hs.put (.any undef) dst⟩ h2)
                simp only [execOp, hpe, Sem.run_bind, hrun, Result.andThen_ok, Sem.run_pure]
            | _ => simp [hm] at e
        | loci b off i =>
          cases v with
          | u8 c =>
            simp only [hp, hx] at e
            cases hm : mget st.mem b with
            | none => simp [hm] at e
            | some m =>
              cases m with
              | box u =>
                simp only [hm] at e
                cases hat : u.at off 32 1 with
                | none => simp [hat] at e
                | some q =>
                  cases q with
                  | id x' =>
                    simp only [hat] at e
                    obtain ⟨h1, h2⟩ := cond_some e
                    simp only [Bool.and_eq_true, beq_iff_eq] at h1
                    cases hu : u.put off 32 1 (.id (idset x' i c)) with
                    | none => simp [hu] at h2
                    | some u' =>
                      simp only [hu] at h2
                      replace hu : u.put off 32 1 (.id (x'.set i c)) = some u' := hu
                      obtain ⟨k, hk, hpe, hi⟩ := RV_loci hpv
                      have hxe := RV_u8 hxv
                      rw [mget_eq] at hm
                      obtain ⟨T, cs, hheap, hcs, _⟩ := h.rel.store hm hk (RC.id (x'.set i c))
                      obtain ⟨pre, mid, post, rfl, hpl, hml, hu'⟩ := put_spec u hcs hu (RC.id (x'.set i c)) (by simp [(x'.set i c).h])
                      obtain ⟨pre2, mid2, post2, hcs2, hpl2, hmid2, _, _⟩ := at_spec u hcs hat
                      cases hmid2
                      have hl2 : (x'.l.map u8v).length = 32 := by simp [x'.h]
                      have hpp : pre2 = pre ∧ x'.l.map u8v = mid ∧ post2 = post := by
                        rw [List.append_assoc, List.append_assoc] at hcs2
                        obtain ⟨e1, e2⟩ := List.append_inj hcs2 (by omega)
                        obtain ⟨e3, e4⟩ := List.append_inj e2 (by omega)
                        exact ⟨e1.symm, e3.symm, e4.symm⟩
                      obtain ⟨rfl, rfl, rfl⟩ := hpp
                      have hu8 := isU8_under h1.1
                      have hset : ((x'.set i c).l.map u8v) = (x'.l.map u8v).take i ++ [u8v c] ++ (x'.l.map u8v).drop (i + 1) := by
                        simp only [Id.set]
                        rw [List.map_set, List.set_eq_take_append_cons_drop, if_pos (by omega)]
                        simp
                      have hsplit : x'.l.map u8v = (x'.l.map u8v).take i ++ [(x'.l.map u8v)[i]'(by omega)] ++ (x'.l.map u8v).drop (i + 1) := by
                        rw [List.append_assoc, List.singleton_append, List.getElem_cons_drop, List.take_append_drop]
                      have hheap2 : w.heap[k]? = some (.cells ((pre2 ++ (x'.l.map u8v).take i) ++ [(x'.l.map u8v)[i]'(by omega)] ++ ((x'.l.map u8v).drop (i + 1) ++ post2)).toArray T (0, 0)) := by
                        rw [hheap]
                        congr 3
                        conv => lhs; rw [hsplit]
                        simp
                      have hrun := store_run (P := E.P) (t := t) (y := u8v c) (off := off + i) (info_of_under hu8) (by rw [h1.2]; rfl) hheap2 (by have := x'.h; simp; omega) rfl (by simp [Value.cells, u8v, Value.oneCell'])
                      have hs := h.set (by rw [mget_eq]; exact hm) hk hu'
                      have hfin : (pre2 ++ (x'.l.map u8v).take i) ++ (u8v c).cells.toList ++ ((x'.l.map u8v).drop (i + 1) ++ post2) = pre2 ++ (x'.set i c).l.map u8v ++ post2 := by
                        rw [hset]
                        simp [Value.cells, u8v]
                      rw [hfin] at hrun
                      refine wp_skip' (w' := w.setRow k (pre2 ++ (x'.set i c).l.map u8v ++ post2).toArray) ?_ (hn _ _ _ ⟨_, _, hs.put (.any undef) dst⟩ h2)
                      simp only [execOp, hpe, hxe, Sem.run_bind, hrun, Result.andThen_ok, Sem.run_pure]
                  | _ => simp only [hat, reduceCtorEq] at e
              | _ => simp only [hm, reduceCtorEq] at e
          | _ => simp only [hp, hx, reduceCtorEq] at e
        | elp ty' b i =>
          simp only [hp, hx] at e
          cases hm : mget st.mem b with
          | none => simp [hm] at e
          | some m =>
            cases m with
            | arr t2 el xs =>
              simp only [hm] at e
              cases hd : dec ty' v with
              | none => simp [hd] at e
              | some y =>
                simp only [hd] at e
                split at e
                · rename_i ht
                  subst ht
                  obtain ⟨h1, h2⟩ := cond_some e
                  simp only [Bool.and_eq_true, beq_iff_eq] at h1
                  obtain ⟨k, cs', hpe, hrun, hsr⟩ := elp_store (P := E.P) h hm hpv hxv h1.2 hd h1.1.2 h1.1.1
                  refine wp_skip' (w' := w.setRow k cs'.toArray) ?_ (hn _ _ _ ⟨_, _, hsr.put (.any undef) dst⟩ h2)
                  simp only [execOp, hpe, Sem.run_bind, hrun, Result.andThen_ok, Sem.run_pure]
                · cases e
            | _ => simp [hm] at e
        | _ => simp [hp, hx] at e
  | makeMap t rsv =>
    cases rsv with
    | some _ => exact doOp_pure h e hn
    | none =>
      simp only at e
      cases hme : mapElem E t with
      | none => simp [hme] at e
      | some ty' =>
        simp only [hme] at e
        refine wp_value (z := .map (some w.heap.size)) (w' := w.alloc (.map #[] 0)) ?_ (hn _ _ _ ⟨C, g ++ [.mp w.heap.size], ?_⟩ e)
        · simp [execOp, Instr.makeMap]
        · rw [mapp_eq, mlen_eq]
          have hu := h.up (Mem.le_refl _) (Ghs.le_append g [.mp w.heap.size]) (h.rel.newmap ty')
          refine hu.put (.one (.mref (k := w.heap.size) ?_) (by simp) (by simp)) dst
          rw [h.rel.len]
          simp
  | insert t m k x => exact mapPut_step rfl h e hn
  | mapUpdate t m k x => exact mapPut_step rfl h e hn
  | buildSlice t len parts =>
    cases he : elemT E.P t with
    | none => simp [he] at e
    | some el =>
      cases hty : E.ty el with
      | none => simp [he, hty] at e
      | some t' =>
        simp only [he, hty] at e
        cases hps : evalParts st parts.toList with
        | none => simp [hps] at e
        | some ps =>
          cases hio : inOrder 0 ps with
          | none => simp [hps, hio] at e
          | some vs =>
            cases hda : decAll t' vs with
            | none => simp [hps, hio, hda] at e
            | some xs =>
              simp only [hps, hio, hda] at e
              obtain ⟨h1, h2⟩ := cond_some e
              simp only [Bool.and_eq_true, beq_iff_eq, decide_eq_true_eq, mlen_eq] at h1
              obtain ⟨i, z, hi, hz, hc, hsz, _⟩ := zeroOk_spec h1.1.1.1.2
              obtain ⟨hp1, hp2⟩ := evalParts_RV h.tm hps
              obtain ⟨hv1, hv2⟩ := inOrder_spec ps 0 vs hio
              rw [← hv1] at hp2
              obtain ⟨hcl, hlen, hsize⟩ := decAll_cells hp2 hda
              let ys : List (Nat × Value) := parts.toList.map fun p => (p.1, a.eval p.2)
              have hys2 : ys.map (·.2) = parts.toList.map fun p => a.eval p.2 := by simp [ys]
              have hlv : vs.length = ys.length := by
                have := hp2.length
                simp only [ys, List.length_map] at this ⊢
                exact this
              have hxl : ys.length = xs.length := by rw [← hlen]; simp [ys]
              have hrun := buildSlice_run (P := E.P) (ty := t') (ys := ys) (elemT_spec he) hi hz hsz (by rw [← hlv, h1.1.1.1.1]; exact h1.2) (by
                intro j p hp
                have hj : (ys.map (·.1))[j]? = some p.1 := by simp [hp]
                have hys1 : ys.map (·.1) = ps.map (·.1) := by rw [hp1]; simp [ys]
                rw [hys1, List.getElem?_map, Option.map_eq_some_iff] at hj
                obtain ⟨q, hq, hq1⟩ := hj
                have := hv2 j q hq
                rw [← hq1]; omega) (by
                intro p hp
                apply hsize
                rw [← hys2]
                exact List.mem_map.2 ⟨p, hp, rfl⟩) w
              have hfm : (ys.flatMap fun p => p.2.cells.toList) = (parts.toList.map fun p => a.eval p.2).flatMap fun y => y.cells.toList := by
                rw [← hys2]; exact flat_snd ys
              rw [hfm] at hrun
              have hml : ys.length ≤ maxLen := by
                have : ys.length * 1 ≤ ys.length * t'.size := Nat.mul_le_mul_left _ h1.1.2
                have h3 : ys.length * t'.size ≤ 65536 := by rw [← hlv, h1.1.1.1.1]; exact h1.2
                simp only [maxLen]; omega
              have hml2 : ys.length ≤ lim := by
                have : ys.length * 1 ≤ ys.length * t'.size := Nat.mul_le_mul_left _ h1.1.2
                have h3 : ys.length * t'.size ≤ 65536 := by rw [← hlv, h1.1.1.1.1]; exact h1.2
                simp only [lim]; omega
              have hsr := rows_sr (e := el) h hcl hxl hml hml2 dst
              refine wp_value (z := .slice (some ⟨w.heap.size, 0, none⟩) ys.length ys.length) (w' := w.alloc (.cells ((parts.toList.map fun p => a.eval p.2).flatMap fun y => y.cells.toList).toArray el)) ?_ (hn _ _ _ ⟨_, _, hsr⟩ h2)
              have hpa : (parts.map fun (p : Nat × Operand) => (p.1, a.eval p.2)) = ys.toArray := toList_map _ _
              have hle : len = ys.length := by rw [← hlv, h1.1.1.1.1]
              simp only [execOp]
              rw [show (Array.map (fun x : Nat × Operand => match x with | (i, x) => (i, a.eval x)) parts) = parts.map fun (p : Nat × Operand) => (p.1, a.eval p.2) from rfl, hpa, hle]
              simp only [Sem.run_bind, hrun, Result.andThen_ok, Sem.run_pure]
  | makeSlice t l c =>
    cases he : elemT E.P t with
    | none => simp [he] at e
    | some el =>
      cases hl : evalOp st l with
      | none => simp [he, hl] at e
      | some vl =>
        cases hc : evalOp st c with
        | none => simp [he, hl, hc] at e
        | some vc =>
          have hlv := evalOp_RV h.tm hl
          have hcv := evalOp_RV h.tm hc
          simp only [he, hl, hc] at e
          split at e
          · rename_i el' n m e1 e2 e3
            simp only [Option.some.injEq] at e1 e2 e3
            subst e1; subst e2; subst e3
            cases hty : E.ty el with
            | none => simp [hty] at e
            | some t' =>
              simp only [hty] at e
              obtain ⟨h1, e4⟩ := cond_some e
              obtain ⟨h2, h3⟩ := cond_some e4
              simp only [Bool.and_eq_true, decide_eq_true_eq] at h1
              simp only [Bool.and_eq_true, ile_iff, ieq_iff, fits_iff] at h2
              obtain ⟨i, z, hi, hz, hzc, hsz, _⟩ := zeroOk_spec h1.1.1
              have hle := RV_int1 hlv
              have hce := RV_int1 hcv
              obtain ⟨⟨hn0, rfl⟩, hf1, hf2⟩ := h2
              have hby : bytesT E.P el = i.bytes := by simp [bytesT, hi]
              rw [hby] at hf1
              have hsz1 : i.size = 1 := by rw [hsz, h1.2]
              have hrun := run_make (P := E.P) w t el i z (elemT_spec he) hi hz .i64 .i64 n n hn0 (Int.le_refl _) (by rw [Int.add_zero] at hf1; rw [Int.mul_comm]; omega) (by omega)
              rw [hsz1, Nat.mul_one] at hrun
              have hzl : (zcells t').length = 1 := by
                have := zero_size hzc hsz h1.1.2
                rw [← hzc]; simp [this, hsz1]
              obtain ⟨zc, hzc1⟩ : ∃ zc, zcells t' = [zc] := by
                match hq : zcells t', hzl with
                | [zc], _ => exact ⟨zc, rfl⟩
              have hzcells : z.cells = #[zc] := by rw [← Array.toList_inj, hzc, hzc1]
              have hmade : (madeCells z.cells n.toNat) = (List.replicate n.toNat zc).toArray := by
                rw [← Array.toList_inj, hzcells, toList_madeCells_one]
              have hcells : Cells C t' (drep n t'.zero) (List.replicate n.toNat zc) := by
                have hz1 : TC C t' t'.zero [zc] := by
                  rw [← hzc1]
                  exact TC_zero t'
                have hone := TC_one _ _ _ hz1
                refine ⟨by simp [drep, h1.2], fun v hv => ?_, fun i x hx => ?_⟩
                · rw [List.mem_replicate] at hv; exact hone v (by simp [hv.2])
                · have hlt := lt_of_getElem? hx
                  simp only [drep, List.length_replicate] at hlt
                  have hxe : x = t'.zero := by
                    simp only [drep, List.getElem?_replicate] at hx
                    rw [if_pos hlt] at hx
                    simpa using hx.symm
                  subst hxe
                  rw [h1.2, Nat.mul_one, List.drop_replicate, List.take_replicate]
                  have : min 1 (n.toNat - i) = 1 := by omega
                  rw [this]
                  exact hz1
              have hsr := rows_sr (e := el) h hcells (n := n.toNat) (by simp [drep]) (by simp only [maxLen]; omega) (by simp only [lim]; omega) dst
              rw [hmade] at hrun
              refine wp_value (z := .slice (some ⟨w.heap.size, 0, none⟩) n.toNat n.toNat) (w' := w.alloc (.cells (List.replicate n.toNat zc).toArray el)) ?_ (hn _ _ _ ⟨_, _, hsr⟩ h3)
              simp only [execOp, hle, hce, Sem.run_bind, hrun, Result.andThen_ok, Sem.run_pure]
          · cases e
  | call c =>
    obtain ⟨cal, args, ats⟩ := c
    cases cal with
    | value f =>
      cases hf : evalOp st f with
      | none => simp [hf] at e
      | some vf =>
        cases ha : evalAll st args.toList with
        | none => cases vf <;> simp [hf, ha] at e
        | some vs =>
          have hfv := evalOp_RV h.tm hf
          have hav := evalAll_RV h.tm ha
          cases vf with
          | fn ff first captured =>
            cases ff with
            | func gf =>
              simp only [hf, ha, mapp_eq] at e
              obtain ⟨xs, ks, hfe, hr1, hr2⟩ := RV_fn hfv
              have hargs : RVL C g (first ++ (vs ++ captured)) (xs ++ (args.toList.map a.eval ++ ks)) := hr1.append (hav.append hr2)
              obtain ⟨hent, hcalls⟩ := hcall gf _ st _ r w0 C0 fs C g a.tmps.toList _ w h.rel h.tm h.out hargs e
              obtain ⟨fn, hfn, hname, hbody⟩ := hent
              have hrun : (execOp a.eval ⟨dst, .call ⟨.value f, args, ats⟩, ty, pos, after, guard⟩).run E.P w = .ok (.enter gf (xs ++ (args.toList.map a.eval ++ ks)).toArray) w := by
                have harr : (xs.toArray ++ args.map a.eval) ++ ks.toArray = (xs ++ (args.toList.map a.eval ++ ks)).toArray := by
                  rw [← Array.toList_inj]; simp
                simp only [execOp, resolve, hfe, Deferred.ofValue, Sem.run_bind, Sem.run_pure, Result.andThen_ok, invoke, callFunc, run_program, hfn, hname, hbody, harr, Bool.false_eq_true, if_false]
              unfold Oper.wp
              rw [hrun]
              simp only [Oper.upon]
              refine hcalls.mono ?_
              rintro e1 w1 (⟨v, av, st', C', g', rfl, hrel, htm, hout, hrv, hk⟩ | ⟨v, rfl, hb, hsn, hp⟩)
              · have hsr : SR X w0 C0 fs C' g' st' a w1 := ⟨hrel, htm, hout, h.df⟩
                exact hn _ _ _ ⟨C', g', hsr.put hrv dst⟩ hk
              · exact hP hp a v w1 h.df hb hsn
            | _ => simp [hf, ha] at e
          | _ => simp [hf, ha] at e
    | invoke xo name =>
      cases hx : evalOp st xo with
      | none => simp [hx] at e
      | some xv =>
        cases ha : evalAll st args.toList with
        | none => simp [hx, ha] at e
        | some vs =>
          cases hi : invokeAV E.P name xv with
          | none => simp [hx, ha, hi] at e
          | some gu =>
            obtain ⟨gf, u⟩ := gu
            simp only [hx, ha, hi] at e
            have hxv := evalOp_RV h.tm hx
            have hav := evalAll_RV h.tm ha
            obtain ⟨z, hz, hrunM⟩ := invoke_run hxv hi
            obtain ⟨hent, hcalls⟩ := hcall gf _ st _ r w0 C0 fs C g a.tmps.toList _ w h.rel h.tm h.out (.cons hz hav) e
            obtain ⟨fn, hfn, hname, hbody⟩ := hent
            have hrun : (execOp a.eval ⟨dst, .call ⟨.invoke xo name, args, ats⟩, ty, pos, after, guard⟩).run E.P w = .ok (.enter gf (z :: args.toList.map a.eval).toArray) w := invoke_enter hrunM hfn hname hbody w
            unfold Oper.wp
            rw [hrun]
            simp only [Oper.upon]
            refine hcalls.mono ?_
            rintro e1 w1 (⟨v, av, st', C', g', rfl, hrel, htm, hout, hrv, hk⟩ | ⟨v, rfl, hb, hsn, hp⟩)
            · have hsr : SR X w0 C0 fs C' g' st' a w1 := ⟨hrel, htm, hout, h.df⟩
              exact hn _ _ _ ⟨C', g', hsr.put hrv dst⟩ hk
            · exact hP hp a v w1 h.df hb hsn
    | builtin b =>
      cases b with
      | append =>
        simp only at e
        split at e
        · rename_i s x tT xT e1 e2
          cases hs : evalOp st s with
          | none => simp [hs] at e
          | some sv =>
            cases hx : evalOp st x with
            | none => simp [hs, hx] at e
            | some xv =>
              simp only [hs, hx] at e
              have a1 := toList_two e1
              have a2 := toList_two e2
              subst a1; subst a2
              obtain ⟨z, w', av, st', hrun, ⟨C', g', hsr, hrv, _, _⟩, hk⟩ := append_run (ty := ty) h (evalOp_RV h.tm hs) (evalOp_RV h.tm hx) e
              refine wp_value (z := z) (w' := w') ?_ (hn _ _ _ ⟨C', g', hsr.put hrv dst⟩ hk)
              simp [execOp, resolve, invoke, builtin, hrun]
        · simp at e
      | copy =>
        simp only at e
        split at e
        · rename_i d x dT xT e1 e2
          cases hd : evalOp st d with
          | none => simp [hd] at e
          | some dv =>
            cases hx : evalOp st x with
            | none => cases dv <;> simp [hd, hx] at e
            | some xv =>
              have hdv := evalOp_RV h.tm hd
              have hxv := evalOp_RV h.tm hx
              cases dv with
              | idsl b off =>
                simp only [hd, hx] at e
                cases hm : mget st.mem b with
                | none => simp [hm] at e
                | some m =>
                  cases m with
                  | box u =>
                    simp only [hm] at e
                    split at e
                    · rename_i x' l hat hno
                      obtain ⟨h1, e3⟩ := cond_some e
                      obtain ⟨h2, h3⟩ := cond_some e3
                      cases hu : u.put off 32 1 (.id (x'.over l)) with
                      | none => simp [hu] at h3
                      | some u' =>
                        simp only [hu] at h3
                        rw [ile_iff] at h2
                        simp only [dlen] at h2
                        have hl32 : (l : List UInt8).length ≤ 32 := by omega
                        have a1 := toList_two e1
                        have a2 := toList_two e2
                        subst a1; subst a2
                        obtain ⟨k, hk, hde⟩ := RV_idsl hdv
                        obtain ⟨news, hcells, hsrc⟩ := newsOf_src (E := E) h hxv hno
                        rw [mget_eq] at hm
                        obtain ⟨T, cs, hheap, hcs, _⟩ := h.rel.store hm hk (RC.id (x'.over l))
                        obtain ⟨pre, mid, post, rfl, hpl, hml, hu'⟩ := put_spec u hcs hu (RC.id (x'.over l)) (by simp [(x'.over l).h])
                        obtain ⟨pre2, mid2, post2, hcs2, hpl2, hmid2, _, _⟩ := at_spec u hcs hat
                        cases hmid2
                        have hl2 : (x'.l.map u8v).length = 32 := by simp [x'.h]
                        have hpp : pre2 = pre ∧ x'.l.map u8v = mid ∧ post2 = post := by
                          rw [List.append_assoc, List.append_assoc] at hcs2
                          obtain ⟨e1, e2⟩ := List.append_inj hcs2 (by omega)
                          obtain ⟨e3, e4⟩ := List.append_inj e2 (by omega)
                          exact ⟨e1.symm, e3.symm, e4.symm⟩
                        obtain ⟨rfl, rfl, rfl⟩ := hpp
                        have hnews : news = (l : List UInt8).map u8v := by
                          apply List.ext_getElem?
                          intro j
                          have hnl : news.length = (l : List UInt8).length := by have := hcells.1; simp only [Ty.size, Nat.mul_one] at this; exact this
                          cases hj : (l : List UInt8)[j]? with
                          | none =>
                            have : (l : List UInt8).length ≤ j := by simpa using hj
                            rw [List.getElem?_eq_none (by omega), List.getElem?_eq_none (by simpa using this)]
                          | some q =>
                            have h5 := hcells.2.2 j q hj
                            simp only [TC, Ty.size, Nat.mul_one] at h5
                            have h6 : (List.take 1 (List.drop j news))[0]? = some (u8v q) := by rw [h5]; rfl
                            simp at h6
                            rw [h6, List.getElem?_map, hj]; rfl
                        subst hnews
                        cases he : elemT E.P dT with
                        | none => rw [he] at h1; cases h1
                        | some el =>
                          simp only [he, Bool.and_eq_true, beq_iff_eq] at h1
                          have hu8 := isU8_under h1.1
                          have hel := elemT_spec he
                          have hover : (x'.over l).l.map u8v = (l : List UInt8).map u8v ++ (x'.l.map u8v).drop (l : List UInt8).length := by
                            simp only [Id.over, hl32, dif_pos, List.map_append, List.map_drop]
                          have hst := run_storeCells_at E.P k off T ((l : List UInt8).map u8v) 0 (pre2 ++ x'.l.map u8v ++ post2).toArray w hheap (by simp; have := x'.h; omega) (by intro v hv; obtain ⟨c, _, rfl⟩ := List.mem_map.1 hv; rfl)
                          have e5 : ((pre2 ++ x'.l.map u8v ++ post2).toArray.toList.take (off + 0)) = pre2 := by
                            simp only [Nat.add_zero, List.append_assoc]
                            rw [← hpl]; exact List.take_left
                          have e6 : ((pre2 ++ x'.l.map u8v ++ post2).toArray.toList.drop (off + 0 + ((l : List UInt8).map u8v).length)) = (x'.l.map u8v).drop (l : List UInt8).length ++ post2 := by
                            simp only [Nat.add_zero, List.length_map, List.append_assoc]
                            rw [← hpl, ← List.drop_drop, List.drop_left, List.drop_append_of_le_length (by omega)]
                          rw [e5, e6] at hst
                          have hfin : pre2 ++ (l : List UInt8).map u8v ++ ((x'.l.map u8v).drop (l : List UInt8).length ++ post2) = pre2 ++ (x'.over l).l.map u8v ++ post2 := by
                            rw [hover]; simp
                          rw [hfin] at hst
                          have hs := h.set (by rw [mget_eq]; exact hm) hk hu'
                          have hmin : Nat.min (l : List UInt8).length 32 = (l : List UInt8).length := Nat.min_eq_left hl32
                          have hlen := hsrc.len w
                          have hfc := hsrc.cells w (Below.refl _ _)
                          simp only [Ty.size] at hfc
                          refine wp_value (z := .int .i64 (l : List UInt8).length) (w' := w.setRow k (pre2 ++ (x'.over l).l.map u8v ++ post2).toArray) ?_ (hn _ _ _ ⟨_, _, hs.put (RV_intv _ _) dst⟩ h3)
                          have hcopy : (Builtin.copy_ #[dT, xT] ty #[.slice (some ⟨k, off, none⟩) 32 32, a.eval x]).run E.P w = .ok (.int .i64 ((l : List UInt8).length : Int)) (w.setRow k (pre2 ++ (x'.over l).l.map u8v ++ post2).toArray) := by
                            simp only [Builtin.copy_, List.getElem?_toArray, List.getElem?_cons_zero, List.getElem?_cons_succ, Sem.run_bind, run_underlying hel, Result.andThen_ok, hlen, run_sizeOf' hu8 w, h1.2, hmin, hfc, hst, goInt, Sem.run_pure]
                          simp [execOp, resolve, invoke, builtin, hde, hcopy]
                    · cases e
                  | _ => simp only [hm, reduceCtorEq] at e
              | _ => simp only [hd, hx, reduceCtorEq] at e
        · cases e
      | clear =>
        simp only at e
        split at e
        · rename_i s tT e1 e2
          cases hs : evalOp st s with
          | none => simp [hs] at e
          | some vs =>
            have hsv := evalOp_RV h.tm hs
            cases he : elemT E.P tT with
            | none => simp [hs, he] at e
            | some el =>
              simp only [hs, he] at e
              split at e
              · rename_i ty' b lo hi el' f1 f2
                simp only [Option.some.injEq] at f1 f2
                subst f1; subst f2
                split at e
                · rename_i t2 el2 xs hm
                  split at e
                  · rename_i ht
                    subst ht
                    obtain ⟨h1, h2⟩ := cond_some e
                    simp only [Bool.and_eq_true, decide_eq_true_eq] at h1
                    have a1 := toList_one e1
                    have a2 := toList_one e2
                    subst a1; subst a2
                    obtain ⟨w', hrun, hsr⟩ := clear_sr (E := E) (tT := tT) (rt := ty) h hm hsv he h1.1.1.1 h1.1.2 (Nat.eq_of_beq_eq_true h1.2)
                    refine wp_value (z := .tuple #[]) (w' := w') ?_ (hn _ _ _ ⟨_, _, hsr.put (.any _) dst⟩ h2)
                    simp [execOp, resolve, invoke, builtin, hrun]
                  · cases e
                · cases e
              · cases e
        · cases e
      | _ => exact doOp_pure h e hn
  | _ => exact doOp_pure h e hn

end
end Am
end Go.Proofs.Ytkjpoongkdapoaa
