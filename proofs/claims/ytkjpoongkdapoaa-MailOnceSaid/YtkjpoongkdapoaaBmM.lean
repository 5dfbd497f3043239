/-
  A symbolic machine over the model, part 8b: rows that are written, maps.
-/
import Derived.Test.YtkjpoongkdapoaaBm8
import Derived.MapKept
namespace Go.Proofs.Ytkjpoongkdapoaa
namespace Am
open Go Go.RowKit
set_option linter.unusedVariables false
set_option linter.unusedSimpArgs false

section
variable {C : Mem} {g : Ghs}

/- rows -/
theorem CellsL.get {t : Ty} : ∀ {xs : List t.den} {cs : List Value}, CellsL C t xs cs → ∀ (i : Nat) (x : t.den), xs[i]? = some x → ∃ pre mid post, cs = pre ++ mid ++ post ∧ pre.length = i * t.size ∧ TC C t x mid
  | [], _, _, i, x, h => by simp at h
  | y :: ys, _, ⟨c1, c2, e, h1, h2⟩, 0, x, h => by
    simp only [List.getElem?_cons_zero, Option.some.injEq] at h
    subst h
    exact ⟨[], c1, c2, by simp [e], by simp, h1⟩
  | y :: ys, _, ⟨c1, c2, e, h1, h2⟩, i + 1, x, h => by
    obtain ⟨pre, mid, post, e2, hl, ht⟩ := CellsL.get h2 i x (by simpa using h)
    refine ⟨c1 ++ pre, mid, post, by simp [e, e2], ?_, ht⟩
    rw [List.length_append, TC_size t y c1 h1, hl, Nat.add_mul]
    omega
theorem CellsL.set {t : Ty} : ∀ {xs : List t.den} {cs : List Value}, CellsL C t xs cs → ∀ (i : Nat) (x : t.den) (new : List Value), i < xs.length → TC C t x new → ∃ pre mid post, cs = pre ++ mid ++ post ∧ pre.length = i * t.size ∧ mid.length = t.size ∧ CellsL C t (xs.set i x) (pre ++ new ++ post)
  | [], _, _, i, x, _, h, _ => by simp at h
  | y :: ys, _, ⟨c1, c2, e, h1, h2⟩, 0, x, new, _, hn => by
    refine ⟨[], c1, c2, by simp [e], by simp, TC_size t y c1 h1, ?_⟩
    exact ⟨new, c2, by simp, hn, h2⟩
  | y :: ys, _, ⟨c1, c2, e, h1, h2⟩, i + 1, x, new, h, hn => by
    obtain ⟨pre, mid, post, e2, hl, hm, hs⟩ := CellsL.set h2 i x new (by simpa using h) hn
    refine ⟨c1 ++ pre, mid, post, by simp [e, e2], ?_, hm, ?_⟩
    · rw [List.length_append, TC_size t y c1 h1, hl, Nat.add_mul]
      omega
    · exact ⟨c1, pre ++ new ++ post, by simp, h1, hs⟩
theorem CellsL.append {t : Ty} : ∀ {xs ys : List t.den} {cs ds : List Value}, CellsL C t xs cs → CellsL C t ys ds → CellsL C t (xs ++ ys) (cs ++ ds)
  | [], _, _, _, h, h' => by
    simp only [CellsL] at h
    subst h
    simpa using h'
  | x :: xs, _, _, _, ⟨c1, c2, e, h1, h2⟩, h' => ⟨c1, _, by rw [e, List.append_assoc], h1, CellsL.append h2 h'⟩
theorem CellsL.split {t : Ty} : ∀ (i : Nat) {xs : List t.den} {cs : List Value}, CellsL C t xs cs → ∃ c1 c2, cs = c1 ++ c2 ∧ CellsL C t (xs.take i) c1 ∧ CellsL C t (xs.drop i) c2
  | 0, xs, cs, h => ⟨[], cs, by simp, by simp [CellsL], by simpa using h⟩
  | i + 1, [], cs, h => by
    simp only [CellsL] at h
    subst h
    exact ⟨[], [], by simp, by simp [CellsL], by simp [CellsL]⟩
  | i + 1, x :: xs, _, ⟨c1, c2, e, h1, h2⟩ => by
    obtain ⟨d1, d2, e2, k1, k2⟩ := CellsL.split i h2
    exact ⟨c1 ++ d1, d2, by simp [e, e2], ⟨c1, d1, rfl, h1, k1⟩, by simpa using k2⟩
theorem CellsL.one {t : Ty} : ∀ {xs : List t.den} {cs : List Value}, CellsL C t xs cs → ∀ v ∈ cs, v.oneCell' = true
  | [], _, h, v, hv => by
    simp only [CellsL] at h
    subst h
    cases hv
  | x :: xs, _, ⟨c1, c2, e, h1, h2⟩, v, hv => by
    subst e
    rcases List.mem_append.1 hv with h | h
    · exact TC_one t x c1 h1 v h
    · exact CellsL.one h2 v h
theorem TC_zero : ∀ (t : Ty), TC C t t.zero (zcells t)
  | .int _ => rfl
  | .u8 => rfl
  | .bool => rfl
  | .str => ⟨rfl, by simp [Ty.zero, lim]⟩
  | .id => by
    show zcells .id = Id.zero.l.map u8v
    simp only [zcells, Id.zero, List.map_replicate]
    rfl
  | .unit => rfl
  | .pair s t => ⟨_, _, rfl, TC_zero s, TC_zero t⟩
  | .sl _ => ⟨none, 0, rfl, ⟨Nat.le_refl _, Nat.zero_le _⟩, fun i x hx => by simp [Ty.zero] at hx⟩
theorem CellsL.zeros (t : Ty) : ∀ (n : Nat), CellsL C t (List.replicate n t.zero) (List.replicate n (zcells t)).flatten
  | 0 => by simp [CellsL]
  | n + 1 => by
    rw [List.replicate_succ, List.replicate_succ, List.flatten_cons]
    exact ⟨_, _, rfl, TC_zero t, CellsL.zeros t n⟩
/-- a part of a row, as it stands -/
theorem CellsL.row {t : Ty} {xs : List t.den} {cs : List Value} (h : CellsL C t xs cs) {k off : Nat} (ha : At C ⟨k, off, none⟩ cs) : Row C t (some ⟨k, off, none⟩) xs := by
  intro i x hx
  obtain ⟨pre, mid, post, e, hl, ht⟩ := h.get i x hx
  refine ⟨_, mid, rfl, ht, rfl, fun j v hj => ?_⟩
  have := ha.2 (pre.length + j) v (by
    rw [e, List.append_assoc, List.getElem?_append_right (by omega), List.getElem?_append_left (by
      rw [show pre.length + j - pre.length = j by omega]
      exact lt_of_get hj), show pre.length + j - pre.length = j by omega]
    exact hj)
  simpa [hl, Nat.add_assoc] using this
where
  lt_of_get {α : Type} {l : List α} {j : Nat} {v : α} (h : l[j]? = some v) : j < l.length := by
    rcases Nat.lt_or_ge j l.length with h' | h'
    · exact h'
    · rw [List.getElem?_eq_none h'] at h; cases h

theorem flat_rep {α : Type} [Inhabited α] (l : List α) : ∀ (n : Nat), (List.range (n * l.length)).map (fun i => l.toArray[i % l.length]!) = (List.replicate n l).flatten
  | 0 => by simp
  | n + 1 => by
    rw [List.replicate_succ, List.flatten_cons, ← flat_rep l n, Nat.add_mul, Nat.one_mul, Nat.add_comm, List.range_add, List.map_append, List.map_map]
    congr 1
    · refine List.ext_getElem (by simp) fun i h1 h2 => ?_
      simp only [List.length_map, List.length_range] at h1
      simp only [List.getElem_map, List.getElem_range, Nat.mod_eq_of_lt h1]
      rw [getElem!_pos _ _ (by simpa using h1)]
      simp
    · refine List.map_congr_left fun i _ => ?_
      simp
theorem zeroCells_flat (z : Value) (n : Nat) : (Builtin.zeroCells z.cells n).toList = (List.replicate n z.cells.toList).flatten := by
  rw [← flat_rep z.cells.toList n]
  unfold Builtin.zeroCells
  simp

/- maps -/
theorem find_key {t : Ty} (n : Int) : ∀ {kv : List (Int × t.den)} {es : List MapEntry}, EntR C t kv es → ∀ (i : Nat),
    (kv.find? (fun p => decide (p.1 = n)) = none ∧ Instr.findNow (.int .i64) (.int .i64 n) es i = some none ∧ mphas t kv n = false ∧
      ∀ (x : t.den) (v : Value) (c : Nat), RV C [] (enc t x) v → EntR C t (mpset t kv n x) (es ++ [⟨.int .i64 n, v, c⟩])) ∨
    ∃ p j e, kv.find? (fun p => decide (p.1 = n)) = some p ∧ mphas t kv n = true ∧ Instr.findNow (.int .i64) (.int .i64 n) es i = some (some (i + j, e.val)) ∧ es[j]? = some e ∧ e.key = .int .i64 n ∧ RV C [] (enc t p.2) e.val ∧
      ∀ (x : t.den) (v : Value), RV C [] (enc t x) v → EntR C t (mpset t kv n x) (es.set j { e with key := .int .i64 n, val := v })
  | [], _, h, i => by
    simp only [EntR] at h
    subst h
    refine .inl ⟨rfl, rfl, rfl, fun x v c hv => ?_⟩
    exact ⟨_, [], rfl, rfl, hv, rfl⟩
  | p :: kv, _, ⟨e, r, h0, h1, h2, h3⟩, i => by
    subst h0
    by_cases hp : p.1 = n
    · refine .inr ⟨p, 0, e, by simp [hp], by simp [mphas, hp], ?_, rfl, by rw [h1, hp], h2, fun x v hv => ?_⟩
      · simp [Instr.findNow, Instr.sameNow, h1, hp]
      · obtain ⟨pk, px⟩ := p
        simp only at hp
        simp only [mpset, hp, if_true, List.set_cons_zero]
        exact ⟨_, r, rfl, rfl, hv, h3⟩
    · have hs : Instr.sameNow (.int .i64) (.int .i64 n) e.key = some false := by
        rw [h1]
        simp [Instr.sameNow, Ne.symm hp]
      rcases find_key n h3 (i + 1) with ⟨f1, f2, f3, f4⟩ | ⟨q, j, e', f1, f2, f3, f4, f5, f6, f7⟩
      · refine .inl ⟨by simp [hp, f1], by simp [Instr.findNow, hs, f2], by simpa [mphas, hp] using f3, fun x v c hv => ?_⟩
        obtain ⟨pk, px⟩ := p
        simp only at hp h1
        simp only [mpset, hp, if_false, List.cons_append]
        exact ⟨e, _, rfl, h1, h2, f4 x v c hv⟩
      · refine .inr ⟨q, j + 1, e', by simp [hp, f1], by simp [mphas, hp]; simpa [mphas] using f2, by simp [Instr.findNow, hs, f3]; omega, by simpa using f4, f5, f6, fun x v hv => ?_⟩
        obtain ⟨pk, px⟩ := p
        simp only at hp h1
        simp only [mpset, hp, if_false, List.set_cons_succ]
        exact ⟨e, _, rfl, h1, h2, f7 x v hv⟩

theorem mapOk_spec {P : Program} {t : TypeId} {ty : Ty} (h : mapOk P t ty = true) : ∃ kt e, P.underlying t = some (.map kt e) ∧ P.underlying kt = some (.int .i64) ∧ zeroOk P e ty = true ∧ ty.ok = true ∧ (enc ty ty.zero).cls = clsT P e ∧ okT P e = true := by
  unfold mapOk at h
  split at h
  · rename_i k e hu
    simp only [Bool.and_eq_true, beq_iff_eq] at h
    refine ⟨k, e, hu, ?_, h.1.1.1.2, h.1.1.2, h.1.2, h.2⟩
    have := h.1.1.1.1
    split at this
    · assumption
    · cases this
  · cases h
theorem Ghs.nil_le (g : Ghs) : Ghs.le [] g := fun b x h => by simp at h
theorem zero_RV {P : Program} {e : TypeId} {ty : Ty} (h : zeroOk P e ty = true) (hok : ty.ok = true) (hc : (enc ty ty.zero).cls = clsT P e) : ∃ i z, P.info? e = some i ∧ i.zero = some z ∧ RV C g (enc ty ty.zero) z := by
  obtain ⟨i, z, hi, hz, hzc, _, hvf⟩ := zeroOk_spec h
  refine ⟨i, z, hi, hz, ?_⟩
  have hrc : RC C g (enc ty ty.zero) (zcells ty) := RC_enc' hok (TC_zero ty)
  rcases hvf with ⟨h0, h1⟩ | ⟨h0, h1⟩
  · have hs : (zcells ty).length = 1 := by rw [h1]; rfl
    obtain ⟨x, hx, hr⟩ := RC_RV0 hrc (by rw [hc, h0]) hs
    rw [h1] at hx
    simp only [List.cons.injEq, and_true] at hx
    rw [hx]
    exact hr
  · rw [h1]
    refine RC_RV1 hrc ?_
    rw [hc]
    unfold clsT at h0 ⊢
    split <;> simp_all
theorem lookup_run {P : Program} {t : TypeId} {ty : Ty} {kv : List (Int × ty.den)} {es : Array MapEntry} {clock k : Nat} {n : Int} (hm : mapOk P t ty = true) (he : EntR C ty kv es.toList) (cok : Bool) :
    ∃ z, RV C g (cond cok (.tup [enc ty (mpval ty kv n), .bool (mphas ty kv n)]) (enc ty (mpval ty kv n))) z ∧ ∀ w : World, w.heap[k]? = some (.map es clock) → (Instr.lookup t (.map (some k)) (.int .i64 n) cok).run P w = .ok z w := by
  obtain ⟨kt, e, hu, hk, hz, hok, hc, _⟩ := mapOk_spec hm
  have hkey : MapKept.IsKey (.int .i64) (.int .i64 n) := rfl
  have fin : ∀ (v : Value) (b : Bool), RV C g (enc ty (mpval ty kv n)) v → mphas ty kv n = b → RV C g (cond cok (.tup [enc ty (mpval ty kv n), .bool (mphas ty kv n)]) (enc ty (mpval ty kv n))) (if cok then .tuple #[v, .bool b] else v) := by
    intro v b hv hb
    cases cok with
    | true => exact .tup (.cons hv (.cons (by rw [hb]; exact .one (.bool b) (by simp) (by simp)) .nil))
    | false => exact hv
  rcases find_key n he 0 with ⟨f1, f2, f3, _⟩ | ⟨p, j, e', f1, f2, f3, f4, f5, f6, _⟩
  · obtain ⟨i, z, hi, hz2, hzr⟩ := zero_RV (C := C) (g := g) hz hok hc
    refine ⟨_, fin z false (by unfold mpval; rw [f1]; exact hzr) f3, fun w hw => ?_⟩
    simp only [Instr.lookup, Sem.run_bind, run_underlying hu, Result.andThen_ok, MapKept.run_getObj_map hw, MapKept.run_checkKey hk hkey, MapKept.run_findKey hk f2, run_zeroValue hi hz2, Sem.run_pure]
  · refine ⟨_, fin e'.val true (by unfold mpval; rw [f1]; exact f6.mono (Mem.le_refl _) (Ghs.nil_le g)) f2, fun w hw => ?_⟩
    simp only [Instr.lookup, Sem.run_bind, run_underlying hu, Result.andThen_ok, MapKept.run_getObj_map hw, MapKept.run_checkKey hk hkey, MapKept.run_findKey hk f3, Sem.run_pure]
/- methods -/
theorem follow_run {P : Program} : ∀ (path : List FieldStep) (t : TypeId) (v : AV) (y : Value) (xt : TypeId) (u : AV), followAV P path t v = some (xt, u) → RV C g v y → ∃ z, RV C g u z ∧ ∀ w : World, (follow path t (.val y)).run P w = .ok (xt, .val z) w
  | [], t, v, y, xt, u, h, hv => by
    simp only [followAV, Option.some.injEq, Prod.mk.injEq] at h
    obtain ⟨rfl, rfl⟩ := h
    exact ⟨y, hv, fun w => by simp [follow]⟩
  | s :: r, t, v, y, xt, u, h, hv => by
    simp only [followAV] at h
    cases hd : s.deref with
    | true => rw [hd] at h; cases h
    | false =>
      rw [hd, cond_false] at h
      split at h
      · rename_i o ft ps hf
        obtain ⟨h1, h2⟩ := cond_some h
        split at h2
        · rename_i u1 hu
          obtain ⟨fs, fd, hun, hfi, ho, hty⟩ := fieldOff_spec hf
          obtain ⟨⟨d, hd2⟩, hone⟩ := okT_under h1
          obtain ⟨cs, hxe, hrc⟩ := RV_agg hv
          obtain ⟨pre, mid, post, rfl, hp, hm, hs, hc⟩ := at_spec _ hrc hu
          have hl : mid.length = P.cellsOf ft := by rw [RC_size hm, hs]; rfl
          have hvf : ∃ z, RV C g u1 z ∧ VF P ft mid z := by
            by_cases h0 : clsT P ft = 0
            · obtain ⟨z, rfl, hz⟩ := RC_RV0 hm (hc.trans h0) (by rw [hl]; exact hone h0)
              exact ⟨z, hz, .inl ⟨h0, rfl⟩⟩
            · have h12 : u1.cls = 1 ∨ u1.cls = 2 := by
                rw [hc]
                unfold clsT at h0 ⊢
                split <;> simp_all
              exact ⟨_, RC_RV1 hm h12, .inr ⟨h0, rfl⟩⟩
          obtain ⟨z, hz, hvf⟩ := hvf
          obtain ⟨z2, hz2, hr⟩ := follow_run r ft u1 z xt u h2 hz
          refine ⟨z2, hz2, fun w => ?_⟩
          have hpart := part_run (P := P) (t := ft) (d := d) (pre := pre) (mid := mid) (post := post) (off := o) hd2 hp.symm hl hvf w (info_of_under hd2)
          subst hxe
          simp only [follow, Sem.run_bind, run_underlying hun, Result.andThen_ok, hfi, hd, Bool.false_eq_true, if_false, hty, ho, hpart, hr]
        · cases h2
      · cases h
theorem invoke_run {P : Program} {name : String} {xv u : AV} {x : Value} {f : FuncId} (hx : RV C g xv x) (h : invokeAV P name xv = some (f, u)) : ∃ z, RV C g u z ∧ ∀ (rest : Array Value) (w : World), (callMethod x name rest).run P w = (callFunc f (#[z] ++ rest)).run P w := by
  unfold invokeAV at h
  split at h
  · rename_i t v
    obtain ⟨y, rfl, hv⟩ := RV_iface hx
    split at h
    · rename_i i hi
      split at h
      · rename_i m hm
        split at h
        · rename_i f' hf
          split at h
          · rename_i xt u' hfo
            obtain ⟨h1, h2⟩ := cond_some h
            simp only [Option.some.injEq, Prod.mk.injEq] at h2
            obtain ⟨rfl, rfl⟩ := h2
            obtain ⟨z, hz, hr⟩ := follow_run _ _ _ _ _ _ hfo hv
            refine ⟨z, hz, fun rest w => ?_⟩
            have hti : (typeInfo t).run P w = .ok i w := by simp [typeInfo, hi]
            have hrec : ∀ wr, (receiverAt xt (.val z) false wr).run P w = .ok z w := by
              intro wr
              unfold notPtr at h1
              split at h1
              · cases h1
              · rename_i d hne hu
                unfold receiverAt
                simp only [Sem.run_bind, run_underlying hu, Result.andThen_ok]
                simp [Place.get]
              · cases h1
            have hmeth : ∀ n : Nat, (method (n + 1) t y name).run P w = .ok (f', z) w := by
              intro n
              unfold method
              simp only [Sem.run_bind, hti, Result.andThen_ok, hm, hr, hf, hrec, Sem.run_pure]
            have hfuel : ∃ n, P.types.size + Made.depth = n + 1 := ⟨P.types.size + Made.depth - 1, by unfold Made.depth; omega⟩
            obtain ⟨n, hn⟩ := hfuel
            unfold callMethod
            simp only [Sem.run_bind, run_program, Result.andThen_ok, hn, hmeth]
          · cases h
        · cases h
      · cases h
    · cases h
  · cases h
theorem invoke_enter {P : Program} {a : Act} {dst : Option Tmp} {xo : Operand} {name : String} {args : Array Operand} {ats : Array TypeId} {ty : TypeId} {pos : String} {after : Array Edge} {guard : Option (Nat × Bool)} {gf : FuncId} {z : Value} {fn : Func}
    (hrunM : ∀ (rest : Array Value) (w : World), (callMethod (a.eval xo) name rest).run P w = (callFunc gf (#[z] ++ rest)).run P w) (hfn : P.funcs[gf]? = some fn) (hname : (fn.name == "runtime.NumGoroutine") = false) (hbody : fn.body.isNone = false) (w : World) :
    (execOp a.eval ⟨dst, .call ⟨.invoke xo name, args, ats⟩, ty, pos, after, guard⟩).run P w = .ok (.enter gf (z :: args.toList.map a.eval).toArray) w := by
  have h0 : (#[a.eval xo] ++ args.map a.eval)[0]? = some (a.eval xo) := by
    rw [← Array.getElem?_toList, Array.toList_append]
    rfl
  have h1 : (#[a.eval xo] ++ args.map a.eval).extract 1 (#[a.eval xo] ++ args.map a.eval).size = args.map a.eval := by
    rw [← Array.toList_inj]
    simp [List.take_of_length_le]
  have harr : #[z] ++ args.map a.eval = (z :: args.toList.map a.eval).toArray := by
    rw [← Array.toList_inj]; simp
  simp only [execOp, resolve, Sem.run_bind, Sem.run_pure, Result.andThen_ok, invoke, h0, h1, hrunM, callFunc, run_program, hfn, hname, hbody, harr, Bool.false_eq_true, if_false]

end
end Am
end Go.Proofs.Ytkjpoongkdapoaa
