/-
  A symbolic machine over the model, part 22: a range over a function.
-/
import Derived.Test.YtkjpoongkdapoaaBm21
namespace Go.Proofs.Ytkjpoongkdapoaa
namespace Am
open Go Go.RowKit
set_option linter.unusedVariables false
set_option linter.unusedSimpArgs false

/-- no row in it -/
theorem fixed_box {g g' : Ghs} (hf : ∀ (b : Nat) (x : Gh), g[b]? = some x → x.fixed = true → g'[b]? = some x) {b k : Nat} (h : Ghs.box g b = some k) : Ghs.box g' b = some k := by
  unfold Ghs.box at *
  cases hb : g[b]? with
  | none => rw [hb] at h; simp at h
  | some x =>
    rw [hb] at h
    cases x with
    | box q T => rw [hf b _ hb rfl]; exact h
    | _ => simp at h

theorem IntKind.same_self (k : IntKind) : IntKind.same k k = true := by cases k <;> rfl
theorem dec2_enc2 : ∀ (t : Ty), t.ok = true → (∀ y : t.den, (dec2 t).1 (enc2 t y).1 = some y) ∧ (t.chain = true → ∀ y : t.den, (dec2 t).2 (enc2 t y).2 = some y) := by
  intro t
  induction t with
  | int k => exact fun _ => ⟨fun y => by simp [dec2, enc2, IntKind.same_self], fun h => by simp [Ty.chain] at h⟩
  | u8 => exact fun _ => ⟨fun y => rfl, fun h => by simp [Ty.chain] at h⟩
  | bool => exact fun _ => ⟨fun y => rfl, fun h => by simp [Ty.chain] at h⟩
  | str => exact fun _ => ⟨fun y => rfl, fun h => by simp [Ty.chain] at h⟩
  | id => exact fun _ => ⟨fun y => rfl, fun h => by simp [Ty.chain] at h⟩
  | unit => exact fun _ => ⟨fun y => rfl, fun _ y => rfl⟩
  | sl e _ => exact fun _ => ⟨fun y => by simp [dec2, enc2], fun h => by simp [Ty.chain] at h⟩
  | pair s t ihs iht =>
    intro h
    simp only [Ty.ok, Bool.and_eq_true] at h
    have h1 := (ihs h.1.1).1
    have h2 := (iht h.1.2).2 h.2
    exact ⟨fun y => by simp [dec2, enc2, h1, h2], fun _ y => by simp [dec2, enc2, h1, h2]⟩
theorem dec_enc (t : Ty) (h : t.ok = true) (y : t.den) : dec t (enc t y) = some y := (dec2_enc2 t h).1 y

mutual
theorem stillC {C C' : Mem} {g g' : Ghs} (hC : C.le C') (hf : ∀ (b : Nat) (x : Gh), g[b]? = some x → x.fixed = true → g'[b]? = some x) : ∀ {s : Sh} {y : s.den} {cs : List Value}, s.still = true → s.okC = true → RC C g (encS2 s y).1 cs → RC C' g' (encS2 s y).1 cs
  | .d t, y, cs, _, hok, h => by
    have h2 : RC C [] (encS2 (.d t) y).1 cs → RC C' g' (encS2 (.d t) y).1 cs := fun h => RC.mono hC (Ghs.nil_le g') h
    apply h2
    have hd : dec t (enc t y) = some y := dec_enc t hok y
    exact RC_enc' hok (TC_dec' h hd)
  | .own _ _, _, _, hs, _, _ => by simp [Sh.still] at hs
  | .agg c, y, cs, hs, hok, h => by
    cases h with
    | agg h => exact .agg (stillCL hC hf (by simpa [Sh.still] using hs) (by simpa [Sh.okC] using hok) h)
  | .tup _, _, _, _, hok, _ => by simp [Sh.okC] at hok
  | .cptr s, y, cs, hs, hok, h => by
    cases h with
    | cptr h ha => exact .cptr (stillC hC hf (by simpa [Sh.still] using hs) (by simpa [Sh.okC] using hok) h) (ha.mono hC)
  | .fn f a c, y, cs, hs, hok, h => by
    simp only [Sh.still, Bool.and_eq_true] at hs
    simp only [Sh.okC, Bool.and_eq_true] at hok
    cases h with
    | fn h1 h2 => exact .fn (stillVL hC hf hs.1 hok.1 h1) (stillVL hC hf hs.2 hok.2 h2)
  | .loc b o, y, cs, _, _, h => by
    cases h with
    | loc h => exact .loc (fixed_box hf h)
  | .idsl b o, y, cs, _, _, h => by
    cases h with
    | idsl h => exact .idsl (fixed_box hf h)
  | .nil, y, cs, _, _, h => by cases h; exact .nilsl
  | .nilfn, y, cs, _, _, h => by cases h; exact .nilfn
  | .any, _, _, _, hok, _ => by simp [Sh.okC] at hok
  | .yld b, y, cs, _, _, h => by
    cases h with
    | yld h => exact .yld (hf _ _ h rfl)
  | .lst fs, y, cs, _, _, h => by
    cases h with
    | lst ha => exact .lst (ha.mono hC)
  | .asl t b, y, cs, _, _, h => by
    cases h with
    | asl hg h0 hb => exact .asl (hf _ _ hg rfl) h0 hb
  | .mref b, y, cs, _, _, h => by
    cases h with
    | mref hg => exact .mref (hf _ _ hg rfl)
  | .unit, _, _, _, hok, _ => by simp [Sh.okC] at hok
  | .cons _ _, _, _, _, hok, _ => by simp [Sh.okC] at hok
theorem stillCL {C C' : Mem} {g g' : Ghs} (hC : C.le C') (hf : ∀ (b : Nat) (x : Gh), g[b]? = some x → x.fixed = true → g'[b]? = some x) : ∀ {s : Sh} {y : s.den} {cs : List Value}, s.still = true → s.chC = true → RCL C g (encS2 s y).2 cs → RCL C' g' (encS2 s y).2 cs
  | .unit, _, _, _, _, h => by cases h; exact .nil
  | .cons s c, y, cs, hs, hok, h => by
    simp only [Sh.still, Bool.and_eq_true] at hs
    simp only [Sh.chC, Bool.and_eq_true] at hok
    cases h with
    | cons h1 h2 => exact .cons (stillC hC hf hs.1 hok.1 h1) (stillCL hC hf hs.2 hok.2 h2)
  | .d _, _, _, _, hok, _ | .own _ _, _, _, _, hok, _ | .agg _, _, _, _, hok, _ | .tup _, _, _, _, hok, _ | .cptr _, _, _, _, hok, _ | .fn _ _ _, _, _, _, hok, _ | .loc _ _, _, _, _, hok, _
  | .idsl _ _, _, _, _, hok, _ | .nil, _, _, _, hok, _ | .nilfn, _, _, _, hok, _ | .any, _, _, _, hok, _ | .yld _, _, _, _, hok, _ | .lst _, _, _, _, hok, _ | .asl _ _, _, _, _, hok, _ | .mref _, _, _, _, hok, _ => by simp [Sh.chC] at hok
theorem stillV {C C' : Mem} {g g' : Ghs} (hC : C.le C') (hf : ∀ (b : Nat) (x : Gh), g[b]? = some x → x.fixed = true → g'[b]? = some x) : ∀ {s : Sh} {y : s.den} {x : Value}, s.still = true → s.okV = true → RV C g (encS2 s y).1 x → RV C' g' (encS2 s y).1 x
  | .d t, y, x, _, hok, h => RV.mono hC (Ghs.nil_le g') (RV_enc hok h (dec_enc t hok y))
  | .own _ _, _, _, hs, _, _ => by simp [Sh.still] at hs
  | .agg c, y, x, hs, hok, h => by
    obtain ⟨cs, rfl, hh⟩ := RV_agg (ps := (encS2 c y).2) h
    cases hh with
    | agg hh => exact .agg (.agg (stillCL hC hf (by simpa [Sh.still] using hs) (by simpa [Sh.okV] using hok) hh))
  | .tup c, y, x, hs, hok, h => by
    obtain ⟨ws, rfl, hh⟩ := RV_tup (vs := (encS2 c y).2) h
    exact .tup (stillVL hC hf (by simpa [Sh.still] using hs) (by simpa [Sh.okV] using hok) hh)
  | .cptr s, y, x, hs, hok, h => by
    obtain ⟨ad, cs, rfl, hh, ha⟩ := RV_cptr (v := (encS2 s y).1) h
    exact .one (.cptr (stillC hC hf (by simpa [Sh.still] using hs) (by simpa [Sh.okV] using hok) hh) (ha.mono hC)) (by simp [encS2]) (by simp [encS2])
  | .fn f a c, y, x, hs, hok, h => by
    simp only [Sh.still, Bool.and_eq_true] at hs
    simp only [Sh.okV, Bool.and_eq_true] at hok
    obtain ⟨us, ks, rfl, h1, h2⟩ := RV_fn h
    exact .one (.fn (stillVL hC hf hs.1 hok.1 h1) (stillVL hC hf hs.2 hok.2 h2)) (by simp [encS2]) (by simp [encS2])
  | .loc b o, y, x, _, _, h => by
    obtain ⟨k, hk, rfl⟩ := RV_loc h
    exact .one (.loc (fixed_box hf hk)) (by simp [encS2]) (by simp [encS2])
  | .idsl b o, y, x, _, _, h => by
    obtain ⟨k, hk, rfl⟩ := RV_idsl h
    exact .one (.idsl (fixed_box hf hk)) (by simp [encS2]) (by simp [encS2])
  | .nil, y, x, _, _, h => by
    rw [RV_nilsl h]
    exact .one .nilsl (by simp [encS2]) (by simp [encS2])
  | .nilfn, y, x, _, _, h => by
    rw [RV_nilfn h]
    exact .one .nilfn (by simp [encS2]) (by simp [encS2])
  | .any, y, x, _, _, h => .any x
  | .yld b, y, x, _, _, h => by
    obtain ⟨l, rfl, hl⟩ := RV_yld h
    exact .one (.yld (hf _ _ hl rfl)) (by simp [encS2]) (by simp [encS2])
  | .lst fs, y, x, _, _, h => by
    cases h with
    | one h h1 h2 => cases h with | lst ha => exact .one (.lst (ha.mono hC)) h1 h2
  | .asl t b, y, x, _, _, h => by
    cases h with
    | one h h1 h2 => cases h with | asl hg h0 hb => exact .one (.asl (hf _ _ hg rfl) h0 hb) h1 h2
  | .mref b, y, x, _, _, h => by
    cases h with
    | one h h1 h2 => cases h with | mref hg => exact .one (.mref (hf _ _ hg rfl)) h1 h2
  | .unit, _, _, _, hok, _ => by simp [Sh.okV] at hok
  | .cons _ _, _, _, _, hok, _ => by simp [Sh.okV] at hok
theorem stillVL {C C' : Mem} {g g' : Ghs} (hC : C.le C') (hf : ∀ (b : Nat) (x : Gh), g[b]? = some x → x.fixed = true → g'[b]? = some x) : ∀ {s : Sh} {y : s.den} {xs : List Value}, s.still = true → s.chV = true → RVL C g (encS2 s y).2 xs → RVL C' g' (encS2 s y).2 xs
  | .unit, _, _, _, _, h => by cases h; exact .nil
  | .cons s c, y, cs, hs, hok, h => by
    simp only [Sh.still, Bool.and_eq_true] at hs
    simp only [Sh.chV, Bool.and_eq_true] at hok
    cases h with
    | cons h1 h2 => exact .cons (stillV hC hf hs.1 hok.1 h1) (stillVL hC hf hs.2 hok.2 h2)
  | .d _, _, _, _, hok, _ | .own _ _, _, _, _, hok, _ | .agg _, _, _, _, hok, _ | .tup _, _, _, _, hok, _ | .cptr _, _, _, _, hok, _ | .fn _ _ _, _, _, _, hok, _ | .loc _ _, _, _, _, hok, _
  | .idsl _ _, _, _, _, hok, _ | .nil, _, _, _, hok, _ | .nilfn, _, _, _, hok, _ | .any, _, _, _, hok, _ | .yld _, _, _, _, hok, _ | .lst _, _, _, _, hok, _ | .asl _ _, _, _, _, hok, _ | .mref _, _, _, _, hok, _ => by simp [Sh.chV] at hok
end

theorem encM_len : ∀ (l : List BSh) (y : MSh l), (encM l y).length = l.length
  | [], _ => rfl
  | s :: l, y => by simp [encM, encM_len l]
theorem encM_noLoop : ∀ {l : List BSh} {y : MSh l}, noLoop l = true → ∀ b : Nat, (encM l y)[b]? ≠ some .loop
  | [], y, _, b => by simp [encM]
  | s :: l, y, h, 0 => by
    cases s <;> simp [noLoop] at h <;> simp [encM, BSh.enc]
  | s :: l, y, h, b + 1 => by
    have hl : noLoop l = true := by cases s <;> simp [noLoop] at h <;> exact h
    simpa [encM] using encM_noLoop hl b

/-- what is asked of a range over a function -/
structure RfOk (E : Env) (fn : FuncId) (rf : Rf) (ps : List Tmp) (assign body : Code) (ysh : Sh) (Y : rf.sh.den → ysh.den × MSh rf.ms → Tr (MSh rf.ms)) (E2 : rf.sh.den → Env) : Prop where
  shs : (rf.sh.still && noLoop rf.ms && rf.csh.chV && ysh.chV && (loopsOf (.seq assign body)).isEmpty && (rfsOf (.seq assign body)).isEmpty && (rfsOf (bodyOf E.P rf.it)).isEmpty && okF E.P rf.it) = true
  par : ∀ a, (encL ysh a).length = ps.length
  bod : ∀ x a z z', (Y x (a, z)).get = some z' → bodyB E fn rf.m rf.keep rf.sh ysh rf.ms ps assign body x a z = some z'
  env : ∀ x, EnvOk (E2 x)
  prog : ∀ x, (E2 x).P = E.P
  loops : ∀ x, LoopsGood ((E2 x).yielding (mlen rf.ms + 1) (mrange 0 (mlen rf.ms)) (fcY ysh rf.ms (Y x))) rf.it (bodyOf E.P rf.it)
  it : ∀ x y z z', (rf.sum (x, y, z)).get = some z' → runIt (E2 x) rf.it ysh rf.csh rf.ms (Y x) y z = some z'

section
variable {X : Ctx} {w0 w : World} {C0 C : Mem} {fs : List (List Value)} {g : Ghs} {st : St} {a : Act}

theorem params_RVL : ∀ (ps : List Tmp) (as : List AV) (vs : List Value) (ts : List AV) (tm : Array Value), RVL C g ts tm.toList → RVL C g as vs →
    RVL C g ((ps.zip as).foldl (fun ts p => mset ts p.1 p.2) ts) ((ps.zip vs).foldl (fun t p => t.setIfInBounds p.1 p.2) tm).toList
  | [], as, vs, ts, tm, h, _ => by simpa using h
  | p :: ps, _, _, ts, tm, h, .nil => by simpa using h
  | p :: ps, _, _, ts, tm, h, .cons hv ht => by
    simp only [List.zip_cons_cons, List.foldl_cons]
    refine params_RVL ps _ _ _ _ ?_ ht
    rw [mset_eq, Array.toList_setIfInBounds]
    exact RVL.set h p _ _ hv

/-- from here on -/
theorem Rel.now {mem : List Blk} (h : Rel X w0 C0 C g mem w) : Rel X w C C g mem w :=
  ⟨Keeps.refl _ _, fun _ hk => h.lt hk, h.sub, Mem.le_refl _, fun _ _ => rfl, h.len, h.keep, h.blk, h.sep⟩

theorem putObj_grown (l : Nat) (o : Obj) : w.grownBy (w.putObj l o) (some l) := ⟨rfl, rfl, rfl, by simp, fun k _ hk => World.putObj_heap_other (fun e => hk (by rw [e]))⟩

theorem Rel.put_sub {mem : List Blk} (h : Rel X w0 C0 C g mem w) {l : Nat} {o : Obj} (o' : Obj) (hl : w.heap[l]? = some o) (hc : ∀ a : Addr, a.block = l → w.cell? a = none) (ho : noCells o) :
    (∀ a v, C a = some v → (w.putObj l o').cell? a = some v) ∧ (∀ (b : Nat) (m : Blk) (x : Gh), mem[b]? = some m → g[b]? = some x → BlkRel X C g (w.putObj l o') m x) := by
  refine ⟨fun a v e => ?_, fun b m x hm hx => ?_⟩
  · have h1 := h.sub a v e
    have hne : a.block ≠ l := fun he => by rw [hc a he] at h1; cases h1
    rw [World.cell?_of_block (w := w) (World.putObj_heap_other hne)]
    exact h1
  · have hr := h.blk b m x hm hx
    refine hr.grown (putObj_grown l o') fun k hk e => ?_
    obtain ⟨o2, hh, hno⟩ := live_cells hr hk
    simp only [Option.some.injEq] at e
    subst e
    rw [hl] at hh
    cases hh
    exact hno ho

/-- a block of the model's own turns, from here on -/
theorem Rel.turnObj {mem : List Blk} (h : Rel X w0 C0 C g mem w) {l : Nat} {o : Obj} (o' : Obj) (hl : w.heap[l]? = some o) (hc : ∀ a : Addr, a.block = l → w.cell? a = none) (ho : noCells o) : Rel X (w.putObj l o') C C g mem (w.putObj l o') := by
  obtain ⟨h1, h2⟩ := h.put_sub o' hl hc ho
  exact ⟨Keeps.refl _ _, fun k hk => by have := h.lt hk; simpa using this, h1, Mem.le_refl _, fun _ _ => rfl, h.len, h.keep, h2, h.sep⟩

theorem yld_ok {E : Env} (hE : EnvOk E) {fn : FuncId} {rf : Rf} {E2 : rf.sh.den → Env} {ps : List Tmp} {assign body : Code} {ysh : Sh} {Y : rf.sh.den → ysh.den × MSh rf.ms → Tr (MSh rf.ms)} (h : RfOk E fn rf ps assign body ysh Y E2)
    {X1 : Ctx} {w1 : World} {C1 : Mem} {l : Nat} {rec : Loop} (hrec : w1.heap[l]? = some (.loop rec)) (hst : rec.state = .ready) (hpe : rec.pending = none) (hps : rec.params.toList = ps) (has : rec.assign = assign) (hbo : rec.body = body)
    (hS1 : X1.S l) {G : Ghs} {x : rf.sh.den} {zs : List Value} (hG : X1.G = G ++ [.loop l]) (hGl : G.length = rf.ms.length) (hsh : rf.sh.chV = true) (hzs : RVL C1 G (encL rf.sh x) zs) (hm : rf.m = rec.tmps.toList.length)
    (hk : ∀ (j i : Nat), rf.keep[j]? = some i → rec.tmps.toList[i]? = zs[j]?) (hokm : okM rf.ms = true) :
    YldOk E.P X1 w1 C1 (mrange 0 (mlen rf.ms)) (fcY ysh rf.ms (Y x)) l := by
  intro X w0 C0 C g mem w as vs q0 q hrel hXG hK hC hks hargs hdec hget
  have hshs := h.shs
  simp only [Bool.and_eq_true, List.isEmpty_iff] at hshs
  obtain ⟨⟨⟨⟨⟨⟨⟨hstill, hnl⟩, hcsh⟩, hysh⟩, hlo⟩, hrfs⟩, hrfi⟩, hokf⟩ := hshs
  obtain ⟨ya, z⟩ := q0
  obtain ⟨e1, e2⟩ := both_some hdec
  simp only at e1 e2
  obtain ⟨z', hz', rfl⟩ := Tr.get_map hget
  have hb := h.bod x ya z z' hz'
  have hlw : w.heap[l]? = some (.loop rec) := (hK.block l hS1).trans hrec
  have hya := decVL hysh hargs e1
  have hvl : vs.length = ps.length := by rw [← RVL.length hya]; exact h.par ya
  have hpl : pick (mrange 0 (mlen rf.ms)) g = pick (mrange 0 (mlen rf.ms)) g := rfl
  have hplen : (pick (mrange 0 (mlen rf.ms)) g).length = mlen rf.ms := by simp [pick, mrange_len]
  have hfoot := (hrel.foot hks).form hokm e2
  have hcl := cell_none hlw (.inl ⟨rec, rfl⟩)
  have hSl : (footX X w g mem (mrange 0 (mlen rf.ms))).S l := by
    refine ⟨blk_lt hlw, fun i m y hi hm' hy hl' => ?_⟩
    obtain ⟨o2, hh, hno⟩ := live_cells (hrel.blk i m y hm' hy) hl'
    rw [hlw] at hh
    cases hh
    exact hno trivial
  have hrun := run_yield (P := E.P) (args := vs.toArray) hlw (by rw [← hps] at hvl; simpa using hvl)
  refine ⟨rec.fn, _, rec.assign, rec.body, hrun, roundIn_of_wpIn (F := Fence.wide) trivial ?_⟩
  rw [has, hbo]
  -- the frame
  have hfix : ∀ (b : Nat) (y : Gh), G[b]? = some y → y.fixed = true → (pick (mrange 0 (mlen rf.ms)) g)[b]? = some y := by
    intro b y hb hf
    have hbl := lt_of_getElem? hb
    have h1 : X.G[b]? = some y := by rw [hXG, hG, List.getElem?_append_left hbl]; exact hb
    refine pick_get ?_ (hrel.keep b y h1 hf)
    rw [mrange_get, mlen_eq, if_pos (by omega), Nat.zero_add]
  have hframe : RVL C (pick (mrange 0 (mlen rf.ms)) g) (fill rf.m (rf.keep.zip (encL rf.sh x))) rec.tmps.toList := fill_vals hm (stillVL hC hfix hstill hsh hzs) hk
  have htm := params_RVL ps _ vs _ rec.tmps hframe hya
  have hpz : (rec.params.zip vs.toArray).foldl (fun tmps (t, a) => tmps.setIfInBounds t a) rec.tmps = (ps.zip vs).foldl (fun t p => t.setIfInBounds p.1 p.2) rec.tmps := by
    rw [← Array.foldl_toList, Array.toList_zip, hps]
  rw [hpz]
  have hE' : EnvOk { E with nf := mlen rf.ms, yld := none, ct := fun _ _ => none } := ⟨hE.hm, hE.con, hE.inl, hE.inr, fun _ _ _ => rfl⟩
  simp only [loopsOf, mapp_eq, List.append_eq_nil_iff] at hlo
  simp only [rfsOf, mapp_eq, List.append_eq_nil_iff] at hrfs
  have hxa : ExecOk { E with nf := mlen rf.ms, yld := none, ct := fun _ _ => none } fn (some l) assign := exec_sound hE' assign (LoopsGood.nil hlo.1 fun _ => rfl) (fun d hd => by rw [hrfs.1] at hd; cases hd)
  have hxb : ExecOk { E with nf := mlen rf.ms, yld := none, ct := fun _ _ => none } fn (some l) body := exec_sound hE' body (LoopsGood.nil hlo.2 fun _ => rfl) (fun d hd => by rw [hrfs.2] at hd; cases hd)
  unfold bodyB at hb
  simp only [exec] at hb
  refine hxa (footX X w g mem (mrange 0 (mlen rf.ms))) w C [] _ (callee { E with nf := mlen rf.ms, yld := none, ct := fun _ _ => none } 3) _ z' _ hplen (fun X' hX' => callee_sound hE' 3 _ X' hX') (fun ks fc hy l hl => by cases hy) (fun _ _ _ _ => panOk_none) ?_ _ _ w ⟨C, _, hfoot, htm, .nil, rfl⟩ hb
  intro X' w0' C0' hx e' st' a' w' ⟨C', g', h'⟩ ek
  have hbk := h'.back hx
  cases e' with
  | exit i => cases ek
  | ret => cases ek
  | normal =>
    simp only at ek
    have hlw' : w'.heap[l]? = some (.loop rec) := (hbk.rel.below.block l hSl).trans hlw
    have hcl' := cell_none hlw' (.inl ⟨rec, rfl⟩)
    refine ⟨_, run_beginRound hlw' hst, ?_⟩
    -- the body, in the world in which the round has begun
    have hrb := (hbk.rel.turnObj (.loop { rec with state := .busy }) hlw' hcl'.1 hcl'.2).reds a'.defers
    refine hxb { footX X w g mem (mrange 0 (mlen rf.ms)) with ds := a'.defers } _ C' [] _ (callee { E with nf := mlen rf.ms, yld := none, ct := fun _ _ => none } 3) _ z' _ hplen (fun X' hX' => callee_sound hE' 3 _ X' hX') (fun ks fc hy l hl => by cases hy) (fun _ _ _ _ => panOk_none) ?_ st' a' _
      ⟨C', g', hrb, h'.tm, h'.out, rfl⟩ ek
    intro X2 w02 C02 hx2 e2 st2 a2 w3 ⟨C3, g3, h3⟩ ek2
    cases e2 with
    | exit i => cases ek2
    | ret => cases ek2
    | normal =>
      simp only [Option.map_eq_some_iff] at ek2
      obtain ⟨vz, hvz, rfl⟩ := ek2
      obtain ⟨g4, _, hr4, _, _, _⟩ := view_spec h3 (by rw [hx2.G]; exact hplen) hvz
      have hr5 := (hr4.back hx2).reds []
      have hlt2 : l < w'.heap.size := blk_lt hlw'
      have hl2 : (w'.putObj l (.loop { rec with state := .busy })).heap[l]? = some (.loop { rec with state := .busy }) := World.putObj_heap_same hlt2
      have hl3 : w3.heap[l]? = some (.loop { rec with state := .busy }) := (hr5.below.block l hSl).trans hl2
      have hcl3 := cell_none hl3 (.inl ⟨_, rfl⟩)
      have hend := run_endRound (P := E.P) none hl3
      refine ⟨_, _, hend, rfl, C3, g4, ?_⟩
      have hrr : ({ { rec with state := LoopState.busy } with state := if (none : Option Code).isNone = true then LoopState.ready else LoopState.done, pending := none } : Loop) = rec := by
        cases rec
        simp only at hst hpe
        subst hst; subst hpe
        rfl
      rw [hrr]
      obtain ⟨i1, i2⟩ := hr5.put_sub (.loop rec) hl3 hcl3.1 hcl3.2
      have ha := hbk.rel.below
      have hb2 := hr5.below
      refine ⟨⟨?_, ?_, ?_, ?_, ?_⟩, fun k hk => hk.1, i1, Mem.le_trans hbk.rel.base hr5.base, fun ad had => (hr5.old ad had).trans (hbk.rel.old ad had), hr5.len, hr5.keep, i2, hr5.sep⟩
      · exact hb2.os.trans ha.os
      · exact hb2.tape.trans ha.tape
      · exact hb2.output.trans ha.output
      · have h1 := ha.size
        have h2 := hb2.size
        simp only [World.putObj_size] at h2 ⊢
        omega
      · intro k hk
        by_cases hkl : k = l
        · subst hkl
          rw [World.putObj_heap_same (blk_lt hl3), hlw]
        · rw [World.putObj_heap_other hkl, hb2.block k hk, World.putObj_heap_other hkl]
          exact ha.block k hk

theorem Rel.addLoop {mem : List Blk} (h : Rel X w0 C0 C g mem w) (hG : X.G = g) {l : Nat} (hl : X.Y l) : Rel { X with G := g ++ [.loop l] } w0 C0 C (g ++ [.loop l]) (mem ++ [.loop]) w := by
  have get : ∀ {b : Nat} {m : Blk} {x : Gh}, (mem ++ [Blk.loop])[b]? = some m → (g ++ [Gh.loop l])[b]? = some x → (mem[b]? = some m ∧ g[b]? = some x) ∨ (m = .loop ∧ x = .loop l) := by
    intro b m x hm hx
    rcases getElem?_snoc hm with ⟨h1, h2⟩ | ⟨h1, h2⟩
    · rw [List.getElem?_append_left (by rw [← h.len]; exact h1)] at hx
      exact .inl ⟨h2, hx⟩
    · rcases getElem?_snoc hx with ⟨h3, _⟩ | ⟨_, h4⟩
      · rw [← h.len] at h3; omega
      · exact .inr ⟨h2, h4⟩
  refine ⟨h.below, h.low, h.sub, h.base, h.old, by simp [h.len], fun b x hb _ => hb, ?_, ?_⟩
  · intro b m x hm hx
    rcases get hm hx with ⟨h1, h2⟩ | ⟨rfl, rfl⟩
    · cases h.blk b m x h1 h2 with
      | box k1 k2 k3 k4 => exact .box k1 k2 (RC.mono (Mem.le_refl _) (Ghs.le_append _ _) k3) k4
      | fro k1 k2 => exact .fro k1 (RC.mono (Mem.le_refl _) (Ghs.le_append _ _) k2)
      | own k0 k1 k2 k3 => exact .own k0 k1 k2 k3
      | clip => exact .clip
      | loop hl => exact .loop hl
      | arr k0 k1 k2 k3 k4 k5 => exact .arr k0 k1 k2 k3 k4 k5
      | arr0 => exact .arr0
      | mp k0 k1 k2 k3 => exact .mp k0 k1 k2 k3
      | dead => exact .dead
    · exact .loop hl
  · intro b b' m m' x x' k hm hx hm' hx' hk hk'
    rcases get hm hx with ⟨h1, h2⟩ | ⟨rfl, rfl⟩
    · rcases get hm' hx' with ⟨h3, h4⟩ | ⟨rfl, rfl⟩
      · exact h.sep b b' m m' x x' k h1 h2 h3 h4 hk hk'
      · cases hk'
    · cases hk

/-- where no loop is, none is asked for -/
theorem Rel.reY {mem : List Blk} (h : Rel X w0 C0 C g mem w) (hn : ∀ b : Nat, mem[b]? ≠ some .loop) (Y : Nat → Prop) : Rel { X with Y := Y } w0 C0 C g mem w :=
  ⟨h.below, h.low, h.sub, h.base, h.old, h.len, h.keep, fun b m x hm hx => by
    cases h.blk b m x hm hx with
    | box h1 h2 h3 h4 => exact .box h1 h2 h3 h4
    | fro h1 h2 => exact .fro h1 h2
    | own h0 h1 h2 h3 => exact .own h0 h1 h2 h3
    | clip => exact .clip
    | loop hl => exact absurd hm (hn b)
    | arr h0 h1 h2 h3 h4 h5 => exact .arr h0 h1 h2 h3 h4 h5
    | arr0 => exact .arr0
    | mp h0 h1 h2 h3 => exact .mp h0 h1 h2 h3
    | dead => exact .dead, h.sep⟩

theorem range_ok (m n : Nat) (hmn : n ≤ m) : okKs m (mrange 0 n) = true := by
  have idxr : ∀ (k i b : Nat), b < i → idx (mrange i k) b = none := by
    intro k
    induction k with
    | zero => intro i b _; rfl
    | succ k ih =>
      intro i b hb
      simp only [mrange, idx]
      have : Nat.beq i b = false := by
        cases h : Nat.beq i b with
        | false => rfl
        | true => have := Nat.eq_of_beq_eq_true h; omega
      rw [this, cond_false, ih (i + 1) b (by omega)]
      rfl
  have : ∀ (k i : Nat), i + k ≤ m → okKs m (mrange i k) = true := by
    intro k
    induction k with
    | zero => intro i _; rfl
    | succ k ih =>
      intro i hi
      simp only [mrange, okKs, Bool.and_eq_true]
      refine ⟨⟨?_, ?_⟩, ih (i + 1) (by omega)⟩
      · rw [Nat.blt_eq]; omega
      · rw [idxr k (i + 1) i (by omega)]; rfl
  exact this n 0 (by omega)

/-- one block more is left alone -/
theorem Rel.protect {mem : List Blk} (h : Rel X w C C g mem w) {D : Nat} {o : Obj} (hD : w.heap[D]? = some o) (ho : noCells o) (ds : List Deferred) : Rel { X with S := fun k => X.S k ∨ k = D, ds := ds } w C C g mem w := by
  have hne : ∀ {b : Nat} {m : Blk} {x : Gh} {k : Nat}, mem[b]? = some m → g[b]? = some x → liveOf m x = some k → ¬ (X.S k ∨ k = D) := by
    intro b m x k hm hx hl hs
    have hr := h.blk b m x hm hx
    rcases hs with hs | rfl
    · exact (live_lt hr hl).1 hs
    · obtain ⟨o2, hh, hno⟩ := live_cells hr hl
      rw [hD] at hh
      cases hh
      exact hno ho
  refine ⟨Keeps.refl _ _, fun k hk => ?_, h.sub, Mem.le_refl _, fun _ _ => rfl, h.len, h.keep, fun b m x hm hx => ?_, h.sep⟩
  · rcases hk with hk | rfl
    · exact h.lt hk
    · exact blk_lt hD
  · have hn := fun k => hne (k := k) hm hx
    cases h.blk b m x hm hx with
    | box k1 k2 k3 k4 => exact .box (hn _ rfl) k2 k3 k4
    | fro k1 k2 => exact .fro k1 k2
    | own k0 k1 k2 k3 => exact .own (hn _ rfl) k1 k2 k3
    | clip => exact .clip
    | loop hl => exact .loop hl
    | arr k0 k1 k2 k3 k4 k5 => exact .arr (hn _ rfl) k1 k2 k3 k4 k5
    | arr0 => exact .arr0
    | mp k0 k1 k2 k3 => exact .mp (hn _ rfl) k1 k2 k3
    | dead => exact .dead

theorem rf_sound {E : Env} (hE : EnvOk E) {fn : FuncId} {rf : Rf} {E2 : rf.sh.den → Env} {f : Operand} {ps : Array Tmp} {assign body : Code} {ysh : Sh} {Y : rf.sh.den → ysh.den × MSh rf.ms → Tr (MSh rf.ms)} (h : RfOk E fn rf ps.toList assign body ysh Y E2)
    (hrf : E.rf fn (key body) = some rf) : ExecOk E fn none (.rangeFunc f ps assign body) := by
  intro X w0 C0 fs ρ _ call K r Q hnf hcall hY hP hQ st a w ⟨C, g, hs⟩ e
  have hshs := h.shs
  simp only [Bool.and_eq_true, List.isEmpty_iff] at hshs
  obtain ⟨⟨⟨⟨⟨⟨⟨hstill, hnl⟩, hcsh⟩, hysh⟩, hlo⟩, hrfs⟩, hrfi⟩, hokf⟩ := hshs
  simp only [exec, hrf] at e
  split at e
  · rename_i rf' hrf' ho
    simp only [Option.some.injEq] at hrf'
    subst hrf'
    split at e
    · rename_i g0 caps hev
      obtain ⟨hc, eA⟩ := cond_some e
      clear e
      simp only [Bool.and_eq_true] at hc
      have hg0 := Nat.eq_of_beq_eq_true hc.1
      subst hg0
      have hmt := tmps_len hs hc.2
      split at eA
      · rename_i x y hx hy
        obtain ⟨z, hz, e⟩ := Tr.elim_some eA
        clear eA
        have hfs := nil_out hs ho
        subst hfs
        obtain ⟨g1, hg1, hu⟩ := upL_spec rf.up hs
        generalize hst1 : upL st rf.up = st1 at hx e hu
        unfold viewK at hx
        obtain ⟨hcc, hx⟩ := cond_some hx
        simp only [Bool.and_eq_true, mlen_eq] at hcc
        obtain ⟨⟨⟨hkE, hpre⟩, hchV⟩, hokm⟩ := hcc
        split at hx
        · rename_i vs hvs
          obtain ⟨e1, e2⟩ := both_some hx
          obtain ⟨zs, hz1, hz2, hz3⟩ := keepL_vals hu.tm hvs
          have hzs := decVL hchV (renA_RVL rf.ksE hz1) e1
          -- the iterator
          obtain ⟨fs0, ks, hfe, hr1, hr2⟩ := RV_fn (evalOp_RV hs.tm hev)
          cases hr1
          have hr2' := decVL hcsh (renA_RVL rf.ksE (RVL.mono (Mem.le_refl C) hg1 hr2)) hy
          have hkl : rf.ksE.length = rf.ms.length := by
            have := (decM_get e2 hokm).1
            rw [pickB_len, encM_len] at this
            exact this.symm
          refine wpIn_rangeFunc ?_
          intro fn' hfn'
          obtain ⟨rec, hrec⟩ : ∃ rec : Loop, rec = { state := .ready, pending := none, fn := fn', tmps := a.tmps, params := ps, assign, body, defers := w.heap.size } := ⟨_, rfl⟩
          obtain ⟨W1, hW1⟩ : ∃ W1, (w.alloc (.deferred (some []))).alloc (.loop rec) = W1 := ⟨_, rfl⟩
          have hbW : Below w.heap.size w W1 := by
            rw [← hW1]
            exact ((Below.refl _ w).alloc (Nat.le_refl _) _).alloc (by simp) _
          have hszW : W1.heap.size = w.heap.size + 2 := by rw [← hW1]; simp
          have hL1 : W1.heap[w.heap.size + 1]? = some (.loop rec) := by
            rw [← hW1]; have := World.alloc_heap_new (w.alloc (.deferred (some []))) (.loop rec); rwa [World.size_alloc] at this
          have hD1 : W1.heap[w.heap.size]? = some (.deferred (some [])) := by
            rw [← hW1]; exact (Below.heap_alloc _ _ _ (by simp)).trans (World.alloc_heap_new w _)
          have hu1 : SR X w0 C0 [] C g1 st1 a W1 := ⟨hu.rel.ext hbW, hu.tm, hu.out, hu.df⟩
          have hnolive : ∀ k o, W1.heap[k]? = some o → noCells o → (footX X W1 g1 st1.mem rf.ksE).S k := by
            intro k o hk hno
            refine ⟨blk_lt hk, fun i m y hi hm hy hl => ?_⟩
            obtain ⟨o2, hh, hno2⟩ := live_cells (hu1.rel.blk i m y hm hy) hl
            rw [hk] at hh
            cases hh
            exact hno2 hno
          have hSl := hnolive _ _ hL1 trivial
          have hSD := hnolive _ _ hD1 trivial
          obtain ⟨fi, hfi, hname, hbody⟩ := enterOk_of hokf
          refine ⟨w.heap.size + 1, [mark w.heap.size], W1, { target := .fn (.func rf.it) ks.toArray, args := #[.func (.yield (w.heap.size + 1)) #[] #[]] }, W1, rf.it,
            ((.func (.yield (w.heap.size + 1)) #[] #[] : Value) :: ks).toArray, W1, ?_, ?_, fun _ _ => trivial, ?_, fun hh => by simp [FW, Fence.wide] at hh, ?_⟩
          · rw [← hW1, hrec]
            exact run_enterLoop_outer _ _ _ _ _
          · simp only [resolve, hfe, Deferred.ofValue, Sem.run_bind, Sem.run_pure, Result.andThen_ok]
            simp [Act.eval]
          · have harr : #[(.func (.yield (w.heap.size + 1)) #[] #[] : Value)] ++ ks.toArray = ((.func (.yield (w.heap.size + 1)) #[] #[] : Value) :: ks).toArray := by
              rw [← Array.toList_inj]; simp
            simp only [invoke, callFunc, Sem.run_bind, run_program, hfi, hname, hbody, Sem.run_pure, Result.andThen_ok, Bool.false_eq_true, if_false, harr]
          · -- its contract
            have hE2 := (h.env x.1).yielding (mlen rf.ms + 1) (mrange 0 (mlen rf.ms)) (fcY ysh rf.ms (Y x.1))
            have hrun := h.it x.1 y x.2 z hz
            unfold runIt at hrun
            rw [Option.bind_eq_some_iff] at hrun
            obtain ⟨out, hout, hdz⟩ := hrun
            have hmp : mapp (encM rf.ms x.2) [Blk.loop] = encM rf.ms x.2 ++ [Blk.loop] := mapp_eq _ _
            rw [hmp] at hout
            have hplen : (pick rf.ksE g1).length = rf.ms.length := by simp [pick, hkl]
            -- the world that it is called in
            have hrel0 : Rel { footX X W1 g1 st1.mem rf.ksE with Y := fun l' => l' = w.heap.size + 1 } W1 C C (pick rf.ksE g1) (encM rf.ms x.2) W1 :=
              ((hu1.rel.foot hkE).form hokm e2).reY (encM_noLoop hnl) _
            have hrel1 := hrel0.addLoop rfl (l := w.heap.size + 1) rfl
            have hargs : RVL C (pick rf.ksE g1 ++ [.loop (w.heap.size + 1)]) (.yld (mlen rf.ms) :: encL rf.csh y) ((.func (.yield (w.heap.size + 1)) #[] #[] : Value) :: ks) := by
              refine .cons (.one (.yld ?_) (by simp) (by simp)) (RVL.mono (Mem.le_refl _) (Ghs.le_append _ _) hr2')
              rw [mlen_eq, ← hplen]; simp
            have hyok := yld_ok hE h (X1 := { footX X W1 g1 st1.mem rf.ksE with Y := fun l' => l' = w.heap.size + 1, G := pick rf.ksE g1 ++ [.loop (w.heap.size + 1)] }) (w1 := W1) (C1 := C) (l := w.heap.size + 1) (rec := rec) hL1
              (by rw [hrec]) (by rw [hrec]) (by rw [hrec]) (by rw [hrec]) (by rw [hrec]) hSl (G := pick rf.ksE g1) (x := x.1) (zs := zs) rfl hplen hchV hzs (by rw [hrec]; exact hmt) (by rw [hrec]; exact hz3) hokm
            have hP : ((E2 x.1).yielding (mlen rf.ms + 1) (mrange 0 (mlen rf.ms)) (fcY ysh rf.ms (Y x.1))).P = E.P := h.prog x.1
            have hcalls := runB_sound hE2 (f := rf.it) (by rw [hP]; exact h.loops x.1) (by rw [hP, hrfi]; intro d hd; cases hd) hout hrel1 (by simp [hplen, Env.yielding, mlen_eq]) hargs
              (fun ks' fc' hyy l' hl' => by
                simp only [Env.yielding, Option.some.injEq, Prod.mk.injEq] at hyy
                obtain ⟨rfl, rfl⟩ := hyy
                have hl'' : l' = w.heap.size + 1 := hl'
                subst hl''
                exact ⟨_, W1, C, by rw [hP]; exact hyok, rfl, Keeps.refl _ _, fun _ h => h, Mem.le_refl _⟩)
            rw [hP] at hcalls
            refine (callsFW hcalls).mono ?_
            rintro e3 w3 ⟨zs3, C', g', rfl, hr3, _⟩
            have hl3 : w3.heap[w.heap.size + 1]? = some (.loop rec) := (hr3.below.block _ hSl).trans hL1
            have hD3 : w3.heap[w.heap.size]? = some (.deferred (some [])) := (hr3.below.block _ hSD).trans hD1
            have hlen3 : (encM (mapp rf.ms [BSh.loop]) out.2).length = rf.ms.length + 1 := by rw [encM_len, mapp_eq]; simp
            have hr4 : Rel { footX X W1 g1 st1.mem rf.ksE with Y := fun l' => l' = w.heap.size + 1 } W1 C C' (pick (mrange 0 (mlen rf.ms)) g') (pickB (encM (mapp rf.ms [BSh.loop]) out.2) (mrange 0 (mlen rf.ms)) (mrange 0 (mlen rf.ms))) w3 := by
              refine hr3.view (range_ok _ _ (by rw [hlen3, mlen_eq]; omega)) (fun _ hh => hh) (fun i m y k hi hm hy hl => (live_lt (hr3.blk i m y hm hy) hl).1) hr3.below hr3.low hr3.base hr3.old (fun b y hb hf => ?_)
              have hbl := lt_of_getElem? hb
              have hbl2 : b < (pick rf.ksE g1).length := hbl
              refine pick_get ?_ (hr3.keep b y (show (pick rf.ksE g1 ++ [Gh.loop (w.heap.size + 1)])[b]? = some y by rw [List.getElem?_append_left hbl2]; exact hb) hf)
              rw [mrange_get, mlen_eq, if_pos (by omega), Nat.zero_add]
            have hr5 := (hr4.form hokm hdz).reY (encM_noLoop hnl) X.Y
            obtain ⟨hm3, _⟩ := hu1.merge hkE hr5 (by rw [encM_len, hkl]; exact Nat.le_refl _)
            have hend := run_endLoop (P := E.P) hl3 (by rw [hrec]; simp)
            have hcl3 := cell_none hl3 (.inl ⟨rec, rfl⟩)
            have hpe : rec.pending = none := by rw [hrec]
            refine ⟨rec.pending, _, hend, ?_⟩
            split
            rotate_left
            · rename_i c hc2
              rw [hpe] at hc2
              cases hc2
            have hne : w.heap.size ≠ w.heap.size + 1 := by omega
            have hD4 : (w3.putObj (w.heap.size + 1) (.loop { rec with state := .exhausted })).heap[w.heap.size]? = some (.deferred (some [])) := by rw [World.putObj_heap_other hne]; exact hD3
            have hr6 := (hm3.rel.turnObj (.loop { rec with state := .exhausted }) hl3 hcl3.1 hcl3.2).protect hD4 trivial (mark w.heap.size :: X.ds)
            have hlowD : ¬ X.S w.heap.size := fun hh => by have := hs.rel.lt hh; omega
            have hlowl : ¬ X.S (w.heap.size + 1) := fun hh => by have := hs.rel.lt hh; omega
            have hr7 := hm3.rel.putObj (.loop { rec with state := .exhausted }) hl3 hcl3.1 hcl3.2 hlowl
            refine hQ { X with S := fun k => X.S k ∨ k = w.heap.size, ds := mark w.heap.size :: X.ds } _ C' ?_ .normal _ _ _ ⟨C', _, hr6, hm3.tm, hm3.out, ?_⟩ e
            · exact ⟨fun k hk => .inl hk, rfl, rfl, hs.rel.low, hr7.below, hr7.base, hr7.old, [w.heap.size], rfl, by simp, fun D hD => by
                simp only [List.mem_singleton] at hD
                subst hD
                exact ⟨.inr rfl, hlowD, hD4⟩⟩
            · show [mark w.heap.size] ++ a.defers = mark w.heap.size :: X.ds
              rw [hs.df]; rfl
        · cases hx
      · cases eA
    · cases e
  · cases e

end
end Am
end Go.Proofs.Ytkjpoongkdapoaa
