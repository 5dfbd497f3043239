/-
  A symbolic machine over the model, part 12: what an operation does.
-/
import Derived.Test.YtkjpoongkdapoaaBm11
import Derived.LoopN
namespace Go.Proofs.Ytkjpoongkdapoaa
namespace Am
open Go Go.RowKit
set_option linter.unusedVariables false
set_option linter.unusedSimpArgs false

/-- the frames of the callers that are walked into -/
inductive OutR (C : Mem) (g : Ghs) : List (List AV) → List (List Value) → Prop where
  | nil : OutR C g [] []
  | cons {ts os xs fs} (h : RVL C g ts xs) (t : OutR C g os fs) : OutR C g (ts :: os) (xs :: fs)

theorem OutR.mono {C C' : Mem} {g g' : Ghs} (hC : C.le C') (hg : g.le g') : ∀ {o : List (List AV)} {fs : List (List Value)}, OutR C g o fs → OutR C' g' o fs
  | _, _, .nil => .nil
  | _, _, .cons h t => .cons (RVL.mono hC hg h) (OutR.mono hC hg t)
theorem OutR.dem {C C' : Mem} {g g' : Ghs} {b : Nat} (hC : C.le C') (hg : Ghs.but b g g') : ∀ {o : List (List AV)} {fs : List (List Value)}, OutR C g o fs → OutR C' g' (o.map (AV.demL b)) fs
  | _, _, .nil => .nil
  | _, _, .cons h t => .cons (RVL.dem hC hg h) (OutR.dem hC hg t)

structure SR (X : Ctx) (w0 : World) (C0 : Mem) (fs : List (List Value)) (C : Mem) (g : Ghs) (st : St) (a : Act) (w : World) : Prop where
  rel : Rel X w0 C0 C g st.mem w
  tm : RVL C g st.tmps a.tmps.toList
  out : OutR C g st.outer fs
  df : a.defers = X.ds

def Good (X : Ctx) (w0 : World) (C0 : Mem) (fs : List (List Value)) (st : St) (a : Act) (w : World) : Prop := ∃ C g, SR X w0 C0 fs C g st a w

def EnterOk (P : Program) (f : FuncId) : Prop := ∃ fn, P.funcs[f]? = some fn ∧ (fn.name == "runtime.NumGoroutine") = false ∧ fn.body.isNone = false

/-- the one value that is panicked with -/
def BadV (v : Value) : Prop := ∃ C g, RV C g (.iface badT (.agg [])) v
/-- what stands whatever happens -/
def Sane (X : Ctx) (w0 : World) (C0 : Mem) (w : World) : Prop := Keeps X.S w0 w ∧ ∃ C : Mem, C0.le C ∧ (∀ a v, C a = some v → w.cell? a = some v) ∧ ∀ a : Addr, X.S a.block → C a = C0 a
theorem Rel.sane {X : Ctx} {w0 w : World} {C0 C : Mem} {g : Ghs} {mem : List Blk} (h : Rel X w0 C0 C g mem w) : Sane X w0 C0 w := ⟨h.below, C, h.base, h.sub, h.old⟩
/-- where a panic is foreseen it may happen -/
def PanOk (X : Ctx) (w0 : World) (C0 : Mem) {ρ : Type} [Pan ρ] (r : ρ) (Q : Exit → Act → World → Prop) : Prop :=
  Pan.pan = some r → ∀ (a : Act) (v : Value) (w : World), a.defers = X.ds → BadV v → Sane X w0 C0 w → Q (.panic [{ v, recovered := false }]) a w
theorem PanOk.base {X : Ctx} {w0 w : World} {C0 C : Mem} {g : Ghs} {mem : List Blk} {ρ : Type} [Pan ρ] {r : ρ} {Q : Exit → Act → World → Prop} (hP : PanOk X w0 C0 r Q) (h : Rel X w0 C0 C g mem w) : PanOk X w0 C r Q :=
  fun hp a v w' hd hb ⟨h1, C', h2, h3, h4⟩ => hP hp a v w' hd hb ⟨h1, C', Mem.le_trans h.base h2, h3, fun b hb => (h4 b hb).trans (h.old b hb)⟩
def CallOk (E : Env) (X : Ctx) {ρ : Type} [Pan ρ] (call : CallT ρ) : Prop :=
  ∀ (f : FuncId) (args : List AV) (st : St) (K : AV → St → Option ρ) (r : ρ) (w0 : World) (C0 : Mem) (fs : List (List Value)) (C : Mem) (g : Ghs) (tl vs : List Value) (w : World),
    Rel X w0 C0 C g st.mem w → RVL C g st.tmps tl → OutR C g st.outer fs → RVL C g args vs → call f args st K = some r →
      EnterOk E.P f ∧ Calls E.P f vs.toArray w (fun e w' => (∃ (v : Value) (av : AV) (st' : St) (C' : Mem) (g' : Ghs), e = .returned v ∧ Rel X w0 C0 C' g' st'.mem w' ∧ RVL C' g' st'.tmps tl ∧ OutR C' g' st'.outer fs ∧ RV C' g' av v ∧ K av st' = some r) ∨ (∃ v : Value, e = .panicked [{ v, recovered := false }] ∧ BadV v ∧ Sane X w0 C0 w' ∧ Pan.pan = some r))

section
variable {X : Ctx} {w0 w : World} {C0 C : Mem} {fs : List (List Value)} {g : Ghs} {st : St} {a : Act}

theorem toList_put (a : Act) (d : Option Tmp) (x : Value) : (a.put d x).tmps.toList = match d with | some d => a.tmps.toList.set d x | none => a.tmps.toList := by
  cases d <;> simp [Act.put]

theorem SR.put (h : SR X w0 C0 fs C g st a w) {v : AV} {x : Value} (hv : RV C g v x) (d : Option Tmp) : SR X w0 C0 fs C g (st.put d v) (a.put d x) w := by
  cases d with
  | none => exact h
  | some d =>
    refine ⟨h.rel, ?_, h.out, ?_⟩
    · rw [toList_put]
      simp only [St.put, mset_eq]
      exact RVL.set h.tm d v x hv
    · simpa [Act.put] using h.df

theorem SR.up (h : SR X w0 C0 fs C g st a w) {C' : Mem} {g' : Ghs} {mem' : List Blk} {w' : World} (hC : C.le C') (hg : g.le g') (hr : Rel X w0 C0 C' g' mem' w') : SR X w0 C0 fs C' g' { st with mem := mem' } a w' :=
  ⟨hr, RVL.mono hC hg h.tm, OutR.mono hC hg h.out, h.df⟩

theorem dec_solid {t : Ty} {v : AV} {x : t.den} (h : dec t v = some x) : v.solid = true := by
  cases v <;> first | rfl | skip
  all_goals (exfalso; cases t <;> simp [dec, dec2] at h)

theorem decAll_cells {t : Ty} : ∀ {vs : List AV} {ys : List Value} {xs : List t.den}, RVL C g vs ys → decAll t vs = some xs → Cells C t xs (ys.flatMap fun y => y.cells.toList) ∧ ys.length = xs.length ∧ ∀ y ∈ ys, y.cells.size = t.size
  | [], _, xs, .nil, h => by simp [decAll] at h; subst h; exact ⟨Cells.nil, rfl, by simp⟩
  | v :: vs, _, xs, .cons (v := y) hv ht, h => by
    simp only [decAll] at h
    split at h
    · rename_i x xs' hx hxs
      simp only [Option.some.injEq] at h
      subst h
      obtain ⟨h1, h2, h3⟩ := decAll_cells ht hxs
      have htc := TC_dec' (RV_solid hv (dec_solid hx)) hx
      have hl := TC_size _ _ _ htc
      have hone : Cells C t [x] y.cells.toList := by
        refine ⟨by simpa using hl, TC_one _ _ _ htc, fun i z hz => ?_⟩
        cases i with
        | zero =>
          simp at hz; subst hz
          rw [← hl, Nat.zero_mul, List.drop_zero, List.take_length]
          exact htc
        | succ i => simp at hz
      refine ⟨by simpa using hone.append h1, by simp [h2], fun z hz => ?_⟩
      rcases List.mem_cons.1 hz with rfl | hz
      · rw [← hl]; simp
      · exact h3 z hz
    · simp at h

theorem inOrder_spec : ∀ (ps : List (Nat × AV)) (n : Nat) (vs : List AV), inOrder n ps = some vs → vs = ps.map (·.2) ∧ ∀ (j : Nat) (p : Nat × AV), ps[j]? = some p → p.1 = n + j
  | [], n, vs, h => by simp [inOrder] at h; subst h; exact ⟨rfl, fun j p hp => by simp at hp⟩
  | (i, v) :: ps, n, vs, h => by
    simp only [inOrder] at h
    obtain ⟨h1, h2⟩ := cond_some h
    simp only [Option.map_eq_some_iff] at h2
    obtain ⟨vs', h2, rfl⟩ := h2
    obtain ⟨e1, e2⟩ := inOrder_spec ps (n + 1) vs' h2
    refine ⟨by simp [e1], fun j p hp => ?_⟩
    cases j with
    | zero => simp at hp; subst hp; simpa using h1
    | succ j => have := e2 j p (by simpa using hp); omega

theorem fill_all {sz : Nat} : ∀ (ys : List (Nat × Value)) (k : Nat) (done rest : List Value), done.length = k * sz → rest.length = ys.length * sz → (∀ (j : Nat) (p : Nat × Value), ys[j]? = some p → p.1 = k + j) → (∀ p ∈ ys, p.2.cells.size = sz) →
    Instr.fill (fun i => some (i * sz, sz)) (done ++ rest).toArray ys = some (done ++ ys.flatMap fun p => p.2.cells.toList).toArray
  | [], k, done, rest, hd, hr, _, _ => by
    have : rest = [] := List.eq_nil_of_length_eq_zero (by simpa using hr)
    subst this
    simp [Instr.fill]
  | (i, y) :: ys, k, done, rest, hd, hr, hi, hs => by
    have hi0 := hi 0 (i, y) rfl
    simp only [Nat.add_zero] at hi0
    subst hi0
    have hys := hs (i, y) (by simp)
    simp only at hys
    have hr' : sz ≤ rest.length := by rw [hr, List.length_cons, Nat.add_mul]; omega
    have h := fill_step (place := fun i => some (i * sz, sz)) (i := i) (v := y) (rest := ys) (pre := done) (mid := rest.take sz) (post := rest.drop sz) (by rw [hd, hys]) (by rw [hys]; simp; omega)
    rw [List.append_assoc, List.take_append_drop] at h
    rw [h]
    have := fill_all ys (i + 1) (done ++ y.cells.toList) (rest.drop sz) (by simp [hd, hys, Nat.add_mul]) (by simp [hr, Nat.add_mul]) (fun j p hp => by have := hi (j + 1) p (by simpa using hp); omega) (fun p hp => hs p (by simp [hp]))
    rw [this]
    simp

theorem wp_value {P : Program} {o : Oper} {next : Act → World → Prop} {Q : Exit → Act → World → Prop} {z : Value} {w' : World} (h : (execOp a.eval o).run P w = .ok (.value z) w') (hn : next (a.put o.dst z) w') : o.wp P a w next Q := by
  unfold Oper.wp
  rw [h]
  exact hn
theorem wp_skip' {P : Program} {o : Oper} {next : Act → World → Prop} {Q : Exit → Act → World → Prop} {w' : World} (h : (execOp a.eval o).run P w = .ok .skip w') (hn : next (a.put o.dst undef) w') : o.wp P a w next Q := by
  unfold Oper.wp
  rw [h]
  exact hn

theorem run_newVar {P : Program} (T : TypeId) (v : Value) (w : World) : (newVar T v).run P w = .ok ⟨w.heap.size, 0, none⟩ (w.alloc (.cells v.cells T)) := by
  simp [newVar, newRow]

theorem box_alloc (h : SR X w0 C0 fs C g st a w) {v : AV} {cs : Array Value} (T : TypeId) (hv : RC C g v cs.toList) (d : Option Tmp) :
    SR X w0 C0 fs C (g ++ [.box w.heap.size T]) ({ st with mem := mapp st.mem [Blk.box v] }.put d (.loc (mlen st.mem) 0)) (a.put d (.pointer (some ⟨w.heap.size, 0, none⟩))) (w.alloc (.cells cs T)) := by
  have hr := h.rel.box T hv
  simp only [Array.toArray_toList] at hr
  have h2 := h.up (Mem.le_refl _) (Ghs.le_append _ _) hr
  rw [mapp_eq, mlen_eq]
  refine h2.put (RV_locv ?_) d
  simp [Ghs.box, h.rel.len]

theorem doOp_pure {E : Env} {o : Oper} {ρ : Type} {K : St → Option ρ} {r : ρ} (h : SR X w0 C0 fs C g st a w)
    (e : (match pureOp E st o with | some (ok, v) => cond ok (K (st.put o.dst v)) none | none => none) = some r) {next : Act → World → Prop} {Q : Exit → Act → World → Prop}
    (hn : ∀ st' a' w', Good X w0 C0 fs st' a' w' → K st' = some r → next a' w') : o.wp E.P a w next Q := by
  split at e
  · rename_i ok v hp
    obtain ⟨h1, h2⟩ := cond_some e
    obtain ⟨z, hz, hr⟩ := pureOp_run h.rel h.tm hp h1
    exact wp_value (hr w (Below.refl _ _)) (hn _ _ _ ⟨C, g, h.put hz o.dst⟩ h2)
  · cases e

theorem src_slice {P : Program} {w : World} (hs : ∀ a v, C a = some v → w.cell? a = some v) {t : Ty} {ys : List t.den} {base : Option Addr} {cap sz : Nat} (hz : sz = t.size) (hr : Row C t base ys) : ∃ news, Cells C t ys news ∧ Src P w sz (.slice base ys.length cap) ys.length news := by
  obtain ⟨news, hn, hat⟩ := hr.cells
  refine ⟨news, hn, ⟨fun w' => by simp [Builtin.lenOf], fun w' hw => ?_⟩⟩
  by_cases hy : ys = []
  · subst hy
    have : news = [] := List.eq_nil_of_length_eq_zero (by rw [hn.1]; simp)
    subst this
    cases base <;> simp [Builtin.firstCells, loadCells, loadCellsFrom]
  · obtain ⟨ad, hb, hat'⟩ := hat hy
    subst hb
    exact run_firstCells_some (P := P) w' sz ys.length ad ys.length cap news (by rw [hn.1, hz]) (At_lives hs hw hat')

theorem cells_u8 {l : List UInt8} : Cells C .u8 l (l.map u8v) := by
  refine ⟨by simp [Ty.size], fun v hv => by obtain ⟨b, _, rfl⟩ := List.mem_map.1 hv; rfl, fun i x hx => ?_⟩
  simp only [TC, Ty.size, Nat.mul_one]
  have hx' : l[i]? = some x := hx
  have : (l.map u8v)[i]? = some (u8v x) := by rw [List.getElem?_map, hx']; rfl
  have hlt := lt_of_getElem? this
  rw [List.drop_eq_getElem_cons hlt]
  simp only [List.take_succ_cons, List.take_zero]
  rw [List.getElem?_eq_getElem hlt] at this
  simp only [Option.some.injEq] at this
  rw [this]

theorem newsOf_src {E : Env} {t : Ty} {x : AV} {y : Value} {ys : List t.den} (h : SR X w0 C0 fs C g st a w) (hx : RV C g x y) (e : newsOf st t x = some ys) :
    ∃ news, Cells C t ys news ∧ Src E.P w t.size y ys.length news := by
  unfold newsOf at e
  split at e
  · simp only [Option.some.injEq] at e
    subst e
    have := RV_nilsl hx
    subst this
    exact ⟨[], Cells.nil, ⟨fun w' => by simp [Builtin.lenOf], fun w' _ => by simp [Builtin.firstCells]⟩⟩
  · rename_i t' zs o
    split at e
    · rename_i ht
      subst ht
      simp only [Option.some.injEq] at e
      subst e
      obtain ⟨base, cap, rfl, hr, _, _, _⟩ := RV_sl hx
      exact src_slice h.rel.sub rfl hr
    · cases e
  · rename_i l
    split at e
    · rename_i ht
      subst ht
      simp only [Option.some.injEq] at e
      subst e
      have := RV_str hx
      subst this
      refine ⟨l.map u8v, cells_u8, ⟨fun w' => by simp [Builtin.lenOf]; rfl, fun w' _ => ?_⟩⟩
      have hz : (⟨l.toArray⟩ : ByteArray).extract 0 l.length = ⟨l.toArray⟩ := by
        rw [extract_bytes]; simp
      simp only [Builtin.firstCells]
      rw [show (List.length (l : List Ty.u8.den)) = l.length from rfl, hz]
      simp [u8v]
    · cases e
  · rename_i b off
    split at e
    · rename_i a' hm
      split at e
      · rename_i ht
        subst ht
        simp only [Option.some.injEq] at e
        subst e
        obtain ⟨k, hk, rfl⟩ := RV_idsl hx
        obtain ⟨mid, hmid, hl, hc, hcell⟩ := box_of h.rel hm hk
        cases hmid
        refine ⟨a'.l.map u8v, cells_u8, ⟨fun w' => by simp [Builtin.lenOf, a'.h], fun w' hw => ?_⟩⟩
        have := run_firstCells_some (P := E.P) w' 1 32 ⟨k, off, none⟩ 32 32 (a'.l.map u8v) (by simp [a'.h]) (fun j v hj => by rw [Addr.add_lit]; exact hcell w' hw j v hj)
        rw [show (List.length (a'.l : List Ty.u8.den)) = 32 from a'.h]
        exact this
      · cases e
    · cases e
  · cases e

end
end Am
end Go.Proofs.Ytkjpoongkdapoaa
