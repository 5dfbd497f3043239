/-
  A symbolic machine over the model: a region that draws its order and calls yield.
-/
import Derived.Test.YtkjpoongkdapoaaBm17
namespace Go.Proofs.Ytkjpoongkdapoaa
namespace Am
open Go Go.RowKit
set_option linter.unusedVariables false
set_option linter.unusedSimpArgs false

section
variable {X : Ctx} {w0 w : World} {C0 C : Mem} {fs : List (List Value)} {g : Ghs} {st : St} {a : Act}

theorem wpAnyIn_more {F : Fence} {n : Nat} {P : Program} {md : Region.Mode} {ops : Array Oper} {Q : Exit → Act → World → Prop} : ∀ (fuel : Nat) (listed : Array Bool) (a : Act) (w : World), wpAnyIn F n P md ops Q fuel listed a w → wpAnyIn F n P md ops Q (fuel + 1) listed a w
  | 0, _, _, _, h => ⟨fun _ => h.2, fun i hi => by rw [h.1] at hi; cases hi⟩
  | fuel + 1, _, _, _, h => ⟨h.1, fun i hi => wpOpIn_mono (fun a' w' h' => wpAnyIn_more fuel _ a' w' h') (h.2 i hi)⟩
theorem wpAnyIn_most {F : Fence} {n : Nat} {P : Program} {md : Region.Mode} {ops : Array Oper} {Q : Exit → Act → World → Prop} {fuel : Nat} {listed : Array Bool} {a : Act} {w : World} (h : wpAnyIn F n P md ops Q fuel listed a w) : ∀ k, wpAnyIn F n P md ops Q (k + fuel) listed a w
  | 0 => by rw [Nat.zero_add]; exact h
  | k + 1 => by rw [show k + 1 + fuel = (k + fuel) + 1 by omega]; exact wpAnyIn_more _ _ _ _ (wpAnyIn_most h k)

/-- an operation that ends as it should -/
theorem wp_swap {P : Program} {o : Oper} {K : Act → World → Prop} {Q Q' : Exit → Act → World → Prop} (hl : ¬ LetsOut Q') (hp : ∀ c a w, Q' (.panic c) a w → Q (.panic c) a w) (h : o.wp P a w K Q') : o.wp P a w K Q := by
  unfold Oper.wp at *
  generalize (execOp a.eval o).run P w = q at *
  cases q with
  | ok x w' =>
    cases x <;> simp only [Oper.upon] at h ⊢
    case value => exact h
    case skip => exact h
    case defer => exact h
    case enter =>
      refine Calls.mono h fun e w2 he => ?_
      cases e with
      | returned u => exact he
      | panicked c => exact hp _ _ _ he
      | outgrown => exact (hl he).elim
    case row => exact h
  | halt x w' =>
    cases x <;> simp only [Oper.upon] at h ⊢
    exact hp _ _ _ h

theorem blt_lt {a b : Nat} (h : Nat.blt a b = true) : a < b := by rwa [Nat.blt_eq] at h
theorem aheadB_spec {ops : Array Oper} {y : Nat} : ∀ {n : Nat}, aheadB ops y n = true → ∀ j, j < n → waits ops ops.size j y = true
  | 0, _, j, hj => by omega
  | n + 1, h, j, hj => by
    simp only [aheadB, Bool.and_eq_true] at h
    by_cases hjn : j = n
    · rw [hjn]; exact h.1
    · exact aheadB_spec h.2 j (by omega)
theorem behindB_spec {ops : Array Oper} {y : Nat} : ∀ {n : Nat}, behindB ops y n = true → ∀ j, j < n → y < j → waits ops ops.size y j = true
  | 0, _, j, hj, _ => by omega
  | n + 1, h, j, hj, hy => by
    simp only [behindB, Bool.and_eq_true, Bool.or_eq_true] at h
    by_cases hjn : j = n
    · subst hjn
      rcases h.1 with h1 | h1
      · have := Nat.le_of_ble_eq_true h1; omega
      · exact h1
    · exact behindB_spec h.2 j (by omega) hy
theorem downB_spec : ∀ {l : List Oper} {i : Nat}, downB i l = true → ∀ j o, l[j]? = some o → (∀ e ∈ o.after, Region.binds .any e = true → e.on < i + j) ∧ ∀ k b, o.guard = some (k, b) → k < i + j
  | [], _, _, j, o, h => by simp at h
  | x :: l, i, h, j, o, hj => by
    simp only [downB, Bool.and_eq_true] at h
    obtain ⟨h1, h2, h3⟩ := h
    cases j with
    | zero =>
      simp only [List.getElem?_cons_zero, Option.some.injEq] at hj
      subst hj
      refine ⟨fun e he hb => ?_, fun k b hg => ?_⟩
      · have := Array.all_eq_true'.1 h1 e he
        rw [hb] at this
        simp only [Bool.not_true, Bool.false_or] at this
        have := blt_lt this
        omega
      · rw [hg] at h2
        have := blt_lt h2
        omega
    | succ j =>
      obtain ⟨k1, k2⟩ := downB_spec h3 j o (by simpa using hj)
      exact ⟨fun e he hb => by have := k1 e he hb; omega, fun k b hg => by have := k2 k b hg; omega⟩

theorem mtake_eq {α : Type} : ∀ (n : Nat) (l : List α), mtake n l = l.take n
  | 0, l => by simp [mtake]
  | n + 1, [] => rfl
  | n + 1, a :: l => by simp only [mtake, List.take_succ_cons, mtake_eq n l]

theorem cutOps {ops : Array Oper} {y j : Nat} (hj : j < y) : ((ops.toList.take y).toArray)[j]? = ops[j]? := by
  rw [List.getElem?_toArray, List.getElem?_take_of_lt hj, Array.getElem?_toList]
theorem cutOps_none {ops : Array Oper} {y j : Nat} (hj : y ≤ j) : ((ops.toList.take y).toArray)[j]? = none := by
  rw [List.getElem?_toArray, List.getElem?_take, if_neg (by omega)]

/-- what has come up, in the front part and in the whole -/
structure Lst (ops : Array Oper) (y : Nat) (l L : Array Bool) : Prop where
  s1 : l.size = y
  s2 : L.size = ops.size
  lo : ∀ k, k < y → L[k]? = l[k]?
  hi : ∀ k, y ≤ k → k < ops.size → L[k]? = some false
  cl : Closed ops L

theorem getD_of {l : Array Bool} {k : Nat} {b d : Bool} (h : l[k]? = some b) : l.getD k d = b := by
  rw [Array.getD_eq_getD_getElem?, h]; rfl

theorem Lst.step {ops : Array Oper} {y i : Nat} {l L : Array Bool} (h : Lst ops y l L) (hi : i < y) (hr : i ∈ Region.ready .any ops L) : Lst ops y (l.setIfInBounds i true) (L.setIfInBounds i true) := by
  refine ⟨by rw [Array.size_setIfInBounds]; exact h.s1, by rw [Array.size_setIfInBounds]; exact h.s2, fun k hk => ?_, fun k hk hk2 => ?_, h.cl.step hr⟩
  · rw [Array.getElem?_setIfInBounds, Array.getElem?_setIfInBounds, h.lo k hk]
    by_cases hik : i = k
    · have : i < y := hi
      have hl2 : i < L.size := by
        have h0 := (mem_ready.1 hr).1
        by_cases hc : i < L.size
        · exact hc
        · rw [Array.getD_eq_getD_getElem?, Array.getElem?_eq_none (by omega)] at h0
          cases h0
      rw [if_pos hik, if_pos hik, if_pos hl2, if_pos (by rw [h.s1]; exact hi)]
    · rw [if_neg hik, if_neg hik]
  · rw [Array.getElem?_setIfInBounds, if_neg (by omega)]
    exact h.hi k hk hk2

/-- the front part is done: all of it has come up -/
theorem Lst.all {ops : Array Oper} {y : Nat} {l L : Array Bool} (h : Lst ops y l L) (hy : y < ops.size) (hd : downB 0 ops.toList = true) (hr : Region.ready .any (ops.toList.take y).toArray l = []) : ∀ k, k < y → l[k]? = some true := by
  intro k
  induction k using Nat.strongRecOn with
  | ind k ih =>
    intro hk
    have hkl : k < l.size := by rw [h.s1]; exact hk
    cases hb : l[k] with
    | true => rw [Array.getElem?_eq_getElem hkl, hb]
    | false =>
      exfalso
      have hko : k < ops.size := by omega
      have ho : ops[k]? = some ops[k] := Array.getElem?_eq_getElem hko
      have hmem : k ∈ Region.ready .any (ops.toList.take y).toArray l := by
        refine mem_ready.2 ⟨getD_of (by rw [Array.getElem?_eq_getElem hkl, hb]), ops[k], by rw [cutOps hk]; exact ho, fun e he hb => ?_⟩
        have := (downB_spec hd k ops[k] (by simp [hko])).1 e he hb
        exact getD_of (ih e.on (by omega) (by omega))
      rw [hr] at hmem
      cases hmem

/-- who may come up: the same ones -/
theorem Lst.ready {ops : Array Oper} {y : Nat} {l L : Array Bool} (h : Lst ops y l L) (hs : splitOk ops y = true) {i : Nat} (hi : i ∈ Region.ready .any ops L) (hne : Region.ready .any (ops.toList.take y).toArray l ≠ []) : i < y ∧ i ∈ Region.ready .any (ops.toList.take y).toArray l := by
  simp only [splitOk, Bool.and_eq_true] at hs
  obtain ⟨hy, ha, hb, hd⟩ := hs
  have hy := blt_lt hy
  obtain ⟨h1, o, ho, hall⟩ := mem_ready.1 hi
  have hio : i < ops.size := by
    by_cases hc : i < ops.size
    · exact hc
    · rw [Array.getElem?_eq_none (by omega)] at ho; cases ho
  have hil : i < y := by
    rcases Nat.lt_trichotomy i y with hc | hc | hc
    · exact hc
    · exfalso
      subst hc
      obtain ⟨j, hj⟩ := List.exists_mem_of_ne_nil _ hne
      obtain ⟨j1, oj, hoj, _⟩ := mem_ready.1 hj
      have hjy : j < i := by
        by_cases hc : j < i
        · exact hc
        · rw [cutOps_none (by omega)] at hoj; cases hoj
      have := h.cl.waits ops.size i (fun oi hoi => by rw [ho] at hoi; cases hoi; exact hall) (aheadB_spec ha j hjy)
      have hjl : j < l.size := by rw [h.s1]; exact hjy
      have h2 := h.lo j hjy
      rw [Array.getElem?_eq_getElem hjl] at h2
      rw [getD_of h2] at this
      rw [getD_of (Array.getElem?_eq_getElem hjl), this] at j1
      cases j1
    · exfalso
      have := h.cl.waits ops.size i (fun oi hoi => by rw [ho] at hoi; cases hoi; exact hall) (behindB_spec hb i hio hc)
      rw [getD_of (h.hi y (Nat.le_refl _) hy)] at this
      cases this
  have hkl : i < l.size := by rw [h.s1]; exact hil
  have h2 := h.lo i hil
  rw [Array.getElem?_eq_getElem hkl] at h2
  refine ⟨hil, mem_ready.2 ⟨?_, o, by rw [cutOps hil]; exact ho, fun e he hb => ?_⟩⟩
  · rw [getD_of h2] at h1
    exact getD_of (by rw [Array.getElem?_eq_getElem hkl, h1])
  · have hlt := (downB_spec hd i o (by rw [Array.getElem?_toList]; exact ho)).1 e he hb
    have h3 := hall e he hb
    have h4 := h.lo e.on (by omega)
    have hel : e.on < l.size := by rw [h.s1]; omega
    rw [Array.getElem?_eq_getElem hel] at h4
    rw [getD_of h4] at h3
    exact getD_of (by rw [Array.getElem?_eq_getElem hel, h3])

theorem wpOpIn_front {ro : Option Nat} {P : Program} {ops : Array Oper} {y i : Nat} {Q Q' : Exit → Act → World → Prop} {K : Act → World → Prop} (hdf : ∀ o ∈ ops, ∀ c, o.op ≠ .defer c) (hl : ¬ LetsOut Q') (hp : ∀ c a w, Q' (.panic c) a w → Q (.panic c) a w) (hi : i < y) (hd : downB 0 ops.toList = true)
    (h : wpOp P (ops.toList.take y).toArray Q' i K a w) : wpOpIn (FW ro) 0 P ops Q i K a w := by
  unfold wpOp at h
  unfold wpOpIn
  rw [cutOps hi] at h
  cases ho : ops[i]? with
  | none => simpa only [ho] using h
  | some o =>
    simp only [ho] at h ⊢
    have hw : Region.wanted o (yielded (ops.toList.take y).toArray a.tmps) = Region.wanted o (yielded ops a.tmps) := by
      unfold Region.wanted
      cases hg : o.guard with
      | none => rfl
      | some p =>
        obtain ⟨k, b⟩ := p
        have := (downB_spec hd i o (by rw [Array.getElem?_toList]; exact ho)).2 k b hg
        simp only [yielded, cutOps (ops := ops) (show k < y by omega)]
    rw [hw] at h
    split
    · rename_i hw
      simp only [hw, if_true] at h
      rcases h with h | ⟨_, h⟩
      · exact opIn (hdf o (Array.mem_of_getElem? ho)) (wp_swap hl hp h)
      · exact absurd h hl
    · rename_i hw
      simp only [hw] at h
      exact ⟨fun _ _ => trivial, h⟩

theorem splitIn {ro : Option Nat} {P : Program} {ops : Array Oper} {y : Nat} {Q Q' : Exit → Act → World → Prop} (hdf : ∀ o ∈ ops, ∀ c, o.op ≠ .defer c) (hs : splitOk ops y = true) (hl : ¬ LetsOut Q') (hp : ∀ c a w, Q' (.panic c) a w → Q (.panic c) a w)
    (hN : ∀ a w, Q' .normal a w → wpAnyIn (FW ro) 0 P .any ops Q (ops.size - y) (mapp (mrep y true) (mrep (ops.size - y) false)).toArray a w) : ∀ (m : Nat) (l L : Array Bool) (a : Act) (w : World), Lst ops y l L →
      wpAny P .any (ops.toList.take y).toArray Q' m l a w → wpAnyIn (FW ro) 0 P .any ops Q (m + (ops.size - y)) L a w := by
  have hs' := hs
  simp only [splitOk, Bool.and_eq_true] at hs'
  obtain ⟨hy, ha, hb, hd⟩ := hs'
  have hy := blt_lt hy
  have done : ∀ (m : Nat) (l L : Array Bool) (a : Act) (w : World), Lst ops y l L → Region.ready .any (ops.toList.take y).toArray l = [] → Q' .normal a w → wpAnyIn (FW ro) 0 P .any ops Q (m + (ops.size - y)) L a w := by
    intro m l L a w h hr hq
    have hall := h.all hy hd hr
    have hL : L = (mapp (mrep y true) (mrep (ops.size - y) false)).toArray := by
      rw [mapp_eq, mrep_eq, mrep_eq]
      apply Array.ext_getElem?
      intro k
      rw [show (List.replicate y true ++ List.replicate (ops.size - y) false).toArray[k]? = (List.replicate y true ++ List.replicate (ops.size - y) false)[k]? from by simp only [List.getElem?_toArray]]
      by_cases hk : k < y
      · rw [h.lo k hk, hall k hk, List.getElem?_append_left (by simpa using hk), List.getElem?_replicate, if_pos hk]
      · by_cases hk2 : k < ops.size
        · rw [h.hi k (by omega) hk2, List.getElem?_append_right (by simp; omega), List.getElem?_replicate, if_pos (by simp; omega)]
        · rw [Array.getElem?_eq_none (by rw [h.s2]; omega), List.getElem?_eq_none (by simp; omega)]
    rw [hL]
    exact wpAnyIn_most (hN a w hq) m
  intro m
  induction m with
  | zero =>
    intro l L a w h hh
    exact done 0 l L a w h hh.1 hh.2
  | succ m ih =>
    intro l L a w h hh
    by_cases hr : Region.ready .any (ops.toList.take y).toArray l = []
    · exact done (m + 1) l L a w h hr (hh.1 hr)
    · rw [show m + 1 + (ops.size - y) = (m + (ops.size - y)) + 1 by omega]
      refine ⟨fun h0 => ?_, fun i hi => ?_⟩
      · exfalso
        obtain ⟨j, hj⟩ := List.exists_mem_of_ne_nil _ hr
        obtain ⟨j1, oj, hoj, hall⟩ := mem_ready.1 hj
        have hjy : j < y := by
          by_cases hc : j < y
          · exact hc
          · rw [cutOps_none (by omega)] at hoj; cases hoj
        rw [cutOps hjy] at hoj
        have hjl : j < l.size := by rw [h.s1]; exact hjy
        have : j ∈ Region.ready .any ops L := by
          refine mem_ready.2 ⟨?_, oj, hoj, fun e he hb => ?_⟩
          · have h2 := h.lo j hjy
            rw [Array.getElem?_eq_getElem hjl] at h2
            rw [getD_of (Array.getElem?_eq_getElem hjl)] at j1
            rw [getD_of h2, j1]
          · have hlt := (downB_spec hd j oj (by rw [Array.getElem?_toList]; exact hoj)).1 e he hb
            have h3 := hall e he hb
            have h4 := h.lo e.on (by omega)
            have hel : e.on < l.size := by rw [h.s1]; omega
            rw [Array.getElem?_eq_getElem hel] at h4
            rw [getD_of (Array.getElem?_eq_getElem hel)] at h3
            rw [getD_of h4, h3]
        rw [h0] at this
        cases this
      · obtain ⟨hiy, hi'⟩ := h.ready hs hi hr
        exact wpOpIn_mono (fun a' w' h' => ih _ _ a' w' (h.step hiy hi) h') (wpOpIn_front hdf hl hp hiy hd (hh.2 i hi'))

theorem execS_sound {E : Env} {ρ : Type} [Pan ρ] {call : CallT ρ} {ro : Option Nat} (hcall : CallOk E X call) (hY : YOk E X w0 C0) {ops : Array Oper} {r : ρ} {K : St → Option ρ} {Q : Exit → Act → World → Prop} (hP : PanOk X w0 C0 r Q)
    (hK : ∀ st' a' w', Good X w0 C0 fs st' a' w' → K st' = some r → Q .normal a' w') : ∀ (n : Nat) (listed : Array Bool) (st : St) (a : Act) (w : World), Good X w0 C0 fs st a w → execS E call ops n listed st K = some r →
      wpAnyIn (FW ro) 0 E.P .any ops Q n listed a w
  | 0, listed, st, a, w, h, e => by
    simp only [execS] at e
    split at e
    · rename_i hr
      exact ⟨hr, hK st a w h e⟩
    · cases e
  | n + 1, listed, st, a, w, h, e => by
    have ih := execS_sound (ro := ro) (ops := ops) hcall hY hP hK n
    simp only [execS] at e
    split at e
    · rename_i hr
      exact wpAnyIn_done hr (hK st a w h e) _
    · rename_i i rs hr
      split at e
      · rename_i o ho
        rw [mget_eq] at ho
        have ho' : ops[i]? = some o := by simpa using ho
        refine wpAnyIn_all hr (by simp) ?_
        intro j hj
        simp only [List.mem_singleton] at hj
        subst hj
        unfold wpOpIn
        simp only [ho']
        obtain ⟨C, g, h⟩ := h
        rcases guarded_cases h e with ⟨hw, st', h', e'⟩ | ⟨hw, st', h', e'⟩
        · rw [if_pos hw]
          exact doOp3_sound hcall hY h' e' hP fun st2 a2 w2 hG hk => ih _ _ _ _ hG hk
        · rw [if_neg (by simp [hw])]
          exact ⟨fun _ _ => trivial, ih _ _ _ _ ⟨C, g, h'.put RV_undef o.dst⟩ e'⟩
      · cases e

/-- it ends as it should, or panics as is foreseen -/
def OnlyP (X : Ctx) (w0 : World) (C0 : Mem) {ρ : Type} [Pan ρ] (r : ρ) (N : Act → World → Prop) : Exit → Act → World → Prop := fun e a w =>
  (e = .normal ∧ N a w) ∨ (∃ v : Value, e = .panic [{ v, recovered := false }] ∧ Pan.pan = some r ∧ a.defers = X.ds ∧ BadV v ∧ Sane X w0 C0 w)
theorem onlyP_out {ρ : Type} [Pan ρ] {r : ρ} {N : Act → World → Prop} : ¬ LetsOut (OnlyP X w0 C0 r N) := by
  rintro ⟨a, w, ⟨h, _⟩ | ⟨v, h, _⟩⟩ <;> cases h
theorem onlyP_put {ρ : Type} [Pan ρ] {r : ρ} {N : Act → World → Prop} : ∀ c (a : Act) w d v, OnlyP X w0 C0 r N (.panic c) (a.put d v) w → OnlyP X w0 C0 r N (.panic c) a w := by
  rintro c a w d v (⟨h, _⟩ | ⟨v, h, h1, h2, h3⟩)
  · cases h
  · exact .inr ⟨v, h, h1, by cases d <;> exact h2, h3⟩
theorem onlyP_pan {ρ : Type} [Pan ρ] {r : ρ} {N : Act → World → Prop} : PanOk X w0 C0 r (OnlyP X w0 C0 r N) := fun hp a v w hd hb hs => .inr ⟨v, rfl, hp, hd, hb, hs⟩
theorem onlyP_imp {ρ : Type} [Pan ρ] {r : ρ} {N : Act → World → Prop} {Q : Exit → Act → World → Prop} (hP : PanOk X w0 C0 r Q) {c : List PanicEntry} {a : Act} {w : World} (h : OnlyP X w0 C0 r N (.panic c) a w) : Q (.panic c) a w := by
  rcases h with ⟨h, _⟩ | ⟨v, h, h1, h2, h3, h4⟩
  · cases h
  · cases h
    exact hP h1 a v w h2 h3 h4

theorem drawX_sound {E : Env} {ρ : Type} [Pan ρ] {call : CallT ρ} (hcall : CallOk E X call) (hcon : ∀ f, ∀ fc ∈ E.con f, Spec E.P f fc) {ops : Array Oper} (hd : noDefer ops.toList = true) {r : ρ} {K : St → Option ρ} {N : Act → World → Prop}
    (hK : ∀ st' a' w', Good X w0 C0 fs st' a' w' → K st' = some r → N a' w') (h : SR X w0 C0 fs C g st a w) (e : drawX E call ops st K = some r) : wpAny E.P .any ops (OnlyP X w0 C0 r N) ops.size (Array.replicate ops.size false) a { w with drawn := w.drawn + 1 } := by
  unfold drawX at e
  have hb : Below w.heap.size w w.drew := (Below.refl _ _).drew
  cases hB : (Region.lexB .any ops && onlyReads E st ops.toList ops.toList) with
  | false =>
    rw [hB, cond_false] at e
    obtain ⟨hsel, e⟩ := cond_some e
    exact wpAny_of_G _ _ _ _ (execB_sound (Q := OnlyP X w0 C0 r N) hcall hcon hsel onlyP_put onlyP_pan (fun st' a' w' hG hk => .inl ⟨rfl, hK st' a' w' hG hk⟩) _ _ st a w.drew C g (closed_start _ _) ⟨h.rel.ext hb, h.tm, h.out, h.df⟩ e)
  | true =>
    rw [hB, cond_true] at e
    have hB := (Bool.and_eq_true _ _ ▸ hB : _ ∧ _).1
    simp only [Region.lexB, Bool.and_eq_true] at hB
    refine wpAny_of_quiet (C := fun w' => Below w.heap.size w w') (Q := fun a' => ∀ w', Below w.heap.size w w' → N a' w') (fun _ w' hw' h => .inl ⟨rfl, h w' hw'⟩) _ _ _ _ hb ?_
    have := wpAnyQ_lex (C := fun w' => Below w.heap.size w w') (md := .any) hB.1 ops.toList 0 (Array.replicate ops.size false) a (by simp) (by simpa using hB.2) (execQ_sound (K := K) (next := fun a' => ∀ w', Below w.heap.size w w' → N a' w') hcon (fun st' a' h' e' w' hw => hK _ _ _ ⟨C, g, h'.rel.ext hw, h'.tm, h'.out, h'.df⟩ e') _ st a h e)
    simpa using this

theorem drawY_sound {E : Env} {ro : Option Nat} {ρ : Type} [Pan ρ] {call : CallT ρ} (hm : E.P.follows .mixedOrders = true) (hcall : CallOk E X call) (hY : YOk E X w0 C0) (hcon : ∀ f, ∀ fc ∈ E.con f, Spec E.P f fc) {ops : Array Oper} (hd : noDefer ops.toList = true) {id : Nat} {r : ρ} {K : St → Option ρ} {Q : Exit → Act → World → Prop} (hP : PanOk X w0 C0 r Q)
    (hK : ∀ st' a' w', Good X w0 C0 fs st' a' w' → K st' = some r → Q .normal a' w') (h : SR X w0 C0 fs C g st a w) (e : drawY E call ops st K = some r) : (Code.region id ops true).wpIn (FW ro) 0 E.P Q a w := by
  have hdf : ∀ o ∈ ops, ∀ c, o.op ≠ .defer c := fun o ho => noDefer_spec hd o (by simpa using ho)
  unfold drawY at e
  split at e
  · rename_i y hy
    have hs : splitOk ops y = true := by
      unfold yldOf at hy
      obtain ⟨_, hy⟩ := cond_some hy
      split at hy
      · obtain ⟨h1, h2⟩ := cond_some hy
        simp only [Option.some.injEq] at h2
        rw [← h2]; exact h1
      · cases hy
    have hyn : y < ops.size := by
      simp only [splitOk, Bool.and_eq_true] at hs
      exact blt_lt hs.1
    rw [mtake_eq] at e
    have hd2 : noDefer (ops.toList.take y) = true := noDefer_take hd y
    have hw := drawX_sound (ops := (ops.toList.take y).toArray) (N := fun a w => wpAnyIn (FW ro) 0 E.P .any ops Q (ops.size - y) (mapp (mrep y true) (mrep (ops.size - y) false)).toArray a w) hcall hcon (by simpa using hd2)
      (fun st' a' w' hG hk => execS_sound (ro := ro) hcall hY hP hK _ _ _ _ _ hG hk) h e
    refine wpIn_region_any hm ?_
    have hsz : ((ops.toList.take y).toArray).size = y := by simp; omega
    rw [hsz] at hw
    have := splitIn (ro := ro) (Q := Q) hdf hs onlyP_out (fun c a w hh => onlyP_imp hP hh) (fun a w hh => by
        rcases hh with ⟨_, hh⟩ | ⟨v, hh, _⟩
        · exact hh
        · cases hh) y (Array.replicate y false) (Array.replicate ops.size false) a { w with drawn := w.drawn + 1 }
      ⟨by simp, by simp, fun k hk => by rw [Array.getElem?_replicate, Array.getElem?_replicate, if_pos hk, if_pos (by omega)], fun k hk hk2 => by rw [Array.getElem?_replicate, if_pos hk2], closed_start _ _⟩ hw
    rw [show y + (ops.size - y) = ops.size by omega] at this
    exact this
  · refine drawIn (Q1 := OnlyP X w0 C0 r fun a w => Q .normal a w) hm hd onlyP_out (fun e a w hh => ?_) (drawX_sound hcall hcon hd hK h e)
    rcases hh with ⟨rfl, hh⟩ | ⟨v, rfl, h1, h2, h3, h4⟩
    · exact hh
    · exact hP h1 a v w h2 h3 h4
where
  noDefer_take : ∀ {l : List Oper}, noDefer l = true → ∀ n, noDefer (l.take n) = true
    | _, _, 0 => by simp [noDefer]
    | [], h, n + 1 => h
    | x :: l, h, n + 1 => by
      simp only [noDefer, Bool.and_eq_true] at h
      simp only [List.take_succ_cons, noDefer, Bool.and_eq_true]
      exact ⟨h.1, noDefer_take h.2 n⟩

end
end Am
end Go.Proofs.Ytkjpoongkdapoaa
