/-
  A symbolic machine over the model, part 17: calls by contracts; operations in a round's frame.
-/
import Derived.Test.YtkjpoongkdapoaaBmE
import Derived.OrdersIn
import Derived.TacticsIn
import Derived.Deep.RegionHeld3
namespace Go.Proofs.Ytkjpoongkdapoaa
namespace Am
open Go Go.RowKit
set_option linter.unusedVariables false
set_option linter.unusedSimpArgs false

section
variable {X : Ctx} {w0 w : World} {C0 C : Mem} {fs : List (List Value)} {g : Ghs} {st : St} {a : Act}

theorem fcCall_some {fc : Fc} {ks : List Nat} {as : List AV} {ρ : Type} [Pan ρ] {K : AV → St → Option ρ} {alt : Option ρ} {r : ρ} (e : fcCall fc ks as st K alt = some r) :
    (∃ x q, fc.dec as (pickB st.mem ks ks) = some x ∧ (fc.G x).get = some q ∧ ks.length ≤ q.2.length ∧ K (q.1.back ks st.mem.length) (st.merge ks q.2) = some r) ∨ (∃ x, fc.dec as (pickB st.mem ks ks) = some x ∧ (fc.may && fc.pan x) = true ∧ Pan.pan = some r) ∨ alt = some r := by
  unfold fcCall at e
  split at e
  · rename_i x hx
    cases hp : (fc.may && fc.pan x) with
    | true =>
      rw [hp, cond_true] at e
      exact .inr (.inl ⟨x, hx, hp, e⟩)
    | false =>
    rw [hp, cond_false] at e
    obtain ⟨q, h1, h2⟩ := Tr.elim_some e
    obtain ⟨h3, h4⟩ := cond_some h2
    rw [mlen_eq, mlen_eq] at h3
    rw [mlen_eq] at h4
    exact .inl ⟨x, q, hx, h1, Nat.le_of_ble_eq_true h3, h4⟩
  · exact .inr (.inr e)

/-- what a call leaves -/
def Post (X : Ctx) (w0 : World) (C0 : Mem) (fs : List (List Value)) (tl : List Value) {ρ : Type} [Pan ρ] (K : AV → St → Option ρ) (r : ρ) : Ending → World → Prop :=
  fun e w' => (∃ (v : Value) (av : AV) (st' : St) (C' : Mem) (g' : Ghs), e = .returned v ∧ Rel X w0 C0 C' g' st'.mem w' ∧ RVL C' g' st'.tmps tl ∧ OutR C' g' st'.outer fs ∧ RV C' g' av v ∧ K av st' = some r) ∨ (∃ v : Value, e = .panicked [{ v, recovered := false }] ∧ BadV v ∧ Sane X w0 C0 w' ∧ Pan.pan = some r)
theorem Sane.foot {ks : List Nat} (h : SR X w0 C0 fs C g st a w) {w' : World} (k : Sane (footX X w g st.mem ks) w C w') : Sane X w0 C0 w' := by
  obtain ⟨h1, C', h2, h3, h4⟩ := k
  have hS : ∀ b, X.S b → (footX X w g st.mem ks).S b := fun b hb => ⟨h.rel.lt hb, fun i m y hi hm hy hl => (live_lt (h.rel.blk i m y hm hy) hl).1 hb⟩
  exact ⟨h.rel.below.trans (h1.mono hS), C', Mem.le_trans h.rel.base h2, h3, fun b hb => (h4 b (hS _ hb)).trans (h.rel.old b hb)⟩

theorem spec_call {P : Program} {f : FuncId} {fc : Fc} (hs : Spec P f fc) {ks : List Nat} {as : List AV} {vs : List Value} {ρ : Type} [Pan ρ] {K : AV → St → Option ρ} {r : ρ} (h : SR X w0 C0 fs C g st a w) (hk : okKs st.mem.length ks = true)
    (hr : RVL C (pick ks g) as vs) {x : fc.σ} {q : AV × List Blk} (hx : fc.dec as (pickB st.mem ks ks) = some x) (hG : (fc.G x).get = some q) (hl : ks.length ≤ q.2.length) (e : K (q.1.back ks st.mem.length) (st.merge ks q.2) = some r) :
    Calls P f vs.toArray w (Post X w0 C0 fs a.tmps.toList K r) := by
  refine (hs.2.1 (footX X w g st.mem ks) w C _ _ as vs x q.1 q.2 (h.rel.foot hk) rfl hr hx hG).mono ?_
  rintro e1 w' ⟨v, C', g', rfl, hrel, hrv⟩
  obtain ⟨h3, h5⟩ := h.merge hk hrel hl
  exact .inl ⟨v, _, _, C', _, rfl, h3.rel, h3.tm, h3.out, RV.back h5 hrv, e⟩
theorem spec_panic {P : Program} {f : FuncId} {fc : Fc} (hs : Spec P f fc) {ks : List Nat} {as : List AV} {vs : List Value} {ρ : Type} [Pan ρ] {K : AV → St → Option ρ} {r : ρ} (h : SR X w0 C0 fs C g st a w) (hk : okKs st.mem.length ks = true)
    (hr : RVL C (pick ks g) as vs) {x : fc.σ} (hx : fc.dec as (pickB st.mem ks ks) = some x) (hp : (fc.may && fc.pan x) = true) (e : Pan.pan = some r) : Calls P f vs.toArray w (Post X w0 C0 fs a.tmps.toList K r) := by
  refine (hs.2.2 (footX X w g st.mem ks) w C _ _ as vs x (h.rel.foot hk) rfl hr hx hp).mono ?_
  rintro e1 w' ⟨v, rfl, hb, hsn⟩
  exact .inr ⟨v, rfl, hb, hsn.foot h, e⟩

theorem conCall_sound {P : Program} {f : FuncId} {ρ : Type} [Pan ρ] {K : AV → St → Option ρ} {r : ρ} {args : List AV} {vs : List Value} : ∀ (l : List Fc), (∀ fc ∈ l, Spec P f fc) → SR X w0 C0 fs C g st a w → RVL C g args vs → conCall l args st K = some r →
    EnterOk P f ∧ Calls P f vs.toArray w (Post X w0 C0 fs a.tmps.toList K r)
  | [], _, _, _, e => by simp [conCall] at e
  | fc :: l, hl, h, hargs, e => by
    have hs := hl fc (by simp)
    have ih := conCall_sound (K := K) (r := r) l (fun fc h => hl fc (by simp [h])) h hargs
    simp only [conCall] at e
    cases hf : fc.foot with
    | true =>
      rw [hf, cond_true] at e
      split at e
      · rename_i as has
        obtain ⟨hk, e2⟩ := cond_some e
        rw [mlen_eq] at hk
        rcases fcCall_some e2 with ⟨x, q, h1, h2, h3, h4⟩ | ⟨x, h1, h2, h3⟩ | e3
        · exact ⟨hs.1, spec_call hs h hk (RVL.ren _ hargs has) h1 h2 h3 h4⟩
        · exact ⟨hs.1, spec_panic hs h hk (RVL.ren _ hargs has) h1 h2 h3⟩
        · exact ih e3
      · exact ih e
    | false =>
      rw [hf, cond_false] at e
      obtain ⟨C1, hC1, h1, hr1⟩ := frozenL_spec h hargs
      have e2 : fcCall fc [] (frozenL st args).1 (frozenL st args).2 K (conCall l args st K) = some r := e
      rcases fcCall_some e2 with ⟨x, q, i1, i2, i3, i4⟩ | ⟨x, i1, i2, i3⟩ | e3
      · exact ⟨hs.1, spec_call (ks := []) hs h1 rfl hr1 i1 i2 i3 i4⟩
      · exact ⟨hs.1, spec_panic (ks := []) hs h1 rfl hr1 i1 i2 i3⟩
      · exact ih e3

/- operations in a frame of whatever make -/
def FW (ro : Option Nat) : Fence := { Fence.wide with round := ro }

theorem callsFW {ro : Option Nat} {n : Nat} {P : Program} {f : FuncId} {args : Array Value} {w : World} {R : Ending → World → Prop} (h : Calls P f args w R) : CallsIn (FW ro) n P f args w R := callsIn_wide.2 h
theorem callsFW' {ro : Option Nat} {n : Nat} {P : Program} {f : FuncId} {args : Array Value} {w : World} {R : Ending → World → Prop} (h : CallsIn (FW ro) n P f args w R) : Calls P f args w R := callsIn_wide.1 h
theorem rowsFW {ro : Option Nat} {n : Nat} {P : Program} {row : String} {args : Array Value} {w : World} {R : Value → World → Prop} (h : Rows P row args w R) : RowsIn (FW ro) n P row args w R :=
  fun c cs _ => let ⟨v, w', r, s⟩ := h c cs; ⟨v, w', r, stepsIn_wide.2 s⟩

theorem opIn {ro : Option Nat} {P : Program} {o : Oper} {next : Act → World → Prop} {Q : Exit → Act → World → Prop} (hd : ∀ c, o.op ≠ .defer c) (h : o.wp P a w next Q) : o.wpIn (FW ro) 0 P a w next Q := by
  refine ⟨fun _ _ => trivial, ?_⟩
  rw [Oper.semAt_eq _ _ _ hd]
  unfold Oper.wp at h
  generalize (execOp a.eval o).run P w = q at *
  have hn : (FW ro).depth.isSome = true → 1 ≤ 0 := fun hh => by simp [FW, Fence.wide] at hh
  cases q with
  | ok x w' =>
    cases x <;> simp only [Oper.upon] at h <;> simp only [Oper.uponIn]
    case value => exact h
    case skip => exact h
    case defer => exact h
    case enter => exact ⟨hn, callsFW h⟩
    case row => exact ⟨hn, rowsFW h⟩
  | halt x w' =>
    cases x <;> simp only [Oper.upon] at h <;> simp only [Oper.uponIn]
    exact h

theorem wpOpIn_of {ro : Option Nat} {P : Program} {ops : Array Oper} {Q : Exit → Act → World → Prop} {i : Nat} {K : Act → World → Prop} (hd : ∀ o ∈ ops, ∀ c, o.op ≠ .defer c) (hQ : ¬ LetsOut Q) (h : wpOp P ops Q i K a w) : wpOpIn (FW ro) 0 P ops Q i K a w := by
  unfold wpOp at h
  unfold wpOpIn
  cases ho : ops[i]? with
  | none => simpa only [ho] using h
  | some o =>
    simp only [ho] at h ⊢
    split
    · rename_i hw
      simp only [hw, if_true] at h
      rcases h with h | ⟨_, h⟩
      · exact opIn (hd o (Array.mem_of_getElem? ho)) h
      · exact absurd h hQ
    · rename_i hw
      simp only [hw] at h
      exact ⟨fun _ _ => trivial, h⟩

theorem wpAnyIn_of {ro : Option Nat} {P : Program} {md : Region.Mode} {ops : Array Oper} {Q : Exit → Act → World → Prop} (hd : ∀ o ∈ ops, ∀ c, o.op ≠ .defer c) (hQ : ¬ LetsOut Q) : ∀ (fuel : Nat) (listed : Array Bool) (a : Act) (w : World),
    wpAny P md ops Q fuel listed a w → wpAnyIn (FW ro) 0 P md ops Q fuel listed a w
  | 0, _, _, _, h => h
  | fuel + 1, _, _, _, h => ⟨h.1, fun i hi => wpOpIn_mono (fun a' w' h' => wpAnyIn_of hd hQ fuel _ a' w' h') (wpOpIn_of hd hQ (h.2 i hi))⟩

theorem noDefer_spec : ∀ {l : List Oper}, noDefer l = true → ∀ o ∈ l, ∀ c, o.op ≠ .defer c
  | [], _, o, ho, _ => by simp at ho
  | x :: l, h, o, ho, c => by
    simp only [noDefer, Bool.and_eq_true] at h
    rcases List.mem_cons.1 ho with rfl | ho
    · intro e
      have h1 := h.1
      rw [e] at h1
      cases h1
    · exact noDefer_spec h.2 o ho c

/-- a region that ends as it should -/
def Only (Q : Exit → Act → World → Prop) : Exit → Act → World → Prop := fun e a w => e = .normal ∧ Q .normal a w
theorem only_out {Q : Exit → Act → World → Prop} : ¬ LetsOut (Only Q) := fun ⟨_, _, h⟩ => by cases h.1
theorem Only.imp {Q : Exit → Act → World → Prop} : ∀ (e : Exit) (a : Act) (w : World), Only Q e a w → Q e a w := fun e a w h => by obtain ⟨rfl, h⟩ := h; exact h

theorem drawIn {ro : Option Nat} {P : Program} {id : Nat} {ops : Array Oper} {Q Q1 : Exit → Act → World → Prop} (hm : P.follows .mixedOrders = true) (hd : noDefer ops.toList = true) (hQ : ¬ LetsOut Q1) (hi : ∀ e a w, Q1 e a w → Q e a w)
    (h : wpAny P .any ops Q1 ops.size (Array.replicate ops.size false) a { w with drawn := w.drawn + 1 }) : (Code.region id ops true).wpIn (FW ro) 0 P Q a w :=
  wpIn_mono (wpIn_region_any hm (wpAnyIn_of (fun o ho => noDefer_spec hd o (by simpa using ho)) hQ _ _ _ _ h)) hi

theorem quietIn {ro : Option Nat} {P : Program} {id : Nat} {ops : Array Oper} {Cl : World → Prop} {Q : Exit → Act → World → Prop} (hm : P.follows .mixedOrders = true) (hd : noDefer ops.toList = true) (hB : Region.lexB .any ops = true) (hC : Cl { w with drawn := w.drawn + 1 })
    (h : wpQuiet P ops Cl (fun a' => ∀ w', Cl w' → Q .normal a' w') ops.toList a) : (Code.region id ops true).wpIn (FW ro) 0 P Q a w := by
  simp only [Region.lexB, Bool.and_eq_true] at hB
  refine drawIn hm hd only_out Only.imp (wpAny_of_quiet (Q := fun a' => ∀ w', Cl w' → Q .normal a' w') (fun _ w' hw' h => ⟨rfl, h w' hw'⟩) _ _ _ _ hC ?_)
  have := wpAnyQ_lex (C := Cl) (md := .any) hB.1 ops.toList 0 (Array.replicate ops.size false) a (by simp) (by simpa using hB.2) h
  simpa using this

theorem listIn_of_quiet {ro : Option Nat} {P : Program} {ops : Array Oper} {all : List Oper} {Cl : World → Prop} {Q : Exit → Act → World → Prop} (hd : ∀ o ∈ all, ∀ c, o.op ≠ .defer c) : ∀ (l : List Oper), (∀ o ∈ l, o ∈ all) → ∀ (a : Act) (w : World), Cl w →
    wpQuiet P ops Cl (fun a' => ∀ w', Cl w' → Q .normal a' w') l a → wpListIn (FW ro) 0 P ops Q l a w
  | [], _, a, w, hw, h => wpListIn_nil (h w hw)
  | o :: rest, hs, a, w, hw, h => by
    refine wpListIn_step fun Kc hKc => ?_
    have ih := listIn_of_quiet (ro := ro) (P := P) (ops := ops) (Cl := Cl) (Q := Q) hd rest (fun o ho => hs o (List.mem_cons_of_mem _ ho))
    unfold wpQuiet at h
    split
    · rename_i hw1
      rw [if_pos hw1] at h
      exact opIn (hd o (hs o (List.mem_cons_self ..))) (Oper.wp_of_quiet hw (fun a' w' hw' hq => hKc _ _ (ih a' w' hw' hq)) h)
    · rename_i hw1
      rw [if_neg hw1] at h
      exact ⟨fun _ _ => trivial, hKc _ _ (ih _ _ hw h)⟩

/-- what a call of yield does -/
def YieldSem (P : Program) (l : Nat) (vs : Array Value) (w : World) (R : World → Prop) : Prop :=
  ∃ fn tmps assign body, (Instr.yield l vs).run P w = .ok (.round l fn tmps assign body) w ∧ RoundIn Fence.wide 0 P l fn tmps assign body w (fun e w' => e = .returned (.bool true) ∧ R w')

/-- yield does what is said of it, as long as nobody has touched the loop's record -/
def YldOk (P : Program) (X1 : Ctx) (w1 : World) (C1 : Mem) (ks : List Nat) (fc : Fc) (l : Nat) : Prop :=
  ∀ (X : Ctx) (w0 : World) (C0 C : Mem) (g : Ghs) (mem : List Blk) (w : World) (as : List AV) (vs : List Value) (x : fc.σ) (q : AV × List Blk),
    Rel X w0 C0 C g mem w → X.G = X1.G → Keeps X1.S w1 w → C1.le C → okKs mem.length ks = true → RVL C (pick ks g) as vs → fc.dec as (pickB mem ks ks) = some x → (fc.G x).get = some q →
      YieldSem P l vs.toArray w (fun w' => ∃ C' g', Rel (footX X w g mem ks) w C C' g' q.2 w')
def YOk (E : Env) (X : Ctx) (w0 : World) (C0 : Mem) : Prop :=
  ∀ ks fc, E.yld = some (ks, fc) → ∀ l, X.Y l → ∃ X1 w1 C1, YldOk E.P X1 w1 C1 ks fc l ∧ X.G = X1.G ∧ Keeps X1.S w1 w0 ∧ (∀ k, X1.S k → X.S k) ∧ C1.le C0

/-- a later beginning -/
def mark (D : Nat) : Deferred := { target := .collected D, args := #[] }
structure Ext (X : Ctx) (w0 : World) (C0 : Mem) (X' : Ctx) (w0' : World) (C0' : Mem) : Prop where
  S : ∀ k, X.S k → X'.S k
  Y : X'.Y = X.Y
  G : X'.G = X.G
  low : ∀ k, X.S k → k < w0.heap.size
  keeps : Keeps X.S w0 w0'
  base : C0.le C0'
  old : ∀ a : Addr, X.S a.block → C0' a = C0 a
  ds : ∃ Ds : List Nat, X'.ds = Ds.map mark ++ X.ds ∧ Ds.Nodup ∧ ∀ D ∈ Ds, X'.S D ∧ ¬ X.S D ∧ w0'.heap[D]? = some (.deferred (some []))
theorem Ext.refl (h : ∀ k, X.S k → k < w0.heap.size) : Ext X w0 C0 X w0 C0 :=
  ⟨fun _ h => h, rfl, rfl, h, Keeps.refl _ _, Mem.le_refl _, fun _ _ => rfl, [], rfl, List.nodup_nil, by simp⟩
theorem Ext.trans {X' X2 : Ctx} {w0' w2 : World} {C0' C2 : Mem} (h : Ext X w0 C0 X' w0' C0') (k : Ext X' w0' C0' X2 w2 C2) : Ext X w0 C0 X2 w2 C2 := by
  obtain ⟨Ds, h1, h2, h3⟩ := h.ds
  obtain ⟨Es, k1, k2, k3⟩ := k.ds
  refine ⟨fun b hb => k.S b (h.S b hb), k.Y.trans h.Y, k.G.trans h.G, h.low, h.keeps.trans (k.keeps.mono h.S), Mem.le_trans h.base k.base, fun a ha => (k.old a (h.S _ ha)).trans (h.old a ha), Es ++ Ds, ?_, ?_, ?_⟩
  · rw [k1, h1]; simp
  · refine List.nodup_append.2 ⟨k2, h2, fun D hD D' hD' e => ?_⟩
    subst e
    exact (k3 D hD).2.1 (h3 D hD').1
  · intro D hD
    rcases List.mem_append.1 hD with hD | hD
    · exact ⟨(k3 D hD).1, fun hs => (k3 D hD).2.1 (h.S D hs), (k3 D hD).2.2⟩
    · exact ⟨k.S D (h3 D hD).1, (h3 D hD).2.1, (k.keeps.block D (h3 D hD).1).trans (h3 D hD).2.2⟩

theorem YOk.ext {E : Env} {X' : Ctx} {w0' : World} {C0' : Mem} (h : YOk E X w0 C0) (k : Ext X w0 C0 X' w0' C0') : YOk E X' w0' C0' := by
  intro ks fc hy l hl
  rw [k.Y] at hl
  obtain ⟨X1, w1, C1, h1, h2, h3, h4, h5⟩ := h ks fc hy l hl
  exact ⟨X1, w1, C1, h1, k.G.trans h2, h3.trans (k.keeps.mono h4), fun b hb => k.S b (h4 b hb), Mem.le_trans h5 k.base⟩

/-- what is so of a later beginning is so of the first -/
theorem Rel.back {X' : Ctx} {w0' : World} {C0' : Mem} {mem : List Blk} (h : Rel X' w0' C0' C g mem w) (k : Ext X w0 C0 X' w0' C0') : Rel X w0 C0 C g mem w := by
  refine ⟨k.keeps.trans (h.below.mono k.S), k.low, h.sub, Mem.le_trans k.base h.base, fun a ha => (h.old a (k.S _ ha)).trans (k.old a ha), h.len, fun b x hb hf => h.keep b x (by rw [k.G]; exact hb) hf, ?_, h.sep⟩
  intro b m x hm hx
  cases h.blk b m x hm hx with
  | box h1 h2 h3 h4 => exact .box (fun hs => h1 (k.S _ hs)) h2 h3 h4
  | fro h1 h2 => exact .fro h1 h2
  | own h0 h1 h2 h3 => exact .own (fun hs => h0 (k.S _ hs)) h1 h2 h3
  | clip => exact .clip
  | loop hl => exact .loop (by rw [← k.Y]; exact hl)
  | arr h0 h1 h2 h3 h4 h5 => exact .arr (fun hs => h0 (k.S _ hs)) h1 h2 h3 h4 h5
  | arr0 => exact .arr0
  | mp h0 h1 h2 h3 => exact .mp (fun hs => h0 (k.S _ hs)) h1 h2 h3
  | dead => exact .dead

/-- operations, calls of yield among them -/
theorem doOp2_noDefer {E : Env} {ρ : Type} [Pan ρ] {call : CallT ρ} {o : Oper} {K : St → Option ρ} {r : ρ} (e : doOp2 E call o st K = some r) : ∀ c, o.op ≠ .defer c := by
  intro c hc
  obtain ⟨dst, op, ty, pos, after, guard⟩ := o
  simp only at hc
  subst hc
  simp [doOp2, doOp, pureOp] at e

theorem lstPick_some {ρ : Type} {i : Int} {K : AV → Option ρ} {r : ρ} : ∀ {fs : List FuncId} {j : Nat}, lstPick i K j fs = some r → ∃ n f, fs[n]? = some f ∧ i = ((j + n : Nat) : Int) ∧ K (.cptr (.fn (.func f) [] [])) = some r
  | [], j, h => by simp [lstPick] at h
  | f :: fs, j, h => by
    simp only [lstPick] at h
    cases hi : ieq i (j : Nat) with
    | true =>
      rw [hi, cond_true] at h
      exact ⟨0, f, rfl, ieq_iff.1 hi, h⟩
    | false =>
      rw [hi, cond_false] at h
      obtain ⟨n, f', h1, h2, h3⟩ := lstPick_some h
      exact ⟨n + 1, f', by simpa using h1, by rw [h2]; omega, h3⟩
theorem lstOk_spec {P : Program} {t : TypeId} (h : lstOk P t = true) : ∃ e i z, P.underlying t = some (.slice e) ∧ P.cellsOf e = 1 ∧ P.info? e = some i ∧ i.size = 1 ∧ i.zero = some z := by
  unfold lstOk at h
  split at h
  · rename_i e hu
    simp only [Bool.and_eq_true, beq_iff_eq] at h
    obtain ⟨h1, h2⟩ := h
    split at h2
    · rename_i i hi
      simp only [Bool.and_eq_true, beq_iff_eq] at h2
      cases hz : i.zero with
      | none => rw [hz] at h2; simp at h2
      | some z => exact ⟨e, i, z, hu, h1, hi, h2.1, hz⟩
    · cases h2
  · cases h
theorem fnParts_spec {a : Act} : ∀ {n : Nat} {l : List (Nat × Operand)} {fs : List FuncId}, fnParts0 n l = some fs → (l.map fun p => a.eval p.2) = fs.map fnv ∧ ∀ (j : Nat) (p : Nat × Operand), l[j]? = some p → p.1 = n + j
  | n, [], fs, h => by
    simp only [fnParts0, Option.some.injEq] at h
    subst h
    exact ⟨rfl, fun j p hp => by simp at hp⟩
  | n, (i, x) :: l, fs, h => by
    cases x with
    | func f =>
      simp only [fnParts0] at h
      obtain ⟨h1, h2⟩ := cond_some h
      split at h2
      · rename_i fs' hl
        simp only [Option.some.injEq] at h2
        subst h2
        obtain ⟨k1, k2⟩ := fnParts_spec (a := a) hl
        have hin := Nat.eq_of_beq_eq_true h1
        refine ⟨?_, fun j p hp => ?_⟩
        · simp only [List.map_cons, k1]
          rfl
        · cases j with
          | zero => simp at hp; subst hp; simpa using hin
          | succ j => have := k2 j p (by simpa using hp); omega
      · cases h2
    | _ => simp [fnParts0] at h
theorem lstAt_run {E : Env} {t : TypeId} {fs' : List FuncId} {ix : AV} {x y : Value} {ρ : Type} {K : AV → Option ρ} {r : ρ} (hx : RV C g (.lst fs') x) (hy : RV C g ix y) (e : lstAt E t fs' ix K = some r) :
    ∃ z v, RV C g v z ∧ K v = some r ∧ ∀ w : World, (Instr.indexAt t x y).run E.P w = .ok z w := by
  unfold lstAt at e
  cases hai : asInt ix with
  | none => simp [hai] at e
  | some p =>
    obtain ⟨k, i⟩ := p
    obtain ⟨rfl, _⟩ := RV_int hy hai
    simp only [hai] at e
    obtain ⟨h1, e2⟩ := cond_some e
    obtain ⟨h2, e3⟩ := cond_some e2
    simp only [Bool.and_eq_true, ile_iff, ilt_iff, mlen_eq] at h2
    obtain ⟨el, inf, z, hu, hc, _, _, _⟩ := lstOk_spec h1
    obtain ⟨n, f, hn, hi, hk⟩ := lstPick_some e3
    rw [Nat.zero_add] at hi
    subst hi
    obtain ⟨ad, rfl, hat⟩ := RV_lst hx
    have hcell : C ⟨ad.block, ad.off + n, none⟩ = some (fnv f) := hat.2 n (fnv f) (by rw [List.getElem?_map, hn]; rfl)
    refine ⟨.pointer (some ⟨ad.block, ad.off + n, none⟩), _, .one (.cptr (.fn .nil .nil) (ad := ⟨ad.block, ad.off + n, none⟩) ⟨rfl, fun j v hj => ?_⟩) (by simp) (by simp), hk, fun w => ?_⟩
    · cases j with
      | zero => simp at hj; subst hj; exact hcell
      | succ j => simp at hj
    · have hsz : (sizeOf el).run E.P w = .ok (E.P.cellsOf el) w := run_sizeOf0 (by rw [hc]; decide) w
      have hadd : ad.add n = ⟨ad.block, ad.off + n, none⟩ := by
        have hs : ad.spot = none := hat.1
        unfold Addr.add
        split
        · rename_i h0; cases ad; simp_all
        · rfl
      have hl : n < fs'.length := lt_of_getElem? hn
      simp only [Instr.indexAt, asIntOf, Sem.run_bind, Sem.run_pure, Result.andThen_ok, run_underlying hu, Sem.run_ite]
      rw [if_pos ⟨by omega, by omega⟩]
      simp [hsz, hc, hadd]
theorem lstBuild_run {E : Env} {t : TypeId} {len : Nat} {parts : Array (Nat × Operand)} {fs' : List FuncId} (h : SR X w0 C0 fs C g st a w) (hp : fnParts parts.toList = some fs') (hok : lstOk E.P t = true) (hl : len = fs'.length) (hb : len ≤ 65536) :
    ∃ z w' C', (Instr.buildSlice t len (parts.map fun (p : Nat × Operand) => (p.1, a.eval p.2))).run E.P w = .ok z w' ∧ C.le C' ∧ SR X w0 C0 fs C' g st a w' ∧ RV C' g (.lst fs') z := by
  obtain ⟨el, inf, z, hu, hc, hi, hs, hz⟩ := lstOk_spec hok
  obtain ⟨k1, k2⟩ := fnParts_spec (a := a) hp
  let ys : List (Nat × Value) := parts.toList.map fun p => (p.1, a.eval p.2)
  have hys : ys.map (·.2) = fs'.map fnv := by simp only [ys, List.map_map]; exact k1
  have hyl : ys.length = fs'.length := by have := congrArg List.length hys; simpa using this
  have hrun := buildSlice_run (P := E.P) (ty := .bool) (ys := ys) hu hi hz (by rw [hs]; rfl) (by rw [hyl, ← hl]; simpa [Ty.size] using hb) (fun j p hp => by
      simp only [ys, List.getElem?_map, Option.map_eq_some_iff] at hp
      obtain ⟨q, hq, rfl⟩ := hp
      have := k2 j q hq
      simpa using this) (fun p hp => by
      have hm : p.2 ∈ ys.map (·.2) := List.mem_map.2 ⟨p, hp, rfl⟩
      rw [hys] at hm
      obtain ⟨f, _, hf⟩ := List.mem_map.1 hm
      rw [← hf]; rfl) w
  have hfl : (ys.flatMap fun p => p.2.cells.toList) = fs'.map fnv := by
    rw [flat_snd, hys]
    induction fs' with
    | nil => rfl
    | cons f fs ih => exact flatF (f :: fs)
  have hpa : (parts.map fun (p : Nat × Operand) => (p.1, a.eval p.2)) = ys.toArray := toList_map _ _
  obtain ⟨hC, hr⟩ := h.rel.frow (e := el) (cs := fs'.map fnv)
  rw [hfl, hyl] at hrun
  refine ⟨_, _, _, by rw [hpa, hl]; exact hrun, hC, ⟨hr, RVL.mono hC (Ghs.le_refl _) h.tm, OutR.mono hC (Ghs.le_refl _) h.out, h.df⟩, .one (.lst Mem.row_at) (by simp) (by simp)⟩
where
  flatF : ∀ (l : List FuncId), ((l.map fnv).flatMap fun y => y.cells.toList) = l.map fnv
    | [] => rfl
    | f :: l => by simp only [List.map_cons, List.flatMap_cons, flatF l]; rfl
theorem doOp3_sound {E : Env} {ρ : Type} [Pan ρ] {call : CallT ρ} (hcall : CallOk E X call) (hY : YOk E X w0 C0) {o : Oper} {K : St → Option ρ} {r : ρ} {ro : Option Nat} (h : SR X w0 C0 fs C g st a w)
    (e : doOp3 E call o st K = some r) {next : Act → World → Prop} {Q : Exit → Act → World → Prop} (hP : PanOk X w0 C0 r Q)
    (hn : ∀ st' a' w', Good X w0 C0 fs st' a' w' → K st' = some r → next a' w') : o.wpIn (FW ro) 0 E.P a w next Q := by
  have two : doOp2 E call o st K = some r → o.wpIn (FW ro) 0 E.P a w next Q := fun e => opIn (doOp2_noDefer e) (doOp2_sound hcall h e hP hn)
  obtain ⟨dst, op, ty, pos, after, guard⟩ := o
  unfold doOp3 at e
  split at e
  · rename_i f args ats hop
    simp only at hop
    subst hop
    split at e
    · rename_i b vs hf ha
      unfold yldCall at e
      split at e
      · rename_i ks fc hm hy
        split at e
        · rename_i as has
          obtain ⟨hk, e2⟩ := cond_some e
          rw [Bool.and_eq_true, mlen_eq] at hk
          obtain ⟨hmay, hk⟩ := hk
          rw [mget_eq] at hm
          rcases fcCall_some e2 with ⟨x, q, h1, h2, h3, h4⟩ | ⟨x, h1, h2, h3⟩ | h4
          · obtain ⟨l, hfe, hg⟩ := RV_yld (evalOp_RV h.tm hf)
            have hargs := evalAll_RV h.tm ha
            have hl : X.Y l := by
              cases h.rel.blk b _ _ hm hg with
              | loop hl => exact hl
            obtain ⟨X1, w1, C1, hyo, hG, hK1, hS1, hC1⟩ := hY ks fc hy l hl
            obtain ⟨fn, tmps, assign, body, hrun, hround⟩ := hyo X w0 C0 C g st.mem w as _ x q h.rel hG (hK1.trans (h.rel.below.mono hS1)) (Mem.le_trans hC1 h.rel.base) hk (RVL.ren ks hargs has) h1 h2
            have hex : (execOp a.eval ⟨dst, .call ⟨.value f, args, ats⟩, ty, pos, after, guard⟩).run E.P w = .ok (.round l fn tmps assign body) w := by
              have harr : args.map a.eval = (args.toList.map a.eval).toArray := by rw [← Array.toList_inj]; simp
              simp only [execOp, resolve, hfe, Deferred.ofValue, Sem.run_bind, Sem.run_pure, Result.andThen_ok, invoke]
              rw [← hrun, harr]
              simp
            refine ⟨fun _ _ => trivial, ?_⟩
            rw [Oper.semAt_eq _ _ _ (by intro c hc; cases hc), hex]
            refine ⟨fun hh => by simp [FW, Fence.wide] at hh, RoundIn.mono hround ?_⟩
            rintro e1 w' ⟨rfl, C', g', hrel⟩
            obtain ⟨i1, _⟩ := h.merge hk hrel h3
            exact hn _ _ _ ⟨C', _, i1.put (RV_boolv true) dst⟩ h4
          · rw [Bool.and_eq_true] at h2
            rw [h2.1] at hmay
            cases hmay
          · cases h4
        · cases e
      · cases e
    · exact two e
  · rename_i t x i hop
    simp only at hop
    subst hop
    split at e
    · rename_i fs' ix hf hi
      obtain ⟨z, v, hz, hk, hr⟩ := lstAt_run (evalOp_RV h.tm hf) (evalOp_RV h.tm hi) e
      refine opIn (by intro c hc; cases hc) (wp_value (z := z) (w' := w) ?_ (hn _ _ _ ⟨_, _, h.put hz dst⟩ hk))
      simp only [execOp, Sem.run_bind, hr, Result.andThen_ok, Sem.run_pure]
    · exact two e
  · rename_i t len parts hop
    simp only at hop
    subst hop
    split at e
    · rename_i f fs' hp
      obtain ⟨h1, e2⟩ := cond_some e
      simp only [Bool.and_eq_true] at h1
      obtain ⟨z, w', C', hr, hC, hsr, hz⟩ := lstBuild_run (E := E) (t := t) (len := len) h hp h1.1.1 (by rw [Nat.eq_of_beq_eq_true h1.1.2, mlen_eq]) (Nat.le_of_ble_eq_true h1.2)
      refine opIn (by intro c hc; cases hc) (wp_value (z := z) (w' := w') ?_ (hn _ _ _ ⟨_, _, hsr.put hz dst⟩ e2))
      simp only [execOp]
      rw [show (Array.map (fun x : Nat × Operand => match x with | (i, x) => (i, a.eval x)) parts) = parts.map fun (p : Nat × Operand) => (p.1, a.eval p.2) from rfl]
      simp only [Sem.run_bind, hr, Result.andThen_ok, Sem.run_pure]
    · exact two e
  · exact two e

theorem execOps_sound {E : Env} {ρ : Type} [Pan ρ] {call : CallT ρ} (hcall : CallOk E X call) (hY : YOk E X w0 C0) {ops : Array Oper} {r : ρ} {ro : Option Nat} {Q : Exit → Act → World → Prop} {K : St → Option ρ} (hP : PanOk X w0 C0 r Q)
    (hn : ∀ st' a' w', Good X w0 C0 fs st' a' w' → K st' = some r → Q .normal a' w') : ∀ (l : List Oper) (st : St) (a : Act) (w : World), Good X w0 C0 fs st a w → execOps E call ops.toList l st K = some r → wpListIn (FW ro) 0 E.P ops Q l a w
  | [], st, a, w, h, e => wpListIn_nil (hn st a w h (by simpa [execOps] using e))
  | o :: rest, st, a, w, ⟨C, g, h⟩, e => by
    refine wpListIn_step fun Kc hKc => ?_
    simp only [execOps] at e
    have ih := execOps_sound (ops := ops) (ro := ro) hcall hY hP hn rest
    cases hg : o.guard with
    | none =>
      simp only [hg] at e
      have hw : Region.wanted o (yielded ops a.tmps) = true := by simp [Region.wanted, hg]
      rw [if_pos hw]
      exact doOp3_sound hcall hY h e hP fun st' a' w' hG hk => hKc _ _ (ih st' a' w' hG hk)
    | some p =>
      obtain ⟨j, want⟩ := p
      simp only [hg] at e
      cases hs : guardSlot ops.toList j with
      | none => simp [hs] at e
      | some s =>
        simp only [hs] at e
        cases hm : mget st.tmps s with
        | none => simp [hm] at e
        | some v =>
          cases v with
          | bool b =>
            simp only [hm] at e
            have hw := wanted_of h hg hs hm
            cases hb : biff b want with
            | true =>
              rw [hb] at e hw
              simp only [cond_true] at e
              rw [if_pos hw]
              exact doOp3_sound hcall hY (h.refine hm (biff_true hb)) e hP fun st' a' w' hG hk => hKc _ _ (ih st' a' w' hG hk)
            | false =>
              rw [hb] at e hw
              simp only [cond_false] at e
              rw [if_neg (by simp [hw])]
              exact ⟨fun _ _ => trivial, hKc _ _ (ih _ _ _ (Good.put_undef ⟨C, g, h.refine hm (biff_false hb)⟩) e)⟩
          | tup l =>
            cases l with
            | nil =>
              simp only [hm] at e
              rw [if_neg (by simp [wanted_undef h hg hs hm])]
              exact ⟨fun _ _ => trivial, hKc _ _ (ih _ _ _ (Good.put_undef ⟨C, g, h⟩) e)⟩
            | cons _ _ => simp [hm] at e
          | _ => simp [hm] at e

end
end Am
end Go.Proofs.Ytkjpoongkdapoaa
