/-
  A symbolic machine over the model, part 5: pure operations are the model's.
-/
import Derived.Test.YtkjpoongkdapoaaBm4
import Derived.Stop.BytesEq
namespace Go.Proofs.Ytkjpoongkdapoaa
namespace Am
open Go Go.RowKit
set_option linter.unusedVariables false
set_option linter.unusedSimpArgs false

theorem ieq_iff {x y : Int} : ieq x y = true ↔ x = y := decide_eq_true_iff

theorem cond_some {α : Type} {b : Bool} {x : Option α} {r : α} (h : cond b x none = some r) : b = true ∧ x = some r := by
  cases b with
  | true => exact ⟨rfl, h⟩
  | false => cases h

section
variable {C : Mem} {g : Ghs}

theorem RV_boolv (b : Bool) : RV C g (.bool b) (.bool b) := .one (.bool b) (by simp) (by simp)
theorem RV_intv (k : IntKind) (n : Int) : RV C g (.int k n) (.int k n) := .one (.int k n) (by simp) (by simp)

theorem intOp_run {P : Program} {op : BinOp} {k : IntKind} {x y : Int} {t : TypeId} {ok : Bool} {v : AV} (hx : k = .u8 → 0 ≤ x ∧ x < 256) (hy : k = .u8 → 0 ≤ y ∧ y < 256)
    (h : intOp op k x y = some (ok, v)) (hok : ok = true) (hs : isShift op = false) : ∃ z, RV C g v z ∧ ∀ w : World, (binOp op t (.int k x) (.int k y)).run P w = .ok z w := by
  subst hok
  cases op <;> simp only [intOp, Option.some.injEq, Prod.mk.injEq, reduceCtorEq, isShift] at h hs
  case add => exact ⟨.int k (k.wrap (x + y)), by rw [← h.2]; exact mkInt_RV fun e => by subst e; exact wrap_u8 _, fun w => by simp [binOp, Op.intArith]⟩
  case sub => exact ⟨.int k (k.wrap (x - y)), by rw [← h.2]; exact mkInt_RV fun e => by subst e; exact wrap_u8 _, fun w => by simp [binOp, Op.intArith]⟩
  case mul => exact ⟨.int k (k.wrap (x * y)), by rw [← h.2]; exact mkInt_RV fun e => by subst e; exact wrap_u8 _, fun w => by simp [binOp, Op.intArith]⟩
  case quo =>
    have hy0 : y ≠ 0 := by have := h.1; simpa [ieq] using this
    exact ⟨.int k (k.wrap (x.tdiv y)), by rw [← h.2]; exact mkInt_RV fun e => by subst e; exact wrap_u8 _, fun w => by simp [binOp, Op.intDiv, hy0]⟩
  case rem =>
    have hy0 : y ≠ 0 := by have := h.1; simpa [ieq] using this
    have hr : k = .u8 → 0 ≤ x.tmod y ∧ x.tmod y < 256 := by
      intro e
      obtain ⟨h1, h2⟩ := hx e
      obtain ⟨h3, h4⟩ := hy e
      rw [Int.tmod_eq_emod_of_nonneg h1]
      exact ⟨Int.emod_nonneg _ hy0, by have := Int.emod_lt_of_pos x (show 0 < y by omega); omega⟩
    exact ⟨.int k (x.tmod y), by rw [← h.2]; exact mkInt_RV hr, fun w => by simp [binOp, Op.intDiv, hy0]⟩
  case and => exact ⟨.int k (bitsI .and k x y), by rw [← h.2]; exact mkInt_RV fun e => by subst e; exact wrap_u8 _, fun w => by simp [binOp, Op.intBits, bitsI]⟩
  case or => exact ⟨.int k (bitsI .or k x y), by rw [← h.2]; exact mkInt_RV fun e => by subst e; exact wrap_u8 _, fun w => by simp [binOp, Op.intBits, bitsI]⟩
  case xor => exact ⟨.int k (bitsI .xor k x y), by rw [← h.2]; exact mkInt_RV fun e => by subst e; exact wrap_u8 _, fun w => by simp [binOp, Op.intBits, bitsI]⟩
  case andNot => exact ⟨.int k (bitsI .andNot k x y), by rw [← h.2]; exact mkInt_RV fun e => by subst e; exact wrap_u8 _, fun w => by simp [binOp, Op.intBits, bitsI]⟩
  case eql => exact ⟨.bool (decide (x = y)), by rw [← h.2]; exact RV_boolv _, fun w => by simp [binOp, Op.intCmp]; rfl⟩
  case neq => exact ⟨.bool (!decide (x = y)), by rw [← h.2]; exact RV_boolv _, fun w => by simp [binOp, Op.intCmp, bne]; rfl⟩
  case lss => exact ⟨.bool (decide (x < y)), by rw [← h.2, ilt_eq]; exact RV_boolv _, fun w => by simp [binOp, Op.intCmp]⟩
  case leq => exact ⟨.bool (decide (x ≤ y)), by rw [← h.2, ile_eq]; exact RV_boolv _, fun w => by simp [binOp, Op.intCmp]⟩
  case gtr => exact ⟨.bool (decide (y < x)), by rw [← h.2, ilt_eq]; exact RV_boolv _, fun w => by simp [binOp, Op.intCmp]⟩
  case geq => exact ⟨.bool (decide (y ≤ x)), by rw [← h.2, ile_eq]; exact RV_boolv _, fun w => by simp [binOp, Op.intCmp]⟩

theorem eqGuard_int {P : Program} (op : BinOp) (t : TypeId) (X Y : Operand) (k k' : IntKind) (x y : Int) (w : World) : (eqGuard op t X Y (.int k x) (.int k' y)).run P w = .ok () w := by
  cases op <;> simp [eqGuard]
theorem eqGuard_string {P : Program} (op : BinOp) (t : TypeId) (X Y : Operand) (x y : ByteArray) (w : World) : (eqGuard op t X Y (.string x) (.string y)).run P w = .ok () w := by
  cases op <;> simp [eqGuard]
theorem eqGuard_bool {P : Program} (op : BinOp) (t : TypeId) (X Y : Operand) (x y : Bool) (w : World) : (eqGuard op t X Y (.bool x) (.bool y)).run P w = .ok () w := by
  cases op <;> simp [eqGuard]

/-- the value of a sort at a type -/
def VF (P : Program) (t : TypeId) (cs : List Value) (v : Value) : Prop := (clsT P t = 0 ∧ cs = [v]) ∨ (clsT P t ≠ 0 ∧ v = .agg cs.toArray)

theorem sTy_size {P : Program} : ∀ (n : Nat) (t : TypeId) (ty : Ty), sTy P n t = some ty → P.cellsOf t = ty.size := by
  intro n
  cases n with
  | zero => intro t ty h; simp [sTy] at h
  | succ n =>
    intro t ty h
    simp only [sTy] at h
    split at h
    · rename_i k _
      obtain ⟨h1, h2⟩ := cond_some h
      simp at h1 h2
      rw [h1, ← h2]; cases k <;> rfl
    · obtain ⟨h1, h2⟩ := cond_some h; simp at h1 h2; rw [h1, ← h2]; rfl
    · obtain ⟨h1, h2⟩ := cond_some h; simp at h1 h2; rw [h1, ← h2]; rfl
    · obtain ⟨h1, h2⟩ := cond_some h; simp at h1 h2; rw [h1.2, ← h2]; rfl
    · obtain ⟨h1, h2⟩ := cond_some h
      split at h2
      · obtain ⟨h3, h4⟩ := cond_some h2; simp at h3 h4; rw [h3, h4]
      · simp at h2
    · simp at h

theorem beq_bytes (a b : List UInt8) : ((⟨a.toArray⟩ : ByteArray).toList == (⟨b.toArray⟩ : ByteArray).toList) = decide (a = b) := by
  rw [ByteArray.toList_eq, ByteArray.toList_eq]
  rw [Bool.eq_iff_iff]; simp

theorem part_run {P : Program} {t : TypeId} {d : TypeDesc} (ht : P.underlying t = some d) {pre mid post : List Value} {off : Nat} (ho : off = pre.length) (hm : mid.length = P.cellsOf t) {v : Value} (hv : VF P t mid v) (w : World)
    (hi : (P.info? t).isSome = true) : (part t (pre ++ mid ++ post).toArray off).run P w = .ok v w := by
  obtain ⟨i, hi⟩ := Option.isSome_iff_exists.1 hi
  have hsz : i.size = P.cellsOf t := by simp [Program.cellsOf, hi]
  subst ho
  have hagg : (isAgg t).run P w = .ok (clsT P t != 0) w := by
    simp only [isAgg, Sem.run_bind, run_underlying ht, Result.andThen_ok, clsT, ht]
    cases d <;> rfl
  unfold part
  simp only [Sem.run_bind, hagg, Result.andThen_ok, Sem.run_ite]
  rcases hv with ⟨h1, h2⟩ | ⟨h1, h2⟩
  · subst h2
    simp [h1]
  · subst h2
    have : (clsT P t != 0) = true := by simpa using h1
    simp only [this, if_true, Sem.run_bind, sizeOf, typeInfo, run_program, Result.andThen_ok, hi, Sem.run_pure, hsz, ← hm]
    congr 2
    simp

theorem info_of_under {P : Program} {t : TypeId} {d : TypeDesc} (h : P.underlying t = some d) : (P.info? t).isSome = true := by
  unfold Program.underlying at h
  cases hi : P.info? t with
  | none => rw [hi] at h; simp at h
  | some i => rfl

theorem sTy_under {P : Program} {n : Nat} {t : TypeId} {ty : Ty} (h : sTy P n t = some ty) : ∃ d, P.underlying t = some d := by
  cases n with
  | zero => simp [sTy] at h
  | succ n =>
    cases hu : P.underlying t with
    | none => simp only [sTy, hu] at h; cases h
    | some d => exact ⟨d, rfl⟩

theorem eqFields_run {P : Program} {rec : TypeId → Option Ty} (hrec : ∀ (t : TypeId) (ty : Ty), rec t = some ty → P.cellsOf t = ty.size ∧ ∃ d, P.underlying t = some d)
    (D : Nat) (hD : ∀ (t : TypeId) (ty : Ty), rec t = some ty → ∀ (x y : ty.den) (cs ds : List Value) (u v : Value), TC C ty x cs → TC C ty y ds → VF P t cs u → VF P t ds v → ∀ w : World, (Op.equalIn D t u v).run P w = .ok (ty.beq x y) w)
    (hVF : ∀ (t : TypeId) (ty : Ty), rec t = some ty → ∀ (x : ty.den) (cs : List Value), TC C ty x cs → ∃ u, VF P t cs u) :
    ∀ (fs : List Field) (off : Nat) (ty : Ty), sFields rec off fs = some ty → ∀ (x y : ty.den) (p q cs ds : List Value), TC C ty x cs → TC C ty y ds → p.length = off → q.length = off →
      ∀ w : World, (Op.eqFields D (p ++ cs).toArray (q ++ ds).toArray fs).run P w = .ok (ty.beq x y) w := by
  intro fs
  induction fs with
  | nil =>
    intro off ty h x y p q cs ds _ _ _ _ w
    simp only [sFields, Option.some.injEq] at h
    subst h
    simp [Op.eqFields, Ty.beq]
  | cons f fs ih =>
    intro off ty h x y p q cs ds hx hy hp hq w
    simp only [sFields] at h
    obtain ⟨h1, h2⟩ := cond_some h
    simp only [Bool.and_eq_true, beq_iff_eq, bne_iff_ne, ne_eq] at h1
    split at h2
    · rename_i a ha
      split at h2
      · rename_i b hb
        simp only [Option.some.injEq] at h2
        subst h2
        obtain ⟨c1, c2, rfl, hx1, hx2⟩ := hx
        obtain ⟨d1, d2, rfl, hy1, hy2⟩ := hy
        obtain ⟨hsz, ⟨d, hu⟩⟩ := hrec _ _ ha
        obtain ⟨u, hu1⟩ := hVF _ _ ha _ _ hx1
        obtain ⟨v, hv1⟩ := hVF _ _ ha _ _ hy1
        have l1 := TC_size _ _ _ hx1
        have l2 := TC_size _ _ _ hy1
        have e1 := part_run (off := f.offset) (pre := p) (mid := c1) (post := c2) hu (by rw [h1.1]; exact hp.symm) (by omega) hu1 w (info_of_under hu)
        have e2 := part_run (off := f.offset) (pre := q) (mid := d1) (post := d2) hu (by rw [h1.1]; exact hq.symm) (by omega) hv1 w (info_of_under hu)
        have e3 := hD _ _ ha _ _ _ _ u v hx1 hy1 hu1 hv1 w
        simp only [Op.eqFields, h1.2, not_false_eq_true, if_true, ne_eq]
        simp only [← List.append_assoc] 
        simp only [Sem.run_bind, e1, e2, e3, Result.andThen_ok, Sem.run_ite, Sem.run_pure]
        have := ih (off + a.size) b hb x.2 y.2 (p ++ c1) (q ++ d1) c2 d2 hx2 hy2 (by simp [hp, l1]) (by simp [hq, l2]) w
        cases hbq : a.beq x.1 y.1
        · simp only [Bool.not_false, if_true, Ty.beq, hbq, Bool.false_and]
        · simp only [Bool.not_true, Bool.false_eq_true, if_false, Ty.beq, hbq, Bool.true_and]
          exact this
      · simp at h2
    · simp at h2

theorem sTy_VF {P : Program} {n : Nat} {t : TypeId} {ty : Ty} (h : sTy P n t = some ty) {x : ty.den} {cs : List Value} (hx : TC C ty x cs) : ∃ u, VF P t cs u := by
  by_cases hc : clsT P t = 0
  · have hs := TC_size _ _ _ hx
    have : cs.length = 1 := by
      rw [hs]
      cases n with
      | zero => simp [sTy] at h
      | succ n =>
        simp only [sTy] at h
        split at h
        · obtain ⟨h1, h2⟩ := cond_some h; simp at h1 h2; rw [← h2]; rename_i k _; cases k <;> rfl
        · obtain ⟨h1, h2⟩ := cond_some h; simp at h1 h2; rw [← h2]; rfl
        · obtain ⟨h1, h2⟩ := cond_some h; simp at h1 h2; rw [← h2]; rfl
        · rename_i hu; simp [clsT, hu] at hc
        · rename_i hu; simp [clsT, hu] at hc
        · simp at h
    match cs, this with
    | [v], _ => exact ⟨v, .inl ⟨hc, rfl⟩⟩
  · exact ⟨_, .inr ⟨hc, rfl⟩⟩

theorem VF0 {P : Program} {t : TypeId} {cs : List Value} {v : Value} (h : VF P t cs v) (hc : clsT P t = 0) : cs = [v] := by
  rcases h with ⟨_, h⟩ | ⟨h, _⟩
  · exact h
  · exact absurd hc h
theorem VF1 {P : Program} {t : TypeId} {cs : List Value} {v : Value} (h : VF P t cs v) (hc : clsT P t ≠ 0) : v = .agg cs.toArray := by
  rcases h with ⟨h, _⟩ | ⟨_, h⟩
  · exact absurd h hc
  · exact h

theorem isU8_under {P : Program} {t : TypeId} (h : isU8 P t = true) : P.underlying t = some (.int .u8) := by
  unfold isU8 at h
  split at h
  · assumption
  · cases h

theorem run_sizeOf' {P : Program} {t : TypeId} {d : TypeDesc} (hu : P.underlying t = some d) (w : World) : (sizeOf t).run P w = .ok (P.cellsOf t) w := by
  obtain ⟨i, hi⟩ := Option.isSome_iff_exists.1 (info_of_under hu)
  simp [sizeOf, typeInfo, hi, Program.cellsOf]

theorem equalIn_run {P : Program} : ∀ (n : Nat) (t : TypeId) (ty : Ty), sTy P n t = some ty → ∀ (d : Nat), n + 2 ≤ d → ∀ (x y : ty.den) (cs ds : List Value) (u v : Value), TC C ty x cs → TC C ty y ds → VF P t cs u → VF P t ds v →
    ∀ w : World, (Op.equalIn d t u v).run P w = .ok (ty.beq x y) w := by
  intro n
  induction n with
  | zero => intro t ty h; simp [sTy] at h
  | succ n ih =>
    intro t ty h d hd x y cs ds u v hx hy hu hv w
    obtain ⟨d, rfl⟩ : ∃ e, d = e + 2 := ⟨d - 2, by omega⟩
    have h0 := h
    simp only [sTy] at h
    split at h
    · rename_i k hk
      obtain ⟨h1, h2⟩ := cond_some h
      have hc : clsT P t = 0 := by simp [clsT, hk]
      have e1 := VF0 hu hc
      have e2 := VF0 hv hc
      simp only [Option.some.injEq] at h2
      by_cases h8 : k = .u8
      · subst h8
        have h2 : Ty.u8 = ty := h2
        subst h2
        simp only [TC] at hx hy
        rw [hx] at e1; rw [hy] at e2
        simp only [List.cons.injEq, and_true] at e1 e2
        subst e1; subst e2
        rw [u8v, u8v, run_equalIn_int w (d + 1) t .u8 .u8 _ _ hk]
        congr 1
        rw [Bool.eq_iff_iff]
        simp only [beq_iff_eq, Ty.beq, u8eq, decide_eq_true_eq]
        constructor
        · intro e; exact UInt8.toNat_inj.1 (by exact_mod_cast e)
        · intro e; rw [e]
      · have : intTy k = .int k := by cases k <;> first | rfl | exact absurd rfl h8
        rw [this] at h2
        subst h2
        simp only [TC] at hx hy
        rw [hx] at e1; rw [hy] at e2
        simp only [List.cons.injEq, and_true] at e1 e2
        subst e1; subst e2
        rw [run_equalIn_int w (d + 1) t k k _ _ hk]
        congr 1
    · rename_i hk
      obtain ⟨h1, h2⟩ := cond_some h
      have hc : clsT P t = 0 := by simp [clsT, hk]
      have e1 := VF0 hu hc
      have e2 := VF0 hv hc
      simp only [Option.some.injEq] at h2
      subst h2
      simp only [TC] at hx hy
      rw [hx] at e1; rw [hy] at e2
      simp only [List.cons.injEq, and_true] at e1 e2
      subst e1; subst e2
      rw [run_equalIn_bool' w (d + 1) t _ _ hk]
      congr 1
    · rename_i hk
      obtain ⟨h1, h2⟩ := cond_some h
      have hc : clsT P t = 0 := by simp [clsT, hk]
      have e1 := VF0 hu hc
      have e2 := VF0 hv hc
      simp only [Option.some.injEq] at h2
      subst h2
      simp only [TC] at hx hy
      rw [hx.1] at e1; rw [hy.1] at e2
      simp only [List.cons.injEq, and_true] at e1 e2
      subst e1; subst e2
      rw [run_equalIn_string w (d + 1) t _ _ hk]
      congr 1
      exact beq_bytes _ _
    · rename_i len e hk
      obtain ⟨h1, h2⟩ := cond_some h
      simp only [Bool.and_eq_true, beq_iff_eq] at h1
      have hc : clsT P t ≠ 0 := by simp [clsT, hk]
      have e1 := VF1 hu hc
      have e2 := VF1 hv hc
      simp only [Option.some.injEq] at h2
      subst h2
      simp only [TC] at hx hy
      subst hx; subst hy; subst e1; subst e2
      have he := isU8_under h1.1.1.2
      have := run_equalIn_bytes (P := P) w d t e len hk he (fun w => by rw [run_sizeOf' he w, h1.1.2]) x.l y.l (by rw [x.h, h1.1.1.1]) (by rw [y.h, h1.1.1.1])
      refine (show _ = _ from this).trans ?_
      congr 1
      rw [Bool.eq_iff_iff]
      simp only [beq_iff_eq, Ty.beq, ideq, decide_eq_true_eq]
      exact ⟨fun e => Id.ext' e, fun e => by rw [e]⟩
    · rename_i fs hk
      obtain ⟨h1, h2⟩ := cond_some h
      have hc : clsT P t ≠ 0 := by simp [clsT, hk]
      have e1 := VF1 hu hc
      have e2 := VF1 hv hc
      have hst : P.stoodInHeld t = false := by simpa using h1
      split at h2
      · rename_i ty' hf
        obtain ⟨h3, h4⟩ := cond_some h2
        simp only [Option.some.injEq] at h4
        subst h4
        subst e1; subst e2
        have hfs : P.fieldsOf t = fs := by simp [Program.fieldsOf, hk]
        rw [run_equalIn_struct w (d + 1) t _ _ (by rw [hfs]; exact hk) hst, hfs]
        have := eqFields_run (P := P) (C := C) (rec := sTy P n) (fun t ty h => ⟨sTy_size n t ty h, sTy_under h⟩) (d + 1)
          (fun t ty h x y cs ds u v hx hy hu hv w => ih t ty h (d + 1) (by omega) x y cs ds u v hx hy hu hv w) (fun t ty h x cs hx => sTy_VF h hx) fs.toList 0 ty' hf x y [] [] cs ds hx hy rfl rfl w
        simpa using this
      · simp at h2
    · simp at h

theorem sFields_mem {rec : TypeId → Option Ty} : ∀ (fs : List Field) (off : Nat) (ty : Ty), sFields rec off fs = some ty → ∀ f ∈ fs, ∃ a, rec f.type = some a := by
  intro fs
  induction fs with
  | nil => intro off ty _ f hf; simp at hf
  | cons f fs ih =>
    intro off ty h f' hf'
    simp only [sFields] at h
    obtain ⟨_, h2⟩ := cond_some h
    split at h2
    · rename_i a ha
      split at h2
      · rename_i b hb
        rcases List.mem_cons.1 hf' with rfl | hm
        · exact ⟨a, ha⟩
        · exact ih _ _ hb f' hm
      · simp at h2
    · simp at h2

theorem eqGuardType_false {P : Program} : ∀ (n : Nat) (t : TypeId) (ty : Ty), sTy P n t = some ty → ∀ (d : Nat), n + 1 ≤ d → P.eqGuardType d t = false := by
  intro n
  induction n with
  | zero => intro t ty h; simp [sTy] at h
  | succ n ih =>
    intro t ty h d hd
    obtain ⟨d, rfl⟩ : ∃ e, d = e + 2 := ⟨d - 2, by omega⟩
    simp only [sTy] at h
    unfold Program.eqGuardType
    split at h
    · rename_i hk; simp [hk]
    · rename_i hk; simp [hk]
    · rename_i hk; simp [hk]
    · rename_i len e hk
      obtain ⟨h1, h2⟩ := cond_some h
      simp only [Bool.and_eq_true, beq_iff_eq] at h1
      have he := isU8_under h1.1.1.2
      simp only [hk]
      unfold Program.eqGuardType
      simp [he]
    · rename_i fs hk
      obtain ⟨h1, h2⟩ := cond_some h
      split at h2
      · rename_i ty' hf
        simp only [hk]
        rw [← Array.any_toList, List.any_eq_false]
        intro f hfm
        obtain ⟨a, ha⟩ := sFields_mem _ _ _ hf f hfm
        rw [ih f.type a ha (d + 1) (by omega)]
        simp
      · simp at h2
    · simp at h

theorem depth_ge (P : Program) : 13 ≤ P.depth := by unfold Program.depth Made.depth; omega

theorem dec_intTy (k : IntKind) (ps : List AV) : dec (intTy k) (.agg ps) = none := by cases k <;> rfl

theorem eqOp_run {E : Env} {t : TypeId} {a b : AV} {r : Bool} {x y : Value} (h : eqOp E t a b = some r) (hx : RV C g a x) (hy : RV C g b y) (ha : a.cls = 1 ∨ a.cls = 2) (hb : b.cls = 1 ∨ b.cls = 2) (X Y : Operand) (w : World) :
    ((eqGuard .eql t X Y x y).run E.P w = .ok () w ∧ (binOp .eql t x y).run E.P w = .ok (.bool r) w) ∧ ((eqGuard .neq t X Y x y).run E.P w = .ok () w ∧ (binOp .neq t x y).run E.P w = .ok (.bool (!r)) w) := by
  unfold eqOp at h
  split at h
  · rename_i ty hty
    split at h
    · rename_i u v hu hv
      simp only [Option.some.injEq] at h
      have key : ∀ {a : AV} {x : Value}, RV C g a x → (a.cls = 1 ∨ a.cls = 2) → ∃ cs, x = .agg cs.toArray ∧ RC C g a cs := by
        intro a x hx ha
        cases a <;> simp [AV.cls] at ha
        · exact ⟨_, RV_id hx, .id _⟩
        · exact RV_agg hx
      obtain ⟨cs, rfl, h1⟩ := key hx ha
      obtain ⟨ds, rfl, h2⟩ := key hy hb
      have t1 := TC_dec' h1 hu
      have t2 := TC_dec' h2 hv
      have hcls : clsT E.P t ≠ 0 := by
        intro hc
        obtain ⟨u', hu'⟩ := sTy_VF hty t1
        have hs := VF0 hu' hc
        have h1' := h1
        rw [hs] at h1'
        rcases ha with ha | ha
        · cases a <;> simp [AV.cls] at ha
          have := RC_size h1'
          simp [AV.size] at this
        · cases a <;> simp [AV.cls] at ha
          rename_i ps
          have htt := hty
          simp only [sTy] at htt
          split at htt
          · obtain ⟨_, e⟩ := cond_some htt; simp at e; subst e; rw [dec_intTy] at hu; cases hu
          · obtain ⟨_, e⟩ := cond_some htt; simp at e; subst e; exact absurd hu (by simp [dec, dec2])
          · obtain ⟨_, e⟩ := cond_some htt; simp at e; subst e; exact absurd hu (by simp [dec, dec2])
          · rename_i hk; simp [clsT, hk] at hc
          · rename_i hk; simp [clsT, hk] at hc
          · simp at htt
      have he := equalIn_run (P := E.P) (C := C) 12 t ty hty 10000 (by omega) u v cs ds _ _ t1 t2 (.inr ⟨hcls, rfl⟩) (.inr ⟨hcls, rfl⟩) w
      have hg := eqGuardType_false 12 t ty hty E.P.depth (depth_ge _)
      refine ⟨⟨run_eqGuard_agg w .eql t X Y _ _ hg, ?_⟩, ⟨run_eqGuard_agg w .neq t X Y _ _ hg, ?_⟩⟩
      · rw [run_eql_struct, he, ← h]; rfl
      · rw [run_neq_struct, he, ← h]; rfl
    · simp at h
  · simp at h

theorem RV_bool' {b : Bool} {v : AV} {z : Value} (hv : v = .bool b) (hz : z = .bool b) : RV C g v z := by subst hv; subst hz; exact RV_boolv b

theorem eqNe_spec {op : BinOp} {r ok : Bool} {v : AV} (h : eqNe op r = some (ok, v)) : (op = .eql ∧ v = .bool r) ∨ (op = .neq ∧ v = .bool (!r)) := by
  cases op <;> simp [eqNe] at h
  · exact .inl ⟨rfl, h.2.symm⟩
  · exact .inr ⟨rfl, h.2.symm⟩

theorem shift_run {P : Program} {op : BinOp} {k k' : IntKind} {x y : Int} {t : TypeId} {ok : Bool} {v : AV} (hx : k = .u8 → 0 ≤ x ∧ x < 256) (h : shiftOp op k x y = some (ok, v)) (hok : ok = true) :
    ∃ z, RV C g v z ∧ ∀ w : World, (binOp op t (.int k x) (.int k' y)).run P w = .ok z w := by
  subst hok
  cases op <;> simp only [shiftOp, Option.some.injEq, Prod.mk.injEq, reduceCtorEq] at h
  case shl =>
    have hy : ¬ y < 0 := by have := h.1; rw [ile_iff] at this; omega
    exact ⟨.int k (k.wrap (x * 2 ^ (min y.toNat k.bits))), by rw [← h.2]; exact mkInt_RV fun e => by subst e; exact wrap_u8 _, fun w => by simp [binOp, Op.shift, hy]⟩
  case shr =>
    have hy : ¬ y < 0 := by have := h.1; rw [ile_iff] at this; omega
    have hr : k = .u8 → 0 ≤ x.fdiv (2 ^ (min y.toNat k.bits)) ∧ x.fdiv (2 ^ (min y.toNat k.bits)) < 256 := by
      intro e
      obtain ⟨h1, h2⟩ := hx e
      have hp : (0 : Int) < 2 ^ (min y.toNat k.bits) := Int.pow_pos (by omega)
      rw [Int.fdiv_eq_ediv_of_nonneg _ (by omega)]
      exact ⟨Int.ediv_nonneg h1 (by omega), by have := Int.ediv_le_self (2 ^ (min y.toNat k.bits)) h1; omega⟩
    exact ⟨.int k (x.fdiv (2 ^ (min y.toNat k.bits))), by rw [← h.2]; exact mkInt_RV hr, fun w => by simp [binOp, Op.shift, hy]⟩

theorem binAV_run {E : Env} {op : BinOp} {t : TypeId} {a b v : AV} {x y : Value} {ok : Bool} (ha : RV C g a x) (hb : RV C g b y) (h : binAV E op t a b = some (ok, v)) (hok : ok = true) (X Y : Operand) :
    ∃ z, RV C g v z ∧ ∀ w : World, (do eqGuard op t X Y x y; binOp op t x y : Sem Value).run E.P w = .ok z w := by
  unfold binAV at h
  cases hs : isShift op with
  | true =>
    rw [hs] at h
    simp only [cond_true, shiftAV] at h
    split at h
    · rename_i k p k' q e1 e2
      obtain ⟨rfl, h1⟩ := RV_int ha e1
      obtain ⟨rfl, _⟩ := RV_int hb e2
      obtain ⟨z, hz, hr⟩ := shift_run (C := C) (g := g) (P := E.P) (k' := k') (t := t) h1 h hok
      exact ⟨z, hz, fun w => by simp only [Sem.run_bind, eqGuard_int, Result.andThen_ok, hr]⟩
    · simp at h
  | false =>
    rw [hs] at h
    simp only [cond_false] at h
    unfold plainAV at h
    split at h
    · rename_i p q
      have e1 := RV_u8 ha
      have e2 := RV_u8 hb
      subst e1; subst e2
      have hp := UInt8.toNat_lt p
      have hq := UInt8.toNat_lt q
      cases hq1 : isEq op with
      | true =>
        rw [hq1] at h
        simp only [cond_true] at h
        have hpq : ((p.toNat : Int) == (q.toNat : Int)) = u8eq p q := by
          rw [Bool.eq_iff_iff]
          simp only [beq_iff_eq, u8eq, decide_eq_true_eq]
          exact ⟨fun e => UInt8.toNat_inj.1 (by exact_mod_cast e), fun e => by rw [e]⟩
        rcases eqNe_spec h with ⟨rfl, rfl⟩ | ⟨rfl, rfl⟩
        · exact ⟨_, RV_boolv _, fun w => by simp only [u8v, Sem.run_bind, eqGuard_int, Result.andThen_ok]; simp [binOp, Op.intCmp, hpq]⟩
        · exact ⟨_, RV_boolv _, fun w => by simp only [u8v, Sem.run_bind, eqGuard_int, Result.andThen_ok]; simp [binOp, Op.intCmp, bne, hpq]⟩
      | false =>
        rw [hq1] at h
        simp only [cond_false] at h
        obtain ⟨z, hz, hr⟩ := intOp_run (C := C) (g := g) (P := E.P) (t := t) (fun _ => ⟨by simp [u8i], by simp only [u8i]; omega⟩) (fun _ => ⟨by simp [u8i], by simp only [u8i]; omega⟩) h hok hs
        exact ⟨z, hz, fun w => by simp only [u8v, Sem.run_bind, eqGuard_int, Result.andThen_ok]; exact hr w⟩
    · rename_i k p k' q
      obtain ⟨h1, h2⟩ := cond_some h
      simp only [Bool.and_eq_true] at h1
      have hk := IntKind.same_eq h1.1
      subst hk
      have e1 := RV_int1 ha
      have e2 := RV_int1 hb
      subst e1; subst e2
      have hn : k ≠ .u8 := by rintro rfl; simp [notU8] at h1
      obtain ⟨z, hz, hr⟩ := intOp_run (C := C) (g := g) (P := E.P) (t := t) (fun e => absurd e hn) (fun e => absurd e hn) h2 hok hs
      exact ⟨z, hz, fun w => by simp only [Sem.run_bind, eqGuard_int, Result.andThen_ok]; exact hr w⟩
    · rename_i p q
      have e1 := RV_str ha
      have e2 := RV_str hb
      subst e1; subst e2
      split at h
      · simp only [Option.some.injEq, Prod.mk.injEq] at h
        obtain ⟨h1, rfl⟩ := h
        subst hok
        have hlt : ¬ (((p.length : Int) + (q.length : Int)) > IntKind.i64.max) := by
          have h1 : (p.length : Int) + q.length ≤ 4611686018427387903 := ile_iff.mp h1
          simp [IntKind.max, IntKind.signed, IntKind.bits]
          omega
        refine ⟨.string ⟨(p ++ q).toArray⟩, .one (.str _ (by have h2 : (p.length : Int) + q.length ≤ 4611686018427387903 := ile_iff.mp h1; simp only [sapp, List.length_append, lim]; omega)) (by simp) (by simp), fun w => ?_⟩
        simp only [Sem.run_bind, eqGuard_string, Result.andThen_ok]
        have hz : (((⟨p.toArray⟩ : ByteArray).size + (⟨q.toArray⟩ : ByteArray).size : Nat) : Int) = (p.length : Int) + q.length := by simp [ByteArray.size]
        have ha : (⟨p.toArray⟩ : ByteArray) ++ ⟨q.toArray⟩ = ⟨(p ++ q).toArray⟩ := by
          apply ByteArray.ext
          simp
        simp only [binOp, Op.stringOp, hz, if_neg hlt, ha, Sem.run_pure]
      · rcases eqNe_spec h with ⟨rfl, rfl⟩ | ⟨rfl, rfl⟩
        · exact ⟨_, RV_boolv _, fun w => by simp only [Sem.run_bind, eqGuard_string, Result.andThen_ok]; simp only [binOp, Op.stringOp, beq_bytes]; rfl⟩
        · exact ⟨_, RV_boolv _, fun w => by simp only [Sem.run_bind, eqGuard_string, Result.andThen_ok]; simp only [binOp, Op.stringOp, beq_bytes]; rfl⟩
    · rename_i p q
      have e1 := RV_bool ha
      have e2 := RV_bool hb
      subst e1; subst e2
      obtain ⟨h1, h2⟩ := cond_some h
      have hu : E.P.underlying t = some .bool := by
        unfold isBoolT at h1
        split at h1
        · assumption
        · cases h1
      rcases eqNe_spec h2 with ⟨rfl, rfl⟩ | ⟨rfl, rfl⟩
      · refine ⟨_, RV_boolv _, fun w => ?_⟩
        simp only [Sem.run_bind, eqGuard_bool, Result.andThen_ok, run_eql_bool w t p q hu]
        congr 2
      · refine ⟨_, RV_boolv _, fun w => ?_⟩
        simp only [Sem.run_bind, eqGuard_bool, Result.andThen_ok, run_neq_bool w t p q hu]
        congr 2
    · split at h
      · rename_i r hr
        rcases eqNe_spec h with ⟨rfl, rfl⟩ | ⟨rfl, rfl⟩
        · exact ⟨_, RV_boolv _, fun w => by have := (eqOp_run hr ha hb (.inl rfl) (.inl rfl) X Y w).1; simp only [Sem.run_bind, this.1, this.2, Result.andThen_ok]⟩
        · exact ⟨_, RV_boolv _, fun w => by have := (eqOp_run hr ha hb (.inl rfl) (.inl rfl) X Y w).2; simp only [Sem.run_bind, this.1, this.2, Result.andThen_ok]⟩
      · simp at h
    · split at h
      · rename_i r hr
        rcases eqNe_spec h with ⟨rfl, rfl⟩ | ⟨rfl, rfl⟩
        · exact ⟨_, RV_boolv _, fun w => by have := (eqOp_run hr ha hb (.inr rfl) (.inr rfl) X Y w).1; simp only [Sem.run_bind, this.1, this.2, Result.andThen_ok]⟩
        · exact ⟨_, RV_boolv _, fun w => by have := (eqOp_run hr ha hb (.inr rfl) (.inr rfl) X Y w).2; simp only [Sem.run_bind, this.1, this.2, Result.andThen_ok]⟩
      · simp at h
    · simp at h

end
end Am
end Go.Proofs.Ytkjpoongkdapoaa
