/-
  A symbolic machine over the model, part 24: contracts that are printed.
-/
import Derived.Test.YtkjpoongkdapoaaBm23
namespace Go.Proofs.Ytkjpoongkdapoaa
namespace Am
open Go Go.RowKit
set_option linter.unusedVariables false
set_option linter.unusedSimpArgs false

/-- a value that does not unfold by itself -/
noncomputable def shut {α : Type} (a : α) : α := Classical.choose (⟨a, rfl⟩ : ∃ x, x = a)
theorem shut_eq {α : Type} (a : α) : shut a = a := Classical.choose_spec (⟨a, rfl⟩ : ∃ x, x = a)

instance : Inhabited Id := ⟨Id.zero⟩
def isS {R : Type} (o : Option R) : Bool := o.isSome
def getS {R : Type} [Inhabited R] (o : Option R) : R := o.getD default
def isL {A B : Type} : Option (A ⊕ B) → Bool
  | some (.inl _) => true
  | _ => false
def getL {A B : Type} [Inhabited A] : Option (A ⊕ B) → A
  | some (.inl a) => a
  | _ => default
def getR {A B : Type} : Option (A ⊕ B) → Option B
  | some (.inr b) => some b
  | _ => none
def trS {R : Type} [Inhabited R] (o : Option R) : Tr R := .br (isS o) (.ret (getS o)) .no
def trO0 (_ : Option Empty) : Tr Empty := .no
def trO1 {A B : Type} [Inhabited A] (k : Option B → Tr B) (o : Option (A ⊕ B)) : Tr (A ⊕ B) := .br (isL o) (.ret (.inl (getL o))) ((k (getR o)).map .inr)

@[simp] theorem isS_some {R : Type} (r : R) : isS (some r) = true := rfl
@[simp] theorem isS_none {R : Type} : isS (none : Option R) = false := rfl
@[simp] theorem getS_some {R : Type} [Inhabited R] (r : R) : getS (some r) = r := rfl
@[simp] theorem isL_inl {A B : Type} (a : A) : isL (some (.inl a : A ⊕ B)) = true := rfl
@[simp] theorem isL_inr {A B : Type} (b : B) : isL (some (.inr b : A ⊕ B)) = false := rfl
@[simp] theorem isL_none {A B : Type} : isL (none : Option (A ⊕ B)) = false := rfl
@[simp] theorem getL_inl {A B : Type} [Inhabited A] (a : A) : getL (some (.inl a : A ⊕ B)) = a := rfl
@[simp] theorem getR_inr {A B : Type} (b : B) : getR (some (.inr b : A ⊕ B)) = some b := rfl
@[simp] theorem getR_inl {A B : Type} (a : A) : getR (some (.inl a : A ⊕ B)) = none := rfl
@[simp] theorem getR_none {A B : Type} : getR (none : Option (A ⊕ B)) = none := rfl

/-- a result is had, and then this is done -/
def bS {R : Type} [Inhabited R] {ρ : Type} (o : Option R) (k : R → Option ρ) : Option ρ := cond (isS o) (k (getS o)) none
def bL {A B : Type} [Inhabited A] {ρ : Type} (o : Option (A ⊕ B)) (k : A → Option ρ) (j : Option B → Option ρ) : Option ρ := cond (isL o) (k (getL o)) (j (getR o))
@[simp] theorem bS_some {R : Type} [Inhabited R] {ρ : Type} (r : R) (k : R → Option ρ) : bS (some r) k = k r := rfl
@[simp] theorem bS_none {R : Type} [Inhabited R] {ρ : Type} (k : R → Option ρ) : bS none k = none := rfl
@[simp] theorem bL_inl {A B : Type} [Inhabited A] {ρ : Type} (a : A) (k : A → Option ρ) (j : Option B → Option ρ) : bL (some (.inl a)) k j = k a := rfl
@[simp] theorem bL_inr {A B : Type} [Inhabited A] {ρ : Type} (b : B) (k : A → Option ρ) (j : Option B → Option ρ) : bL (some (.inr b)) k j = j (some b) := rfl
@[simp] theorem bL_none {A B : Type} [Inhabited A] {ρ : Type} (k : A → Option ρ) (j : Option B → Option ρ) : bL none k j = j none := rfl

theorem trS_get {R : Type} [Inhabited R] (o : Option R) : (trS o).get = o := by cases o <;> rfl
theorem trO0_get (o : Option Empty) : (trO0 o).get = o := by
  cases o with
  | none => rfl
  | some x => cases x
theorem Tr.get_map' {β γ : Type} (f : β → γ) (t : Tr β) : (t.map f).get = t.get.map f := by
  unfold Tr.get
  induction t with
  | ret b => rfl
  | br c x y hx hy => cases c <;> simp [Tr.map, Tr.elim, hx, hy]
  | no => rfl
theorem trO1_get {A B : Type} [Inhabited A] {k : Option B → Tr B} (hk : ∀ o, (k o).get = o) (o : Option (A ⊕ B)) : (trO1 k o).get = o := by
  have h := Tr.get_map' (Sum.inr (α := A)) (k (getR o))
  unfold Tr.get at h
  unfold trO1 Tr.get
  match o with
  | none => simp only [isL_none, Tr.elim, cond_false, h]; rw [show (k (getR none)).elim some = (k (getR none)).get from rfl, hk]; rfl
  | some (.inl a) => simp [Tr.elim]
  | some (.inr b) => simp only [isL_inr, Tr.elim, cond_false, h]; rw [show (k (getR (some (.inr b)))).elim some = (k (getR (some (.inr b)))).get from rfl, hk]; rfl

/-- what rounds come to in the end -/
noncomputable def whl {σ β : Type} (g : σ → Option (σ ⊕ β)) (x : σ) : Option β :=
  open Classical in if h : ∃ n b, iter g n x = some b then some (Classical.choose (Classical.choose_spec h)) else none

theorem iter_mono {σ β : Type} {g : σ → Option (σ ⊕ β)} {b : β} : ∀ {n m : Nat} {x : σ}, iter g n x = some b → n ≤ m → iter g m x = some b
  | 0, _, _, h, _ => by cases h
  | n + 1, 0, _, _, hm => by omega
  | n + 1, m + 1, x, h, hm => by
    simp only [iter] at h ⊢
    split at h
    · rename_i y hy
      exact iter_mono h (by omega)
    · exact h
    · cases h
theorem iter_det {σ β : Type} {g : σ → Option (σ ⊕ β)} {b c : β} {n m : Nat} {x : σ} (h : iter g n x = some b) (k : iter g m x = some c) : b = c := by
  have h' := iter_mono h (Nat.le_max_left n m)
  have k' := iter_mono k (Nat.le_max_right n m)
  rw [h'] at k'
  exact Option.some.inj k'
theorem whl_ex {σ β : Type} {g : σ → Option (σ ⊕ β)} {x : σ} {b : β} (h : whl g x = some b) : ∃ n, iter g n x = some b := by
  unfold whl at h
  split at h
  · rename_i hx
    rw [Option.some.injEq] at h
    exact ⟨_, h ▸ Classical.choose_spec (Classical.choose_spec hx)⟩
  · cases h
theorem whl_of {σ β : Type} {g : σ → Option (σ ⊕ β)} {x : σ} {b : β} {n : Nat} (h : iter g n x = some b) : whl g x = some b := by
  have hx : ∃ n b, iter g n x = some b := ⟨n, b, h⟩
  unfold whl
  rw [dif_pos hx]
  rw [iter_det (Classical.choose_spec (Classical.choose_spec hx)) h]
theorem whl_unfold {σ β : Type} (g : σ → Option (σ ⊕ β)) (x : σ) : whl g x = (match g x with | some (.inl y) => whl g y | some (.inr b) => some b | none => none) := by
  split
  · rename_i y hy
    cases h : whl g y with
    | some b => obtain ⟨n, hn⟩ := whl_ex h; exact whl_of (n := n + 1) (by simp only [iter, hy, hn])
    | none =>
      cases h' : whl g x with
      | none => rfl
      | some b =>
        obtain ⟨n, hn⟩ := whl_ex h'
        cases n with
        | zero => cases hn
        | succ n => simp only [iter, hy] at hn; rw [whl_of hn] at h; cases h
  · rename_i b hb
    exact whl_of (n := 1) (by simp only [iter, hb])
  · rename_i hn
    cases h' : whl g x with
    | none => rfl
    | some b =>
      obtain ⟨n, hn'⟩ := whl_ex h'
      cases n with
      | zero => cases hn'
      | succ n => simp only [iter, hn] at hn'; cases hn'
theorem whl_inl {σ β : Type} {g : σ → Option (σ ⊕ β)} {x y : σ} (h : g x = some (.inl y)) : whl g x = whl g y := by rw [whl_unfold, h]
theorem whl_inr {σ β : Type} {g : σ → Option (σ ⊕ β)} {x : σ} {b : β} (h : g x = some (.inr b)) : whl g x = some b := by rw [whl_unfold, h]

theorem iter_congr {σ β : Type} {f g : σ → Option (σ ⊕ β)} (h : ∀ x, f x = g x) : ∀ (n : Nat) (x : σ), iter f n x = iter g n x
  | 0, _ => rfl
  | n + 1, x => by
    simp only [iter, h x]
    split
    · exact iter_congr h n _
    · rfl
    · rfl

def outsOk : List Out → Bool
  | [] => true
  | o :: l => (match o.e with | .normal => false | _ => true) && outsOk l
theorem outsOk_ne {m : Nat} : ∀ {l : List Out}, outsOk l = true → ∀ o' : OutT l, (outE m l o').1 ≠ .normal
  | [], _, o' => nomatch o'
  | o :: l, h, .inl x => by
    simp only [outsOk, Bool.and_eq_true] at h
    intro he
    simp only [outE] at he
    rw [he] at h
    cases h.1
  | o :: l, h, .inr y => by
    simp only [outsOk, Bool.and_eq_true] at h
    exact outsOk_ne h.2 y

theorem lkOk_mk {E : Env} {fn : FuncId} {l : Lp} {b : Code} {r : l.sh.den × MSh l.ms → Option ((l.sh.den × MSh l.ms) ⊕ OutT l.outs)} (hr : ∀ x, round1 E fn l b x = r x) (hs : ∀ x, (l.sum x).get = whl r x) (ho : outsOk l.outs = true) : LkOk E fn b (.sum l) :=
  ⟨fun x o h => by
    rw [hs] at h
    obtain ⟨n, hn⟩ := whl_ex h
    exact ⟨n, by rw [iter_congr hr]; exact hn⟩, outsOk_ne ho⟩

/-- a function without a range over a function -/
theorem spec_fn {P : Program} {cs : List (FuncId × Fc)} {inl : List Nat} {f : FuncId} {ls : List (Nat × Lk)} {c : Ct} {bs : List Code} (hm : P.follows .mixedOrders = true) (hcs : ∀ p ∈ cs, Spec P p.1 p.2) (hok : okF P f = true) (hsh : (c.ash.chV && okM c.ms) = true)
    (hn : (ls.map (·.1)).Nodup) (hb : loopsOf (bodyOf P f) = bs) (hl : LoopsOk (mkE P cs inl f ls [] c.ms.length) f ls bs) (o : c.ash.den × MSh c.ms → Option (c.rsh.den × MSh c.ms')) (hG : ∀ x, (c.G x).get = o x)
    (hF : ∀ x, run (mkE P cs inl f ls [] c.ms.length) f c x = o x) (hmay : c.may = false := by rfl) : Spec P f c.fc :=
  spec_of hm hcs hok hsh hn (hb ▸ hl) (fun d hd => rf_none (fun k => by simp [mkE, mkEc, look]) _ d hd) (fun x r h => (hF x).trans ((hG x).symm.trans h)) hmay

theorem cutOk_mk {E : Env} {fn : FuncId} {l : Lp} {b : Code} {r : l.sh.den × MSh l.ms → Option (OutT l.outs)} (hr : ∀ x, cut1 E fn l b x = r x) (hs : ∀ x, (l.sum x).get = r x) (hmay : l.may = false := by rfl) : CutOk E fn l b :=
  .inl ⟨fun _ x o h => (hr x).trans ((hs x).symm.trans h), fun h => by rw [hmay] at h; cases h⟩
/-- a function some of whose rests are summed up by themselves -/
theorem spec_fnc {P : Program} {cs : List (FuncId × Fc)} {inl : List Nat} {f : FuncId} {ls : List (Nat × Lk)} {c : Ct} {bs : List Code} {cts : List (Nat × Lp)} (hm : P.follows .mixedOrders = true) (hcs : ∀ p ∈ cs, Spec P p.1 p.2) (hok : okF P f = true) (hsh : (c.ash.chV && okM c.ms) = true)
    (hn : (ls.map (·.1)).Nodup) (hb : loopsOf (bodyOf P f) = bs) (hl : LoopsOk (mkEc P cs inl f ls [] c.ms.length cts) f ls bs) (hct : CutsOk (mkEc P cs inl f ls [] c.ms.length cts) f (bodyOf P f) cts) (o : c.ash.den × MSh c.ms → Option (c.rsh.den × MSh c.ms')) (hG : ∀ x, (c.G x).get = o x)
    (hF : ∀ x, run (mkEc P cs inl f ls [] c.ms.length cts) f c x = o x) (hmay : c.may = false := by rfl) : Spec P f c.fc :=
  spec_ofc hm hcs hok hsh hn (hb ▸ hl) (fun d hd => rf_none (fun k => by simp [mkEc, look]) _ d hd) hct (fun x r h => (hF x).trans ((hG x).symm.trans h)) hmay

/-- of an outcome: is it a panic? the result -/
def isPan {R : Type} : Option (PanR R) → Bool
  | some .pan => true
  | _ => false
def okP {R : Type} : Option (PanR R) → Option R
  | some (.ok r) => some r
  | _ => none
@[simp] theorem isPan_pan {R : Type} : isPan (some (.pan : PanR R)) = true := rfl
@[simp] theorem isPan_ok {R : Type} (r : R) : isPan (some (.ok r)) = false := rfl
@[simp] theorem okP_ok {R : Type} (r : R) : okP (some (.ok r)) = some r := rfl
@[simp] theorem okP_pan {R : Type} : okP (some (.pan : PanR R)) = none := rfl
/-- a function that may panic -/
theorem spec_fnp {P : Program} {cs : List (FuncId × Fc)} {inl : List Nat} {f : FuncId} {ls : List (Nat × Lk)} {c : Ct} {bs : List Code} (hm : P.follows .mixedOrders = true) (hcs : ∀ p ∈ cs, Spec P p.1 p.2) (hok : okF P f = true) (hsh : (c.ash.chV && okM c.ms) = true)
    (hn : (ls.map (·.1)).Nodup) (hb : loopsOf (bodyOf P f) = bs) (hl : LoopsOk (mkE P cs inl f ls [] c.ms.length) f ls bs) (o : c.ash.den × MSh c.ms → Option (PanR (c.rsh.den × MSh c.ms'))) (hG : ∀ x, (c.G x).get = okP (o x)) (hp : ∀ x, c.pan x = isPan (o x))
    (hF : ∀ x, runP (mkE P cs inl f ls [] c.ms.length) f c x = o x) : Spec P f c.fc :=
  spec_ofp (cts := []) hm hcs hok hsh hn (hb ▸ hl) (fun d hd => rf_none (fun k => by simp [mkE, mkEc, look]) _ d hd) trivial
    (fun x r h => by
      have h2 := (hF x)
      rw [hG] at h
      show runP (mkE P cs inl f ls [] c.ms.length) f c x = _
      rw [h2]
      match ho : o x, h with
      | some (.ok q), h => simp only [okP_ok, Option.some.injEq] at h; rw [h]
      | some .pan, h => cases h
      | none, h => cases h)
    (fun x h => by
      have h2 := (hF x)
      rw [hp] at h
      show runP (mkE P cs inl f ls [] c.ms.length) f c x = _
      rw [h2]
      match ho : o x, h with
      | some (.ok q), h => cases h
      | some .pan, h => rfl
      | none, h => cases h)

/-- the same, some of its rests summed up by themselves -/
theorem spec_fnpc {P : Program} {cs : List (FuncId × Fc)} {inl : List Nat} {f : FuncId} {ls : List (Nat × Lk)} {c : Ct} {bs : List Code} {cts : List (Nat × Lp)} (hm : P.follows .mixedOrders = true) (hcs : ∀ p ∈ cs, Spec P p.1 p.2) (hok : okF P f = true) (hsh : (c.ash.chV && okM c.ms) = true)
    (hn : (ls.map (·.1)).Nodup) (hb : loopsOf (bodyOf P f) = bs) (hl : LoopsOk (mkEc P cs inl f ls [] c.ms.length cts) f ls bs) (hct : CutsOk (mkEc P cs inl f ls [] c.ms.length cts) f (bodyOf P f) cts) (o : c.ash.den × MSh c.ms → Option (PanR (c.rsh.den × MSh c.ms'))) (hG : ∀ x, (c.G x).get = okP (o x)) (hp : ∀ x, c.pan x = isPan (o x))
    (hF : ∀ x, runP (mkEc P cs inl f ls [] c.ms.length cts) f c x = o x) : Spec P f c.fc :=
  spec_ofp (cts := cts) hm hcs hok hsh hn (hb ▸ hl) (fun d hd => rf_none (fun k => by simp [mkEc, look]) _ d hd) hct
    (fun x r h => by
      have h2 := (hF x)
      rw [hG] at h
      show runP (mkEc P cs inl f ls [] c.ms.length cts) f c x = _
      rw [h2]
      match ho : o x, h with
      | some (.ok q), h => simp only [okP_ok, Option.some.injEq] at h; rw [h]
      | some .pan, h => cases h
      | none, h => cases h)
    (fun x h => by
      have h2 := (hF x)
      rw [hp] at h
      show runP (mkEc P cs inl f ls [] c.ms.length cts) f c x = _
      rw [h2]
      match ho : o x, h with
      | some (.ok q), h => cases h
      | some .pan, h => rfl
      | none, h => cases h)

theorem cutOk_mkp {E : Env} {fn : FuncId} {l : Lp} {b : Code} {r : l.sh.den × MSh l.ms → Option (PanR (OutT l.outs))} (hr : ∀ x, cut1P E fn l b x = r x) (hs : ∀ x, (l.sum x).get = okP (r x)) (hp : ∀ x, l.pan x = isPan (r x)) (hmay : l.may = true := by rfl) : CutOk E fn l b := by
  refine .inl ⟨fun h => (by rw [hmay] at h; cases h), fun _ => ⟨fun x o h => ?_, fun x h => ?_⟩⟩
  · rw [hr]
    rw [hs] at h
    match ho : r x, h with
    | some (.ok q), h => simp only [okP_ok, Option.some.injEq] at h; rw [h]
    | some .pan, h => cases h
    | none, h => cases h
  · rw [hr]
    rw [hp] at h
    match ho : r x, h with
    | some (.ok q), h => cases h
    | some .pan, h => rfl
    | none, h => cases h

def rfAt (P : Program) (f : FuncId) (i : Nat) : Code := (mget (rfsOf (bodyOf P f)) i).getD .skip
def rfOp : Code → Operand
  | .rangeFunc f _ _ _ => f
  | _ => .tmp 0
def rfPs : Code → List Tmp
  | .rangeFunc _ p _ _ => p.toList
  | _ => []
def rfAs : Code → Code
  | .rangeFunc _ _ a _ => a
  | _ => .skip
def rfBo : Code → Code
  | .rangeFunc _ _ _ b => b
  | _ => .skip
def isRf : Code → Bool
  | .rangeFunc _ _ _ _ => true
  | _ => false

theorem exec_rf {P : Program} {cs cs2 : List (FuncId × Fc)} {inl inl2 : List Nat} {f : FuncId} {ls : List (Nat × Lk)} {rs : List (Nat × Rf)} {nf : Nat} {rf : Rf} {d : Code} {ysh : Sh} {Y : rf.sh.den → ysh.den × MSh rf.ms → Tr (MSh rf.ms)} {ls2 : rf.sh.den → List (Nat × Lk)} {bs2 : List Code}
    (hm : P.follows .mixedOrders = true) (hcs : ∀ p ∈ cs, Spec P p.1 p.2) (hcs2 : ∀ p ∈ cs2, Spec P p.1 p.2) (hd : isRf d = true) (hk : look (key (rfBo d)) rs = some rf)
    (shs : (rf.sh.still && noLoop rf.ms && rf.csh.chV && ysh.chV && (loopsOf (.seq (rfAs d) (rfBo d))).isEmpty && (rfsOf (.seq (rfAs d) (rfBo d))).isEmpty && (rfsOf (bodyOf P rf.it)).isEmpty && okF P rf.it) = true)
    (par : ∀ a, (encL ysh a).length = (rfPs d).length)
    (bY : rf.sh.den → ysh.den → MSh rf.ms → Option (MSh rf.ms)) (hY : ∀ x a z, (Y x (a, z)).get = bY x a z) (hb : ∀ x a z, bodyB (mkE P cs inl f ls rs nf) f rf.m rf.keep rf.sh ysh rf.ms (rfPs d) (rfAs d) (rfBo d) x a z = bY x a z)
    (hn : ∀ x, ((ls2 x).map (·.1)).Nodup) (hbs : loopsOf (bodyOf P rf.it) = bs2) (hl : ∀ x, LoopsOk ((mkE P cs2 inl2 rf.it (ls2 x) [] 0).yielding (mlen rf.ms + 1) (mrange 0 (mlen rf.ms)) (fcY ysh rf.ms (Y x))) rf.it (ls2 x) bs2)
    (bI : rf.sh.den → rf.csh.den → MSh rf.ms → Option (MSh rf.ms)) (hI : ∀ x y z, (rf.sum (x, y, z)).get = bI x y z) (hi : ∀ x y z, runIt (mkE P cs2 inl2 rf.it (ls2 x) [] 0) rf.it ysh rf.csh rf.ms (Y x) y z = bI x y z) :
    ExecOk (mkE P cs inl f ls rs nf) f none d := by
  match d, hd with
  | .rangeFunc op ps as bo, _ =>
    refine rf_sound (ysh := ysh) (Y := Y) (E2 := fun x => mkE P cs2 inl2 rf.it (ls2 x) [] 0) (envOk_mk hm hcs) ⟨shs, par, fun x a z z' h => (hb x a z).trans ((hY x a z).symm.trans h), fun x => envOk_mk hm hcs2, fun x => rfl, fun x => ?_, fun x y z z' h => (hi x y z).trans ((hI x y z).symm.trans h)⟩ ?_
    · exact loopsGood_mk ((envOk_mk hm hcs2).yielding _ _ _) (fun k => by simp [mkE, mkEc, Env.yielding]) (hn x) (hc := fun k => by simp [mkE, mkEc, Env.yielding, look]) (by rw [show (mkE P cs inl f ls rs nf).P = P from rfl, hbs]; exact hl x)
    · simp only [mkE, mkEc, Nat.beq_refl, cond_true]
      exact hk

/-- a function with ranges over functions -/
theorem spec_fnr {P : Program} {cs : List (FuncId × Fc)} {inl : List Nat} {f : FuncId} {ls : List (Nat × Lk)} {rs : List (Nat × Rf)} {c : Ct} {bs ds : List Code} (hm : P.follows .mixedOrders = true) (hcs : ∀ p ∈ cs, Spec P p.1 p.2) (hok : okF P f = true) (hsh : (c.ash.chV && okM c.ms) = true)
    (hn : (ls.map (·.1)).Nodup) (hb : loopsOf (bodyOf P f) = bs) (hl : LoopsOk (mkE P cs inl f ls rs c.ms.length) f ls bs) (hd : rfsOf (bodyOf P f) = ds) (hr : ∀ d ∈ ds, ExecOk (mkE P cs inl f ls rs c.ms.length) f none d)
    (o : c.ash.den × MSh c.ms → Option (c.rsh.den × MSh c.ms')) (hG : ∀ x, (c.G x).get = o x) (hF : ∀ x, run (mkE P cs inl f ls rs c.ms.length) f c x = o x) (hmay : c.may = false := by rfl) : Spec P f c.fc :=
  spec_of hm hcs hok hsh hn (hb ▸ hl) (hd ▸ hr) (fun x r h => (hF x).trans ((hG x).symm.trans h)) hmay
theorem all_nil {p : Code → Prop} : ∀ d ∈ ([] : List Code), p d := fun _ h => by cases h
theorem all_cons {p : Code → Prop} {d : Code} {ds : List Code} (h : p d) (t : ∀ d ∈ ds, p d) : ∀ x ∈ d :: ds, p x := by
  intro x hx
  rcases List.mem_cons.1 hx with rfl | hx
  · exact h
  · exact t x hx

theorem hcs_nil {P : Program} : ∀ p ∈ ([] : List (FuncId × Fc)), Spec P p.1 p.2 := fun _ h => by cases h
theorem hcs_cons {P : Program} {f : FuncId} {fc : Fc} {cs : List (FuncId × Fc)} (h : Spec P f fc) (t : ∀ p ∈ cs, Spec P p.1 p.2) : ∀ p ∈ (f, fc) :: cs, Spec P p.1 p.2 := by
  intro p hp
  rcases List.mem_cons.1 hp with rfl | hp
  · exact h
  · exact t p hp

end Am
end Go.Proofs.Ytkjpoongkdapoaa
