/-
  Printed contracts, part 2.
-/
import Derived.Test.YtkpojikfadeeeaaFi1
namespace Go.Proofs.Ytkpojikfadeeeaa
namespace Am
open Go Go.RowKit
set_option maxRecDepth 100000
set_option linter.unusedVariables false
/- function 24: (.d .id) (.d (.int .i64)) -/
noncomputable def ridentStepx5 (x : ((Unit × (Unit × (Int × (Int × Unit)))) × (Am.Id × (Am.Id × Unit)))) : Option (((Unit × (Unit × (Int × (Int × Unit)))) × (Am.Id × (Am.Id × Unit))) ⊕ (((Unit × (Unit × Unit)) × (Am.Id × (Am.Id × Unit))) ⊕ Empty)) := match x with
  | (((), ((), (x0, (x1, ())))), (x2, (x3, ()))) => bif ile 0 x1 then bif ilt 0 x0 then bif bif ile 0 x1 then ilt x1 32 else false then bif bif ile 0 x1 then ilt x1 32 else false then bif ile 0 8 then some (Sum.inl (((), (), ishr (iwrap IntKind.i64 (iadd (iwrap IntKind.i64 (u8i (idget x2 (inat x1)))) x0)) (ibits 8 IntKind.i64), iwrap IntKind.i64 (isub x1 1), ()), idset x2 (inat x1) (iu8 (iwrap IntKind.u8 (iwrap IntKind.i64 (iadd (iwrap IntKind.i64 (u8i (idget x2 (inat x1)))) x0)))), x3, ())) else none else none else none else some (Sum.inr (Sum.inl (((), (), ()), x2, x3, ()))) else some (Sum.inr (Sum.inl (((), (), ()), x2, x3, ())))
noncomputable def widentStepx5 : ((Unit × (Unit × (Int × (Int × Unit)))) × (Am.Id × (Am.Id × Unit))) → Option (((Unit × (Unit × Unit)) × (Am.Id × (Am.Id × Unit))) ⊕ Empty) := shut (whl ridentStepx5)
noncomputable def lidentStepx5 : Lp := { m := 43, up := [], ksE := [], ksA := [], keep := [2, 4, 6, 7], sh := (.cons (.loc 0 0) (.cons (.loc 1 0) (.cons (.d (.int .i64)) (.cons (.d (.int .i64)) .unit)))), ms := [.box (.d .id), .box (.d .id)], outs := [{ e := .exit 0, keep := [2, 4], ks := [], sh := (.cons (.loc 0 0) (.cons (.loc 1 0) .unit)), ms := [.box (.d .id), .box (.d .id)] }], sum := fun x => (trO1 trO0) (widentStepx5 x) }
noncomputable def bidentStep (x : ((Am.Id × (Int × Unit)) × Unit)) : Option ((Am.Id × (Int × Unit)) × Unit) := match x with
  | ((x0, (x1, ())), ()) => bif bif ilt x1 0 then false else true then bif ile 256 x1 then some ((Id.zero, 1, ()), ()) else bif bif ieq 8 0 then false else true then bif ile 0 (irem x1 8) then bif bif ieq 8 0 then false else true then bL (widentStepx5 (((), (), iwrap IntKind.i64 (ishl 1 (ibits (irem x1 8) IntKind.i64)), iwrap IntKind.i64 (isub 31 (iwrap IntKind.i64 (iquo x1 8))), ()), x0, Id.zero, ())) (fun v0 => some ((v0.snd.fst, 0, ()), ())) fun u0 => none else none else none else none else some ((Id.zero, 1, ()), ())
noncomputable def oidentStep : ((Am.Id × (Int × Unit)) × Unit) → Option ((Am.Id × (Int × Unit)) × Unit) := shut bidentStep
theorem oidentStep_eq (x) : oidentStep x = bidentStep x := by rw [oidentStep, shut_eq]
theorem widentStepx5_eq (x) : widentStepx5 x = whl ridentStepx5 x := by rw [widentStepx5, shut_eq]
noncomputable def cidentStep : Ct := { ash := (.cons (.d .id) (.cons (.d (.int .i64)) .unit)), ms := [], foot := false, up := [], rsh := (.cons (.d .id) (.cons (.d (.int .i64)) .unit)), ks := [], ms' := [], G := fun x => trS (oidentStep x) }
noncomputable def EidentStep : Env := mkE Try.prog [] [] 24 [(5, .sum lidentStepx5)] [] 0
theorem rdidentStepx5 : ∀ x, round1 EidentStep 24 lidentStepx5 (loopAt Try.prog 24 0) x = ridentStepx5 x
  | (((), ((), (x0, (x1, ())))), (x2, (x3, ()))) => by kernel_rfl
theorem runidentStep : ∀ x, run EidentStep 24 cidentStep x = bidentStep x
  | ((x0, (x1, ())), ()) => by kernel_rfl
theorem SidentStep : Spec Try.prog 24 cidentStep.fc :=
  spec_fn (bs := [loopAt Try.prog 24 0]) (inl := []) (ls := [(5, .sum lidentStepx5)]) mixed hcs_nil (by kernel_rfl) (by kernel_rfl) (by decide) (by kernel_rfl) ⟨by kernel_rfl, lkOk_mk rdidentStepx5 (fun x => ((trO1_get trO0_get) _).trans (widentStepx5_eq x)) rfl, trivial⟩ oidentStep (fun x => trS_get (oidentStep x)) (fun x => (runidentStep x).trans (oidentStep_eq x).symm)
/- function 16: (.d (.pair (.int .i64) (.pair .id .unit))) (.d (.int .i64)) -/
noncomputable def bfingerGoal (x : (((Int × (Am.Id × Unit)) × (Int × Unit)) × Unit)) : Option ((Am.Id × (Int × Unit)) × Unit) := match x with
  | ((x0, (x1, ())), ()) => bif bif ilt x1 0 then false else true then bif ile 16 x1 then some ((Id.zero, 1, ()), ()) else bS (oidentStep ((x0.snd.fst, iwrap IntKind.i64 (iadd 240 x1), ()), ())) fun v0 => some v0 else some ((Id.zero, 1, ()), ())
noncomputable def ofingerGoal : (((Int × (Am.Id × Unit)) × (Int × Unit)) × Unit) → Option ((Am.Id × (Int × Unit)) × Unit) := shut bfingerGoal
theorem ofingerGoal_eq (x) : ofingerGoal x = bfingerGoal x := by rw [ofingerGoal, shut_eq]
noncomputable def cfingerGoal : Ct := { ash := (.cons (.d (.pair (.int .i64) (.pair .id .unit))) (.cons (.d (.int .i64)) .unit)), ms := [], foot := false, up := [], rsh := (.cons (.d .id) (.cons (.d (.int .i64)) .unit)), ks := [], ms' := [], G := fun x => trS (ofingerGoal x) }
noncomputable def EfingerGoal : Env := mkE Try.prog [(24, cidentStep.fc)] [] 16 [] [] 0
theorem runfingerGoal : ∀ x, run EfingerGoal 16 cfingerGoal x = bfingerGoal x
  | ((x0, (x1, ())), ()) => by kernel_rfl
theorem SfingerGoal : Spec Try.prog 16 cfingerGoal.fc :=
  spec_fn (bs := []) (inl := []) (ls := []) mixed (hcs_cons SidentStep hcs_nil) (by kernel_rfl) (by kernel_rfl) (by decide) (by kernel_rfl) trivial ofingerGoal (fun x => trS_get (ofingerGoal x)) (fun x => (runfingerGoal x).trans (ofingerGoal_eq x).symm)
/- function 36: (.d (.pair (.int .i64) (.pair .id .unit))) (.cptr (.d (.pair (.int .i64) (.pair .id .unit)))) -/
noncomputable def bringRight_1 (x : (((Int × (Am.Id × Unit)) × ((Int × (Am.Id × Unit)) × Unit)) × Unit)) : Option ((Bool × Unit) × Unit) := match x with
  | ((x0, (x1, ())), ()) => bif bif ieq x0.fst x1.fst then false else true then some ((ideq x0.snd.fst x1.snd.fst, ()), ()) else some ((true, ()), ())
noncomputable def oringRight_1 : (((Int × (Am.Id × Unit)) × ((Int × (Am.Id × Unit)) × Unit)) × Unit) → Option ((Bool × Unit) × Unit) := shut bringRight_1
theorem oringRight_1_eq (x) : oringRight_1 x = bringRight_1 x := by rw [oringRight_1, shut_eq]
noncomputable def cringRight_1 : Ct := { ash := (.cons (.d (.pair (.int .i64) (.pair .id .unit))) (.cons (.cptr (.d (.pair (.int .i64) (.pair .id .unit)))) .unit)), ms := [], foot := false, up := [], rsh := (.cons (.d .bool) .unit), ks := [], ms' := [], G := fun x => trS (oringRight_1 x) }
noncomputable def EringRight_1 : Env := mkE Try.prog [] [] 36 [] [] 0
theorem runringRight_1 : ∀ x, run EringRight_1 36 cringRight_1 x = bringRight_1 x
  | ((x0, (x1, ())), ()) => by kernel_rfl
theorem SringRight_1 : Spec Try.prog 36 cringRight_1.fc :=
  spec_fn (bs := []) (inl := []) (ls := []) mixed hcs_nil (by kernel_rfl) (by kernel_rfl) (by decide) (by kernel_rfl) trivial oringRight_1 (fun x => trS_get (oringRight_1 x)) (fun x => (runringRight_1 x).trans (oringRight_1_eq x).symm)
/- function 30: (.d (.sl (.pair (.int .i64) (.pair .id .unit)))) (.fn (.func 36) .unit (.cons (.cptr (.d (.pair (.int .i64) (.pair .id .unit)))) .unit)) -/
noncomputable def rslicesIndexFuncx2 (x : ((List (Int × (Am.Id × Unit)) × ((Unit × ((Int × (Am.Id × Unit)) × Unit)) × (Int × (Int × Unit)))) × Unit)) : Option (((List (Int × (Am.Id × Unit)) × ((Unit × ((Int × (Am.Id × Unit)) × Unit)) × (Int × (Int × Unit)))) × Unit) ⊕ ((Unit × Unit) ⊕ (((Int × Unit) × Unit) ⊕ Empty))) := match x with
  | ((x0, (((), (x1, ())), (x2, (x3, ())))), ()) => bif ilt x3 x2 then bif bif ile 0 x3 then ilt x3 (dlen x0) else false then bS (oringRight_1 ((dget ((Ty.int IntKind.i64).pair (Ty.id.pair Ty.unit)) x0 x3, x1, ()), ())) fun v0 => bif v0.fst.fst then some (Sum.inr (Sum.inr (Sum.inl ((x3, ()), ())))) else some (Sum.inl ((x0, ((), x1, ()), x2, iwrap IntKind.i64 (iadd x3 1), ()), ())) else none else some (Sum.inr (Sum.inl ((), ())))
noncomputable def wslicesIndexFuncx2 : ((List (Int × (Am.Id × Unit)) × ((Unit × ((Int × (Am.Id × Unit)) × Unit)) × (Int × (Int × Unit)))) × Unit) → Option ((Unit × Unit) ⊕ (((Int × Unit) × Unit) ⊕ Empty)) := shut (whl rslicesIndexFuncx2)
noncomputable def lslicesIndexFuncx2 : Lp := { m := 19, up := [], ksE := [], ksA := [], keep := [0, 1, 7, 8], sh := (.cons (.d (.sl (.pair (.int .i64) (.pair .id .unit)))) (.cons (.fn (.func 36) .unit (.cons (.cptr (.d (.pair (.int .i64) (.pair .id .unit)))) .unit)) (.cons (.d (.int .i64)) (.cons (.d (.int .i64)) .unit)))), ms := [], outs := [{ e := .exit 0, keep := [], ks := [], sh := .unit, ms := [] }, { e := .ret, keep := [4], ks := [], sh := (.cons (.d (.int .i64)) .unit), ms := [] }], sum := fun x => (trO1 (trO1 trO0)) (wslicesIndexFuncx2 x) }
noncomputable def bslicesIndexFunc (x : ((List (Int × (Am.Id × Unit)) × ((Unit × ((Int × (Am.Id × Unit)) × Unit)) × Unit)) × Unit)) : Option ((Int × Unit) × Unit) := match x with
  | ((x0, (((), (x1, ())), ())), ()) => bL (wslicesIndexFuncx2 ((x0, ((), x1, ()), dlen x0, 0, ()), ())) (fun v0 => some ((-1, ()), ())) fun u0 => bL u0 (fun v1 => some v1) fun u1 => none
noncomputable def oslicesIndexFunc : ((List (Int × (Am.Id × Unit)) × ((Unit × ((Int × (Am.Id × Unit)) × Unit)) × Unit)) × Unit) → Option ((Int × Unit) × Unit) := shut bslicesIndexFunc
theorem oslicesIndexFunc_eq (x) : oslicesIndexFunc x = bslicesIndexFunc x := by rw [oslicesIndexFunc, shut_eq]
theorem wslicesIndexFuncx2_eq (x) : wslicesIndexFuncx2 x = whl rslicesIndexFuncx2 x := by rw [wslicesIndexFuncx2, shut_eq]
noncomputable def cslicesIndexFunc : Ct := { ash := (.cons (.d (.sl (.pair (.int .i64) (.pair .id .unit)))) (.cons (.fn (.func 36) .unit (.cons (.cptr (.d (.pair (.int .i64) (.pair .id .unit)))) .unit)) .unit)), ms := [], foot := false, up := [], rsh := (.cons (.d (.int .i64)) .unit), ks := [], ms' := [], G := fun x => trS (oslicesIndexFunc x) }
noncomputable def EslicesIndexFunc : Env := mkE Try.prog [(36, cringRight_1.fc)] [] 30 [(2, .sum lslicesIndexFuncx2)] [] 0
theorem rdslicesIndexFuncx2 : ∀ x, round1 EslicesIndexFunc 30 lslicesIndexFuncx2 (loopAt Try.prog 30 0) x = rslicesIndexFuncx2 x
  | ((x0, (((), (x1, ())), (x2, (x3, ())))), ()) => by kernel_rfl
theorem runslicesIndexFunc : ∀ x, run EslicesIndexFunc 30 cslicesIndexFunc x = bslicesIndexFunc x
  | ((x0, (((), (x1, ())), ())), ()) => by kernel_rfl
theorem SslicesIndexFunc : Spec Try.prog 30 cslicesIndexFunc.fc :=
  spec_fn (bs := [loopAt Try.prog 30 0]) (inl := []) (ls := [(2, .sum lslicesIndexFuncx2)]) mixed (hcs_cons SringRight_1 hcs_nil) (by kernel_rfl) (by kernel_rfl) (by decide) (by kernel_rfl) ⟨by kernel_rfl, lkOk_mk rdslicesIndexFuncx2 (fun x => ((trO1_get (trO1_get trO0_get)) _).trans (wslicesIndexFuncx2_eq x)) rfl, trivial⟩ oslicesIndexFunc (fun x => trS_get (oslicesIndexFunc x)) (fun x => (runslicesIndexFunc x).trans (oslicesIndexFunc_eq x).symm)
/- function 35: (.d (.sl (.pair (.int .i64) (.pair .id .unit)))) (.fn (.func 36) .unit (.cons (.cptr (.d (.pair (.int .i64) (.pair .id .unit)))) .unit)) -/
noncomputable def bslicesContainsFunc (x : ((List (Int × (Am.Id × Unit)) × ((Unit × ((Int × (Am.Id × Unit)) × Unit)) × Unit)) × Unit)) : Option ((Bool × Unit) × Unit) := match x with
  | ((x0, (((), (x1, ())), ())), ()) => bS (oslicesIndexFunc ((x0, ((), x1, ()), ()), ())) fun v0 => some ((ile 0 v0.fst.fst, ()), ())
noncomputable def oslicesContainsFunc : ((List (Int × (Am.Id × Unit)) × ((Unit × ((Int × (Am.Id × Unit)) × Unit)) × Unit)) × Unit) → Option ((Bool × Unit) × Unit) := shut bslicesContainsFunc
theorem oslicesContainsFunc_eq (x) : oslicesContainsFunc x = bslicesContainsFunc x := by rw [oslicesContainsFunc, shut_eq]
noncomputable def cslicesContainsFunc : Ct := { ash := (.cons (.d (.sl (.pair (.int .i64) (.pair .id .unit)))) (.cons (.fn (.func 36) .unit (.cons (.cptr (.d (.pair (.int .i64) (.pair .id .unit)))) .unit)) .unit)), ms := [], foot := false, up := [], rsh := (.cons (.d .bool) .unit), ks := [], ms' := [], G := fun x => trS (oslicesContainsFunc x) }
noncomputable def EslicesContainsFunc : Env := mkE Try.prog [(30, cslicesIndexFunc.fc)] [] 35 [] [] 0
theorem runslicesContainsFunc : ∀ x, run EslicesContainsFunc 35 cslicesContainsFunc x = bslicesContainsFunc x
  | ((x0, (((), (x1, ())), ())), ()) => by kernel_rfl
theorem SslicesContainsFunc : Spec Try.prog 35 cslicesContainsFunc.fc :=
  spec_fn (bs := []) (inl := []) (ls := []) mixed (hcs_cons SslicesIndexFunc hcs_nil) (by kernel_rfl) (by kernel_rfl) (by decide) (by kernel_rfl) trivial oslicesContainsFunc (fun x => trS_get (oslicesContainsFunc x)) (fun x => (runslicesContainsFunc x).trans (oslicesContainsFunc_eq x).symm)
/- function 23: (.d (.sl (.pair (.int .i64) (.pair .id .unit)))) -/
noncomputable def rringRightx2 (x : ((List (Int × (Am.Id × Unit)) × (List (Int × (Am.Id × Unit)) × (Int × (Int × Unit)))) × Unit)) : Option (((List (Int × (Am.Id × Unit)) × (List (Int × (Am.Id × Unit)) × (Int × (Int × Unit)))) × Unit) ⊕ (((List (Int × (Am.Id × Unit)) × Unit) × Unit) ⊕ (((Bool × Unit) × Unit) ⊕ Empty))) := match x with
  | ((x0, (x1, (x2, (x3, ())))), ()) => bif ilt x3 x2 then bif bif ile 0 x3 then ilt x3 (dlen x1) else false then bif bif bif ile 0 0 then ile 0 x3 else false then ile x3 (dlen x0) else false then bS (oslicesContainsFunc ((dsub x0 0 x3, ((), dget ((Ty.int IntKind.i64).pair (Ty.id.pair Ty.unit)) x1 x3, ()), ()), ())) fun v0 => bif bif v0.fst.fst then false else true then bif bif ilt (dget ((Ty.int IntKind.i64).pair (Ty.id.pair Ty.unit)) x1 x3).fst 0 then false else true then bif ile 16 (dget ((Ty.int IntKind.i64).pair (Ty.id.pair Ty.unit)) x1 x3).fst then some (Sum.inr (Sum.inr (Sum.inl ((false, ()), ())))) else some (Sum.inl ((x0, x1, x2, iwrap IntKind.i64 (iadd x3 1), ()), ())) else some (Sum.inr (Sum.inr (Sum.inl ((false, ()), ())))) else some (Sum.inr (Sum.inr (Sum.inl ((false, ()), ())))) else none else none else some (Sum.inr (Sum.inl ((x0, ()), ())))
noncomputable def wringRightx2 : ((List (Int × (Am.Id × Unit)) × (List (Int × (Am.Id × Unit)) × (Int × (Int × Unit)))) × Unit) → Option (((List (Int × (Am.Id × Unit)) × Unit) × Unit) ⊕ (((Bool × Unit) × Unit) ⊕ Empty)) := shut (whl rringRightx2)
noncomputable def lringRightx2 : Lp := { m := 33, up := [], ksE := [], ksA := [], keep := [0, 6, 7, 8], sh := (.cons (.d (.sl (.pair (.int .i64) (.pair .id .unit)))) (.cons (.d (.sl (.pair (.int .i64) (.pair .id .unit)))) (.cons (.d (.int .i64)) (.cons (.d (.int .i64)) .unit)))), ms := [], outs := [{ e := .exit 0, keep := [0], ks := [], sh := (.cons (.d (.sl (.pair (.int .i64) (.pair .id .unit)))) .unit), ms := [] }, { e := .ret, keep := [2], ks := [], sh := (.cons (.d .bool) .unit), ms := [] }], sum := fun x => (trO1 (trO1 trO0)) (wringRightx2 x) }
noncomputable def bringRight (x : ((List (Int × (Am.Id × Unit)) × Unit) × Unit)) : Option ((Bool × Unit) × Unit) := match x with
  | ((x0, ()), ()) => bL (wringRightx2 ((x0, x0, dlen x0, 0, ()), ())) (fun v0 => some ((ile (dlen v0.fst.fst) 16, ()), ())) fun u0 => bL u0 (fun v1 => some v1) fun u1 => none
noncomputable def oringRight : ((List (Int × (Am.Id × Unit)) × Unit) × Unit) → Option ((Bool × Unit) × Unit) := shut bringRight
theorem oringRight_eq (x) : oringRight x = bringRight x := by rw [oringRight, shut_eq]
theorem wringRightx2_eq (x) : wringRightx2 x = whl rringRightx2 x := by rw [wringRightx2, shut_eq]
noncomputable def cringRight : Ct := { ash := (.cons (.d (.sl (.pair (.int .i64) (.pair .id .unit)))) .unit), ms := [], foot := false, up := [], rsh := (.cons (.d .bool) .unit), ks := [], ms' := [], G := fun x => trS (oringRight x) }
noncomputable def EringRight : Env := mkE Try.prog [(35, cslicesContainsFunc.fc)] [] 23 [(2, .sum lringRightx2)] [] 0
theorem rdringRightx2 : ∀ x, round1 EringRight 23 lringRightx2 (loopAt Try.prog 23 0) x = rringRightx2 x
  | ((x0, (x1, (x2, (x3, ())))), ()) => by kernel_rfl
theorem runringRight : ∀ x, run EringRight 23 cringRight x = bringRight x
  | ((x0, ()), ()) => by kernel_rfl
theorem SringRight : Spec Try.prog 23 cringRight.fc :=
  spec_fn (bs := [loopAt Try.prog 23 0]) (inl := []) (ls := [(2, .sum lringRightx2)]) mixed (hcs_cons SslicesContainsFunc hcs_nil) (by kernel_rfl) (by kernel_rfl) (by decide) (by kernel_rfl) ⟨by kernel_rfl, lkOk_mk rdringRightx2 (fun x => ((trO1_get (trO1_get trO0_get)) _).trans (wringRightx2_eq x)) rfl, trivial⟩ oringRight (fun x => trS_get (oringRight x)) (fun x => (runringRight x).trans (oringRight_eq x).symm)
/- function 31: (.d (.pair (.int .i64) (.pair .id .unit))) (.cptr (.d (.int .i64))) -/
noncomputable def bfingerIdeal_1 (x : (((Int × (Am.Id × Unit)) × (Int × Unit)) × Unit)) : Option ((Bool × Unit) × Unit) := match x with
  | ((x0, (x1, ())), ()) => some ((ieq x0.fst x1, ()), ())
noncomputable def ofingerIdeal_1 : (((Int × (Am.Id × Unit)) × (Int × Unit)) × Unit) → Option ((Bool × Unit) × Unit) := shut bfingerIdeal_1
theorem ofingerIdeal_1_eq (x) : ofingerIdeal_1 x = bfingerIdeal_1 x := by rw [ofingerIdeal_1, shut_eq]
noncomputable def cfingerIdeal_1 : Ct := { ash := (.cons (.d (.pair (.int .i64) (.pair .id .unit))) (.cons (.cptr (.d (.int .i64))) .unit)), ms := [], foot := false, up := [], rsh := (.cons (.d .bool) .unit), ks := [], ms' := [], G := fun x => trS (ofingerIdeal_1 x) }
noncomputable def EfingerIdeal_1 : Env := mkE Try.prog [] [] 31 [] [] 0
theorem runfingerIdeal_1 : ∀ x, run EfingerIdeal_1 31 cfingerIdeal_1 x = bfingerIdeal_1 x
  | ((x0, (x1, ())), ()) => by kernel_rfl
theorem SfingerIdeal_1 : Spec Try.prog 31 cfingerIdeal_1.fc :=
  spec_fn (bs := []) (inl := []) (ls := []) mixed hcs_nil (by kernel_rfl) (by kernel_rfl) (by decide) (by kernel_rfl) trivial ofingerIdeal_1 (fun x => trS_get (ofingerIdeal_1 x)) (fun x => (runfingerIdeal_1 x).trans (ofingerIdeal_1_eq x).symm)
/- function 30: (.d (.sl (.pair (.int .i64) (.pair .id .unit)))) (.fn (.func 31) .unit (.cons (.cptr (.d (.int .i64))) .unit)) -/
noncomputable def rslicesIndexFuncbx2 (x : ((List (Int × (Am.Id × Unit)) × ((Unit × (Int × Unit)) × (Int × (Int × Unit)))) × Unit)) : Option (((List (Int × (Am.Id × Unit)) × ((Unit × (Int × Unit)) × (Int × (Int × Unit)))) × Unit) ⊕ ((Unit × Unit) ⊕ (((Int × Unit) × Unit) ⊕ Empty))) := match x with
  | ((x0, (((), (x1, ())), (x2, (x3, ())))), ()) => bif ilt x3 x2 then bif bif ile 0 x3 then ilt x3 (dlen x0) else false then bS (ofingerIdeal_1 ((dget ((Ty.int IntKind.i64).pair (Ty.id.pair Ty.unit)) x0 x3, x1, ()), ())) fun v0 => bif v0.fst.fst then some (Sum.inr (Sum.inr (Sum.inl ((x3, ()), ())))) else some (Sum.inl ((x0, ((), x1, ()), x2, iwrap IntKind.i64 (iadd x3 1), ()), ())) else none else some (Sum.inr (Sum.inl ((), ())))
noncomputable def wslicesIndexFuncbx2 : ((List (Int × (Am.Id × Unit)) × ((Unit × (Int × Unit)) × (Int × (Int × Unit)))) × Unit) → Option ((Unit × Unit) ⊕ (((Int × Unit) × Unit) ⊕ Empty)) := shut (whl rslicesIndexFuncbx2)
noncomputable def lslicesIndexFuncbx2 : Lp := { m := 19, up := [], ksE := [], ksA := [], keep := [0, 1, 7, 8], sh := (.cons (.d (.sl (.pair (.int .i64) (.pair .id .unit)))) (.cons (.fn (.func 31) .unit (.cons (.cptr (.d (.int .i64))) .unit)) (.cons (.d (.int .i64)) (.cons (.d (.int .i64)) .unit)))), ms := [], outs := [{ e := .exit 0, keep := [], ks := [], sh := .unit, ms := [] }, { e := .ret, keep := [4], ks := [], sh := (.cons (.d (.int .i64)) .unit), ms := [] }], sum := fun x => (trO1 (trO1 trO0)) (wslicesIndexFuncbx2 x) }
noncomputable def bslicesIndexFuncb (x : ((List (Int × (Am.Id × Unit)) × ((Unit × (Int × Unit)) × Unit)) × Unit)) : Option ((Int × Unit) × Unit) := match x with
  | ((x0, (((), (x1, ())), ())), ()) => bL (wslicesIndexFuncbx2 ((x0, ((), x1, ()), dlen x0, 0, ()), ())) (fun v0 => some ((-1, ()), ())) fun u0 => bL u0 (fun v1 => some v1) fun u1 => none
noncomputable def oslicesIndexFuncb : ((List (Int × (Am.Id × Unit)) × ((Unit × (Int × Unit)) × Unit)) × Unit) → Option ((Int × Unit) × Unit) := shut bslicesIndexFuncb
theorem oslicesIndexFuncb_eq (x) : oslicesIndexFuncb x = bslicesIndexFuncb x := by rw [oslicesIndexFuncb, shut_eq]
theorem wslicesIndexFuncbx2_eq (x) : wslicesIndexFuncbx2 x = whl rslicesIndexFuncbx2 x := by rw [wslicesIndexFuncbx2, shut_eq]
noncomputable def cslicesIndexFuncb : Ct := { ash := (.cons (.d (.sl (.pair (.int .i64) (.pair .id .unit)))) (.cons (.fn (.func 31) .unit (.cons (.cptr (.d (.int .i64))) .unit)) .unit)), ms := [], foot := false, up := [], rsh := (.cons (.d (.int .i64)) .unit), ks := [], ms' := [], G := fun x => trS (oslicesIndexFuncb x) }
noncomputable def EslicesIndexFuncb : Env := mkE Try.prog [(31, cfingerIdeal_1.fc)] [] 30 [(2, .sum lslicesIndexFuncbx2)] [] 0
theorem rdslicesIndexFuncbx2 : ∀ x, round1 EslicesIndexFuncb 30 lslicesIndexFuncbx2 (loopAt Try.prog 30 0) x = rslicesIndexFuncbx2 x
  | ((x0, (((), (x1, ())), (x2, (x3, ())))), ()) => by kernel_rfl
theorem runslicesIndexFuncb : ∀ x, run EslicesIndexFuncb 30 cslicesIndexFuncb x = bslicesIndexFuncb x
  | ((x0, (((), (x1, ())), ())), ()) => by kernel_rfl
theorem SslicesIndexFuncb : Spec Try.prog 30 cslicesIndexFuncb.fc :=
  spec_fn (bs := [loopAt Try.prog 30 0]) (inl := []) (ls := [(2, .sum lslicesIndexFuncbx2)]) mixed (hcs_cons SfingerIdeal_1 hcs_nil) (by kernel_rfl) (by kernel_rfl) (by decide) (by kernel_rfl) ⟨by kernel_rfl, lkOk_mk rdslicesIndexFuncbx2 (fun x => ((trO1_get (trO1_get trO0_get)) _).trans (wslicesIndexFuncbx2_eq x)) rfl, trivial⟩ oslicesIndexFuncb (fun x => trS_get (oslicesIndexFuncb x)) (fun x => (runslicesIndexFuncb x).trans (oslicesIndexFuncb_eq x).symm)
/- function 38: (.d .id) -/
noncomputable def bringFrom (x : ((Am.Id × Unit) × Unit)) : Option (((Unit × (Am.Id × Unit)) × Unit) × Unit) := match x with
  | ((x0, ()), ()) => some ((((), x0, ()), ()), ())
noncomputable def oringFrom : ((Am.Id × Unit) × Unit) → Option (((Unit × (Am.Id × Unit)) × Unit) × Unit) := shut bringFrom
theorem oringFrom_eq (x) : oringFrom x = bringFrom x := by rw [oringFrom, shut_eq]
noncomputable def cringFrom : Ct := { ash := (.cons (.d .id) .unit), ms := [], foot := false, up := [], rsh := (.cons (.fn (.func 43) .unit (.cons (.cptr (.d .id)) .unit)) .unit), ks := [], ms' := [], G := fun x => trS (oringFrom x) }
noncomputable def EringFrom : Env := mkE Try.prog [] [] 38 [] [] 0
theorem runringFrom : ∀ x, run EringFrom 38 cringFrom x = bringFrom x
  | ((x0, ()), ()) => by kernel_rfl
theorem SringFrom : Spec Try.prog 38 cringFrom.fc :=
  spec_fn (bs := []) (inl := []) (ls := []) mixed hcs_nil (by kernel_rfl) (by kernel_rfl) (by decide) (by kernel_rfl) trivial oringFrom (fun x => trS_get (oringFrom x)) (fun x => (runringFrom x).trans (oringFrom_eq x).symm)
/- function 43: (.d (.pair (.int .i64) (.pair .id .unit))) (.d (.pair (.int .i64) (.pair .id .unit))) (.cptr (.d .id)) -/
noncomputable def bringFrom_1 (x : (((Int × (Am.Id × Unit)) × ((Int × (Am.Id × Unit)) × (Am.Id × Unit))) × Unit)) : Option ((Int × Unit) × Unit) := match x with
  | ((x0, (x1, (x2, ()))), ()) => bS (oidentFar ((x2, x0.snd), ())) fun v0 => bS (oidentFar ((x2, x1.snd), ())) fun v1 => bS (oidentCompare ((v0.fst.fst, v1.fst), ())) fun v2 => some v2
noncomputable def oringFrom_1 : (((Int × (Am.Id × Unit)) × ((Int × (Am.Id × Unit)) × (Am.Id × Unit))) × Unit) → Option ((Int × Unit) × Unit) := shut bringFrom_1
theorem oringFrom_1_eq (x) : oringFrom_1 x = bringFrom_1 x := by rw [oringFrom_1, shut_eq]
noncomputable def cringFrom_1 : Ct := { ash := (.cons (.d (.pair (.int .i64) (.pair .id .unit))) (.cons (.d (.pair (.int .i64) (.pair .id .unit))) (.cons (.cptr (.d .id)) .unit))), ms := [], foot := false, up := [], rsh := (.cons (.d (.int .i64)) .unit), ks := [], ms' := [], G := fun x => trS (oringFrom_1 x) }
noncomputable def EringFrom_1 : Env := mkE Try.prog [(15, cidentFar.fc), (14, cidentCompare.fc)] [] 43 [] [] 0
theorem runringFrom_1 : ∀ x, run EringFrom_1 43 cringFrom_1 x = bringFrom_1 x
  | ((x0, (x1, (x2, ()))), ()) => by kernel_rfl
theorem SringFrom_1 : Spec Try.prog 43 cringFrom_1.fc :=
  spec_fn (bs := []) (inl := []) (ls := []) mixed (hcs_cons SidentFar (hcs_cons SidentCompare hcs_nil)) (by kernel_rfl) (by kernel_rfl) (by decide) (by kernel_rfl) trivial oringFrom_1 (fun x => trS_get (oringFrom_1 x)) (fun x => (runringFrom_1 x).trans (oringFrom_1_eq x).symm)
/- function 37: (.d (.sl (.pair (.int .i64) (.pair .id .unit)))) (.fn (.func 43) .unit (.cons (.cptr (.d .id)) .unit)) -/
noncomputable def rslicesMinFuncx5 (x : ((List (Int × (Am.Id × Unit)) × ((Unit × (Am.Id × Unit)) × (Unit × (Unit × (Int × Unit))))) × ((Int × (Am.Id × Unit)) × ((Int × (Am.Id × Unit)) × Unit)))) : Option (((List (Int × (Am.Id × Unit)) × ((Unit × (Am.Id × Unit)) × (Unit × (Unit × (Int × Unit))))) × ((Int × (Am.Id × Unit)) × ((Int × (Am.Id × Unit)) × Unit))) ⊕ (((Unit × (Unit × Unit)) × ((Int × (Am.Id × Unit)) × ((Int × (Am.Id × Unit)) × Unit))) ⊕ Empty)) := match x with
  | ((x0, (((), (x1, ())), ((), ((), (x2, ()))))), (x3, (x4, ()))) => bif ilt x2 (dlen x0) then bif bif ile 0 x2 then ilt x2 (dlen x0) else false then bS (oringFrom_1 ((dget ((Ty.int IntKind.i64).pair (Ty.id.pair Ty.unit)) x0 x2, x4, x1, ()), ())) fun v0 => bif ilt v0.fst.fst 0 then bif bif ile 0 x2 then ilt x2 (dlen x0) else false then some (Sum.inl ((x0, ((), x1, ()), (), (), iwrap IntKind.i64 (iadd x2 1), ()), x3, dget ((Ty.int IntKind.i64).pair (Ty.id.pair Ty.unit)) x0 x2, ())) else none else some (Sum.inl ((x0, ((), x1, ()), (), (), iwrap IntKind.i64 (iadd x2 1), ()), x3, x4, ())) else none else some (Sum.inr (Sum.inl (((), (), ()), x3, x4, ())))
noncomputable def wslicesMinFuncx5 : ((List (Int × (Am.Id × Unit)) × ((Unit × (Am.Id × Unit)) × (Unit × (Unit × (Int × Unit))))) × ((Int × (Am.Id × Unit)) × ((Int × (Am.Id × Unit)) × Unit))) → Option (((Unit × (Unit × Unit)) × ((Int × (Am.Id × Unit)) × ((Int × (Am.Id × Unit)) × Unit))) ⊕ Empty) := shut (whl rslicesMinFuncx5)
noncomputable def lslicesMinFuncx5 : Lp := { m := 33, up := [], ksE := [], ksA := [], keep := [0, 1, 4, 5, 6], sh := (.cons (.d (.sl (.pair (.int .i64) (.pair .id .unit)))) (.cons (.fn (.func 43) .unit (.cons (.cptr (.d .id)) .unit)) (.cons (.loc 0 0) (.cons (.loc 1 0) (.cons (.d (.int .i64)) .unit))))), ms := [.box (.d (.pair (.int .i64) (.pair .id .unit))), .box (.d (.pair (.int .i64) (.pair .id .unit)))], outs := [{ e := .exit 0, keep := [4, 5], ks := [], sh := (.cons (.loc 0 0) (.cons (.loc 1 0) .unit)), ms := [.box (.d (.pair (.int .i64) (.pair .id .unit))), .box (.d (.pair (.int .i64) (.pair .id .unit)))] }], sum := fun x => (trO1 trO0) (wslicesMinFuncx5 x) }
noncomputable def bslicesMinFunc (x : ((List (Int × (Am.Id × Unit)) × ((Unit × (Am.Id × Unit)) × Unit)) × Unit)) : Option (((Int × (Am.Id × Unit)) × Unit) × Unit) := match x with
  | ((x0, (((), (x1, ())), ())), ()) => bif ilt (dlen x0) 1 then none else bif bif ile 0 0 then ilt 0 (dlen x0) else false then bL (wslicesMinFuncx5 ((x0, ((), x1, ()), (), (), 1, ()), (0, Id.zero, ()), dget ((Ty.int IntKind.i64).pair (Ty.id.pair Ty.unit)) x0 0, ())) (fun v0 => some (v0.snd.snd, ())) fun u0 => none else none
noncomputable def oslicesMinFunc : ((List (Int × (Am.Id × Unit)) × ((Unit × (Am.Id × Unit)) × Unit)) × Unit) → Option (((Int × (Am.Id × Unit)) × Unit) × Unit) := shut bslicesMinFunc
theorem oslicesMinFunc_eq (x) : oslicesMinFunc x = bslicesMinFunc x := by rw [oslicesMinFunc, shut_eq]
theorem wslicesMinFuncx5_eq (x) : wslicesMinFuncx5 x = whl rslicesMinFuncx5 x := by rw [wslicesMinFuncx5, shut_eq]
noncomputable def cslicesMinFunc : Ct := { ash := (.cons (.d (.sl (.pair (.int .i64) (.pair .id .unit)))) (.cons (.fn (.func 43) .unit (.cons (.cptr (.d .id)) .unit)) .unit)), ms := [], foot := false, up := [], rsh := (.cons (.d (.pair (.int .i64) (.pair .id .unit))) .unit), ks := [], ms' := [], G := fun x => trS (oslicesMinFunc x) }
noncomputable def EslicesMinFunc : Env := mkE Try.prog [(43, cringFrom_1.fc)] [] 37 [(5, .sum lslicesMinFuncx5)] [] 0
theorem rdslicesMinFuncx5 : ∀ x, round1 EslicesMinFunc 37 lslicesMinFuncx5 (loopAt Try.prog 37 0) x = rslicesMinFuncx5 x
  | ((x0, (((), (x1, ())), ((), ((), (x2, ()))))), (x3, (x4, ()))) => by kernel_rfl
theorem runslicesMinFunc : ∀ x, run EslicesMinFunc 37 cslicesMinFunc x = bslicesMinFunc x
  | ((x0, (((), (x1, ())), ())), ()) => by kernel_rfl
theorem SslicesMinFunc : Spec Try.prog 37 cslicesMinFunc.fc :=
  spec_fn (bs := [loopAt Try.prog 37 0]) (inl := []) (ls := [(5, .sum lslicesMinFuncx5)]) mixed (hcs_cons SringFrom_1 hcs_nil) (by kernel_rfl) (by kernel_rfl) (by decide) (by kernel_rfl) ⟨by kernel_rfl, lkOk_mk rdslicesMinFuncx5 (fun x => ((trO1_get trO0_get) _).trans (wslicesMinFuncx5_eq x)) rfl, trivial⟩ oslicesMinFunc (fun x => trS_get (oslicesMinFunc x)) (fun x => (runslicesMinFunc x).trans (oslicesMinFunc_eq x).symm)
/- function 25: (.d (.sl (.pair (.int .i64) (.pair .id .unit)))) (.d .id) -/
noncomputable def bringOwner (x : ((List (Int × (Am.Id × Unit)) × (Am.Id × Unit)) × Unit)) : Option (((Int × (Am.Id × Unit)) × (Int × Unit)) × Unit) := match x with
  | ((x0, (x1, ())), ()) => bS (oringRight ((x0, ()), ())) fun v0 => bif bif v0.fst.fst then false else true then some (((0, Id.zero, ()), 1, ()), ()) else bif ieq (dlen x0) 0 then some (((0, Id.zero, ()), 6, ()), ()) else bS (oringFrom ((x1, ()), ())) fun v1 => bS (oslicesMinFunc ((x0, ((), v1.fst.fst.snd), ()), ())) fun v2 => some ((v2.fst.fst, 0, ()), ())
noncomputable def oringOwner : ((List (Int × (Am.Id × Unit)) × (Am.Id × Unit)) × Unit) → Option (((Int × (Am.Id × Unit)) × (Int × Unit)) × Unit) := shut bringOwner
theorem oringOwner_eq (x) : oringOwner x = bringOwner x := by rw [oringOwner, shut_eq]
noncomputable def cringOwner : Ct := { ash := (.cons (.d (.sl (.pair (.int .i64) (.pair .id .unit)))) (.cons (.d .id) .unit)), ms := [], foot := false, up := [], rsh := (.cons (.d (.pair (.int .i64) (.pair .id .unit))) (.cons (.d (.int .i64)) .unit)), ks := [], ms' := [], G := fun x => trS (oringOwner x) }
noncomputable def EringOwner : Env := mkE Try.prog [(23, cringRight.fc), (38, cringFrom.fc), (37, cslicesMinFunc.fc)] [] 25 [] [] 0
theorem runringOwner : ∀ x, run EringOwner 25 cringOwner x = bringOwner x
  | ((x0, (x1, ())), ()) => by kernel_rfl
theorem SringOwner : Spec Try.prog 25 cringOwner.fc :=
  spec_fn (bs := []) (inl := []) (ls := []) mixed (hcs_cons SringRight (hcs_cons SringFrom (hcs_cons SslicesMinFunc hcs_nil))) (by kernel_rfl) (by kernel_rfl) (by decide) (by kernel_rfl) trivial oringOwner (fun x => trS_get (oringOwner x)) (fun x => (runringOwner x).trans (oringOwner_eq x).symm)
/- function 17: (.d (.sl (.pair (.int .i64) (.pair .id .unit)))) (.d (.int .i64)) -/
noncomputable def rfingerIdealx8 (x : ((List (Int × (Am.Id × Unit)) × (Int × (List (Int × (Am.Id × Unit)) × (Int × Unit)))) × (Unit × Unit))) : Option (((List (Int × (Am.Id × Unit)) × (Int × (List (Int × (Am.Id × Unit)) × (Int × Unit)))) × (Unit × Unit)) ⊕ (((List (Int × (Am.Id × Unit)) × Unit) × Unit) ⊕ Empty)) := match x with
  | ((x0, (x1, (x2, (x3, ())))), ((), ())) => bif ilt x3 16 then bif bif ile 0 x1 then ilt x1 (dlen x0) else false then bS (ofingerGoal ((dget ((Ty.int IntKind.i64).pair (Ty.id.pair Ty.unit)) x0 x1, x3, ()), ())) fun v0 => bS (oringOwner ((x0, v0.fst.fst, ()), ())) fun v1 => bif fits (dlen x2) (dlen [v1.fst.fst]) 40 then some (Sum.inl ((x0, x1, dapp x2 [v1.fst.fst], iwrap IntKind.i64 (iadd x3 1), ()), (), ())) else none else none else some (Sum.inr (Sum.inl ((x2, ()), ())))
noncomputable def wfingerIdealx8 : ((List (Int × (Am.Id × Unit)) × (Int × (List (Int × (Am.Id × Unit)) × (Int × Unit)))) × (Unit × Unit)) → Option (((List (Int × (Am.Id × Unit)) × Unit) × Unit) ⊕ Empty) := shut (whl rfingerIdealx8)
noncomputable def lfingerIdealx8 : Lp := { m := 45, up := [.slot 7 0 (.pair (.int .i64) (.pair .id .unit)) 27], ksE := [], ksA := [], keep := [0, 6, 7, 21], sh := (.cons (.d (.sl (.pair (.int .i64) (.pair .id .unit)))) (.cons (.d (.int .i64)) (.cons (.own (.pair (.int .i64) (.pair .id .unit)) 0) (.cons (.d (.int .i64)) .unit)))), ms := [.row 27 33], outs := [{ e := .exit 0, keep := [7], ks := [], sh := (.cons (.d (.sl (.pair (.int .i64) (.pair .id .unit)))) .unit), ms := [] }], sum := fun x => (trO1 trO0) (wfingerIdealx8 x) }
noncomputable def bfingerIdeal (x : ((List (Int × (Am.Id × Unit)) × (Int × Unit)) × Unit)) : Option ((List (Int × (Am.Id × Unit)) × (Int × Unit)) × Unit) := match x with
  | ((x0, (x1, ())), ()) => bS (oringRight ((x0, ()), ())) fun v0 => bif bif v0.fst.fst then false else true then some (([], 1, ()), ()) else bS (oslicesIndexFuncb ((x0, ((), x1, ()), ()), ())) fun v1 => bif ilt v1.fst.fst 0 then some (([], 6, ()), ()) else bL (wfingerIdealx8 ((x0, v1.fst.fst, [], 0, ()), (), ())) (fun v2 => some ((v2.fst.fst, 0, ()), ())) fun u2 => none
noncomputable def ofingerIdeal : ((List (Int × (Am.Id × Unit)) × (Int × Unit)) × Unit) → Option ((List (Int × (Am.Id × Unit)) × (Int × Unit)) × Unit) := shut bfingerIdeal
theorem ofingerIdeal_eq (x) : ofingerIdeal x = bfingerIdeal x := by rw [ofingerIdeal, shut_eq]
theorem wfingerIdealx8_eq (x) : wfingerIdealx8 x = whl rfingerIdealx8 x := by rw [wfingerIdealx8, shut_eq]
noncomputable def cfingerIdeal : Ct := { ash := (.cons (.d (.sl (.pair (.int .i64) (.pair .id .unit)))) (.cons (.d (.int .i64)) .unit)), ms := [], foot := false, up := [], rsh := (.cons (.d (.sl (.pair (.int .i64) (.pair .id .unit)))) (.cons (.d (.int .i64)) .unit)), ks := [], ms' := [], G := fun x => trS (ofingerIdeal x) }
noncomputable def EfingerIdeal : Env := mkE Try.prog [(23, cringRight.fc), (30, cslicesIndexFuncb.fc), (16, cfingerGoal.fc), (25, cringOwner.fc)] [] 17 [(8, .sum lfingerIdealx8)] [] 0
theorem rdfingerIdealx8 : ∀ x, round1 EfingerIdeal 17 lfingerIdealx8 (loopAt Try.prog 17 0) x = rfingerIdealx8 x
  | ((x0, (x1, (x2, (x3, ())))), ((), ())) => by kernel_rfl
theorem runfingerIdeal : ∀ x, run EfingerIdeal 17 cfingerIdeal x = bfingerIdeal x
  | ((x0, (x1, ())), ()) => by kernel_rfl
theorem SfingerIdeal : Spec Try.prog 17 cfingerIdeal.fc :=
  spec_fn (bs := [loopAt Try.prog 17 0]) (inl := []) (ls := [(8, .sum lfingerIdealx8)]) mixed (hcs_cons SringRight (hcs_cons SslicesIndexFuncb (hcs_cons SfingerGoal (hcs_cons SringOwner hcs_nil)))) (by kernel_rfl) (by kernel_rfl) (by decide) (by kernel_rfl) ⟨by kernel_rfl, lkOk_mk rdfingerIdealx8 (fun x => ((trO1_get trO0_get) _).trans (wfingerIdealx8_eq x)) rfl, trivial⟩ ofingerIdeal (fun x => trS_get (ofingerIdeal x)) (fun x => (runfingerIdeal x).trans (ofingerIdeal_eq x).symm)
/- function 19: (.d (.sl (.pair (.int .i64) (.pair .id .unit)))) -/
noncomputable def rref07Rightx7 (x : ((List (Int × (Am.Id × Unit)) × (Unit × (List (Int × (Am.Id × Unit)) × (Int × (Int × (List (Int × (Am.Id × Unit)) × (Int × (Int × Unit)))))))) × ((Int × (Am.Id × Unit)) × Unit))) : Option (((List (Int × (Am.Id × Unit)) × (Unit × (List (Int × (Am.Id × Unit)) × (Int × (Int × (List (Int × (Am.Id × Unit)) × (Int × (Int × Unit)))))))) × ((Int × (Am.Id × Unit)) × Unit)) ⊕ (((Bool × Unit) × Unit) ⊕ (((List (Int × (Am.Id × Unit)) × (List (Int × (Am.Id × Unit)) × (Int × (Int × Unit)))) × Unit) ⊕ Empty))) := match x with
  | ((x0, ((), (x1, (x2, (x3, (x4, (x5, (x6, ())))))))), (x7, ())) => bif ilt x6 x5 then bif bif ile 0 x6 then ilt x6 (dlen x4) else false then bif bif ieq (dget ((Ty.int IntKind.i64).pair (Ty.id.pair Ty.unit)) x4 x6).fst x7.fst then false else true then bif ideq (dget ((Ty.int IntKind.i64).pair (Ty.id.pair Ty.unit)) x4 x6).snd.fst x7.snd.fst then some (Sum.inr (Sum.inl ((false, ()), ()))) else some (Sum.inl ((x0, (), x1, x2, x3, x4, x5, iwrap IntKind.i64 (iadd x6 1), ()), x7, ())) else some (Sum.inr (Sum.inl ((false, ()), ()))) else none else some (Sum.inr (Sum.inr (Sum.inl ((x0, x1, x2, x3, ()), ()))))
noncomputable def wref07Rightx7 : ((List (Int × (Am.Id × Unit)) × (Unit × (List (Int × (Am.Id × Unit)) × (Int × (Int × (List (Int × (Am.Id × Unit)) × (Int × (Int × Unit)))))))) × ((Int × (Am.Id × Unit)) × Unit)) → Option (((Bool × Unit) × Unit) ⊕ (((List (Int × (Am.Id × Unit)) × (List (Int × (Am.Id × Unit)) × (Int × (Int × Unit)))) × Unit) ⊕ Empty)) := shut (whl rref07Rightx7)
noncomputable def lref07Rightx7 : Lp := { m := 47, up := [], ksE := [], ksA := [], keep := [0, 4, 7, 8, 9, 24, 25, 26], sh := (.cons (.d (.sl (.pair (.int .i64) (.pair .id .unit)))) (.cons (.loc 0 0) (.cons (.d (.sl (.pair (.int .i64) (.pair .id .unit)))) (.cons (.d (.int .i64)) (.cons (.d (.int .i64)) (.cons (.d (.sl (.pair (.int .i64) (.pair .id .unit)))) (.cons (.d (.int .i64)) (.cons (.d (.int .i64)) .unit)))))))), ms := [.box (.d (.pair (.int .i64) (.pair .id .unit)))], outs := [{ e := .ret, keep := [2], ks := [], sh := (.cons (.d .bool) .unit), ms := [] }, { e := .exit 2, keep := [0, 7, 8, 9], ks := [], sh := (.cons (.d (.sl (.pair (.int .i64) (.pair .id .unit)))) (.cons (.d (.sl (.pair (.int .i64) (.pair .id .unit)))) (.cons (.d (.int .i64)) (.cons (.d (.int .i64)) .unit)))), ms := [] }], sum := fun x => (trO1 (trO1 trO0)) (wref07Rightx7 x) }
noncomputable def rref07Rightx2 (x : ((List (Int × (Am.Id × Unit)) × (List (Int × (Am.Id × Unit)) × (Int × (Int × Unit)))) × Unit)) : Option (((List (Int × (Am.Id × Unit)) × (List (Int × (Am.Id × Unit)) × (Int × (Int × Unit)))) × Unit) ⊕ (((Bool × Unit) × Unit) ⊕ (((List (Int × (Am.Id × Unit)) × Unit) × Unit) ⊕ Empty))) := match x with
  | ((x0, (x1, (x2, (x3, ())))), ()) => bif ilt x3 x2 then bif bif ile 0 x3 then ilt x3 (dlen x1) else false then bif bif ilt (dget ((Ty.int IntKind.i64).pair (Ty.id.pair Ty.unit)) x1 x3).fst 0 then false else true then bif ilt 15 (dget ((Ty.int IntKind.i64).pair (Ty.id.pair Ty.unit)) x1 x3).fst then some (Sum.inr (Sum.inl ((false, ()), ()))) else bif bif bif ile 0 0 then ile 0 x3 else false then ile x3 (dlen x0) else false then bL (wref07Rightx7 ((x0, (), x1, x2, x3, dsub x0 0 x3, dlen (dsub x0 0 x3), 0, ()), dget ((Ty.int IntKind.i64).pair (Ty.id.pair Ty.unit)) x1 x3, ())) (fun v0 => some (Sum.inr (Sum.inl v0))) fun u0 => bL u0 (fun v1 => some (Sum.inl ((v1.fst.fst, v1.fst.snd.fst, v1.fst.snd.snd.fst, iwrap IntKind.i64 (iadd v1.fst.snd.snd.snd.fst 1), ()), ()))) fun u1 => none else none else some (Sum.inr (Sum.inl ((false, ()), ()))) else none else some (Sum.inr (Sum.inr (Sum.inl ((x0, ()), ()))))
noncomputable def wref07Rightx2 : ((List (Int × (Am.Id × Unit)) × (List (Int × (Am.Id × Unit)) × (Int × (Int × Unit)))) × Unit) → Option (((Bool × Unit) × Unit) ⊕ (((List (Int × (Am.Id × Unit)) × Unit) × Unit) ⊕ Empty)) := shut (whl rref07Rightx2)
noncomputable def lref07Rightx2 : Lp := { m := 47, up := [], ksE := [], ksA := [], keep := [0, 7, 8, 9], sh := (.cons (.d (.sl (.pair (.int .i64) (.pair .id .unit)))) (.cons (.d (.sl (.pair (.int .i64) (.pair .id .unit)))) (.cons (.d (.int .i64)) (.cons (.d (.int .i64)) .unit)))), ms := [], outs := [{ e := .ret, keep := [2], ks := [], sh := (.cons (.d .bool) .unit), ms := [] }, { e := .exit 0, keep := [0], ks := [], sh := (.cons (.d (.sl (.pair (.int .i64) (.pair .id .unit)))) .unit), ms := [] }], sum := fun x => (trO1 (trO1 trO0)) (wref07Rightx2 x) }
noncomputable def bref07Right (x : ((List (Int × (Am.Id × Unit)) × Unit) × Unit)) : Option ((Bool × Unit) × Unit) := match x with
  | ((x0, ()), ()) => bL (wref07Rightx2 ((x0, x0, dlen x0, 0, ()), ())) (fun v0 => some v0) fun u0 => bL u0 (fun v1 => some ((ile (dlen v1.fst.fst) 16, ()), ())) fun u1 => none
noncomputable def oref07Right : ((List (Int × (Am.Id × Unit)) × Unit) × Unit) → Option ((Bool × Unit) × Unit) := shut bref07Right
theorem oref07Right_eq (x) : oref07Right x = bref07Right x := by rw [oref07Right, shut_eq]
theorem wref07Rightx7_eq (x) : wref07Rightx7 x = whl rref07Rightx7 x := by rw [wref07Rightx7, shut_eq]
theorem wref07Rightx2_eq (x) : wref07Rightx2 x = whl rref07Rightx2 x := by rw [wref07Rightx2, shut_eq]
noncomputable def cref07Right : Ct := { ash := (.cons (.d (.sl (.pair (.int .i64) (.pair .id .unit)))) .unit), ms := [], foot := false, up := [], rsh := (.cons (.d .bool) .unit), ks := [], ms' := [], G := fun x => trS (oref07Right x) }
noncomputable def Eref07Right : Env := mkE Try.prog [] [] 19 [(2, .sum lref07Rightx2), (7, .sum lref07Rightx7)] [] 0
theorem rdref07Rightx7 : ∀ x, round1 Eref07Right 19 lref07Rightx7 (loopAt Try.prog 19 1) x = rref07Rightx7 x
  | ((x0, ((), (x1, (x2, (x3, (x4, (x5, (x6, ())))))))), (x7, ())) => by kernel_rfl
theorem rdref07Rightx2 : ∀ x, round1 Eref07Right 19 lref07Rightx2 (loopAt Try.prog 19 0) x = rref07Rightx2 x
  | ((x0, (x1, (x2, (x3, ())))), ()) => by kernel_rfl
theorem runref07Right : ∀ x, run Eref07Right 19 cref07Right x = bref07Right x
  | ((x0, ()), ()) => by kernel_rfl
theorem Sref07Right : Spec Try.prog 19 cref07Right.fc :=
  spec_fn (bs := [loopAt Try.prog 19 0, loopAt Try.prog 19 1]) (inl := []) (ls := [(2, .sum lref07Rightx2), (7, .sum lref07Rightx7)]) mixed hcs_nil (by kernel_rfl) (by kernel_rfl) (by decide) (by kernel_rfl) ⟨by kernel_rfl, lkOk_mk rdref07Rightx2 (fun x => ((trO1_get (trO1_get trO0_get)) _).trans (wref07Rightx2_eq x)) rfl, ⟨by kernel_rfl, lkOk_mk rdref07Rightx7 (fun x => ((trO1_get (trO1_get trO0_get)) _).trans (wref07Rightx7_eq x)) rfl, trivial⟩⟩ oref07Right (fun x => trS_get (oref07Right x)) (fun x => (runref07Right x).trans (oref07Right_eq x).symm)
/- function 33: (.d (.int .i64)) -/
noncomputable def rref01Powerx4 (x : ((Int × (Unit × (Unit × (UInt8 × (Int × Unit))))) × (Am.Id × (Am.Id × Unit)))) : Option (((Int × (Unit × (Unit × (UInt8 × (Int × Unit))))) × (Am.Id × (Am.Id × Unit))) ⊕ (((Int × (Unit × (Unit × (UInt8 × Unit)))) × (Am.Id × (Am.Id × Unit))) ⊕ Empty)) := match x with
  | ((x0, ((), ((), (x1, (x2, ()))))), (x3, (x4, ()))) => bif bif ieq 8 0 then false else true then bif ilt x2 (irem x0 8) then some (Sum.inl ((x0, (), (), iu8 (iwrap IntKind.u8 (imul (u8i (iu8 2)) (u8i x1))), iwrap IntKind.i64 (iadd x2 1), ()), x3, x4, ())) else some (Sum.inr (Sum.inl ((x0, (), (), x1, ()), x3, x4, ()))) else none
noncomputable def wref01Powerx4 : ((Int × (Unit × (Unit × (UInt8 × (Int × Unit))))) × (Am.Id × (Am.Id × Unit))) → Option (((Int × (Unit × (Unit × (UInt8 × Unit)))) × (Am.Id × (Am.Id × Unit))) ⊕ Empty) := shut (whl rref01Powerx4)
noncomputable def lref01Powerx4 : Lp := { m := 21, up := [], ksE := [], ksA := [], keep := [0, 2, 3, 4, 5], sh := (.cons (.d (.int .i64)) (.cons (.loc 0 0) (.cons (.loc 1 0) (.cons (.d .u8) (.cons (.d (.int .i64)) .unit))))), ms := [.box (.d .id), .box (.d .id)], outs := [{ e := .exit 0, keep := [0, 2, 3, 4], ks := [], sh := (.cons (.d (.int .i64)) (.cons (.loc 0 0) (.cons (.loc 1 0) (.cons (.d .u8) .unit)))), ms := [.box (.d .id), .box (.d .id)] }], sum := fun x => (trO1 trO0) (wref01Powerx4 x) }
noncomputable def bref01Power (x : ((Int × Unit) × Unit)) : Option ((Am.Id × Unit) × Unit) := match x with
  | ((x0, ()), ()) => bL (wref01Powerx4 ((x0, (), (), iu8 1, 0, ()), Id.zero, Id.zero, ())) (fun v0 => bif bif ieq 8 0 then false else true then bif bif ile 0 (iwrap IntKind.i64 (isub 31 (iwrap IntKind.i64 (iquo v0.fst.fst 8)))) then ilt (iwrap IntKind.i64 (isub 31 (iwrap IntKind.i64 (iquo v0.fst.fst 8)))) 32 else false then some ((idset v0.snd.snd.fst (inat (iwrap IntKind.i64 (isub 31 (iwrap IntKind.i64 (iquo v0.fst.fst 8))))) v0.fst.snd.snd.snd.fst, ()), ()) else none else none) fun u0 => none
noncomputable def oref01Power : ((Int × Unit) × Unit) → Option ((Am.Id × Unit) × Unit) := shut bref01Power
theorem oref01Power_eq (x) : oref01Power x = bref01Power x := by rw [oref01Power, shut_eq]
theorem wref01Powerx4_eq (x) : wref01Powerx4 x = whl rref01Powerx4 x := by rw [wref01Powerx4, shut_eq]
noncomputable def cref01Power : Ct := { ash := (.cons (.d (.int .i64)) .unit), ms := [], foot := false, up := [], rsh := (.cons (.d .id) .unit), ks := [], ms' := [], G := fun x => trS (oref01Power x) }
noncomputable def Eref01Power : Env := mkE Try.prog [] [] 33 [(4, .sum lref01Powerx4)] [] 0
theorem rdref01Powerx4 : ∀ x, round1 Eref01Power 33 lref01Powerx4 (loopAt Try.prog 33 0) x = rref01Powerx4 x
  | ((x0, ((), ((), (x1, (x2, ()))))), (x3, (x4, ()))) => by kernel_rfl
theorem runref01Power : ∀ x, run Eref01Power 33 cref01Power x = bref01Power x
  | ((x0, ()), ()) => by kernel_rfl
theorem Sref01Power : Spec Try.prog 33 cref01Power.fc :=
  spec_fn (bs := [loopAt Try.prog 33 0]) (inl := []) (ls := [(4, .sum lref01Powerx4)]) mixed hcs_nil (by kernel_rfl) (by kernel_rfl) (by decide) (by kernel_rfl) ⟨by kernel_rfl, lkOk_mk rdref01Powerx4 (fun x => ((trO1_get trO0_get) _).trans (wref01Powerx4_eq x)) rfl, trivial⟩ oref01Power (fun x => trS_get (oref01Power x)) (fun x => (runref01Power x).trans (oref01Power_eq x).symm)
/- function 32: (.d .id) (.d .id) -/
noncomputable def rref01Addx4 (x : ((Unit × (Unit × (Unit × (Unit × (Int × (Int × Unit)))))) × (Am.Id × (Am.Id × (Am.Id × (Am.Id × Unit)))))) : Option (((Unit × (Unit × (Unit × (Unit × (Int × (Int × Unit)))))) × (Am.Id × (Am.Id × (Am.Id × (Am.Id × Unit))))) ⊕ (((Unit × (Unit × Unit)) × (Am.Id × (Am.Id × Unit))) ⊕ Empty)) := match x with
  | (((), ((), ((), ((), (x0, (x1, ())))))), (x2, (x3, (x4, (x5, ()))))) => bif ile 0 x1 then bif bif ile 0 x1 then ilt x1 32 else false then bif bif ile 0 x1 then ilt x1 32 else false then bif bif ieq 256 0 then false else true then bif bif ile 0 x1 then ilt x1 32 else false then bif bif ieq 256 0 then false else true then some (Sum.inl (((), (), (), (), iwrap IntKind.i64 (iquo (iwrap IntKind.i64 (iadd (iwrap IntKind.i64 (iadd (iwrap IntKind.i64 (u8i (idget x2 (inat x1)))) (iwrap IntKind.i64 (u8i (idget x3 (inat x1)))))) x0)) 256), iwrap IntKind.i64 (isub x1 1), ()), x2, x3, x4, idset x5 (inat x1) (iu8 (iwrap IntKind.u8 (irem (iwrap IntKind.i64 (iadd (iwrap IntKind.i64 (iadd (iwrap IntKind.i64 (u8i (idget x2 (inat x1)))) (iwrap IntKind.i64 (u8i (idget x3 (inat x1)))))) x0)) 256))), ())) else none else none else none else none else none else some (Sum.inr (Sum.inl (((), (), ()), x4, x5, ())))
noncomputable def wref01Addx4 : ((Unit × (Unit × (Unit × (Unit × (Int × (Int × Unit)))))) × (Am.Id × (Am.Id × (Am.Id × (Am.Id × Unit))))) → Option (((Unit × (Unit × Unit)) × (Am.Id × (Am.Id × Unit))) ⊕ Empty) := shut (whl rref01Addx4)
noncomputable def lref01Addx4 : Lp := { m := 33, up := [], ksE := [], ksA := [], keep := [2, 3, 4, 5, 6, 7], sh := (.cons (.loc 0 0) (.cons (.loc 1 0) (.cons (.loc 2 0) (.cons (.loc 3 0) (.cons (.d (.int .i64)) (.cons (.d (.int .i64)) .unit)))))), ms := [.box (.d .id), .box (.d .id), .box (.d .id), .box (.d .id)], outs := [{ e := .exit 0, keep := [4, 5], ks := [], sh := (.cons (.loc 0 0) (.cons (.loc 1 0) .unit)), ms := [.box (.d .id), .box (.d .id)] }], sum := fun x => (trO1 trO0) (wref01Addx4 x) }
noncomputable def bref01Add (x : ((Am.Id × (Am.Id × Unit)) × Unit)) : Option ((Am.Id × Unit) × Unit) := match x with
  | ((x0, (x1, ())), ()) => bL (wref01Addx4 (((), (), (), (), 0, 31, ()), x0, x1, Id.zero, Id.zero, ())) (fun v0 => some (v0.snd.snd, ())) fun u0 => none
noncomputable def oref01Add : ((Am.Id × (Am.Id × Unit)) × Unit) → Option ((Am.Id × Unit) × Unit) := shut bref01Add
theorem oref01Add_eq (x) : oref01Add x = bref01Add x := by rw [oref01Add, shut_eq]
theorem wref01Addx4_eq (x) : wref01Addx4 x = whl rref01Addx4 x := by rw [wref01Addx4, shut_eq]
noncomputable def cref01Add : Ct := { ash := (.cons (.d .id) (.cons (.d .id) .unit)), ms := [], foot := false, up := [], rsh := (.cons (.d .id) .unit), ks := [], ms' := [], G := fun x => trS (oref01Add x) }
noncomputable def Eref01Add : Env := mkE Try.prog [] [] 32 [(4, .sum lref01Addx4)] [] 0
theorem rdref01Addx4 : ∀ x, round1 Eref01Add 32 lref01Addx4 (loopAt Try.prog 32 0) x = rref01Addx4 x
  | (((), ((), ((), ((), (x0, (x1, ())))))), (x2, (x3, (x4, (x5, ()))))) => by kernel_rfl
theorem runref01Add : ∀ x, run Eref01Add 32 cref01Add x = bref01Add x
  | ((x0, (x1, ())), ()) => by kernel_rfl
theorem Sref01Add : Spec Try.prog 32 cref01Add.fc :=
  spec_fn (bs := [loopAt Try.prog 32 0]) (inl := []) (ls := [(4, .sum lref01Addx4)]) mixed hcs_nil (by kernel_rfl) (by kernel_rfl) (by decide) (by kernel_rfl) ⟨by kernel_rfl, lkOk_mk rdref01Addx4 (fun x => ((trO1_get trO0_get) _).trans (wref01Addx4_eq x)) rfl, trivial⟩ oref01Add (fun x => trS_get (oref01Add x)) (fun x => (runref01Add x).trans (oref01Add_eq x).symm)
/- function 18: (.d (.pair (.int .i64) (.pair .id .unit))) (.d (.int .i64)) -/
noncomputable def bref08Goal (x : (((Int × (Am.Id × Unit)) × (Int × Unit)) × Unit)) : Option ((Am.Id × Unit) × Unit) := match x with
  | ((x0, (x1, ())), ()) => bS (oref01Power ((iwrap IntKind.i64 (iadd 240 x1), ()), ())) fun v0 => bS (oref01Add ((x0.snd.fst, v0.fst), ())) fun v1 => some v1
noncomputable def oref08Goal : (((Int × (Am.Id × Unit)) × (Int × Unit)) × Unit) → Option ((Am.Id × Unit) × Unit) := shut bref08Goal
theorem oref08Goal_eq (x) : oref08Goal x = bref08Goal x := by rw [oref08Goal, shut_eq]
noncomputable def cref08Goal : Ct := { ash := (.cons (.d (.pair (.int .i64) (.pair .id .unit))) (.cons (.d (.int .i64)) .unit)), ms := [], foot := false, up := [], rsh := (.cons (.d .id) .unit), ks := [], ms' := [], G := fun x => trS (oref08Goal x) }
noncomputable def Eref08Goal : Env := mkE Try.prog [(33, cref01Power.fc), (32, cref01Add.fc)] [] 18 [] [] 0
theorem runref08Goal : ∀ x, run Eref08Goal 18 cref08Goal x = bref08Goal x
  | ((x0, (x1, ())), ()) => by kernel_rfl
theorem Sref08Goal : Spec Try.prog 18 cref08Goal.fc :=
  spec_fn (bs := []) (inl := []) (ls := []) mixed (hcs_cons Sref01Power (hcs_cons Sref01Add hcs_nil)) (by kernel_rfl) (by kernel_rfl) (by decide) (by kernel_rfl) trivial oref08Goal (fun x => trS_get (oref08Goal x)) (fun x => (runref08Goal x).trans (oref08Goal_eq x).symm)
/- function 20: (.d (.sl (.pair (.int .i64) (.pair .id .unit)))) (.d (.int .i64)) -/
noncomputable def rref07Findx2 (x : ((Int × (Unit × (List (Int × (Am.Id × Unit)) × (Int × (Int × Unit))))) × ((Int × (Am.Id × Unit)) × Unit))) : Option (((Int × (Unit × (List (Int × (Am.Id × Unit)) × (Int × (Int × Unit))))) × ((Int × (Am.Id × Unit)) × Unit)) ⊕ (((Unit × Unit) × ((Int × (Am.Id × Unit)) × Unit)) ⊕ (((Unit × Unit) × ((Int × (Am.Id × Unit)) × Unit)) ⊕ Empty))) := match x with
  | ((x0, ((), (x1, (x2, (x3, ()))))), (x4, ())) => bif ilt x3 x2 then bif bif ile 0 x3 then ilt x3 (dlen x1) else false then bif ieq (dget ((Ty.int IntKind.i64).pair (Ty.id.pair Ty.unit)) x1 x3).fst x0 then some (Sum.inr (Sum.inl (((), ()), dget ((Ty.int IntKind.i64).pair (Ty.id.pair Ty.unit)) x1 x3, ()))) else some (Sum.inl ((x0, (), x1, x2, iwrap IntKind.i64 (iadd x3 1), ()), x4, ())) else none else some (Sum.inr (Sum.inr (Sum.inl (((), ()), x4, ()))))
noncomputable def wref07Findx2 : ((Int × (Unit × (List (Int × (Am.Id × Unit)) × (Int × (Int × Unit))))) × ((Int × (Am.Id × Unit)) × Unit)) → Option (((Unit × Unit) × ((Int × (Am.Id × Unit)) × Unit)) ⊕ (((Unit × Unit) × ((Int × (Am.Id × Unit)) × Unit)) ⊕ Empty)) := shut (whl rref07Findx2)
noncomputable def lref07Findx2 : Lp := { m := 20, up := [], ksE := [], ksA := [], keep := [1, 4, 7, 8, 9], sh := (.cons (.d (.int .i64)) (.cons (.loc 0 0) (.cons (.d (.sl (.pair (.int .i64) (.pair .id .unit)))) (.cons (.d (.int .i64)) (.cons (.d (.int .i64)) .unit))))), ms := [.box (.d (.pair (.int .i64) (.pair .id .unit)))], outs := [{ e := .ret, keep := [4], ks := [], sh := (.cons (.loc 0 0) .unit), ms := [.box (.d (.pair (.int .i64) (.pair .id .unit)))] }, { e := .exit 0, keep := [4], ks := [], sh := (.cons (.loc 0 0) .unit), ms := [.box (.d (.pair (.int .i64) (.pair .id .unit)))] }], sum := fun x => (trO1 (trO1 trO0)) (wref07Findx2 x) }
noncomputable def bref07Find (x : ((List (Int × (Am.Id × Unit)) × (Int × Unit)) × Unit)) : Option (((Int × (Am.Id × Unit)) × Unit) × Unit) := match x with
  | ((x0, (x1, ())), ()) => bL (wref07Findx2 ((x1, (), x0, dlen x0, 0, ()), (0, Id.zero, ()), ())) (fun v0 => some (v0.snd, ())) fun u0 => bL u0 (fun v1 => some (((-1, Id.zero, ()), ()), ())) fun u1 => none
noncomputable def oref07Find : ((List (Int × (Am.Id × Unit)) × (Int × Unit)) × Unit) → Option (((Int × (Am.Id × Unit)) × Unit) × Unit) := shut bref07Find
theorem oref07Find_eq (x) : oref07Find x = bref07Find x := by rw [oref07Find, shut_eq]
theorem wref07Findx2_eq (x) : wref07Findx2 x = whl rref07Findx2 x := by rw [wref07Findx2, shut_eq]
noncomputable def cref07Find : Ct := { ash := (.cons (.d (.sl (.pair (.int .i64) (.pair .id .unit)))) (.cons (.d (.int .i64)) .unit)), ms := [], foot := false, up := [], rsh := (.cons (.d (.pair (.int .i64) (.pair .id .unit))) .unit), ks := [], ms' := [], G := fun x => trS (oref07Find x) }
noncomputable def Eref07Find : Env := mkE Try.prog [] [] 20 [(2, .sum lref07Findx2)] [] 0
theorem rdref07Findx2 : ∀ x, round1 Eref07Find 20 lref07Findx2 (loopAt Try.prog 20 0) x = rref07Findx2 x
  | ((x0, ((), (x1, (x2, (x3, ()))))), (x4, ())) => by kernel_rfl
theorem runref07Find : ∀ x, run Eref07Find 20 cref07Find x = bref07Find x
  | ((x0, (x1, ())), ()) => by kernel_rfl
theorem Sref07Find : Spec Try.prog 20 cref07Find.fc :=
  spec_fn (bs := [loopAt Try.prog 20 0]) (inl := []) (ls := [(2, .sum lref07Findx2)]) mixed hcs_nil (by kernel_rfl) (by kernel_rfl) (by decide) (by kernel_rfl) ⟨by kernel_rfl, lkOk_mk rdref07Findx2 (fun x => ((trO1_get (trO1_get trO0_get)) _).trans (wref07Findx2_eq x)) rfl, trivial⟩ oref07Find (fun x => trS_get (oref07Find x)) (fun x => (runref07Find x).trans (oref07Find_eq x).symm)
/- function 46: (.d .id) -/
noncomputable def rref01Notx3 (x : ((Unit × (Unit × (Unit × (Int × Unit)))) × (Am.Id × (Am.Id × (Am.Id × Unit))))) : Option (((Unit × (Unit × (Unit × (Int × Unit)))) × (Am.Id × (Am.Id × (Am.Id × Unit)))) ⊕ (((Unit × (Unit × Unit)) × (Am.Id × (Am.Id × Unit))) ⊕ Empty)) := match x with
  | (((), ((), ((), (x0, ())))), (x1, (x2, (x3, ())))) => bif ilt x0 32 then bif bif ile 0 x0 then ilt x0 32 else false then bif bif ile 0 x0 then ilt x0 32 else false then some (Sum.inl (((), (), (), iwrap IntKind.i64 (iadd x0 1), ()), x1, x2, idset x3 (inat x0) (iu8 (iwrap IntKind.u8 (isub (u8i (iu8 255)) (u8i (idget x1 (inat x0)))))), ())) else none else none else some (Sum.inr (Sum.inl (((), (), ()), x2, x3, ())))
noncomputable def wref01Notx3 : ((Unit × (Unit × (Unit × (Int × Unit)))) × (Am.Id × (Am.Id × (Am.Id × Unit)))) → Option (((Unit × (Unit × Unit)) × (Am.Id × (Am.Id × Unit))) ⊕ Empty) := shut (whl rref01Notx3)
noncomputable def lref01Notx3 : Lp := { m := 17, up := [], ksE := [], ksA := [], keep := [1, 2, 3, 4], sh := (.cons (.loc 0 0) (.cons (.loc 1 0) (.cons (.loc 2 0) (.cons (.d (.int .i64)) .unit)))), ms := [.box (.d .id), .box (.d .id), .box (.d .id)], outs := [{ e := .exit 0, keep := [2, 3], ks := [], sh := (.cons (.loc 0 0) (.cons (.loc 1 0) .unit)), ms := [.box (.d .id), .box (.d .id)] }], sum := fun x => (trO1 trO0) (wref01Notx3 x) }
noncomputable def bref01Not (x : ((Am.Id × Unit) × Unit)) : Option ((Am.Id × Unit) × Unit) := match x with
  | ((x0, ()), ()) => bL (wref01Notx3 (((), (), (), 0, ()), x0, Id.zero, Id.zero, ())) (fun v0 => some (v0.snd.snd, ())) fun u0 => none
noncomputable def oref01Not : ((Am.Id × Unit) × Unit) → Option ((Am.Id × Unit) × Unit) := shut bref01Not
theorem oref01Not_eq (x) : oref01Not x = bref01Not x := by rw [oref01Not, shut_eq]
theorem wref01Notx3_eq (x) : wref01Notx3 x = whl rref01Notx3 x := by rw [wref01Notx3, shut_eq]
noncomputable def cref01Not : Ct := { ash := (.cons (.d .id) .unit), ms := [], foot := false, up := [], rsh := (.cons (.d .id) .unit), ks := [], ms' := [], G := fun x => trS (oref01Not x) }
noncomputable def Eref01Not : Env := mkE Try.prog [] [] 46 [(3, .sum lref01Notx3)] [] 0
theorem rdref01Notx3 : ∀ x, round1 Eref01Not 46 lref01Notx3 (loopAt Try.prog 46 0) x = rref01Notx3 x
  | (((), ((), ((), (x0, ())))), (x1, (x2, (x3, ())))) => by kernel_rfl
theorem runref01Not : ∀ x, run Eref01Not 46 cref01Not x = bref01Not x
  | ((x0, ()), ()) => by kernel_rfl
theorem Sref01Not : Spec Try.prog 46 cref01Not.fc :=
  spec_fn (bs := [loopAt Try.prog 46 0]) (inl := []) (ls := [(3, .sum lref01Notx3)]) mixed hcs_nil (by kernel_rfl) (by kernel_rfl) (by decide) (by kernel_rfl) ⟨by kernel_rfl, lkOk_mk rdref01Notx3 (fun x => ((trO1_get trO0_get) _).trans (wref01Notx3_eq x)) rfl, trivial⟩ oref01Not (fun x => trS_get (oref01Not x)) (fun x => (runref01Not x).trans (oref01Not_eq x).symm)
/- function 42: (.d .id) (.d .id) -/
noncomputable def bref01Far (x : ((Am.Id × (Am.Id × Unit)) × Unit)) : Option ((Am.Id × Unit) × Unit) := match x with
  | ((x0, (x1, ())), ()) => bS (oref01Not ((x0, ()), ())) fun v0 => bS (oref01Add ((x1, v0.fst), ())) fun v1 => bS (oref01Power ((0, ()), ())) fun v2 => bS (oref01Add ((v1.fst.fst, v2.fst), ())) fun v3 => some v3
noncomputable def oref01Far : ((Am.Id × (Am.Id × Unit)) × Unit) → Option ((Am.Id × Unit) × Unit) := shut bref01Far
theorem oref01Far_eq (x) : oref01Far x = bref01Far x := by rw [oref01Far, shut_eq]
noncomputable def cref01Far : Ct := { ash := (.cons (.d .id) (.cons (.d .id) .unit)), ms := [], foot := false, up := [], rsh := (.cons (.d .id) .unit), ks := [], ms' := [], G := fun x => trS (oref01Far x) }
noncomputable def Eref01Far : Env := mkE Try.prog [(46, cref01Not.fc), (32, cref01Add.fc), (33, cref01Power.fc)] [] 42 [] [] 0
theorem runref01Far : ∀ x, run Eref01Far 42 cref01Far x = bref01Far x
  | ((x0, (x1, ())), ()) => by kernel_rfl
theorem Sref01Far : Spec Try.prog 42 cref01Far.fc :=
  spec_fn (bs := []) (inl := []) (ls := []) mixed (hcs_cons Sref01Not (hcs_cons Sref01Add (hcs_cons Sref01Power hcs_nil))) (by kernel_rfl) (by kernel_rfl) (by decide) (by kernel_rfl) trivial oref01Far (fun x => trS_get (oref01Far x)) (fun x => (runref01Far x).trans (oref01Far_eq x).symm)
/- function 34: (.d (.sl (.pair (.int .i64) (.pair .id .unit)))) (.d .id) -/
noncomputable def rref07Ownerx3 (x : ((Unit × (Unit × (Unit × (List (Int × (Am.Id × Unit)) × (Int × (Int × Unit)))))) × (Am.Id × ((Int × (Am.Id × Unit)) × ((Int × (Am.Id × Unit)) × Unit))))) : Option (((Unit × (Unit × (Unit × (List (Int × (Am.Id × Unit)) × (Int × (Int × Unit)))))) × (Am.Id × ((Int × (Am.Id × Unit)) × ((Int × (Am.Id × Unit)) × Unit)))) ⊕ (((Unit × (Unit × Unit)) × ((Int × (Am.Id × Unit)) × ((Int × (Am.Id × Unit)) × Unit))) ⊕ Empty)) := match x with
  | (((), ((), ((), (x0, (x1, (x2, ())))))), (x3, (x4, (x5, ())))) => bif ilt x2 x1 then bif bif ile 0 x2 then ilt x2 (dlen x0) else false then bif bif ilt x5.fst 0 then false else true then bS (oref01Far ((x3, (dget ((Ty.int IntKind.i64).pair (Ty.id.pair Ty.unit)) x0 x2).snd), ())) fun v0 => bS (oref01Far ((x3, x5.snd), ())) fun v1 => bS (oref01Compare ((v0.fst.fst, v1.fst), ())) fun v2 => bif ilt v2.fst.fst 0 then some (Sum.inl (((), (), (), x0, x1, iwrap IntKind.i64 (iadd x2 1), ()), x3, x4, dget ((Ty.int IntKind.i64).pair (Ty.id.pair Ty.unit)) x0 x2, ())) else some (Sum.inl (((), (), (), x0, x1, iwrap IntKind.i64 (iadd x2 1), ()), x3, x4, x5, ())) else some (Sum.inl (((), (), (), x0, x1, iwrap IntKind.i64 (iadd x2 1), ()), x3, x4, dget ((Ty.int IntKind.i64).pair (Ty.id.pair Ty.unit)) x0 x2, ())) else none else some (Sum.inr (Sum.inl (((), (), ()), x4, x5, ())))
noncomputable def wref07Ownerx3 : ((Unit × (Unit × (Unit × (List (Int × (Am.Id × Unit)) × (Int × (Int × Unit)))))) × (Am.Id × ((Int × (Am.Id × Unit)) × ((Int × (Am.Id × Unit)) × Unit)))) → Option (((Unit × (Unit × Unit)) × ((Int × (Am.Id × Unit)) × ((Int × (Am.Id × Unit)) × Unit))) ⊕ Empty) := shut (whl rref07Ownerx3)
noncomputable def lref07Ownerx3 : Lp := { m := 33, up := [], ksE := [], ksA := [], keep := [3, 4, 5, 9, 10, 11], sh := (.cons (.loc 0 0) (.cons (.loc 1 0) (.cons (.loc 2 0) (.cons (.d (.sl (.pair (.int .i64) (.pair .id .unit)))) (.cons (.d (.int .i64)) (.cons (.d (.int .i64)) .unit)))))), ms := [.box (.d .id), .box (.d (.pair (.int .i64) (.pair .id .unit))), .box (.d (.pair (.int .i64) (.pair .id .unit)))], outs := [{ e := .exit 0, keep := [4, 5], ks := [], sh := (.cons (.loc 0 0) (.cons (.loc 1 0) .unit)), ms := [.box (.d (.pair (.int .i64) (.pair .id .unit))), .box (.d (.pair (.int .i64) (.pair .id .unit)))] }], sum := fun x => (trO1 trO0) (wref07Ownerx3 x) }
noncomputable def bref07Owner (x : ((List (Int × (Am.Id × Unit)) × (Am.Id × Unit)) × Unit)) : Option (((Int × (Am.Id × Unit)) × Unit) × Unit) := match x with
  | ((x0, (x1, ())), ()) => bL (wref07Ownerx3 (((), (), (), x0, dlen x0, 0, ()), x1, (0, Id.zero, ()), (-1, Id.zero, ()), ())) (fun v0 => some (v0.snd.snd, ())) fun u0 => none
noncomputable def oref07Owner : ((List (Int × (Am.Id × Unit)) × (Am.Id × Unit)) × Unit) → Option (((Int × (Am.Id × Unit)) × Unit) × Unit) := shut bref07Owner
theorem oref07Owner_eq (x) : oref07Owner x = bref07Owner x := by rw [oref07Owner, shut_eq]
theorem wref07Ownerx3_eq (x) : wref07Ownerx3 x = whl rref07Ownerx3 x := by rw [wref07Ownerx3, shut_eq]
noncomputable def cref07Owner : Ct := { ash := (.cons (.d (.sl (.pair (.int .i64) (.pair .id .unit)))) (.cons (.d .id) .unit)), ms := [], foot := false, up := [], rsh := (.cons (.d (.pair (.int .i64) (.pair .id .unit))) .unit), ks := [], ms' := [], G := fun x => trS (oref07Owner x) }
noncomputable def Eref07Owner : Env := mkE Try.prog [(42, cref01Far.fc), (40, cref01Compare.fc)] [] 34 [(3, .sum lref07Ownerx3)] [] 0
theorem rdref07Ownerx3 : ∀ x, round1 Eref07Owner 34 lref07Ownerx3 (loopAt Try.prog 34 0) x = rref07Ownerx3 x
  | (((), ((), ((), (x0, (x1, (x2, ())))))), (x3, (x4, (x5, ())))) => by kernel_rfl
theorem runref07Owner : ∀ x, run Eref07Owner 34 cref07Owner x = bref07Owner x
  | ((x0, (x1, ())), ()) => by kernel_rfl
theorem Sref07Owner : Spec Try.prog 34 cref07Owner.fc :=
  spec_fn (bs := [loopAt Try.prog 34 0]) (inl := []) (ls := [(3, .sum lref07Ownerx3)]) mixed (hcs_cons Sref01Far (hcs_cons Sref01Compare hcs_nil)) (by kernel_rfl) (by kernel_rfl) (by decide) (by kernel_rfl) ⟨by kernel_rfl, lkOk_mk rdref07Ownerx3 (fun x => ((trO1_get trO0_get) _).trans (wref07Ownerx3_eq x)) rfl, trivial⟩ oref07Owner (fun x => trS_get (oref07Owner x)) (fun x => (runref07Owner x).trans (oref07Owner_eq x).symm)
end Am
end Go.Proofs.Ytkpojikfadeeeaa
