/-
  Printed contracts, part 1.
-/
import Derived.Test.YtokamjlhdidefaaProg
import Derived.Test.YtokamjlhdidefaaBm24
import Derived.Test.YtokamjlhdidefaaHe
namespace Go.Proofs.Ytokamjlhdidefaa
namespace Am
open Go Go.RowKit
set_option maxRecDepth 100000
set_option linter.unusedVariables false
theorem mixed : Try.prog.follows .mixedOrders = true := rfl
/- function 9: (.d (.pair (.pair (.int .i64) (.pair .id .unit)) (.pair (.pair (.int .i64) (.pair .id .unit)) (.pair (.sl (.pair (.int .i64) (.pair .id .unit))) (.pair (.sl (.pair (.int .i64) (.pair .id .unit))) .unit))))) -/
noncomputable def blaw09Few (x : ((((Int × (Am.Id × Unit)) × ((Int × (Am.Id × Unit)) × (List (Int × (Am.Id × Unit)) × (List (Int × (Am.Id × Unit)) × Unit)))) × Unit) × Unit)) : Option ((((Int × (Am.Id × Unit)) × ((Int × (Am.Id × Unit)) × (List (Int × (Am.Id × Unit)) × (List (Int × (Am.Id × Unit)) × Unit)))) × Unit) × Unit) := match x with
  | ((x0, ()), ()) => bif bif bif ile 0 0 then ile 0 (imin (dlen x0.snd.snd.fst) 6) else false then ile (imin (dlen x0.snd.snd.fst) 6) (dlen x0.snd.snd.fst) else false then bif bif bif ile 0 0 then ile 0 (imin (dlen x0.snd.snd.snd.fst) 18) else false then ile (imin (dlen x0.snd.snd.snd.fst) 18) (dlen x0.snd.snd.snd.fst) else false then some (((x0.fst, x0.snd.fst, dsub x0.snd.snd.fst 0 (imin (dlen x0.snd.snd.fst) 6), dsub x0.snd.snd.snd.fst 0 (imin (dlen x0.snd.snd.snd.fst) 18), ()), ()), ()) else none else none
noncomputable def olaw09Few : ((((Int × (Am.Id × Unit)) × ((Int × (Am.Id × Unit)) × (List (Int × (Am.Id × Unit)) × (List (Int × (Am.Id × Unit)) × Unit)))) × Unit) × Unit) → Option ((((Int × (Am.Id × Unit)) × ((Int × (Am.Id × Unit)) × (List (Int × (Am.Id × Unit)) × (List (Int × (Am.Id × Unit)) × Unit)))) × Unit) × Unit) := shut blaw09Few
theorem olaw09Few_eq (x) : olaw09Few x = blaw09Few x := by rw [olaw09Few, shut_eq]
noncomputable def claw09Few : Ct := { ash := (.cons (.d (.pair (.pair (.int .i64) (.pair .id .unit)) (.pair (.pair (.int .i64) (.pair .id .unit)) (.pair (.sl (.pair (.int .i64) (.pair .id .unit))) (.pair (.sl (.pair (.int .i64) (.pair .id .unit))) .unit))))) .unit), ms := [], foot := false, up := [], rsh := (.cons (.d (.pair (.pair (.int .i64) (.pair .id .unit)) (.pair (.pair (.int .i64) (.pair .id .unit)) (.pair (.sl (.pair (.int .i64) (.pair .id .unit))) (.pair (.sl (.pair (.int .i64) (.pair .id .unit))) .unit))))) .unit), ks := [], ms' := [], G := fun x => trS (olaw09Few x) }
noncomputable def Elaw09Few : Env := mkE Try.prog [] [46, 57] 9 [] [] 0
theorem runlaw09Few : ∀ x, run Elaw09Few 9 claw09Few x = blaw09Few x
  | ((x0, ()), ()) => by kernel_rfl
theorem Slaw09Few : Spec Try.prog 9 claw09Few.fc :=
  spec_fn (bs := []) (inl := [46, 57]) (ls := []) mixed hcs_nil (by kernel_rfl) (by kernel_rfl) (by decide) (by kernel_rfl) trivial olaw09Few (fun x => trS_get (olaw09Few x)) (fun x => (runlaw09Few x).trans (olaw09Few_eq x).symm)
/- function 32: (.d (.pair (.int .i64) (.pair .id .unit))) -/
noncomputable def bnodeMay (x : (((Int × (Am.Id × Unit)) × Unit) × Unit)) : Option ((Bool × Unit) × Unit) := match x with
  | ((x0, ()), ()) => bif ile 0 x0.fst then some ((ilt x0.fst 16, ()), ()) else some ((false, ()), ())
noncomputable def onodeMay : (((Int × (Am.Id × Unit)) × Unit) × Unit) → Option ((Bool × Unit) × Unit) := shut bnodeMay
theorem onodeMay_eq (x) : onodeMay x = bnodeMay x := by rw [onodeMay, shut_eq]
noncomputable def cnodeMay : Ct := { ash := (.cons (.d (.pair (.int .i64) (.pair .id .unit))) .unit), ms := [], foot := false, up := [], rsh := (.cons (.d .bool) .unit), ks := [], ms' := [], G := fun x => trS (onodeMay x) }
noncomputable def EnodeMay : Env := mkE Try.prog [] [46, 57] 32 [] [] 0
theorem runnodeMay : ∀ x, run EnodeMay 32 cnodeMay x = bnodeMay x
  | ((x0, ()), ()) => by kernel_rfl
theorem SnodeMay : Spec Try.prog 32 cnodeMay.fc :=
  spec_fn (bs := []) (inl := [46, 57]) (ls := []) mixed hcs_nil (by kernel_rfl) (by kernel_rfl) (by decide) (by kernel_rfl) trivial onodeMay (fun x => trS_get (onodeMay x)) (fun x => (runnodeMay x).trans (onodeMay_eq x).symm)
/- function 33:  -/
noncomputable def bnodeNone (x : (Unit × Unit)) : Option (((Int × (Am.Id × Unit)) × Unit) × Unit) := match x with
  | ((), ()) => some (((-1, Id.zero, ()), ()), ())
noncomputable def onodeNone : (Unit × Unit) → Option (((Int × (Am.Id × Unit)) × Unit) × Unit) := shut bnodeNone
theorem onodeNone_eq (x) : onodeNone x = bnodeNone x := by rw [onodeNone, shut_eq]
noncomputable def cnodeNone : Ct := { ash := .unit, ms := [], foot := false, up := [], rsh := (.cons (.d (.pair (.int .i64) (.pair .id .unit))) .unit), ks := [], ms' := [], G := fun x => trS (onodeNone x) }
noncomputable def EnodeNone : Env := mkE Try.prog [] [46, 57] 33 [] [] 0
theorem runnodeNone : ∀ x, run EnodeNone 33 cnodeNone x = bnodeNone x
  | ((), ()) => by kernel_rfl
theorem SnodeNone : Spec Try.prog 33 cnodeNone.fc :=
  spec_fn (bs := []) (inl := [46, 57]) (ls := []) mixed hcs_nil (by kernel_rfl) (by kernel_rfl) (by decide) (by kernel_rfl) trivial onodeNone (fun x => trS_get (onodeNone x)) (fun x => (runnodeNone x).trans (onodeNone_eq x).symm)
/- function 10: (.d (.pair (.int .i64) (.pair .id .unit))) -/
noncomputable def bnodeAlone (x : (((Int × (Am.Id × Unit)) × Unit) × Unit)) : Option ((((Int × (Am.Id × Unit)) × ((Int × (Am.Id × Unit)) × (List (Int × (Am.Id × Unit)) × (List (Int × (Am.Id × Unit)) × Unit)))) × (Int × Unit)) × Unit) := match x with
  | ((x0, ()), ()) => bS (onodeMay ((x0, ()), ())) fun v0 => bif bif v0.fst.fst then false else true then some ((((0, Id.zero, ()), (0, Id.zero, ()), [], [], ()), 1, ()), ()) else bS (onodeNone ((), ())) fun v1 => some (((x0, v1.fst.fst, [x0], [], ()), 0, ()), ())
noncomputable def onodeAlone : (((Int × (Am.Id × Unit)) × Unit) × Unit) → Option ((((Int × (Am.Id × Unit)) × ((Int × (Am.Id × Unit)) × (List (Int × (Am.Id × Unit)) × (List (Int × (Am.Id × Unit)) × Unit)))) × (Int × Unit)) × Unit) := shut bnodeAlone
theorem onodeAlone_eq (x) : onodeAlone x = bnodeAlone x := by rw [onodeAlone, shut_eq]
noncomputable def cnodeAlone : Ct := { ash := (.cons (.d (.pair (.int .i64) (.pair .id .unit))) .unit), ms := [], foot := false, up := [], rsh := (.cons (.d (.pair (.pair (.int .i64) (.pair .id .unit)) (.pair (.pair (.int .i64) (.pair .id .unit)) (.pair (.sl (.pair (.int .i64) (.pair .id .unit))) (.pair (.sl (.pair (.int .i64) (.pair .id .unit))) .unit))))) (.cons (.d (.int .i64)) .unit)), ks := [], ms' := [], G := fun x => trS (onodeAlone x) }
noncomputable def EnodeAlone : Env := mkE Try.prog [(32, cnodeMay.fc), (33, cnodeNone.fc)] [46, 57] 10 [] [] 0
theorem runnodeAlone : ∀ x, run EnodeAlone 10 cnodeAlone x = bnodeAlone x
  | ((x0, ()), ()) => by kernel_rfl
theorem SnodeAlone : Spec Try.prog 10 cnodeAlone.fc :=
  spec_fn (bs := []) (inl := [46, 57]) (ls := []) mixed (hcs_cons SnodeMay (hcs_cons SnodeNone hcs_nil)) (by kernel_rfl) (by kernel_rfl) (by decide) (by kernel_rfl) trivial onodeAlone (fun x => trS_get (onodeAlone x)) (fun x => (runnodeAlone x).trans (onodeAlone_eq x).symm)
/- function 39: (.d (.sl (.pair (.int .i64) (.pair .id .unit)))) (.d (.sl (.pair (.int .i64) (.pair .id .unit)))) -/
noncomputable def rslicesEqualx4 (x : ((List (Int × (Am.Id × Unit)) × (List (Int × (Am.Id × Unit)) × (Int × (Int × Unit)))) × Unit)) : Option (((List (Int × (Am.Id × Unit)) × (List (Int × (Am.Id × Unit)) × (Int × (Int × Unit)))) × Unit) ⊕ (((Bool × Unit) × Unit) ⊕ ((Unit × Unit) ⊕ Empty))) := match x with
  | ((x0, (x1, (x2, (x3, ())))), ()) => bif ilt x3 x2 then bif bif ile 0 x3 then ilt x3 (dlen x0) else false then bif bif ile 0 x3 then ilt x3 (dlen x1) else false then bif bif bif ieq (dget ((Ty.int IntKind.i64).pair (Ty.id.pair Ty.unit)) x0 x3).fst (dget ((Ty.int IntKind.i64).pair (Ty.id.pair Ty.unit)) x1 x3).fst then bif ideq (dget ((Ty.int IntKind.i64).pair (Ty.id.pair Ty.unit)) x0 x3).snd.fst (dget ((Ty.int IntKind.i64).pair (Ty.id.pair Ty.unit)) x1 x3).snd.fst then true else false else false then false else true then some (Sum.inr (Sum.inl ((false, ()), ()))) else some (Sum.inl ((x0, x1, x2, iwrap IntKind.i64 (iadd x3 1), ()), ())) else none else none else some (Sum.inr (Sum.inr (Sum.inl ((), ()))))
noncomputable def wslicesEqualx4 : ((List (Int × (Am.Id × Unit)) × (List (Int × (Am.Id × Unit)) × (Int × (Int × Unit)))) × Unit) → Option (((Bool × Unit) × Unit) ⊕ ((Unit × Unit) ⊕ Empty)) := shut (whl rslicesEqualx4)
noncomputable def lslicesEqualx4 : Lp := { m := 26, up := [], ksE := [], ksA := [], keep := [0, 1, 12, 13], sh := (.cons (.d (.sl (.pair (.int .i64) (.pair .id .unit)))) (.cons (.d (.sl (.pair (.int .i64) (.pair .id .unit)))) (.cons (.d (.int .i64)) (.cons (.d (.int .i64)) .unit)))), ms := [], outs := [{ e := .ret, keep := [4], ks := [], sh := (.cons (.d .bool) .unit), ms := [] }, { e := .exit 0, keep := [], ks := [], sh := .unit, ms := [] }], sum := fun x => (trO1 (trO1 trO0)) (wslicesEqualx4 x) }
noncomputable def bslicesEqual (x : ((List (Int × (Am.Id × Unit)) × (List (Int × (Am.Id × Unit)) × Unit)) × Unit)) : Option ((Bool × Unit) × Unit) := match x with
  | ((x0, (x1, ())), ()) => bif bif ieq (dlen x0) (dlen x1) then false else true then some ((false, ()), ()) else bL (wslicesEqualx4 ((x0, x1, dlen x0, 0, ()), ())) (fun v0 => some v0) fun u0 => bL u0 (fun v1 => some ((true, ()), ())) fun u1 => none
noncomputable def oslicesEqual : ((List (Int × (Am.Id × Unit)) × (List (Int × (Am.Id × Unit)) × Unit)) × Unit) → Option ((Bool × Unit) × Unit) := shut bslicesEqual
theorem oslicesEqual_eq (x) : oslicesEqual x = bslicesEqual x := by rw [oslicesEqual, shut_eq]
theorem wslicesEqualx4_eq (x) : wslicesEqualx4 x = whl rslicesEqualx4 x := by rw [wslicesEqualx4, shut_eq]
noncomputable def cslicesEqual : Ct := { ash := (.cons (.d (.sl (.pair (.int .i64) (.pair .id .unit)))) (.cons (.d (.sl (.pair (.int .i64) (.pair .id .unit)))) .unit)), ms := [], foot := false, up := [], rsh := (.cons (.d .bool) .unit), ks := [], ms' := [], G := fun x => trS (oslicesEqual x) }
noncomputable def EslicesEqual : Env := mkE Try.prog [] [46, 57] 39 [(4, .sum lslicesEqualx4)] [] 0
theorem rdslicesEqualx4 : ∀ x, round1 EslicesEqual 39 lslicesEqualx4 (loopAt Try.prog 39 0) x = rslicesEqualx4 x
  | ((x0, (x1, (x2, (x3, ())))), ()) => by kernel_rfl
theorem runslicesEqual : ∀ x, run EslicesEqual 39 cslicesEqual x = bslicesEqual x
  | ((x0, (x1, ())), ()) => by kernel_rfl
theorem SslicesEqual : Spec Try.prog 39 cslicesEqual.fc :=
  spec_fn (bs := [loopAt Try.prog 39 0]) (inl := [46, 57]) (ls := [(4, .sum lslicesEqualx4)]) mixed hcs_nil (by kernel_rfl) (by kernel_rfl) (by decide) (by kernel_rfl) ⟨by kernel_rfl, lkOk_mk rdslicesEqualx4 (fun x => ((trO1_get (trO1_get trO0_get)) _).trans (wslicesEqualx4_eq x)) rfl, trivial⟩ oslicesEqual (fun x => trS_get (oslicesEqual x)) (fun x => (runslicesEqual x).trans (oslicesEqual_eq x).symm)
/- function 51: (.d (.int .i64)) -/
noncomputable def bnodeOf (x : ((Int × Unit) × Unit)) : Option (((Unit × (Int × Unit)) × Unit) × Unit) := match x with
  | ((x0, ()), ()) => some ((((), x0, ()), ()), ())
noncomputable def onodeOf : ((Int × Unit) × Unit) → Option (((Unit × (Int × Unit)) × Unit) × Unit) := shut bnodeOf
theorem onodeOf_eq (x) : onodeOf x = bnodeOf x := by rw [onodeOf, shut_eq]
noncomputable def cnodeOf : Ct := { ash := (.cons (.d (.int .i64)) .unit), ms := [], foot := false, up := [], rsh := (.cons (.fn (.func 63) .unit (.cons (.cptr (.d (.int .i64))) .unit)) .unit), ks := [], ms' := [], G := fun x => trS (onodeOf x) }
noncomputable def EnodeOf : Env := mkE Try.prog [] [46, 57] 51 [] [] 0
theorem runnodeOf : ∀ x, run EnodeOf 51 cnodeOf x = bnodeOf x
  | ((x0, ()), ()) => by kernel_rfl
theorem SnodeOf : Spec Try.prog 51 cnodeOf.fc :=
  spec_fn (bs := []) (inl := [46, 57]) (ls := []) mixed hcs_nil (by kernel_rfl) (by kernel_rfl) (by decide) (by kernel_rfl) trivial onodeOf (fun x => trS_get (onodeOf x)) (fun x => (runnodeOf x).trans (onodeOf_eq x).symm)
/- function 63: (.d (.pair (.int .i64) (.pair .id .unit))) (.cptr (.d (.int .i64))) -/
noncomputable def bnodeOf_1 (x : (((Int × (Am.Id × Unit)) × (Int × Unit)) × Unit)) : Option ((Bool × Unit) × Unit) := match x with
  | ((x0, (x1, ())), ()) => some ((ieq x0.fst x1, ()), ())
noncomputable def onodeOf_1 : (((Int × (Am.Id × Unit)) × (Int × Unit)) × Unit) → Option ((Bool × Unit) × Unit) := shut bnodeOf_1
theorem onodeOf_1_eq (x) : onodeOf_1 x = bnodeOf_1 x := by rw [onodeOf_1, shut_eq]
noncomputable def cnodeOf_1 : Ct := { ash := (.cons (.d (.pair (.int .i64) (.pair .id .unit))) (.cons (.cptr (.d (.int .i64))) .unit)), ms := [], foot := false, up := [], rsh := (.cons (.d .bool) .unit), ks := [], ms' := [], G := fun x => trS (onodeOf_1 x) }
noncomputable def EnodeOf_1 : Env := mkE Try.prog [] [46, 57] 63 [] [] 0
theorem runnodeOf_1 : ∀ x, run EnodeOf_1 63 cnodeOf_1 x = bnodeOf_1 x
  | ((x0, (x1, ())), ()) => by kernel_rfl
theorem SnodeOf_1 : Spec Try.prog 63 cnodeOf_1.fc :=
  spec_fn (bs := []) (inl := [46, 57]) (ls := []) mixed hcs_nil (by kernel_rfl) (by kernel_rfl) (by decide) (by kernel_rfl) trivial onodeOf_1 (fun x => trS_get (onodeOf_1 x)) (fun x => (runnodeOf_1 x).trans (onodeOf_1_eq x).symm)
/- function 62: (.d (.sl (.pair (.int .i64) (.pair .id .unit)))) (.fn (.func 63) .unit (.cons (.cptr (.d (.int .i64))) .unit)) -/
noncomputable def rslicesIndexFuncx2 (x : ((List (Int × (Am.Id × Unit)) × ((Unit × (Int × Unit)) × (Int × (Int × Unit)))) × Unit)) : Option (((List (Int × (Am.Id × Unit)) × ((Unit × (Int × Unit)) × (Int × (Int × Unit)))) × Unit) ⊕ ((Unit × Unit) ⊕ (((Int × Unit) × Unit) ⊕ Empty))) := match x with
  | ((x0, (((), (x1, ())), (x2, (x3, ())))), ()) => bif ilt x3 x2 then bif bif ile 0 x3 then ilt x3 (dlen x0) else false then bS (onodeOf_1 ((dget ((Ty.int IntKind.i64).pair (Ty.id.pair Ty.unit)) x0 x3, x1, ()), ())) fun v0 => bif v0.fst.fst then some (Sum.inr (Sum.inr (Sum.inl ((x3, ()), ())))) else some (Sum.inl ((x0, ((), x1, ()), x2, iwrap IntKind.i64 (iadd x3 1), ()), ())) else none else some (Sum.inr (Sum.inl ((), ())))
noncomputable def wslicesIndexFuncx2 : ((List (Int × (Am.Id × Unit)) × ((Unit × (Int × Unit)) × (Int × (Int × Unit)))) × Unit) → Option ((Unit × Unit) ⊕ (((Int × Unit) × Unit) ⊕ Empty)) := shut (whl rslicesIndexFuncx2)
noncomputable def lslicesIndexFuncx2 : Lp := { m := 19, up := [], ksE := [], ksA := [], keep := [0, 1, 7, 8], sh := (.cons (.d (.sl (.pair (.int .i64) (.pair .id .unit)))) (.cons (.fn (.func 63) .unit (.cons (.cptr (.d (.int .i64))) .unit)) (.cons (.d (.int .i64)) (.cons (.d (.int .i64)) .unit)))), ms := [], outs := [{ e := .exit 0, keep := [], ks := [], sh := .unit, ms := [] }, { e := .ret, keep := [4], ks := [], sh := (.cons (.d (.int .i64)) .unit), ms := [] }], sum := fun x => (trO1 (trO1 trO0)) (wslicesIndexFuncx2 x) }
noncomputable def bslicesIndexFunc (x : ((List (Int × (Am.Id × Unit)) × ((Unit × (Int × Unit)) × Unit)) × Unit)) : Option ((Int × Unit) × Unit) := match x with
  | ((x0, (((), (x1, ())), ())), ()) => bL (wslicesIndexFuncx2 ((x0, ((), x1, ()), dlen x0, 0, ()), ())) (fun v0 => some ((-1, ()), ())) fun u0 => bL u0 (fun v1 => some v1) fun u1 => none
noncomputable def oslicesIndexFunc : ((List (Int × (Am.Id × Unit)) × ((Unit × (Int × Unit)) × Unit)) × Unit) → Option ((Int × Unit) × Unit) := shut bslicesIndexFunc
theorem oslicesIndexFunc_eq (x) : oslicesIndexFunc x = bslicesIndexFunc x := by rw [oslicesIndexFunc, shut_eq]
theorem wslicesIndexFuncx2_eq (x) : wslicesIndexFuncx2 x = whl rslicesIndexFuncx2 x := by rw [wslicesIndexFuncx2, shut_eq]
noncomputable def cslicesIndexFunc : Ct := { ash := (.cons (.d (.sl (.pair (.int .i64) (.pair .id .unit)))) (.cons (.fn (.func 63) .unit (.cons (.cptr (.d (.int .i64))) .unit)) .unit)), ms := [], foot := false, up := [], rsh := (.cons (.d (.int .i64)) .unit), ks := [], ms' := [], G := fun x => trS (oslicesIndexFunc x) }
noncomputable def EslicesIndexFunc : Env := mkE Try.prog [(63, cnodeOf_1.fc)] [46, 57] 62 [(2, .sum lslicesIndexFuncx2)] [] 0
theorem rdslicesIndexFuncx2 : ∀ x, round1 EslicesIndexFunc 62 lslicesIndexFuncx2 (loopAt Try.prog 62 0) x = rslicesIndexFuncx2 x
  | ((x0, (((), (x1, ())), (x2, (x3, ())))), ()) => by kernel_rfl
theorem runslicesIndexFunc : ∀ x, run EslicesIndexFunc 62 cslicesIndexFunc x = bslicesIndexFunc x
  | ((x0, (((), (x1, ())), ())), ()) => by kernel_rfl
theorem SslicesIndexFunc : Spec Try.prog 62 cslicesIndexFunc.fc :=
  spec_fn (bs := [loopAt Try.prog 62 0]) (inl := [46, 57]) (ls := [(2, .sum lslicesIndexFuncx2)]) mixed (hcs_cons SnodeOf_1 hcs_nil) (by kernel_rfl) (by kernel_rfl) (by decide) (by kernel_rfl) ⟨by kernel_rfl, lkOk_mk rdslicesIndexFuncx2 (fun x => ((trO1_get (trO1_get trO0_get)) _).trans (wslicesIndexFuncx2_eq x)) rfl, trivial⟩ oslicesIndexFunc (fun x => trS_get (oslicesIndexFunc x)) (fun x => (runslicesIndexFunc x).trans (oslicesIndexFunc_eq x).symm)
/- function 50: (.d (.sl (.pair (.int .i64) (.pair .id .unit)))) (.fn (.func 63) .unit (.cons (.cptr (.d (.int .i64))) .unit)) -/
noncomputable def bslicesContainsFunc (x : ((List (Int × (Am.Id × Unit)) × ((Unit × (Int × Unit)) × Unit)) × Unit)) : Option ((Bool × Unit) × Unit) := match x with
  | ((x0, (((), (x1, ())), ())), ()) => bS (oslicesIndexFunc ((x0, ((), x1, ()), ()), ())) fun v0 => some ((ile 0 v0.fst.fst, ()), ())
noncomputable def oslicesContainsFunc : ((List (Int × (Am.Id × Unit)) × ((Unit × (Int × Unit)) × Unit)) × Unit) → Option ((Bool × Unit) × Unit) := shut bslicesContainsFunc
theorem oslicesContainsFunc_eq (x) : oslicesContainsFunc x = bslicesContainsFunc x := by rw [oslicesContainsFunc, shut_eq]
noncomputable def cslicesContainsFunc : Ct := { ash := (.cons (.d (.sl (.pair (.int .i64) (.pair .id .unit)))) (.cons (.fn (.func 63) .unit (.cons (.cptr (.d (.int .i64))) .unit)) .unit)), ms := [], foot := false, up := [], rsh := (.cons (.d .bool) .unit), ks := [], ms' := [], G := fun x => trS (oslicesContainsFunc x) }
noncomputable def EslicesContainsFunc : Env := mkE Try.prog [(62, cslicesIndexFunc.fc)] [46, 57] 50 [] [] 0
theorem runslicesContainsFunc : ∀ x, run EslicesContainsFunc 50 cslicesContainsFunc x = bslicesContainsFunc x
  | ((x0, (((), (x1, ())), ())), ()) => by kernel_rfl
theorem SslicesContainsFunc : Spec Try.prog 50 cslicesContainsFunc.fc :=
  spec_fn (bs := []) (inl := [46, 57]) (ls := []) mixed (hcs_cons SslicesIndexFunc hcs_nil) (by kernel_rfl) (by kernel_rfl) (by decide) (by kernel_rfl) trivial oslicesContainsFunc (fun x => trS_get (oslicesContainsFunc x)) (fun x => (runslicesContainsFunc x).trans (oslicesContainsFunc_eq x).symm)
/- function 40: (.d (.sl (.pair (.int .i64) (.pair .id .unit)))) (.d (.int .i64)) -/
noncomputable def rnodeUnlikex2 (x : ((List (Int × (Am.Id × Unit)) × (Int × (List (Int × (Am.Id × Unit)) × (Int × (Int × Unit))))) × Unit)) : Option (((List (Int × (Am.Id × Unit)) × (Int × (List (Int × (Am.Id × Unit)) × (Int × (Int × Unit))))) × Unit) ⊕ ((Unit × Unit) ⊕ (((Bool × Unit) × Unit) ⊕ Empty))) := match x with
  | ((x0, (x1, (x2, (x3, (x4, ()))))), ()) => bif ilt x4 x3 then bif bif ile 0 x4 then ilt x4 (dlen x2) else false then bS (onodeMay ((dget ((Ty.int IntKind.i64).pair (Ty.id.pair Ty.unit)) x2 x4, ()), ())) fun v0 => bif bif bif v0.fst.fst then false else true then false else true then bif bif ieq (dget ((Ty.int IntKind.i64).pair (Ty.id.pair Ty.unit)) x2 x4).fst x1 then false else true then bif bif bif ile 0 0 then ile 0 x4 else false then ile x4 (dlen x0) else false then bS (onodeOf (((dget ((Ty.int IntKind.i64).pair (Ty.id.pair Ty.unit)) x2 x4).fst, ()), ())) fun v1 => bS (oslicesContainsFunc ((dsub x0 0 x4, ((), v1.fst.fst.snd), ()), ())) fun v2 => bif v2.fst.fst then some (Sum.inr (Sum.inr (Sum.inl ((false, ()), ())))) else some (Sum.inl ((x0, x1, x2, x3, iwrap IntKind.i64 (iadd x4 1), ()), ())) else none else some (Sum.inr (Sum.inr (Sum.inl ((false, ()), ())))) else some (Sum.inr (Sum.inr (Sum.inl ((false, ()), ())))) else none else some (Sum.inr (Sum.inl ((), ())))
noncomputable def wnodeUnlikex2 : ((List (Int × (Am.Id × Unit)) × (Int × (List (Int × (Am.Id × Unit)) × (Int × (Int × Unit))))) × Unit) → Option ((Unit × Unit) ⊕ (((Bool × Unit) × Unit) ⊕ Empty)) := shut (whl rnodeUnlikex2)
noncomputable def lnodeUnlikex2 : Lp := { m := 33, up := [], ksE := [], ksA := [], keep := [0, 1, 7, 8, 9], sh := (.cons (.d (.sl (.pair (.int .i64) (.pair .id .unit)))) (.cons (.d (.int .i64)) (.cons (.d (.sl (.pair (.int .i64) (.pair .id .unit)))) (.cons (.d (.int .i64)) (.cons (.d (.int .i64)) .unit))))), ms := [], outs := [{ e := .exit 0, keep := [], ks := [], sh := .unit, ms := [] }, { e := .ret, keep := [4], ks := [], sh := (.cons (.d .bool) .unit), ms := [] }], sum := fun x => (trO1 (trO1 trO0)) (wnodeUnlikex2 x) }
noncomputable def bnodeUnlike (x : ((List (Int × (Am.Id × Unit)) × (Int × Unit)) × Unit)) : Option ((Bool × Unit) × Unit) := match x with
  | ((x0, (x1, ())), ()) => bL (wnodeUnlikex2 ((x0, x1, x0, dlen x0, 0, ()), ())) (fun v0 => some ((true, ()), ())) fun u0 => bL u0 (fun v1 => some v1) fun u1 => none
noncomputable def onodeUnlike : ((List (Int × (Am.Id × Unit)) × (Int × Unit)) × Unit) → Option ((Bool × Unit) × Unit) := shut bnodeUnlike
theorem onodeUnlike_eq (x) : onodeUnlike x = bnodeUnlike x := by rw [onodeUnlike, shut_eq]
theorem wnodeUnlikex2_eq (x) : wnodeUnlikex2 x = whl rnodeUnlikex2 x := by rw [wnodeUnlikex2, shut_eq]
noncomputable def cnodeUnlike : Ct := { ash := (.cons (.d (.sl (.pair (.int .i64) (.pair .id .unit)))) (.cons (.d (.int .i64)) .unit)), ms := [], foot := false, up := [], rsh := (.cons (.d .bool) .unit), ks := [], ms' := [], G := fun x => trS (onodeUnlike x) }
noncomputable def EnodeUnlike : Env := mkE Try.prog [(32, cnodeMay.fc), (51, cnodeOf.fc), (50, cslicesContainsFunc.fc)] [46, 57] 40 [(2, .sum lnodeUnlikex2)] [] 0
theorem rdnodeUnlikex2 : ∀ x, round1 EnodeUnlike 40 lnodeUnlikex2 (loopAt Try.prog 40 0) x = rnodeUnlikex2 x
  | ((x0, (x1, (x2, (x3, (x4, ()))))), ()) => by kernel_rfl
theorem runnodeUnlike : ∀ x, run EnodeUnlike 40 cnodeUnlike x = bnodeUnlike x
  | ((x0, (x1, ())), ()) => by kernel_rfl
theorem SnodeUnlike : Spec Try.prog 40 cnodeUnlike.fc :=
  spec_fn (bs := [loopAt Try.prog 40 0]) (inl := [46, 57]) (ls := [(2, .sum lnodeUnlikex2)]) mixed (hcs_cons SnodeMay (hcs_cons SnodeOf (hcs_cons SslicesContainsFunc hcs_nil))) (by kernel_rfl) (by kernel_rfl) (by decide) (by kernel_rfl) ⟨by kernel_rfl, lkOk_mk rdnodeUnlikex2 (fun x => ((trO1_get (trO1_get trO0_get)) _).trans (wnodeUnlikex2_eq x)) rfl, trivial⟩ onodeUnlike (fun x => trS_get (onodeUnlike x)) (fun x => (runnodeUnlike x).trans (onodeUnlike_eq x).symm)
/- function 16: (.d (.pair (.pair (.int .i64) (.pair .id .unit)) (.pair (.pair (.int .i64) (.pair .id .unit)) (.pair (.sl (.pair (.int .i64) (.pair .id .unit))) (.pair (.sl (.pair (.int .i64) (.pair .id .unit))) .unit))))) -/
noncomputable def bnodeRight (x : ((((Int × (Am.Id × Unit)) × ((Int × (Am.Id × Unit)) × (List (Int × (Am.Id × Unit)) × (List (Int × (Am.Id × Unit)) × Unit)))) × Unit) × Unit)) : Option ((Bool × Unit) × Unit) := match x with
  | ((x0, ()), ()) => bS (onodeNone ((), ())) fun v0 => bif bif bif ieq x0.snd.fst.fst v0.fst.fst.fst then bif ideq x0.snd.fst.snd.fst v0.fst.fst.snd.fst then true else false else false then false else true then bS (onodeMay ((x0.snd.fst, ()), ())) fun v1 => bif v1.fst.fst then bS (oslicesEqual ((x0.snd.snd.fst, [x0.fst], ()), ())) fun v2 => bif ile 1 (dlen x0.snd.snd.fst) then bif ile (dlen x0.snd.snd.fst) 4 then bif bif v2.fst.fst then false else true then bS (onodeUnlike ((x0.snd.snd.fst, x0.fst.fst, ()), ())) fun v3 => bS (onodeMay ((x0.fst, ()), ())) fun v4 => bif v4.fst.fst then bif bif ieq x0.snd.fst.fst x0.fst.fst then false else true then bif v3.fst.fst then bif ile (dlen x0.snd.snd.snd.fst) 16 then bS (onodeUnlike ((x0.snd.snd.snd.fst, x0.fst.fst, ()), ())) fun v5 => some v5 else some ((false, ()), ()) else some ((false, ()), ()) else some ((false, ()), ()) else some ((false, ()), ()) else bS (onodeMay ((x0.fst, ()), ())) fun v3 => bif v3.fst.fst then bif bif ieq x0.snd.fst.fst x0.fst.fst then false else true then bif ile (dlen x0.snd.snd.snd.fst) 16 then bS (onodeUnlike ((x0.snd.snd.snd.fst, x0.fst.fst, ()), ())) fun v4 => some v4 else some ((false, ()), ()) else some ((false, ()), ()) else some ((false, ()), ()) else bS (onodeMay ((x0.fst, ()), ())) fun v3 => bif v3.fst.fst then bif bif ieq x0.snd.fst.fst x0.fst.fst then false else true then some ((false, ()), ()) else some ((false, ()), ()) else some ((false, ()), ()) else bS (onodeMay ((x0.fst, ()), ())) fun v3 => bif v3.fst.fst then bif bif ieq x0.snd.fst.fst x0.fst.fst then false else true then some ((false, ()), ()) else some ((false, ()), ()) else some ((false, ()), ()) else bS (oslicesEqual ((x0.snd.snd.fst, [x0.fst], ()), ())) fun v2 => bif ile 1 (dlen x0.snd.snd.fst) then bif ile (dlen x0.snd.snd.fst) 4 then bif bif v2.fst.fst then false else true then bS (onodeUnlike ((x0.snd.snd.fst, x0.fst.fst, ()), ())) fun v3 => bS (onodeMay ((x0.fst, ()), ())) fun v4 => bif v4.fst.fst then some ((false, ()), ()) else some ((false, ()), ()) else bS (onodeMay ((x0.fst, ()), ())) fun v3 => bif v3.fst.fst then some ((false, ()), ()) else some ((false, ()), ()) else bS (onodeMay ((x0.fst, ()), ())) fun v3 => bif v3.fst.fst then some ((false, ()), ()) else some ((false, ()), ()) else bS (onodeMay ((x0.fst, ()), ())) fun v3 => bif v3.fst.fst then some ((false, ()), ()) else some ((false, ()), ()) else bS (oslicesEqual ((x0.snd.snd.fst, [x0.fst], ()), ())) fun v1 => bif ile 1 (dlen x0.snd.snd.fst) then bif ile (dlen x0.snd.snd.fst) 4 then bif bif v1.fst.fst then false else true then bS (onodeUnlike ((x0.snd.snd.fst, x0.fst.fst, ()), ())) fun v2 => bS (onodeMay ((x0.fst, ()), ())) fun v3 => bif v3.fst.fst then bif v2.fst.fst then bif ile (dlen x0.snd.snd.snd.fst) 16 then bS (onodeUnlike ((x0.snd.snd.snd.fst, x0.fst.fst, ()), ())) fun v4 => some v4 else some ((false, ()), ()) else some ((false, ()), ()) else some ((false, ()), ()) else bS (onodeMay ((x0.fst, ()), ())) fun v2 => bif v2.fst.fst then bif ile (dlen x0.snd.snd.snd.fst) 16 then bS (onodeUnlike ((x0.snd.snd.snd.fst, x0.fst.fst, ()), ())) fun v3 => some v3 else some ((false, ()), ()) else some ((false, ()), ()) else bS (onodeMay ((x0.fst, ()), ())) fun v2 => bif v2.fst.fst then some ((false, ()), ()) else some ((false, ()), ()) else bS (onodeMay ((x0.fst, ()), ())) fun v2 => bif v2.fst.fst then some ((false, ()), ()) else some ((false, ()), ())
noncomputable def onodeRight : ((((Int × (Am.Id × Unit)) × ((Int × (Am.Id × Unit)) × (List (Int × (Am.Id × Unit)) × (List (Int × (Am.Id × Unit)) × Unit)))) × Unit) × Unit) → Option ((Bool × Unit) × Unit) := shut bnodeRight
theorem onodeRight_eq (x) : onodeRight x = bnodeRight x := by rw [onodeRight, shut_eq]
noncomputable def cnodeRight : Ct := { ash := (.cons (.d (.pair (.pair (.int .i64) (.pair .id .unit)) (.pair (.pair (.int .i64) (.pair .id .unit)) (.pair (.sl (.pair (.int .i64) (.pair .id .unit))) (.pair (.sl (.pair (.int .i64) (.pair .id .unit))) .unit))))) .unit), ms := [], foot := false, up := [], rsh := (.cons (.d .bool) .unit), ks := [], ms' := [], G := fun x => trS (onodeRight x) }
noncomputable def EnodeRight : Env := mkE Try.prog [(33, cnodeNone.fc), (32, cnodeMay.fc), (39, cslicesEqual.fc), (40, cnodeUnlike.fc)] [46, 57] 16 [] [] 0
theorem runnodeRight : ∀ x, run EnodeRight 16 cnodeRight x = bnodeRight x
  | ((x0, ()), ()) => by kernel_rfl
theorem SnodeRight : Spec Try.prog 16 cnodeRight.fc :=
  spec_fn (bs := []) (inl := [46, 57]) (ls := []) mixed (hcs_cons SnodeNone (hcs_cons SnodeMay (hcs_cons SslicesEqual (hcs_cons SnodeUnlike hcs_nil)))) (by kernel_rfl) (by kernel_rfl) (by decide) (by kernel_rfl) trivial onodeRight (fun x => trS_get (onodeRight x)) (fun x => (runnodeRight x).trans (onodeRight_eq x).symm)
/- function 31: (.d .id) (.d .id) -/
noncomputable def ridentFarx4 (x : ((Unit × (Unit × (Unit × (Unit × (Int × (Int × Unit)))))) × (Am.Id × (Am.Id × (Am.Id × (Am.Id × Unit)))))) : Option (((Unit × (Unit × (Unit × (Unit × (Int × (Int × Unit)))))) × (Am.Id × (Am.Id × (Am.Id × (Am.Id × Unit))))) ⊕ (((Unit × (Unit × Unit)) × (Am.Id × (Am.Id × Unit))) ⊕ Empty)) := match x with
  | (((), ((), ((), ((), (x0, (x1, ())))))), (x2, (x3, (x4, (x5, ()))))) => bif ile 0 x1 then bif bif ile 0 x1 then ilt x1 32 else false then bif bif ile 0 x1 then ilt x1 32 else false then bif ilt (iwrap IntKind.i64 (isub (iwrap IntKind.i64 (isub (iwrap IntKind.i64 (u8i (idget x3 (inat x1)))) (iwrap IntKind.i64 (u8i (idget x2 (inat x1)))))) x0)) 0 then bif bif ile 0 x1 then ilt x1 32 else false then some (Sum.inl (((), (), (), (), 1, iwrap IntKind.i64 (isub x1 1), ()), x2, x3, x4, idset x5 (inat x1) (iu8 (iwrap IntKind.u8 (iwrap IntKind.i64 (iadd (iwrap IntKind.i64 (isub (iwrap IntKind.i64 (isub (iwrap IntKind.i64 (u8i (idget x3 (inat x1)))) (iwrap IntKind.i64 (u8i (idget x2 (inat x1)))))) x0)) 256)))), ())) else none else bif bif ile 0 x1 then ilt x1 32 else false then some (Sum.inl (((), (), (), (), 0, iwrap IntKind.i64 (isub x1 1), ()), x2, x3, x4, idset x5 (inat x1) (iu8 (iwrap IntKind.u8 (iwrap IntKind.i64 (isub (iwrap IntKind.i64 (isub (iwrap IntKind.i64 (u8i (idget x3 (inat x1)))) (iwrap IntKind.i64 (u8i (idget x2 (inat x1)))))) x0)))), ())) else none else none else none else some (Sum.inr (Sum.inl (((), (), ()), x4, x5, ())))
noncomputable def widentFarx4 : ((Unit × (Unit × (Unit × (Unit × (Int × (Int × Unit)))))) × (Am.Id × (Am.Id × (Am.Id × (Am.Id × Unit))))) → Option (((Unit × (Unit × Unit)) × (Am.Id × (Am.Id × Unit))) ⊕ Empty) := shut (whl ridentFarx4)
noncomputable def lidentFarx4 : Lp := { m := 33, up := [], ksE := [], ksA := [], keep := [2, 3, 4, 5, 6, 7], sh := (.cons (.loc 0 0) (.cons (.loc 1 0) (.cons (.loc 2 0) (.cons (.loc 3 0) (.cons (.d (.int .i64)) (.cons (.d (.int .i64)) .unit)))))), ms := [.box (.d .id), .box (.d .id), .box (.d .id), .box (.d .id)], outs := [{ e := .exit 0, keep := [4, 5], ks := [], sh := (.cons (.loc 0 0) (.cons (.loc 1 0) .unit)), ms := [.box (.d .id), .box (.d .id)] }], sum := fun x => (trO1 trO0) (widentFarx4 x) }
noncomputable def bidentFar (x : ((Am.Id × (Am.Id × Unit)) × Unit)) : Option ((Am.Id × Unit) × Unit) := match x with
  | ((x0, (x1, ())), ()) => bL (widentFarx4 (((), (), (), (), 0, 31, ()), x0, x1, Id.zero, Id.zero, ())) (fun v0 => some (v0.snd.snd, ())) fun u0 => none
noncomputable def oidentFar : ((Am.Id × (Am.Id × Unit)) × Unit) → Option ((Am.Id × Unit) × Unit) := shut bidentFar
theorem oidentFar_eq (x) : oidentFar x = bidentFar x := by rw [oidentFar, shut_eq]
theorem widentFarx4_eq (x) : widentFarx4 x = whl ridentFarx4 x := by rw [widentFarx4, shut_eq]
noncomputable def cidentFar : Ct := { ash := (.cons (.d .id) (.cons (.d .id) .unit)), ms := [], foot := false, up := [], rsh := (.cons (.d .id) .unit), ks := [], ms' := [], G := fun x => trS (oidentFar x) }
noncomputable def EidentFar : Env := mkE Try.prog [] [46, 57] 31 [(4, .sum lidentFarx4)] [] 0
theorem rdidentFarx4 : ∀ x, round1 EidentFar 31 lidentFarx4 (loopAt Try.prog 31 0) x = ridentFarx4 x
  | (((), ((), ((), ((), (x0, (x1, ())))))), (x2, (x3, (x4, (x5, ()))))) => by kernel_rfl
theorem runidentFar : ∀ x, run EidentFar 31 cidentFar x = bidentFar x
  | ((x0, (x1, ())), ()) => by kernel_rfl
theorem SidentFar : Spec Try.prog 31 cidentFar.fc :=
  spec_fn (bs := [loopAt Try.prog 31 0]) (inl := [46, 57]) (ls := [(4, .sum lidentFarx4)]) mixed hcs_nil (by kernel_rfl) (by kernel_rfl) (by decide) (by kernel_rfl) ⟨by kernel_rfl, lkOk_mk rdidentFarx4 (fun x => ((trO1_get trO0_get) _).trans (widentFarx4_eq x)) rfl, trivial⟩ oidentFar (fun x => trS_get (oidentFar x)) (fun x => (runidentFar x).trans (oidentFar_eq x).symm)
/- function 66: (.d .u8) -/
noncomputable def bcmpIsNaN (x : ((UInt8 × Unit) × Unit)) : Option ((Bool × Unit) × Unit) := match x with
  | ((x0, ()), ()) => some ((bif u8eq x0 x0 then false else true, ()), ())
noncomputable def ocmpIsNaN : ((UInt8 × Unit) × Unit) → Option ((Bool × Unit) × Unit) := shut bcmpIsNaN
theorem ocmpIsNaN_eq (x) : ocmpIsNaN x = bcmpIsNaN x := by rw [ocmpIsNaN, shut_eq]
noncomputable def ccmpIsNaN : Ct := { ash := (.cons (.d .u8) .unit), ms := [], foot := false, up := [], rsh := (.cons (.d .bool) .unit), ks := [], ms' := [], G := fun x => trS (ocmpIsNaN x) }
noncomputable def EcmpIsNaN : Env := mkE Try.prog [] [46, 57] 66 [] [] 0
theorem runcmpIsNaN : ∀ x, run EcmpIsNaN 66 ccmpIsNaN x = bcmpIsNaN x
  | ((x0, ()), ()) => by kernel_rfl
theorem ScmpIsNaN : Spec Try.prog 66 ccmpIsNaN.fc :=
  spec_fn (bs := []) (inl := [46, 57]) (ls := []) mixed hcs_nil (by kernel_rfl) (by kernel_rfl) (by decide) (by kernel_rfl) trivial ocmpIsNaN (fun x => trS_get (ocmpIsNaN x)) (fun x => (runcmpIsNaN x).trans (ocmpIsNaN_eq x).symm)
/- function 64: (.d .u8) (.d .u8) -/
noncomputable def bcmpCompare (x : ((UInt8 × (UInt8 × Unit)) × Unit)) : Option ((Int × Unit) × Unit) := match x with
  | ((x0, (x1, ())), ()) => bS (ocmpIsNaN ((x0, ()), ())) fun v0 => bS (ocmpIsNaN ((x1, ()), ())) fun v1 => bif v0.fst.fst then bif v1.fst.fst then some ((0, ()), ()) else some ((-1, ()), ()) else bif v1.fst.fst then some ((1, ()), ()) else bif ilt (u8i x0) (u8i x1) then some ((-1, ()), ()) else bif ilt (u8i x1) (u8i x0) then some ((1, ()), ()) else some ((0, ()), ())
noncomputable def ocmpCompare : ((UInt8 × (UInt8 × Unit)) × Unit) → Option ((Int × Unit) × Unit) := shut bcmpCompare
theorem ocmpCompare_eq (x) : ocmpCompare x = bcmpCompare x := by rw [ocmpCompare, shut_eq]
noncomputable def ccmpCompare : Ct := { ash := (.cons (.d .u8) (.cons (.d .u8) .unit)), ms := [], foot := false, up := [], rsh := (.cons (.d (.int .i64)) .unit), ks := [], ms' := [], G := fun x => trS (ocmpCompare x) }
noncomputable def EcmpCompare : Env := mkE Try.prog [(66, ccmpIsNaN.fc)] [46, 57] 64 [] [] 0
theorem runcmpCompare : ∀ x, run EcmpCompare 64 ccmpCompare x = bcmpCompare x
  | ((x0, (x1, ())), ()) => by kernel_rfl
theorem ScmpCompare : Spec Try.prog 64 ccmpCompare.fc :=
  spec_fn (bs := []) (inl := [46, 57]) (ls := []) mixed (hcs_cons ScmpIsNaN hcs_nil) (by kernel_rfl) (by kernel_rfl) (by decide) (by kernel_rfl) trivial ocmpCompare (fun x => trS_get (ocmpCompare x)) (fun x => (runcmpCompare x).trans (ocmpCompare_eq x).symm)
/- function 54: (.d (.sl .u8)) (.d (.sl .u8)) -/
noncomputable def rslicesComparex2 (x : ((List UInt8 × (List UInt8 × (List UInt8 × (Int × (Int × Unit))))) × Unit)) : Option (((List UInt8 × (List UInt8 × (List UInt8 × (Int × (Int × Unit))))) × Unit) ⊕ (((Int × Unit) × Unit) ⊕ (((List UInt8 × (List UInt8 × Unit)) × Unit) ⊕ Empty))) := match x with
  | ((x0, (x1, (x2, (x3, (x4, ()))))), ()) => bif ilt x4 x3 then bif bif ile 0 x4 then ilt x4 (dlen x2) else false then bif ile (dlen x1) x4 then some (Sum.inr (Sum.inl ((1, ()), ()))) else bif bif ile 0 x4 then ilt x4 (dlen x1) else false then bS (ocmpCompare ((dget Ty.u8 x2 x4, dget Ty.u8 x1 x4, ()), ())) fun v0 => bif bif ieq v0.fst.fst 0 then false else true then some (Sum.inr (Sum.inl v0)) else some (Sum.inl ((x0, x1, x2, x3, iwrap IntKind.i64 (iadd x4 1), ()), ())) else none else none else some (Sum.inr (Sum.inr (Sum.inl ((x0, x1, ()), ()))))
noncomputable def wslicesComparex2 : ((List UInt8 × (List UInt8 × (List UInt8 × (Int × (Int × Unit))))) × Unit) → Option (((Int × Unit) × Unit) ⊕ (((List UInt8 × (List UInt8 × Unit)) × Unit) ⊕ Empty)) := shut (whl rslicesComparex2)
noncomputable def lslicesComparex2 : Lp := { m := 36, up := [], ksE := [], ksA := [], keep := [0, 1, 9, 10, 11], sh := (.cons (.d (.sl .u8)) (.cons (.d (.sl .u8)) (.cons (.d (.sl .u8)) (.cons (.d (.int .i64)) (.cons (.d (.int .i64)) .unit))))), ms := [], outs := [{ e := .ret, keep := [4], ks := [], sh := (.cons (.d (.int .i64)) .unit), ms := [] }, { e := .exit 0, keep := [0, 1], ks := [], sh := (.cons (.d (.sl .u8)) (.cons (.d (.sl .u8)) .unit)), ms := [] }], sum := fun x => (trO1 (trO1 trO0)) (wslicesComparex2 x) }
noncomputable def bslicesCompare (x : ((List UInt8 × (List UInt8 × Unit)) × Unit)) : Option ((Int × Unit) × Unit) := match x with
  | ((x0, (x1, ())), ()) => bL (wslicesComparex2 ((x0, x1, x0, dlen x0, 0, ()), ())) (fun v0 => some v0) fun u0 => bL u0 (fun v1 => bif ilt (dlen v1.fst.fst) (dlen v1.fst.snd.fst) then some ((-1, ()), ()) else some ((0, ()), ())) fun u1 => none
noncomputable def oslicesCompare : ((List UInt8 × (List UInt8 × Unit)) × Unit) → Option ((Int × Unit) × Unit) := shut bslicesCompare
theorem oslicesCompare_eq (x) : oslicesCompare x = bslicesCompare x := by rw [oslicesCompare, shut_eq]
theorem wslicesComparex2_eq (x) : wslicesComparex2 x = whl rslicesComparex2 x := by rw [wslicesComparex2, shut_eq]
noncomputable def cslicesCompare : Ct := { ash := (.cons (.d (.sl .u8)) (.cons (.d (.sl .u8)) .unit)), ms := [], foot := false, up := [], rsh := (.cons (.d (.int .i64)) .unit), ks := [], ms' := [], G := fun x => trS (oslicesCompare x) }
noncomputable def EslicesCompare : Env := mkE Try.prog [(64, ccmpCompare.fc)] [46, 57] 54 [(2, .sum lslicesComparex2)] [] 0
theorem rdslicesComparex2 : ∀ x, round1 EslicesCompare 54 lslicesComparex2 (loopAt Try.prog 54 0) x = rslicesComparex2 x
  | ((x0, (x1, (x2, (x3, (x4, ()))))), ()) => by kernel_rfl
theorem runslicesCompare : ∀ x, run EslicesCompare 54 cslicesCompare x = bslicesCompare x
  | ((x0, (x1, ())), ()) => by kernel_rfl
theorem SslicesCompare : Spec Try.prog 54 cslicesCompare.fc :=
  spec_fn (bs := [loopAt Try.prog 54 0]) (inl := [46, 57]) (ls := [(2, .sum lslicesComparex2)]) mixed (hcs_cons ScmpCompare hcs_nil) (by kernel_rfl) (by kernel_rfl) (by decide) (by kernel_rfl) ⟨by kernel_rfl, lkOk_mk rdslicesComparex2 (fun x => ((trO1_get (trO1_get trO0_get)) _).trans (wslicesComparex2_eq x)) rfl, trivial⟩ oslicesCompare (fun x => trS_get (oslicesCompare x)) (fun x => (runslicesCompare x).trans (oslicesCompare_eq x).symm)
/- function 30: (.d .id) (.d .id) -/
noncomputable def bidentCompare (x : ((Am.Id × (Am.Id × Unit)) × Unit)) : Option ((Int × Unit) × Unit) := match x with
  | ((x0, (x1, ())), ()) => bS (oslicesCompare ((x0.l, x1.l, ()), ())) fun v0 => some v0
noncomputable def oidentCompare : ((Am.Id × (Am.Id × Unit)) × Unit) → Option ((Int × Unit) × Unit) := shut bidentCompare
theorem oidentCompare_eq (x) : oidentCompare x = bidentCompare x := by rw [oidentCompare, shut_eq]
noncomputable def cidentCompare : Ct := { ash := (.cons (.d .id) (.cons (.d .id) .unit)), ms := [], foot := false, up := [], rsh := (.cons (.d (.int .i64)) .unit), ks := [], ms' := [], G := fun x => trS (oidentCompare x) }
noncomputable def EidentCompare : Env := mkE Try.prog [(54, cslicesCompare.fc)] [46, 57] 30 [] [] 0
theorem runidentCompare : ∀ x, run EidentCompare 30 cidentCompare x = bidentCompare x
  | ((x0, (x1, ())), ()) => by kernel_rfl
theorem SidentCompare : Spec Try.prog 30 cidentCompare.fc :=
  spec_fn (bs := []) (inl := [46, 57]) (ls := []) mixed (hcs_cons SslicesCompare hcs_nil) (by kernel_rfl) (by kernel_rfl) (by decide) (by kernel_rfl) trivial oidentCompare (fun x => trS_get (oidentCompare x)) (fun x => (runidentCompare x).trans (oidentCompare_eq x).symm)
/- function 22: (.d .id) (.d .id) (.d .id) -/
noncomputable def bidentIn (x : ((Am.Id × (Am.Id × (Am.Id × Unit))) × Unit)) : Option ((Bool × Unit) × Unit) := match x with
  | ((x0, (x1, (x2, ()))), ()) => bif ideq x1 x2 then some ((true, ()), ()) else bS (oidentFar ((x1, x0, ()), ())) fun v0 => bif bif ideq v0.fst.fst Id.zero then false else true then bS (oidentFar ((x1, x2, ()), ())) fun v1 => bS (oidentCompare ((v0.fst.fst, v1.fst), ())) fun v2 => some ((ile v2.fst.fst 0, ()), ()) else some ((false, ()), ())
noncomputable def oidentIn : ((Am.Id × (Am.Id × (Am.Id × Unit))) × Unit) → Option ((Bool × Unit) × Unit) := shut bidentIn
theorem oidentIn_eq (x) : oidentIn x = bidentIn x := by rw [oidentIn, shut_eq]
noncomputable def cidentIn : Ct := { ash := (.cons (.d .id) (.cons (.d .id) (.cons (.d .id) .unit))), ms := [], foot := false, up := [], rsh := (.cons (.d .bool) .unit), ks := [], ms' := [], G := fun x => trS (oidentIn x) }
noncomputable def EidentIn : Env := mkE Try.prog [(31, cidentFar.fc), (30, cidentCompare.fc)] [46, 57] 22 [] [] 0
theorem runidentIn : ∀ x, run EidentIn 22 cidentIn x = bidentIn x
  | ((x0, (x1, (x2, ()))), ()) => by kernel_rfl
theorem SidentIn : Spec Try.prog 22 cidentIn.fc :=
  spec_fn (bs := []) (inl := [46, 57]) (ls := []) mixed (hcs_cons SidentFar (hcs_cons SidentCompare hcs_nil)) (by kernel_rfl) (by kernel_rfl) (by decide) (by kernel_rfl) trivial oidentIn (fun x => trS_get (oidentIn x)) (fun x => (runidentIn x).trans (oidentIn_eq x).symm)
/- function 35: (.d (.sl (.sl (.pair (.int .i64) (.pair .id .unit))))) -/
noncomputable def rslicesConcatx3 (x : ((List (List (Int × (Am.Id × Unit))) × (Int × (List (List (Int × (Am.Id × Unit))) × (Int × (Int × Unit))))) × Unit)) : Option (((List (List (Int × (Am.Id × Unit))) × (Int × (List (List (Int × (Am.Id × Unit))) × (Int × (Int × Unit))))) × Unit) ⊕ (((List (List (Int × (Am.Id × Unit))) × (Int × Unit)) × Unit) ⊕ Empty)) := match x with
  | ((x0, (x1, (x2, (x3, (x4, ()))))), ()) => bif ilt x4 x3 then bif bif ile 0 x4 then ilt x4 (dlen x2) else false then bif ilt (iwrap IntKind.i64 (iadd x1 (dlen (dget ((Ty.int IntKind.i64).pair (Ty.id.pair Ty.unit)).sl x2 x4)))) 0 then none else some (Sum.inl ((x0, iwrap IntKind.i64 (iadd x1 (dlen (dget ((Ty.int IntKind.i64).pair (Ty.id.pair Ty.unit)).sl x2 x4))), x2, x3, iwrap IntKind.i64 (iadd x4 1), ()), ())) else none else some (Sum.inr (Sum.inl ((x0, x1, ()), ())))
noncomputable def wslicesConcatx3 : ((List (List (Int × (Am.Id × Unit))) × (Int × (List (List (Int × (Am.Id × Unit))) × (Int × (Int × Unit))))) × Unit) → Option (((List (List (Int × (Am.Id × Unit))) × (Int × Unit)) × Unit) ⊕ Empty) := shut (whl rslicesConcatx3)
noncomputable def lslicesConcatx3 : Lp := { m := 36, up := [], ksE := [], ksA := [], keep := [0, 3, 9, 10, 11], sh := (.cons (.d (.sl (.sl (.pair (.int .i64) (.pair .id .unit))))) (.cons (.d (.int .i64)) (.cons (.d (.sl (.sl (.pair (.int .i64) (.pair .id .unit))))) (.cons (.d (.int .i64)) (.cons (.d (.int .i64)) .unit))))), ms := [], outs := [{ e := .exit 0, keep := [0, 3], ks := [], sh := (.cons (.d (.sl (.sl (.pair (.int .i64) (.pair .id .unit))))) (.cons (.d (.int .i64)) .unit)), ms := [] }], sum := fun x => (trO1 trO0) (wslicesConcatx3 x) }
noncomputable def rslicesConcatx11 (x : ((List (Int × (Am.Id × Unit)) × (List (List (Int × (Am.Id × Unit))) × (Int × (Int × Unit)))) × (Unit × Unit))) : Option (((List (Int × (Am.Id × Unit)) × (List (List (Int × (Am.Id × Unit))) × (Int × (Int × Unit)))) × (Unit × Unit)) ⊕ (((List (Int × (Am.Id × Unit)) × Unit) × (Unit × Unit)) ⊕ Empty)) := match x with
  | ((x0, (x1, (x2, (x3, ())))), ((), ())) => bif ilt x3 x2 then bif bif ile 0 x3 then ilt x3 (dlen x1) else false then bif fits (dlen x0) (dlen (dget ((Ty.int IntKind.i64).pair (Ty.id.pair Ty.unit)).sl x1 x3)) 40 then some (Sum.inl ((dapp x0 (dget ((Ty.int IntKind.i64).pair (Ty.id.pair Ty.unit)).sl x1 x3), x1, x2, iwrap IntKind.i64 (iadd x3 1), ()), (), ())) else none else none else some (Sum.inr (Sum.inl ((x0, ()), (), ())))
noncomputable def wslicesConcatx11 : ((List (Int × (Am.Id × Unit)) × (List (List (Int × (Am.Id × Unit))) × (Int × (Int × Unit)))) × (Unit × Unit)) → Option (((List (Int × (Am.Id × Unit)) × Unit) × (Unit × Unit)) ⊕ Empty) := shut (whl rslicesConcatx11)
noncomputable def lslicesConcatx11 : Lp := { m := 36, up := [.slot 6 0 (.pair (.int .i64) (.pair .id .unit)) 25], ksE := [], ksA := [], keep := [6, 25, 26, 27], sh := (.cons (.own (.pair (.int .i64) (.pair .id .unit)) 0) (.cons (.d (.sl (.sl (.pair (.int .i64) (.pair .id .unit))))) (.cons (.d (.int .i64)) (.cons (.d (.int .i64)) .unit)))), ms := [.row 25 33], outs := [{ e := .exit 2, keep := [6], ks := [], sh := (.cons (.own (.pair (.int .i64) (.pair .id .unit)) 0) .unit), ms := [.row 25 33] }], sum := fun x => (trO1 trO0) (wslicesConcatx11 x) }
noncomputable def bslicesConcat (x : ((List (List (Int × (Am.Id × Unit))) × Unit) × Unit)) : Option ((List (Int × (Am.Id × Unit)) × Unit) × Unit) := match x with
  | ((x0, ()), ()) => bL (wslicesConcatx3 ((x0, 0, x0, dlen x0, 0, ()), ())) (fun v0 => bif ilt v0.fst.snd.fst 0 then none else bif ilt 0 (iwrap IntKind.i64 (isub v0.fst.snd.fst (iwrap IntKind.i64 (isub 0 0)))) then bif bif ieq 0 0 then ieq 0 0 else false then bif bif ile 1 (iwrap IntKind.i64 (isub v0.fst.snd.fst (iwrap IntKind.i64 (isub 0 0)))) then fits (iwrap IntKind.i64 (isub v0.fst.snd.fst (iwrap IntKind.i64 (isub 0 0)))) 0 40 else false then bif ieq 0 0 then bL (wslicesConcatx11 (([], v0.fst.fst, dlen v0.fst.fst, 0, ()), (), ())) (fun v1 => some (v1.fst, ())) fun u1 => none else none else none else none else bL (wslicesConcatx11 (([], v0.fst.fst, dlen v0.fst.fst, 0, ()), (), ())) (fun v1 => some (v1.fst, ())) fun u1 => none) fun u0 => none
noncomputable def oslicesConcat : ((List (List (Int × (Am.Id × Unit))) × Unit) × Unit) → Option ((List (Int × (Am.Id × Unit)) × Unit) × Unit) := shut bslicesConcat
theorem oslicesConcat_eq (x) : oslicesConcat x = bslicesConcat x := by rw [oslicesConcat, shut_eq]
theorem wslicesConcatx3_eq (x) : wslicesConcatx3 x = whl rslicesConcatx3 x := by rw [wslicesConcatx3, shut_eq]
theorem wslicesConcatx11_eq (x) : wslicesConcatx11 x = whl rslicesConcatx11 x := by rw [wslicesConcatx11, shut_eq]
noncomputable def cslicesConcat : Ct := { ash := (.cons (.d (.sl (.sl (.pair (.int .i64) (.pair .id .unit))))) .unit), ms := [], foot := false, up := [], rsh := (.cons (.d (.sl (.pair (.int .i64) (.pair .id .unit)))) .unit), ks := [], ms' := [], G := fun x => trS (oslicesConcat x) }
noncomputable def EslicesConcat : Env := mkE Try.prog [] [46, 57] 35 [(3, .sum lslicesConcatx3), (11, .sum lslicesConcatx11)] [] 0
theorem rdslicesConcatx3 : ∀ x, round1 EslicesConcat 35 lslicesConcatx3 (loopAt Try.prog 35 0) x = rslicesConcatx3 x
  | ((x0, (x1, (x2, (x3, (x4, ()))))), ()) => by kernel_rfl
theorem rdslicesConcatx11 : ∀ x, round1 EslicesConcat 35 lslicesConcatx11 (loopAt Try.prog 35 1) x = rslicesConcatx11 x
  | ((x0, (x1, (x2, (x3, ())))), ((), ())) => by kernel_rfl
theorem runslicesConcat : ∀ x, run EslicesConcat 35 cslicesConcat x = bslicesConcat x
  | ((x0, ()), ()) => by kernel_rfl
theorem SslicesConcat : Spec Try.prog 35 cslicesConcat.fc :=
  spec_fn (bs := [loopAt Try.prog 35 0, loopAt Try.prog 35 1]) (inl := [46, 57]) (ls := [(3, .sum lslicesConcatx3), (11, .sum lslicesConcatx11)]) mixed hcs_nil (by kernel_rfl) (by kernel_rfl) (by decide) (by kernel_rfl) ⟨by kernel_rfl, lkOk_mk rdslicesConcatx3 (fun x => ((trO1_get trO0_get) _).trans (wslicesConcatx3_eq x)) rfl, ⟨by kernel_rfl, lkOk_mk rdslicesConcatx11 (fun x => ((trO1_get trO0_get) _).trans (wslicesConcatx11_eq x)) rfl, trivial⟩⟩ oslicesConcat (fun x => trS_get (oslicesConcat x)) (fun x => (runslicesConcat x).trans (oslicesConcat_eq x).symm)
/- function 56: (.d (.sl (.pair (.int .i64) (.pair .id .unit)))) (.fn (.func 55) .unit (.cons (.cptr (.d .id)) (.cons (.cptr (.d .id)) .unit))) -/
noncomputable def bfingerFilter (x : ((List (Int × (Am.Id × Unit)) × ((Unit × (Am.Id × (Am.Id × Unit))) × Unit)) × Unit)) : Option (((Unit × (List (Int × (Am.Id × Unit)) × ((Unit × (Am.Id × (Am.Id × Unit))) × Unit))) × Unit) × Unit) := match x with
  | ((x0, (((), (x1, (x2, ()))), ())), ()) => some ((((), x0, ((), x1, x2, ()), ()), ()), ())
noncomputable def ofingerFilter : ((List (Int × (Am.Id × Unit)) × ((Unit × (Am.Id × (Am.Id × Unit))) × Unit)) × Unit) → Option (((Unit × (List (Int × (Am.Id × Unit)) × ((Unit × (Am.Id × (Am.Id × Unit))) × Unit))) × Unit) × Unit) := shut bfingerFilter
theorem ofingerFilter_eq (x) : ofingerFilter x = bfingerFilter x := by rw [ofingerFilter, shut_eq]
noncomputable def cfingerFilter : Ct := { ash := (.cons (.d (.sl (.pair (.int .i64) (.pair .id .unit)))) (.cons (.fn (.func 55) .unit (.cons (.cptr (.d .id)) (.cons (.cptr (.d .id)) .unit))) .unit)), ms := [], foot := false, up := [], rsh := (.cons (.fn (.func 65) .unit (.cons (.cptr (.d (.sl (.pair (.int .i64) (.pair .id .unit))))) (.cons (.cptr (.fn (.func 55) .unit (.cons (.cptr (.d .id)) (.cons (.cptr (.d .id)) .unit)))) .unit))) .unit), ks := [], ms' := [], G := fun x => trS (ofingerFilter x) }
noncomputable def EfingerFilter : Env := mkE Try.prog [] [46, 57] 56 [] [] 0
theorem runfingerFilter : ∀ x, run EfingerFilter 56 cfingerFilter x = bfingerFilter x
  | ((x0, (((), (x1, (x2, ()))), ())), ()) => by kernel_rfl
theorem SfingerFilter : Spec Try.prog 56 cfingerFilter.fc :=
  spec_fn (bs := []) (inl := [46, 57]) (ls := []) mixed hcs_nil (by kernel_rfl) (by kernel_rfl) (by decide) (by kernel_rfl) trivial ofingerFilter (fun x => trS_get (ofingerFilter x)) (fun x => (runfingerFilter x).trans (ofingerFilter_eq x).symm)
/- function 55: (.d (.pair (.int .i64) (.pair .id .unit))) (.cptr (.d .id)) (.cptr (.d .id)) -/
noncomputable def bfingerClosest_1 (x : (((Int × (Am.Id × Unit)) × (Am.Id × (Am.Id × Unit))) × Unit)) : Option ((Bool × Unit) × Unit) := match x with
  | ((x0, (x1, (x2, ()))), ()) => bif bif ideq x0.snd.fst x1 then false else true then bif bif ideq x0.snd.fst x2 then false else true then bS (oidentIn ((x0.snd.fst, x1, x2, ()), ())) fun v0 => some v0 else some ((false, ()), ()) else some ((false, ()), ())
noncomputable def ofingerClosest_1 : (((Int × (Am.Id × Unit)) × (Am.Id × (Am.Id × Unit))) × Unit) → Option ((Bool × Unit) × Unit) := shut bfingerClosest_1
theorem ofingerClosest_1_eq (x) : ofingerClosest_1 x = bfingerClosest_1 x := by rw [ofingerClosest_1, shut_eq]
noncomputable def cfingerClosest_1 : Ct := { ash := (.cons (.d (.pair (.int .i64) (.pair .id .unit))) (.cons (.cptr (.d .id)) (.cons (.cptr (.d .id)) .unit))), ms := [], foot := false, up := [], rsh := (.cons (.d .bool) .unit), ks := [], ms' := [], G := fun x => trS (ofingerClosest_1 x) }
noncomputable def EfingerClosest_1 : Env := mkE Try.prog [(22, cidentIn.fc)] [46, 57] 55 [] [] 0
theorem runfingerClosest_1 : ∀ x, run EfingerClosest_1 55 cfingerClosest_1 x = bfingerClosest_1 x
  | ((x0, (x1, (x2, ()))), ()) => by kernel_rfl
theorem SfingerClosest_1 : Spec Try.prog 55 cfingerClosest_1.fc :=
  spec_fn (bs := []) (inl := [46, 57]) (ls := []) mixed (hcs_cons SidentIn hcs_nil) (by kernel_rfl) (by kernel_rfl) (by decide) (by kernel_rfl) trivial ofingerClosest_1 (fun x => trS_get (ofingerClosest_1 x)) (fun x => (runfingerClosest_1 x).trans (ofingerClosest_1_eq x).symm)
/- function 34: (.d .id) (.d .id) (.d (.sl (.pair (.int .i64) (.pair .id .unit)))) -/
noncomputable def bYfingerClosesty5 (x : ((Unit × (Unit × (Unit × Unit))) × ((Int × (Am.Id × Unit)) × Unit) × (Am.Id × ((Int × (Am.Id × Unit)) × (Int × Unit))))) : Option (Am.Id × ((Int × (Am.Id × Unit)) × (Int × Unit))) := match x with
  | (((), ((), ((), ()))), (x0, ()), (x1, (x2, (x3, ())))) => bif bif bif ieq x3 0 then false else true then false else true then bS (oidentFar ((x1, x2.snd), ())) fun v0 => bS (oidentFar ((x1, x0.snd), ())) fun v1 => bS (oidentCompare ((v0.fst.fst, v1.fst), ())) fun v2 => bif ilt v2.fst.fst 0 then some (x1, x0, 0, ()) else some (x1, x2, x3, ()) else some (x1, x0, 0, ())
noncomputable def oYfingerClosesty5 : ((Unit × (Unit × (Unit × Unit))) × ((Int × (Am.Id × Unit)) × Unit) × (Am.Id × ((Int × (Am.Id × Unit)) × (Int × Unit)))) → Option (Am.Id × ((Int × (Am.Id × Unit)) × (Int × Unit))) := shut bYfingerClosesty5
theorem oYfingerClosesty5_eq (x) : oYfingerClosesty5 x = bYfingerClosesty5 x := by rw [oYfingerClosesty5, shut_eq]
noncomputable def rfingerClosesty5ix1 (y : (Unit × (Unit × (Unit × Unit)))) (x : ((Unit × ((Unit × (Am.Id × (Am.Id × Unit))) × (List (Int × (Am.Id × Unit)) × (Int × (Int × Unit))))) × (Am.Id × ((Int × (Am.Id × Unit)) × (Int × (Unit × Unit)))))) : Option (((Unit × ((Unit × (Am.Id × (Am.Id × Unit))) × (List (Int × (Am.Id × Unit)) × (Int × (Int × Unit))))) × (Am.Id × ((Int × (Am.Id × Unit)) × (Int × (Unit × Unit))))) ⊕ ((Unit × (Am.Id × ((Int × (Am.Id × Unit)) × (Int × (Unit × Unit))))) ⊕ Empty)) := match y, x with
  | ((), ((), ((), ()))), (((), (((), (x0, (x1, ()))), (x2, (x3, (x4, ()))))), (x5, (x6, (x7, ((), ()))))) => bif ilt x4 x3 then bif bif ile 0 x4 then ilt x4 (dlen x2) else false then bS (ofingerClosest_1 ((dget ((Ty.int IntKind.i64).pair (Ty.id.pair Ty.unit)) x2 x4, x0, x1, ()), ())) fun v0 => bif v0.fst.fst then bS (oYfingerClosesty5 (((), (), (), ()), (dget ((Ty.int IntKind.i64).pair (Ty.id.pair Ty.unit)) x2 x4, ()), x5, x6, x7, ())) fun v1 => some (Sum.inl (((), ((), x0, x1, ()), x2, x3, iwrap IntKind.i64 (iadd x4 1), ()), v1.fst, v1.snd.fst, v1.snd.snd.fst, (), ())) else some (Sum.inl (((), ((), x0, x1, ()), x2, x3, iwrap IntKind.i64 (iadd x4 1), ()), x5, x6, x7, (), ())) else none else some (Sum.inr (Sum.inl ((), x5, x6, x7, (), ())))
noncomputable def wfingerClosesty5ix1 : ((Unit × (Unit × (Unit × Unit))) × ((Unit × ((Unit × (Am.Id × (Am.Id × Unit))) × (List (Int × (Am.Id × Unit)) × (Int × (Int × Unit))))) × (Am.Id × ((Int × (Am.Id × Unit)) × (Int × (Unit × Unit)))))) → Option ((Unit × (Am.Id × ((Int × (Am.Id × Unit)) × (Int × (Unit × Unit))))) ⊕ Empty) := shut fun p => whl (rfingerClosesty5ix1 p.1) p.2
theorem wfingerClosesty5ix1_eq (x) : wfingerClosesty5ix1 x = whl (rfingerClosesty5ix1 x.1) x.2 := by rw [wfingerClosesty5ix1, shut_eq]
noncomputable def lfingerClosesty5ix1 (y : (Unit × (Unit × (Unit × Unit)))) : Lp := { m := 22, up := [], ksE := [0, 1, 2, 3], ksA := [0, 1, 2, 3], keep := [0, 2, 6, 7, 8], sh := (.cons (.yld 3) (.cons (.cptr (.fn (.func 55) .unit (.cons (.cptr (.d .id)) (.cons (.cptr (.d .id)) .unit)))) (.cons (.d (.sl (.pair (.int .i64) (.pair .id .unit)))) (.cons (.d (.int .i64)) (.cons (.d (.int .i64)) .unit))))), ms := [.fro (.d .id), .box (.d (.pair (.int .i64) (.pair .id .unit))), .box (.d (.int .i64)), .loop], outs := [{ e := .exit 0, keep := [], ks := [0, 1, 2, 3], sh := .unit, ms := [.fro (.d .id), .box (.d (.pair (.int .i64) (.pair .id .unit))), .box (.d (.int .i64)), .loop] }], sum := fun x => (trO1 trO0) (wfingerClosesty5ix1 (y, x)) }
noncomputable def YffingerClosesty5 (x : (Unit × (Unit × (Unit × Unit)))) (p : ((Int × (Am.Id × Unit)) × Unit) × (Am.Id × ((Int × (Am.Id × Unit)) × (Int × Unit)))) : Tr (Am.Id × ((Int × (Am.Id × Unit)) × (Int × Unit))) := trS (oYfingerClosesty5 (x, p.1, p.2))
noncomputable def EfingerClosesty5i0 (x : (Unit × (Unit × (Unit × Unit)))) : Env := mkE Try.prog [(55, cfingerClosest_1.fc)] [46, 57] 65 [(1, .sum (lfingerClosesty5ix1 x))] [] 4
noncomputable def EfingerClosesty5i (x : (Unit × (Unit × (Unit × Unit)))) : Env := (EfingerClosesty5i0 x).yielding 4 [0, 1, 2] (fcY (.cons (.d (.pair (.int .i64) (.pair .id .unit))) .unit) [.fro (.d .id), .box (.d (.pair (.int .i64) (.pair .id .unit))), .box (.d (.int .i64))] (YffingerClosesty5 x))
theorem rdfingerClosesty5ix1 : ∀ y x, round1 (EfingerClosesty5i y) 65 (lfingerClosesty5ix1 y) (loopAt Try.prog 65 0) x = rfingerClosesty5ix1 y x
  | ((), ((), ((), ()))), (((), (((), (x0, (x1, ()))), (x2, (x3, (x4, ()))))), (x5, (x6, (x7, ((), ()))))) => by kernel_rfl
noncomputable def bIfingerClosesty5 (x : ((Unit × (Unit × (Unit × Unit))) × (List (Int × (Am.Id × Unit)) × ((Unit × (Am.Id × (Am.Id × Unit))) × Unit)) × (Am.Id × ((Int × (Am.Id × Unit)) × (Int × Unit))))) : Option (Am.Id × ((Int × (Am.Id × Unit)) × (Int × Unit))) := match x with
  | (((), ((), ((), ()))), (x0, (((), (x1, (x2, ()))), ())), (x3, (x4, (x5, ())))) => Option.rec none (fun val => some (val.snd.fst, val.snd.snd.fst, val.snd.snd.snd.fst, ())) (bif isL (wfingerClosesty5ix1 (((), (), (), ()), ((), ((), x1, x2, ()), x0, dlen x0, 0, ()), x3, x4, x5, (), ())) then some ((), (getL (wfingerClosesty5ix1 (((), (), (), ()), ((), ((), x1, x2, ()), x0, dlen x0, 0, ()), x3, x4, x5, (), ()))).snd.fst, (getL (wfingerClosesty5ix1 (((), (), (), ()), ((), ((), x1, x2, ()), x0, dlen x0, 0, ()), x3, x4, x5, (), ()))).snd.snd.fst, (getL (wfingerClosesty5ix1 (((), (), (), ()), ((), ((), x1, x2, ()), x0, dlen x0, 0, ()), x3, x4, x5, (), ()))).snd.snd.snd.fst, (), ()) else none)
noncomputable def oIfingerClosesty5 : ((Unit × (Unit × (Unit × Unit))) × (List (Int × (Am.Id × Unit)) × ((Unit × (Am.Id × (Am.Id × Unit))) × Unit)) × (Am.Id × ((Int × (Am.Id × Unit)) × (Int × Unit)))) → Option (Am.Id × ((Int × (Am.Id × Unit)) × (Int × Unit))) := shut bIfingerClosesty5
theorem oIfingerClosesty5_eq (x) : oIfingerClosesty5 x = bIfingerClosesty5 x := by rw [oIfingerClosesty5, shut_eq]
noncomputable def rffingerClosesty5 : Rf := { it := 65, m := 35, up := [], keep := [4, 8, 9], sh := (.cons (.loc 0 0) (.cons (.loc 1 0) (.cons (.loc 2 0) .unit))), csh := (.cons (.cptr (.d (.sl (.pair (.int .i64) (.pair .id .unit))))) (.cons (.cptr (.fn (.func 55) .unit (.cons (.cptr (.d .id)) (.cons (.cptr (.d .id)) .unit)))) .unit)), ksE := [1, 3, 4], ms := [.fro (.d .id), .box (.d (.pair (.int .i64) (.pair .id .unit))), .box (.d (.int .i64))], sum := fun x => trS (oIfingerClosesty5 x) }
theorem itfingerClosesty5 : ∀ x y z, runIt (EfingerClosesty5i0 x) 65 (.cons (.d (.pair (.int .i64) (.pair .id .unit))) .unit) (.cons (.cptr (.d (.sl (.pair (.int .i64) (.pair .id .unit))))) (.cons (.cptr (.fn (.func 55) .unit (.cons (.cptr (.d .id)) (.cons (.cptr (.d .id)) .unit)))) .unit)) [.fro (.d .id), .box (.d (.pair (.int .i64) (.pair .id .unit))), .box (.d (.int .i64))] (YffingerClosesty5 x) y z = bIfingerClosesty5 (x, y, z)
  | ((), ((), ((), ()))), (x0, (((), (x1, (x2, ()))), ())), (x3, (x4, (x5, ()))) => by kernel_rfl
noncomputable def bfingerClosest (x : ((Am.Id × (Am.Id × (List (Int × (Am.Id × Unit)) × Unit))) × Unit)) : Option (((Int × (Am.Id × Unit)) × (Int × Unit)) × Unit) := match x with
  | ((x0, (x1, (x2, ()))), ()) => bS (ofingerFilter ((x2, ((), x1, x0, ()), ()), ())) fun v0 => bS (oIfingerClosesty5 (((), (), (), ()), (v0.fst.fst.snd.fst, ((), v0.fst.fst.snd.snd.fst.snd), ()), x1, (0, Id.zero, ()), 6, ())) fun v1 => some (v1.snd, ())
noncomputable def ofingerClosest : ((Am.Id × (Am.Id × (List (Int × (Am.Id × Unit)) × Unit))) × Unit) → Option (((Int × (Am.Id × Unit)) × (Int × Unit)) × Unit) := shut bfingerClosest
theorem ofingerClosest_eq (x) : ofingerClosest x = bfingerClosest x := by rw [ofingerClosest, shut_eq]
noncomputable def cfingerClosest : Ct := { ash := (.cons (.d .id) (.cons (.d .id) (.cons (.d (.sl (.pair (.int .i64) (.pair .id .unit)))) .unit))), ms := [], foot := false, up := [], rsh := (.cons (.d (.pair (.int .i64) (.pair .id .unit))) (.cons (.d (.int .i64)) .unit)), ks := [], ms' := [], G := fun x => trS (ofingerClosest x) }
noncomputable def EfingerClosest : Env := mkE Try.prog [(56, cfingerFilter.fc), (31, cidentFar.fc), (30, cidentCompare.fc)] [46, 57] 34 [] [(5, rffingerClosesty5)] 0
theorem bdfingerClosesty5 : ∀ x a z, bodyB EfingerClosest 34 35 [4, 8, 9] (.cons (.loc 0 0) (.cons (.loc 1 0) (.cons (.loc 2 0) .unit))) (.cons (.d (.pair (.int .i64) (.pair .id .unit))) .unit) [.fro (.d .id), .box (.d (.pair (.int .i64) (.pair .id .unit))), .box (.d (.int .i64))] (rfPs (rfAt Try.prog 34 0)) (rfAs (rfAt Try.prog 34 0)) (rfBo (rfAt Try.prog 34 0)) x a z = bYfingerClosesty5 (x, a, z)
  | ((), ((), ((), ()))), (x0, ()), (x1, (x2, (x3, ()))) => by kernel_rfl
theorem runfingerClosest : ∀ x, run EfingerClosest 34 cfingerClosest x = bfingerClosest x
  | ((x0, (x1, (x2, ()))), ()) => by kernel_rfl
theorem XfingerClosesty5 : ExecOk EfingerClosest 34 none (rfAt Try.prog 34 0) :=
  exec_rf (P := Try.prog) (cs := [(56, cfingerFilter.fc), (31, cidentFar.fc), (30, cidentCompare.fc)]) (cs2 := [(55, cfingerClosest_1.fc)]) (inl := [46, 57]) (inl2 := [46, 57]) (f := 34) (ls := []) (rs := [(5, rffingerClosesty5)]) (nf := 0) (rf := rffingerClosesty5) (d := rfAt Try.prog 34 0) (ysh := (.cons (.d (.pair (.int .i64) (.pair .id .unit))) .unit)) (Y := YffingerClosesty5) (ls2 := fun x => [(1, .sum (lfingerClosesty5ix1 x))]) (bs2 := [loopAt Try.prog 65 0]) mixed (hcs_cons SfingerFilter (hcs_cons SidentFar (hcs_cons SidentCompare hcs_nil))) (hcs_cons SfingerClosest_1 hcs_nil) (by kernel_rfl) (by kernel_rfl) (by kernel_rfl) (fun a => by kernel_rfl) (fun x a z => bYfingerClosesty5 (x, a, z)) (fun x a z => (trS_get (oYfingerClosesty5 (x, a, z))).trans (oYfingerClosesty5_eq (x, a, z))) bdfingerClosesty5 (fun x => show List.Nodup ([1] : List Nat) by decide) (by kernel_rfl) (fun x => ⟨by kernel_rfl, lkOk_mk (rdfingerClosesty5ix1 x) (fun y => ((trO1_get trO0_get) _).trans (wfingerClosesty5ix1_eq (x, y))) rfl, trivial⟩) (fun x y z => oIfingerClosesty5 (x, y, z)) (fun x y z => trS_get (oIfingerClosesty5 (x, y, z))) (fun x y z => (itfingerClosesty5 x y z).trans (oIfingerClosesty5_eq (x, y, z)).symm)
theorem SfingerClosest : Spec Try.prog 34 cfingerClosest.fc :=
  spec_fnr (bs := []) (ds := [rfAt Try.prog 34 0]) (inl := [46, 57]) (ls := []) mixed (hcs_cons SfingerFilter (hcs_cons SidentFar (hcs_cons SidentCompare hcs_nil))) (by kernel_rfl) (by kernel_rfl) (by decide) (by kernel_rfl) trivial (by kernel_rfl) (all_cons XfingerClosesty5 all_nil) ofingerClosest (fun x => trS_get (ofingerClosest x)) (fun x => (runfingerClosest x).trans (ofingerClosest_eq x).symm)
end Am
end Go.Proofs.Ytokamjlhdidefaa
