/-
  Printed contracts, part 1.
-/
import Derived.Test.YtgdgiihaakcmpaaProg
import Derived.Test.YtgdgiihaakcmpaaBm24
import Derived.Test.YtgdgiihaakcmpaaTy
namespace Go.Proofs.Ytgdgiihaakcmpaa
namespace Am
open Go Go.RowKit
set_option maxRecDepth 100000
set_option linter.unusedVariables false
theorem mixed : Try.prog.follows .mixedOrders = true := rfl
/- function 7: (.d (.sl (.pair .id (.pair (.pair (.int .i64) (.pair .id (.pair (.int .i64) .unit))) (.pair (.int .i64) .unit))))) -/
noncomputable def blaw13Few (x : ((List (Am.Id × ((Int × (Am.Id × (Int × Unit))) × (Int × Unit))) × Unit) × Unit)) : Option ((List (Am.Id × ((Int × (Am.Id × (Int × Unit))) × (Int × Unit))) × Unit) × Unit) := match x with
  | ((x0, ()), ()) => bif bif bif ile 0 0 then ile 0 (imin (dlen x0) 34) else false then ile (imin (dlen x0) 34) (dlen x0) else false then some ((dsub x0 0 (imin (dlen x0) 34), ()), ()) else none
noncomputable def olaw13Few : ((List (Am.Id × ((Int × (Am.Id × (Int × Unit))) × (Int × Unit))) × Unit) × Unit) → Option ((List (Am.Id × ((Int × (Am.Id × (Int × Unit))) × (Int × Unit))) × Unit) × Unit) := shut blaw13Few
theorem olaw13Few_eq (x) : olaw13Few x = blaw13Few x := by rw [olaw13Few, shut_eq]
noncomputable def claw13Few : Ct := { ash := (.cons (.d (.sl (.pair .id (.pair (.pair (.int .i64) (.pair .id (.pair (.int .i64) .unit))) (.pair (.int .i64) .unit))))) .unit), ms := [], foot := false, up := [], rsh := (.cons (.d (.sl (.pair .id (.pair (.pair (.int .i64) (.pair .id (.pair (.int .i64) .unit))) (.pair (.int .i64) .unit))))) .unit), ks := [], ms' := [], G := fun x => trS (olaw13Few x) }
noncomputable def Elaw13Few : Env := mkE Try.prog [] [55] 7 [] [] 0
theorem runlaw13Few : ∀ x, run Elaw13Few 7 claw13Few x = blaw13Few x
  | ((x0, ()), ()) => by kernel_rfl
theorem Slaw13Few : Spec Try.prog 7 claw13Few.fc :=
  spec_fn (bs := []) (inl := [55]) (ls := []) mixed hcs_nil (by kernel_rfl) (by kernel_rfl) (by decide) (by kernel_rfl) trivial olaw13Few (fun x => trS_get (olaw13Few x)) (fun x => (runlaw13Few x).trans (olaw13Few_eq x).symm)
/- function 8: (.d (.pair (.sl (.pair (.int .i64) (.pair .id (.pair (.int .i64) .unit)))) (.pair (.int .i64) (.pair .str .unit)))) -/
noncomputable def blaw13Cut (x : (((List (Int × (Am.Id × (Int × Unit))) × (Int × (List UInt8 × Unit))) × Unit) × Unit)) : Option (((List (Int × (Am.Id × (Int × Unit))) × (Int × (List UInt8 × Unit))) × Unit) × Unit) := match x with
  | ((x0, ()), ()) => bif bif bif ile 0 0 then ile 0 (imin (dlen x0.fst) 6) else false then ile (imin (dlen x0.fst) 6) (dlen x0.fst) else false then bif bif bif ile 0 0 then ile 0 (imin (dlen x0.snd.snd.fst) 70) else false then ile (imin (dlen x0.snd.snd.fst) 70) (dlen x0.snd.snd.fst) else false then some (((dsub x0.fst 0 (imin (dlen x0.fst) 6), x0.snd.fst, dsub x0.snd.snd.fst 0 (imin (dlen x0.snd.snd.fst) 70), ()), ()), ()) else none else none
noncomputable def olaw13Cut : (((List (Int × (Am.Id × (Int × Unit))) × (Int × (List UInt8 × Unit))) × Unit) × Unit) → Option (((List (Int × (Am.Id × (Int × Unit))) × (Int × (List UInt8 × Unit))) × Unit) × Unit) := shut blaw13Cut
theorem olaw13Cut_eq (x) : olaw13Cut x = blaw13Cut x := by rw [olaw13Cut, shut_eq]
noncomputable def claw13Cut : Ct := { ash := (.cons (.d (.pair (.sl (.pair (.int .i64) (.pair .id (.pair (.int .i64) .unit)))) (.pair (.int .i64) (.pair .str .unit)))) .unit), ms := [], foot := false, up := [], rsh := (.cons (.d (.pair (.sl (.pair (.int .i64) (.pair .id (.pair (.int .i64) .unit)))) (.pair (.int .i64) (.pair .str .unit)))) .unit), ks := [], ms' := [], G := fun x => trS (olaw13Cut x) }
noncomputable def Elaw13Cut : Env := mkE Try.prog [] [55] 8 [] [] 0
theorem runlaw13Cut : ∀ x, run Elaw13Cut 8 claw13Cut x = blaw13Cut x
  | ((x0, ()), ()) => by kernel_rfl
theorem Slaw13Cut : Spec Try.prog 8 claw13Cut.fc :=
  spec_fn (bs := []) (inl := [55]) (ls := []) mixed hcs_nil (by kernel_rfl) (by kernel_rfl) (by decide) (by kernel_rfl) trivial olaw13Cut (fun x => trS_get (olaw13Cut x)) (fun x => (runlaw13Cut x).trans (olaw13Cut_eq x).symm)
/- function 37: (.d (.pair (.int .i64) (.pair .id (.pair (.int .i64) .unit)))) -/
noncomputable def bstackIs (x : (((Int × (Am.Id × (Int × Unit))) × Unit) × Unit)) : Option ((Bool × Unit) × Unit) := match x with
  | ((x0, ()), ()) => bif ieq x0.fst 1 then some ((ieq x0.snd.snd.fst 0, ()), ()) else bif ieq x0.fst 2 then bif ideq x0.snd.fst Id.zero then bif ile 0 x0.snd.snd.fst then some ((ilt x0.snd.snd.fst 16, ()), ()) else some ((false, ()), ()) else some ((false, ()), ()) else some ((false, ()), ())
noncomputable def ostackIs : (((Int × (Am.Id × (Int × Unit))) × Unit) × Unit) → Option ((Bool × Unit) × Unit) := shut bstackIs
theorem ostackIs_eq (x) : ostackIs x = bstackIs x := by rw [ostackIs, shut_eq]
noncomputable def cstackIs : Ct := { ash := (.cons (.d (.pair (.int .i64) (.pair .id (.pair (.int .i64) .unit)))) .unit), ms := [], foot := false, up := [], rsh := (.cons (.d .bool) .unit), ks := [], ms' := [], G := fun x => trS (ostackIs x) }
noncomputable def EstackIs : Env := mkE Try.prog [] [55] 37 [] [] 0
theorem runstackIs : ∀ x, run EstackIs 37 cstackIs x = bstackIs x
  | ((x0, ()), ()) => by kernel_rfl
theorem SstackIs : Spec Try.prog 37 cstackIs.fc :=
  spec_fn (bs := []) (inl := [55]) (ls := []) mixed hcs_nil (by kernel_rfl) (by kernel_rfl) (by decide) (by kernel_rfl) trivial ostackIs (fun x => trS_get (ostackIs x)) (fun x => (runstackIs x).trans (ostackIs_eq x).symm)
/- function 50: (.d (.pair (.int .i64) (.pair .id (.pair (.int .i64) .unit)))) -/
noncomputable def bstackAll_1 (x : (((Int × (Am.Id × (Int × Unit))) × Unit) × Unit)) : Option ((Bool × Unit) × Unit) := match x with
  | ((x0, ()), ()) => bS (ostackIs ((x0, ()), ())) fun v0 => some ((bif v0.fst.fst then false else true, ()), ())
noncomputable def ostackAll_1 : (((Int × (Am.Id × (Int × Unit))) × Unit) × Unit) → Option ((Bool × Unit) × Unit) := shut bstackAll_1
theorem ostackAll_1_eq (x) : ostackAll_1 x = bstackAll_1 x := by rw [ostackAll_1, shut_eq]
noncomputable def cstackAll_1 : Ct := { ash := (.cons (.d (.pair (.int .i64) (.pair .id (.pair (.int .i64) .unit)))) .unit), ms := [], foot := false, up := [], rsh := (.cons (.d .bool) .unit), ks := [], ms' := [], G := fun x => trS (ostackAll_1 x) }
noncomputable def EstackAll_1 : Env := mkE Try.prog [(37, cstackIs.fc)] [55] 50 [] [] 0
theorem runstackAll_1 : ∀ x, run EstackAll_1 50 cstackAll_1 x = bstackAll_1 x
  | ((x0, ()), ()) => by kernel_rfl
theorem SstackAll_1 : Spec Try.prog 50 cstackAll_1.fc :=
  spec_fn (bs := []) (inl := [55]) (ls := []) mixed (hcs_cons SstackIs hcs_nil) (by kernel_rfl) (by kernel_rfl) (by decide) (by kernel_rfl) trivial ostackAll_1 (fun x => trS_get (ostackAll_1 x)) (fun x => (runstackAll_1 x).trans (ostackAll_1_eq x).symm)
/- function 56: (.d (.sl (.pair (.int .i64) (.pair .id (.pair (.int .i64) .unit))))) (.fn (.func 50) .unit .unit) -/
noncomputable def rslicesIndexFuncx2 (x : ((List (Int × (Am.Id × (Int × Unit))) × ((Unit × Unit) × (Int × (Int × Unit)))) × Unit)) : Option (((List (Int × (Am.Id × (Int × Unit))) × ((Unit × Unit) × (Int × (Int × Unit)))) × Unit) ⊕ ((Unit × Unit) ⊕ (((Int × Unit) × Unit) ⊕ Empty))) := match x with
  | ((x0, (((), ()), (x1, (x2, ())))), ()) => bif ilt x2 x1 then bif bif ile 0 x2 then ilt x2 (dlen x0) else false then bS (ostackAll_1 ((dget ((Ty.int IntKind.i64).pair (Ty.id.pair ((Ty.int IntKind.i64).pair Ty.unit))) x0 x2, ()), ())) fun v0 => bif v0.fst.fst then some (Sum.inr (Sum.inr (Sum.inl ((x2, ()), ())))) else some (Sum.inl ((x0, ((), ()), x1, iwrap IntKind.i64 (iadd x2 1), ()), ())) else none else some (Sum.inr (Sum.inl ((), ())))
noncomputable def wslicesIndexFuncx2 : ((List (Int × (Am.Id × (Int × Unit))) × ((Unit × Unit) × (Int × (Int × Unit)))) × Unit) → Option ((Unit × Unit) ⊕ (((Int × Unit) × Unit) ⊕ Empty)) := shut (whl rslicesIndexFuncx2)
noncomputable def lslicesIndexFuncx2 : Lp := { m := 19, up := [], ksE := [], ksA := [], keep := [0, 1, 7, 8], sh := (.cons (.d (.sl (.pair (.int .i64) (.pair .id (.pair (.int .i64) .unit))))) (.cons (.fn (.func 50) .unit .unit) (.cons (.d (.int .i64)) (.cons (.d (.int .i64)) .unit)))), ms := [], outs := [{ e := .exit 0, keep := [], ks := [], sh := .unit, ms := [] }, { e := .ret, keep := [4], ks := [], sh := (.cons (.d (.int .i64)) .unit), ms := [] }], sum := fun x => (trO1 (trO1 trO0)) (wslicesIndexFuncx2 x) }
noncomputable def bslicesIndexFunc (x : ((List (Int × (Am.Id × (Int × Unit))) × ((Unit × Unit) × Unit)) × Unit)) : Option ((Int × Unit) × Unit) := match x with
  | ((x0, (((), ()), ())), ()) => bL (wslicesIndexFuncx2 ((x0, ((), ()), dlen x0, 0, ()), ())) (fun v0 => some ((-1, ()), ())) fun u0 => bL u0 (fun v1 => some v1) fun u1 => none
noncomputable def oslicesIndexFunc : ((List (Int × (Am.Id × (Int × Unit))) × ((Unit × Unit) × Unit)) × Unit) → Option ((Int × Unit) × Unit) := shut bslicesIndexFunc
theorem oslicesIndexFunc_eq (x) : oslicesIndexFunc x = bslicesIndexFunc x := by rw [oslicesIndexFunc, shut_eq]
theorem wslicesIndexFuncx2_eq (x) : wslicesIndexFuncx2 x = whl rslicesIndexFuncx2 x := by rw [wslicesIndexFuncx2, shut_eq]
noncomputable def cslicesIndexFunc : Ct := { ash := (.cons (.d (.sl (.pair (.int .i64) (.pair .id (.pair (.int .i64) .unit))))) (.cons (.fn (.func 50) .unit .unit) .unit)), ms := [], foot := false, up := [], rsh := (.cons (.d (.int .i64)) .unit), ks := [], ms' := [], G := fun x => trS (oslicesIndexFunc x) }
noncomputable def EslicesIndexFunc : Env := mkE Try.prog [(50, cstackAll_1.fc)] [55] 56 [(2, .sum lslicesIndexFuncx2)] [] 0
theorem rdslicesIndexFuncx2 : ∀ x, round1 EslicesIndexFunc 56 lslicesIndexFuncx2 (loopAt Try.prog 56 0) x = rslicesIndexFuncx2 x
  | ((x0, (((), ()), (x1, (x2, ())))), ()) => by kernel_rfl
theorem runslicesIndexFunc : ∀ x, run EslicesIndexFunc 56 cslicesIndexFunc x = bslicesIndexFunc x
  | ((x0, (((), ()), ())), ()) => by kernel_rfl
theorem SslicesIndexFunc : Spec Try.prog 56 cslicesIndexFunc.fc :=
  spec_fn (bs := [loopAt Try.prog 56 0]) (inl := [55]) (ls := [(2, .sum lslicesIndexFuncx2)]) mixed (hcs_cons SstackAll_1 hcs_nil) (by kernel_rfl) (by kernel_rfl) (by decide) (by kernel_rfl) ⟨by kernel_rfl, lkOk_mk rdslicesIndexFuncx2 (fun x => ((trO1_get (trO1_get trO0_get)) _).trans (wslicesIndexFuncx2_eq x)) rfl, trivial⟩ oslicesIndexFunc (fun x => trS_get (oslicesIndexFunc x)) (fun x => (runslicesIndexFunc x).trans (oslicesIndexFunc_eq x).symm)
/- function 49: (.d (.sl (.pair (.int .i64) (.pair .id (.pair (.int .i64) .unit))))) (.fn (.func 50) .unit .unit) -/
noncomputable def bslicesContainsFunc (x : ((List (Int × (Am.Id × (Int × Unit))) × ((Unit × Unit) × Unit)) × Unit)) : Option ((Bool × Unit) × Unit) := match x with
  | ((x0, (((), ()), ())), ()) => bS (oslicesIndexFunc ((x0, ((), ()), ()), ())) fun v0 => some ((ile 0 v0.fst.fst, ()), ())
noncomputable def oslicesContainsFunc : ((List (Int × (Am.Id × (Int × Unit))) × ((Unit × Unit) × Unit)) × Unit) → Option ((Bool × Unit) × Unit) := shut bslicesContainsFunc
theorem oslicesContainsFunc_eq (x) : oslicesContainsFunc x = bslicesContainsFunc x := by rw [oslicesContainsFunc, shut_eq]
noncomputable def cslicesContainsFunc : Ct := { ash := (.cons (.d (.sl (.pair (.int .i64) (.pair .id (.pair (.int .i64) .unit))))) (.cons (.fn (.func 50) .unit .unit) .unit)), ms := [], foot := false, up := [], rsh := (.cons (.d .bool) .unit), ks := [], ms' := [], G := fun x => trS (oslicesContainsFunc x) }
noncomputable def EslicesContainsFunc : Env := mkE Try.prog [(56, cslicesIndexFunc.fc)] [55] 49 [] [] 0
theorem runslicesContainsFunc : ∀ x, run EslicesContainsFunc 49 cslicesContainsFunc x = bslicesContainsFunc x
  | ((x0, (((), ()), ())), ()) => by kernel_rfl
theorem SslicesContainsFunc : Spec Try.prog 49 cslicesContainsFunc.fc :=
  spec_fn (bs := []) (inl := [55]) (ls := []) mixed (hcs_cons SslicesIndexFunc hcs_nil) (by kernel_rfl) (by kernel_rfl) (by decide) (by kernel_rfl) trivial oslicesContainsFunc (fun x => trS_get (oslicesContainsFunc x)) (fun x => (runslicesContainsFunc x).trans (oslicesContainsFunc_eq x).symm)
/- function 36: (.d (.sl (.pair (.int .i64) (.pair .id (.pair (.int .i64) .unit))))) -/
noncomputable def bstackAll (x : ((List (Int × (Am.Id × (Int × Unit))) × Unit) × Unit)) : Option ((Bool × Unit) × Unit) := match x with
  | ((x0, ()), ()) => bS (oslicesContainsFunc ((x0, ((), ()), ()), ())) fun v0 => some ((bif v0.fst.fst then false else true, ()), ())
noncomputable def ostackAll : ((List (Int × (Am.Id × (Int × Unit))) × Unit) × Unit) → Option ((Bool × Unit) × Unit) := shut bstackAll
theorem ostackAll_eq (x) : ostackAll x = bstackAll x := by rw [ostackAll, shut_eq]
noncomputable def cstackAll : Ct := { ash := (.cons (.d (.sl (.pair (.int .i64) (.pair .id (.pair (.int .i64) .unit))))) .unit), ms := [], foot := false, up := [], rsh := (.cons (.d .bool) .unit), ks := [], ms' := [], G := fun x => trS (ostackAll x) }
noncomputable def EstackAll : Env := mkE Try.prog [(49, cslicesContainsFunc.fc)] [55] 36 [] [] 0
theorem runstackAll : ∀ x, run EstackAll 36 cstackAll x = bstackAll x
  | ((x0, ()), ()) => by kernel_rfl
theorem SstackAll : Spec Try.prog 36 cstackAll.fc :=
  spec_fn (bs := []) (inl := [55]) (ls := []) mixed (hcs_cons SslicesContainsFunc hcs_nil) (by kernel_rfl) (by kernel_rfl) (by decide) (by kernel_rfl) trivial ostackAll (fun x => trS_get (ostackAll x)) (fun x => (runstackAll x).trans (ostackAll_eq x).symm)
/- function 22: (.d (.sl (.pair (.int .i64) (.pair .id (.pair (.int .i64) .unit))))) -/
noncomputable def bstackRight (x : ((List (Int × (Am.Id × (Int × Unit))) × Unit) × Unit)) : Option ((Bool × Unit) × Unit) := match x with
  | ((x0, ()), ()) => bif ile 1 (dlen x0) then bif ile (dlen x0) 4 then bS (ostackAll ((x0, ()), ())) fun v0 => some v0 else some ((false, ()), ()) else some ((false, ()), ())
noncomputable def ostackRight : ((List (Int × (Am.Id × (Int × Unit))) × Unit) × Unit) → Option ((Bool × Unit) × Unit) := shut bstackRight
theorem ostackRight_eq (x) : ostackRight x = bstackRight x := by rw [ostackRight, shut_eq]
noncomputable def cstackRight : Ct := { ash := (.cons (.d (.sl (.pair (.int .i64) (.pair .id (.pair (.int .i64) .unit))))) .unit), ms := [], foot := false, up := [], rsh := (.cons (.d .bool) .unit), ks := [], ms' := [], G := fun x => trS (ostackRight x) }
noncomputable def EstackRight : Env := mkE Try.prog [(36, cstackAll.fc)] [55] 22 [] [] 0
theorem runstackRight : ∀ x, run EstackRight 22 cstackRight x = bstackRight x
  | ((x0, ()), ()) => by kernel_rfl
theorem SstackRight : Spec Try.prog 22 cstackRight.fc :=
  spec_fn (bs := []) (inl := [55]) (ls := []) mixed (hcs_cons SstackAll hcs_nil) (by kernel_rfl) (by kernel_rfl) (by decide) (by kernel_rfl) trivial ostackRight (fun x => trS_get (ostackRight x)) (fun x => (runstackRight x).trans (ostackRight_eq x).symm)
/- function 11: (.d (.pair (.sl (.pair (.int .i64) (.pair .id (.pair (.int .i64) .unit)))) (.pair (.int .i64) (.pair .str .unit)))) -/
noncomputable def brewriteRight (x : (((List (Int × (Am.Id × (Int × Unit))) × (Int × (List UInt8 × Unit))) × Unit) × Unit)) : Option ((Bool × Unit) × Unit) := match x with
  | ((x0, ()), ()) => bS (ostackRight ((x0.fst, ()), ())) fun v0 => bif v0.fst.fst then bif ile 0 x0.snd.fst then bif ile x0.snd.fst 64 then some ((ile (dlen x0.snd.snd.fst) 64, ()), ()) else some ((false, ()), ()) else some ((false, ()), ()) else some ((false, ()), ())
noncomputable def orewriteRight : (((List (Int × (Am.Id × (Int × Unit))) × (Int × (List UInt8 × Unit))) × Unit) × Unit) → Option ((Bool × Unit) × Unit) := shut brewriteRight
theorem orewriteRight_eq (x) : orewriteRight x = brewriteRight x := by rw [orewriteRight, shut_eq]
noncomputable def crewriteRight : Ct := { ash := (.cons (.d (.pair (.sl (.pair (.int .i64) (.pair .id (.pair (.int .i64) .unit)))) (.pair (.int .i64) (.pair .str .unit)))) .unit), ms := [], foot := false, up := [], rsh := (.cons (.d .bool) .unit), ks := [], ms' := [], G := fun x => trS (orewriteRight x) }
noncomputable def ErewriteRight : Env := mkE Try.prog [(22, cstackRight.fc)] [55] 11 [] [] 0
theorem runrewriteRight : ∀ x, run ErewriteRight 11 crewriteRight x = brewriteRight x
  | ((x0, ()), ()) => by kernel_rfl
theorem SrewriteRight : Spec Try.prog 11 crewriteRight.fc :=
  spec_fn (bs := []) (inl := [55]) (ls := []) mixed (hcs_cons SstackRight hcs_nil) (by kernel_rfl) (by kernel_rfl) (by decide) (by kernel_rfl) trivial orewriteRight (fun x => trS_get (orewriteRight x)) (fun x => (runrewriteRight x).trans (orewriteRight_eq x).symm)
/- function 23: (.d (.pair .id (.pair (.pair (.int .i64) (.pair .id (.pair (.int .i64) .unit))) (.pair (.int .i64) .unit)))) -/
noncomputable def btableMay (x : (((Am.Id × ((Int × (Am.Id × (Int × Unit))) × (Int × Unit))) × Unit) × Unit)) : Option ((Bool × Unit) × Unit) := match x with
  | ((x0, ()), ()) => bS (ostackIs ((x0.snd.fst, ()), ())) fun v0 => bif v0.fst.fst then bif ile 0 x0.snd.snd.fst then some ((ile x0.snd.snd.fst 1099511627776, ()), ()) else some ((false, ()), ()) else some ((false, ()), ())
noncomputable def otableMay : (((Am.Id × ((Int × (Am.Id × (Int × Unit))) × (Int × Unit))) × Unit) × Unit) → Option ((Bool × Unit) × Unit) := shut btableMay
theorem otableMay_eq (x) : otableMay x = btableMay x := by rw [otableMay, shut_eq]
noncomputable def ctableMay : Ct := { ash := (.cons (.d (.pair .id (.pair (.pair (.int .i64) (.pair .id (.pair (.int .i64) .unit))) (.pair (.int .i64) .unit)))) .unit), ms := [], foot := false, up := [], rsh := (.cons (.d .bool) .unit), ks := [], ms' := [], G := fun x => trS (otableMay x) }
noncomputable def EtableMay : Env := mkE Try.prog [(37, cstackIs.fc)] [55] 23 [] [] 0
theorem runtableMay : ∀ x, run EtableMay 23 ctableMay x = btableMay x
  | ((x0, ()), ()) => by kernel_rfl
theorem StableMay : Spec Try.prog 23 ctableMay.fc :=
  spec_fn (bs := []) (inl := [55]) (ls := []) mixed (hcs_cons SstackIs hcs_nil) (by kernel_rfl) (by kernel_rfl) (by decide) (by kernel_rfl) trivial otableMay (fun x => trS_get (otableMay x)) (fun x => (runtableMay x).trans (otableMay_eq x).symm)
/- function 60: (.d .u8) -/
noncomputable def bcmpIsNaN (x : ((UInt8 × Unit) × Unit)) : Option ((Bool × Unit) × Unit) := match x with
  | ((x0, ()), ()) => some ((bif u8eq x0 x0 then false else true, ()), ())
noncomputable def ocmpIsNaN : ((UInt8 × Unit) × Unit) → Option ((Bool × Unit) × Unit) := shut bcmpIsNaN
theorem ocmpIsNaN_eq (x) : ocmpIsNaN x = bcmpIsNaN x := by rw [ocmpIsNaN, shut_eq]
noncomputable def ccmpIsNaN : Ct := { ash := (.cons (.d .u8) .unit), ms := [], foot := false, up := [], rsh := (.cons (.d .bool) .unit), ks := [], ms' := [], G := fun x => trS (ocmpIsNaN x) }
noncomputable def EcmpIsNaN : Env := mkE Try.prog [] [55] 60 [] [] 0
theorem runcmpIsNaN : ∀ x, run EcmpIsNaN 60 ccmpIsNaN x = bcmpIsNaN x
  | ((x0, ()), ()) => by kernel_rfl
theorem ScmpIsNaN : Spec Try.prog 60 ccmpIsNaN.fc :=
  spec_fn (bs := []) (inl := [55]) (ls := []) mixed hcs_nil (by kernel_rfl) (by kernel_rfl) (by decide) (by kernel_rfl) trivial ocmpIsNaN (fun x => trS_get (ocmpIsNaN x)) (fun x => (runcmpIsNaN x).trans (ocmpIsNaN_eq x).symm)
/- function 59: (.d .u8) (.d .u8) -/
noncomputable def bcmpCompare (x : ((UInt8 × (UInt8 × Unit)) × Unit)) : Option ((Int × Unit) × Unit) := match x with
  | ((x0, (x1, ())), ()) => bS (ocmpIsNaN ((x0, ()), ())) fun v0 => bS (ocmpIsNaN ((x1, ()), ())) fun v1 => bif v0.fst.fst then bif v1.fst.fst then some ((0, ()), ()) else some ((-1, ()), ()) else bif v1.fst.fst then some ((1, ()), ()) else bif ilt (u8i x0) (u8i x1) then some ((-1, ()), ()) else bif ilt (u8i x1) (u8i x0) then some ((1, ()), ()) else some ((0, ()), ())
noncomputable def ocmpCompare : ((UInt8 × (UInt8 × Unit)) × Unit) → Option ((Int × Unit) × Unit) := shut bcmpCompare
theorem ocmpCompare_eq (x) : ocmpCompare x = bcmpCompare x := by rw [ocmpCompare, shut_eq]
noncomputable def ccmpCompare : Ct := { ash := (.cons (.d .u8) (.cons (.d .u8) .unit)), ms := [], foot := false, up := [], rsh := (.cons (.d (.int .i64)) .unit), ks := [], ms' := [], G := fun x => trS (ocmpCompare x) }
noncomputable def EcmpCompare : Env := mkE Try.prog [(60, ccmpIsNaN.fc)] [55] 59 [] [] 0
theorem runcmpCompare : ∀ x, run EcmpCompare 59 ccmpCompare x = bcmpCompare x
  | ((x0, (x1, ())), ()) => by kernel_rfl
theorem ScmpCompare : Spec Try.prog 59 ccmpCompare.fc :=
  spec_fn (bs := []) (inl := [55]) (ls := []) mixed (hcs_cons ScmpIsNaN hcs_nil) (by kernel_rfl) (by kernel_rfl) (by decide) (by kernel_rfl) trivial ocmpCompare (fun x => trS_get (ocmpCompare x)) (fun x => (runcmpCompare x).trans (ocmpCompare_eq x).symm)
/- function 57: (.d (.sl .u8)) (.d (.sl .u8)) -/
noncomputable def rslicesComparex2 (x : ((List UInt8 × (List UInt8 × (List UInt8 × (Int × (Int × Unit))))) × Unit)) : Option (((List UInt8 × (List UInt8 × (List UInt8 × (Int × (Int × Unit))))) × Unit) ⊕ (((Int × Unit) × Unit) ⊕ (((List UInt8 × (List UInt8 × Unit)) × Unit) ⊕ Empty))) := match x with
  | ((x0, (x1, (x2, (x3, (x4, ()))))), ()) => bif ilt x4 x3 then bif bif ile 0 x4 then ilt x4 (dlen x2) else false then bif ile (dlen x1) x4 then some (Sum.inr (Sum.inl ((1, ()), ()))) else bif bif ile 0 x4 then ilt x4 (dlen x1) else false then bS (ocmpCompare ((dget Ty.u8 x2 x4, dget Ty.u8 x1 x4, ()), ())) fun v0 => bif bif ieq v0.fst.fst 0 then false else true then some (Sum.inr (Sum.inl v0)) else some (Sum.inl ((x0, x1, x2, x3, iwrap IntKind.i64 (iadd x4 1), ()), ())) else none else none else some (Sum.inr (Sum.inr (Sum.inl ((x0, x1, ()), ()))))
noncomputable def wslicesComparex2 : ((List UInt8 × (List UInt8 × (List UInt8 × (Int × (Int × Unit))))) × Unit) → Option (((Int × Unit) × Unit) ⊕ (((List UInt8 × (List UInt8 × Unit)) × Unit) ⊕ Empty)) := shut (whl rslicesComparex2)
noncomputable def lslicesComparex2 : Lp := { m := 36, up := [], ksE := [], ksA := [], keep := [0, 1, 9, 10, 11], sh := (.cons (.d (.sl .u8)) (.cons (.d (.sl .u8)) (.cons (.d (.sl .u8)) (.cons (.d (.int .i64)) (.cons (.d (.int .i64)) .unit))))), ms := [], outs := [{ e := .ret, keep := [4], ks := [], sh := (.cons (.d (.int .i64)) .unit), ms := [] }, { e := .exit 0, keep := [0, 1], ks := [], sh := (.cons (.d (.sl .u8)) (.cons (.d (.sl .u8)) .unit)), ms := [] }], sum := fun x => (trO1 (trO1 trO0)) (wslicesComparex2 x) }
noncomputable def bslicesCompare (x : ((List UInt8 × (List UInt8 × Unit)) × Unit)) : Option ((Int × Unit) × Unit) := match x with
  | ((x0, (x1, ())), ()) => bL (wslicesComparex2 ((x0, x1, x0, dlen x0, 0, ()), ())) (fun v0 => some v0) fun u0 => bL u0 (fun v1 => bif ilt (dlen v1.fst.fst) (dlen v1.fst.snd.fst) then some ((-1, ()), ()) else some ((0, ()), ())) fun u1 => none
noncomputable def oslicesCompare : ((List UInt8 × (List UInt8 × Unit)) × Unit) → Option ((Int × Unit) × Unit) := shut bslicesCompare
theorem oslicesCompare_eq (x) : oslicesCompare x = bslicesCompare x := by rw [oslicesCompare, shut_eq]
theorem wslicesComparex2_eq (x) : wslicesComparex2 x = whl rslicesComparex2 x := by rw [wslicesComparex2, shut_eq]
noncomputable def cslicesCompare : Ct := { ash := (.cons (.d (.sl .u8)) (.cons (.d (.sl .u8)) .unit)), ms := [], foot := false, up := [], rsh := (.cons (.d (.int .i64)) .unit), ks := [], ms' := [], G := fun x => trS (oslicesCompare x) }
noncomputable def EslicesCompare : Env := mkE Try.prog [(59, ccmpCompare.fc)] [55] 57 [(2, .sum lslicesComparex2)] [] 0
theorem rdslicesComparex2 : ∀ x, round1 EslicesCompare 57 lslicesComparex2 (loopAt Try.prog 57 0) x = rslicesComparex2 x
  | ((x0, (x1, (x2, (x3, (x4, ()))))), ()) => by kernel_rfl
theorem runslicesCompare : ∀ x, run EslicesCompare 57 cslicesCompare x = bslicesCompare x
  | ((x0, (x1, ())), ()) => by kernel_rfl
theorem SslicesCompare : Spec Try.prog 57 cslicesCompare.fc :=
  spec_fn (bs := [loopAt Try.prog 57 0]) (inl := [55]) (ls := [(2, .sum lslicesComparex2)]) mixed (hcs_cons ScmpCompare hcs_nil) (by kernel_rfl) (by kernel_rfl) (by decide) (by kernel_rfl) ⟨by kernel_rfl, lkOk_mk rdslicesComparex2 (fun x => ((trO1_get (trO1_get trO0_get)) _).trans (wslicesComparex2_eq x)) rfl, trivial⟩ oslicesCompare (fun x => trS_get (oslicesCompare x)) (fun x => (runslicesCompare x).trans (oslicesCompare_eq x).symm)
/- function 51: (.d .id) (.d .id) -/
noncomputable def bidentCompare (x : ((Am.Id × (Am.Id × Unit)) × Unit)) : Option ((Int × Unit) × Unit) := match x with
  | ((x0, (x1, ())), ()) => bS (oslicesCompare ((x0.l, x1.l, ()), ())) fun v0 => some v0
noncomputable def oidentCompare : ((Am.Id × (Am.Id × Unit)) × Unit) → Option ((Int × Unit) × Unit) := shut bidentCompare
theorem oidentCompare_eq (x) : oidentCompare x = bidentCompare x := by rw [oidentCompare, shut_eq]
noncomputable def cidentCompare : Ct := { ash := (.cons (.d .id) (.cons (.d .id) .unit)), ms := [], foot := false, up := [], rsh := (.cons (.d (.int .i64)) .unit), ks := [], ms' := [], G := fun x => trS (oidentCompare x) }
noncomputable def EidentCompare : Env := mkE Try.prog [(57, cslicesCompare.fc)] [55] 51 [] [] 0
theorem runidentCompare : ∀ x, run EidentCompare 51 cidentCompare x = bidentCompare x
  | ((x0, (x1, ())), ()) => by kernel_rfl
theorem SidentCompare : Spec Try.prog 51 cidentCompare.fc :=
  spec_fn (bs := []) (inl := [55]) (ls := []) mixed (hcs_cons SslicesCompare hcs_nil) (by kernel_rfl) (by kernel_rfl) (by decide) (by kernel_rfl) trivial oidentCompare (fun x => trS_get (oidentCompare x)) (fun x => (runidentCompare x).trans (oidentCompare_eq x).symm)
/- function 38: (.d (.pair .id (.pair (.pair (.int .i64) (.pair .id (.pair (.int .i64) .unit))) (.pair (.int .i64) .unit)))) (.d (.pair .id (.pair (.pair (.int .i64) (.pair .id (.pair (.int .i64) .unit))) (.pair (.int .i64) .unit)))) -/
noncomputable def b_tableTrigger_Id (x : (((Am.Id × ((Int × (Am.Id × (Int × Unit))) × (Int × Unit))) × ((Am.Id × ((Int × (Am.Id × (Int × Unit))) × (Int × Unit))) × Unit)) × Unit)) : Option ((Int × Unit) × Unit) := match x with
  | ((x0, (x1, ())), ()) => bS (oidentCompare ((x0.fst, x1.fst, ()), ())) fun v0 => some v0
noncomputable def o_tableTrigger_Id : (((Am.Id × ((Int × (Am.Id × (Int × Unit))) × (Int × Unit))) × ((Am.Id × ((Int × (Am.Id × (Int × Unit))) × (Int × Unit))) × Unit)) × Unit) → Option ((Int × Unit) × Unit) := shut b_tableTrigger_Id
theorem o_tableTrigger_Id_eq (x) : o_tableTrigger_Id x = b_tableTrigger_Id x := by rw [o_tableTrigger_Id, shut_eq]
noncomputable def c_tableTrigger_Id : Ct := { ash := (.cons (.d (.pair .id (.pair (.pair (.int .i64) (.pair .id (.pair (.int .i64) .unit))) (.pair (.int .i64) .unit)))) (.cons (.d (.pair .id (.pair (.pair (.int .i64) (.pair .id (.pair (.int .i64) .unit))) (.pair (.int .i64) .unit)))) .unit)), ms := [], foot := false, up := [], rsh := (.cons (.d (.int .i64)) .unit), ks := [], ms' := [], G := fun x => trS (o_tableTrigger_Id x) }
noncomputable def E_tableTrigger_Id : Env := mkE Try.prog [(51, cidentCompare.fc)] [55] 38 [] [] 0
theorem run_tableTrigger_Id : ∀ x, run E_tableTrigger_Id 38 c_tableTrigger_Id x = b_tableTrigger_Id x
  | ((x0, (x1, ())), ()) => by kernel_rfl
theorem S_tableTrigger_Id : Spec Try.prog 38 c_tableTrigger_Id.fc :=
  spec_fn (bs := []) (inl := [55]) (ls := []) mixed (hcs_cons SidentCompare hcs_nil) (by kernel_rfl) (by kernel_rfl) (by decide) (by kernel_rfl) trivial o_tableTrigger_Id (fun x => trS_get (o_tableTrigger_Id x)) (fun x => (run_tableTrigger_Id x).trans (o_tableTrigger_Id_eq x).symm)
/- function 58: (.d (.int .i64)) -/
noncomputable def bcmpIsNaNb (x : ((Int × Unit) × Unit)) : Option ((Bool × Unit) × Unit) := match x with
  | ((x0, ()), ()) => some ((bif ieq x0 x0 then false else true, ()), ())
noncomputable def ocmpIsNaNb : ((Int × Unit) × Unit) → Option ((Bool × Unit) × Unit) := shut bcmpIsNaNb
theorem ocmpIsNaNb_eq (x) : ocmpIsNaNb x = bcmpIsNaNb x := by rw [ocmpIsNaNb, shut_eq]
noncomputable def ccmpIsNaNb : Ct := { ash := (.cons (.d (.int .i64)) .unit), ms := [], foot := false, up := [], rsh := (.cons (.d .bool) .unit), ks := [], ms' := [], G := fun x => trS (ocmpIsNaNb x) }
noncomputable def EcmpIsNaNb : Env := mkE Try.prog [] [55] 58 [] [] 0
theorem runcmpIsNaNb : ∀ x, run EcmpIsNaNb 58 ccmpIsNaNb x = bcmpIsNaNb x
  | ((x0, ()), ()) => by kernel_rfl
theorem ScmpIsNaNb : Spec Try.prog 58 ccmpIsNaNb.fc :=
  spec_fn (bs := []) (inl := [55]) (ls := []) mixed hcs_nil (by kernel_rfl) (by kernel_rfl) (by decide) (by kernel_rfl) trivial ocmpIsNaNb (fun x => trS_get (ocmpIsNaNb x)) (fun x => (runcmpIsNaNb x).trans (ocmpIsNaNb_eq x).symm)
/- function 52: (.d (.int .i64)) (.d (.int .i64)) -/
noncomputable def bcmpCompareb (x : ((Int × (Int × Unit)) × Unit)) : Option ((Int × Unit) × Unit) := match x with
  | ((x0, (x1, ())), ()) => bS (ocmpIsNaNb ((x0, ()), ())) fun v0 => bS (ocmpIsNaNb ((x1, ()), ())) fun v1 => bif v0.fst.fst then bif v1.fst.fst then some ((0, ()), ()) else some ((-1, ()), ()) else bif v1.fst.fst then some ((1, ()), ()) else bif ilt x0 x1 then some ((-1, ()), ()) else bif ilt x1 x0 then some ((1, ()), ()) else some ((0, ()), ())
noncomputable def ocmpCompareb : ((Int × (Int × Unit)) × Unit) → Option ((Int × Unit) × Unit) := shut bcmpCompareb
theorem ocmpCompareb_eq (x) : ocmpCompareb x = bcmpCompareb x := by rw [ocmpCompareb, shut_eq]
noncomputable def ccmpCompareb : Ct := { ash := (.cons (.d (.int .i64)) (.cons (.d (.int .i64)) .unit)), ms := [], foot := false, up := [], rsh := (.cons (.d (.int .i64)) .unit), ks := [], ms' := [], G := fun x => trS (ocmpCompareb x) }
noncomputable def EcmpCompareb : Env := mkE Try.prog [(58, ccmpIsNaNb.fc)] [55] 52 [] [] 0
theorem runcmpCompareb : ∀ x, run EcmpCompareb 52 ccmpCompareb x = bcmpCompareb x
  | ((x0, (x1, ())), ()) => by kernel_rfl
theorem ScmpCompareb : Spec Try.prog 52 ccmpCompareb.fc :=
  spec_fn (bs := []) (inl := [55]) (ls := []) mixed (hcs_cons ScmpIsNaNb hcs_nil) (by kernel_rfl) (by kernel_rfl) (by decide) (by kernel_rfl) trivial ocmpCompareb (fun x => trS_get (ocmpCompareb x)) (fun x => (runcmpCompareb x).trans (ocmpCompareb_eq x).symm)
/- function 39: (.d (.pair .id (.pair (.pair (.int .i64) (.pair .id (.pair (.int .i64) .unit))) (.pair (.int .i64) .unit)))) (.d (.pair .id (.pair (.pair (.int .i64) (.pair .id (.pair (.int .i64) .unit))) (.pair (.int .i64) .unit)))) -/
noncomputable def b_tableTrigger_Kind (x : (((Am.Id × ((Int × (Am.Id × (Int × Unit))) × (Int × Unit))) × ((Am.Id × ((Int × (Am.Id × (Int × Unit))) × (Int × Unit))) × Unit)) × Unit)) : Option ((Int × Unit) × Unit) := match x with
  | ((x0, (x1, ())), ()) => bS (ocmpCompareb ((x0.snd.fst.fst, x1.snd.fst.fst, ()), ())) fun v0 => some v0
noncomputable def o_tableTrigger_Kind : (((Am.Id × ((Int × (Am.Id × (Int × Unit))) × (Int × Unit))) × ((Am.Id × ((Int × (Am.Id × (Int × Unit))) × (Int × Unit))) × Unit)) × Unit) → Option ((Int × Unit) × Unit) := shut b_tableTrigger_Kind
theorem o_tableTrigger_Kind_eq (x) : o_tableTrigger_Kind x = b_tableTrigger_Kind x := by rw [o_tableTrigger_Kind, shut_eq]
noncomputable def c_tableTrigger_Kind : Ct := { ash := (.cons (.d (.pair .id (.pair (.pair (.int .i64) (.pair .id (.pair (.int .i64) .unit))) (.pair (.int .i64) .unit)))) (.cons (.d (.pair .id (.pair (.pair (.int .i64) (.pair .id (.pair (.int .i64) .unit))) (.pair (.int .i64) .unit)))) .unit)), ms := [], foot := false, up := [], rsh := (.cons (.d (.int .i64)) .unit), ks := [], ms' := [], G := fun x => trS (o_tableTrigger_Kind x) }
noncomputable def E_tableTrigger_Kind : Env := mkE Try.prog [(52, ccmpCompareb.fc)] [55] 39 [] [] 0
theorem run_tableTrigger_Kind : ∀ x, run E_tableTrigger_Kind 39 c_tableTrigger_Kind x = b_tableTrigger_Kind x
  | ((x0, (x1, ())), ()) => by kernel_rfl
theorem S_tableTrigger_Kind : Spec Try.prog 39 c_tableTrigger_Kind.fc :=
  spec_fn (bs := []) (inl := [55]) (ls := []) mixed (hcs_cons ScmpCompareb hcs_nil) (by kernel_rfl) (by kernel_rfl) (by decide) (by kernel_rfl) trivial o_tableTrigger_Kind (fun x => trS_get (o_tableTrigger_Kind x)) (fun x => (run_tableTrigger_Kind x).trans (o_tableTrigger_Kind_eq x).symm)
/- function 40: (.d (.pair .id (.pair (.pair (.int .i64) (.pair .id (.pair (.int .i64) .unit))) (.pair (.int .i64) .unit)))) (.d (.pair .id (.pair (.pair (.int .i64) (.pair .id (.pair (.int .i64) .unit))) (.pair (.int .i64) .unit)))) -/
noncomputable def b_tableTrigger_Goes (x : (((Am.Id × ((Int × (Am.Id × (Int × Unit))) × (Int × Unit))) × ((Am.Id × ((Int × (Am.Id × (Int × Unit))) × (Int × Unit))) × Unit)) × Unit)) : Option ((Int × Unit) × Unit) := match x with
  | ((x0, (x1, ())), ()) => bS (oidentCompare ((x0.snd.fst.snd.fst, x1.snd.fst.snd.fst, ()), ())) fun v0 => some v0
noncomputable def o_tableTrigger_Goes : (((Am.Id × ((Int × (Am.Id × (Int × Unit))) × (Int × Unit))) × ((Am.Id × ((Int × (Am.Id × (Int × Unit))) × (Int × Unit))) × Unit)) × Unit) → Option ((Int × Unit) × Unit) := shut b_tableTrigger_Goes
theorem o_tableTrigger_Goes_eq (x) : o_tableTrigger_Goes x = b_tableTrigger_Goes x := by rw [o_tableTrigger_Goes, shut_eq]
noncomputable def c_tableTrigger_Goes : Ct := { ash := (.cons (.d (.pair .id (.pair (.pair (.int .i64) (.pair .id (.pair (.int .i64) .unit))) (.pair (.int .i64) .unit)))) (.cons (.d (.pair .id (.pair (.pair (.int .i64) (.pair .id (.pair (.int .i64) .unit))) (.pair (.int .i64) .unit)))) .unit)), ms := [], foot := false, up := [], rsh := (.cons (.d (.int .i64)) .unit), ks := [], ms' := [], G := fun x => trS (o_tableTrigger_Goes x) }
noncomputable def E_tableTrigger_Goes : Env := mkE Try.prog [(51, cidentCompare.fc)] [55] 40 [] [] 0
theorem run_tableTrigger_Goes : ∀ x, run E_tableTrigger_Goes 40 c_tableTrigger_Goes x = b_tableTrigger_Goes x
  | ((x0, (x1, ())), ()) => by kernel_rfl
theorem S_tableTrigger_Goes : Spec Try.prog 40 c_tableTrigger_Goes.fc :=
  spec_fn (bs := []) (inl := [55]) (ls := []) mixed (hcs_cons SidentCompare hcs_nil) (by kernel_rfl) (by kernel_rfl) (by decide) (by kernel_rfl) trivial o_tableTrigger_Goes (fun x => trS_get (o_tableTrigger_Goes x)) (fun x => (run_tableTrigger_Goes x).trans (o_tableTrigger_Goes_eq x).symm)
/- function 41: (.d (.pair .id (.pair (.pair (.int .i64) (.pair .id (.pair (.int .i64) .unit))) (.pair (.int .i64) .unit)))) (.d (.pair .id (.pair (.pair (.int .i64) (.pair .id (.pair (.int .i64) .unit))) (.pair (.int .i64) .unit)))) -/
noncomputable def b_tableTrigger_Host (x : (((Am.Id × ((Int × (Am.Id × (Int × Unit))) × (Int × Unit))) × ((Am.Id × ((Int × (Am.Id × (Int × Unit))) × (Int × Unit))) × Unit)) × Unit)) : Option ((Int × Unit) × Unit) := match x with
  | ((x0, (x1, ())), ()) => bS (ocmpCompareb ((x0.snd.fst.snd.snd.fst, x1.snd.fst.snd.snd), ())) fun v0 => some v0
noncomputable def o_tableTrigger_Host : (((Am.Id × ((Int × (Am.Id × (Int × Unit))) × (Int × Unit))) × ((Am.Id × ((Int × (Am.Id × (Int × Unit))) × (Int × Unit))) × Unit)) × Unit) → Option ((Int × Unit) × Unit) := shut b_tableTrigger_Host
theorem o_tableTrigger_Host_eq (x) : o_tableTrigger_Host x = b_tableTrigger_Host x := by rw [o_tableTrigger_Host, shut_eq]
noncomputable def c_tableTrigger_Host : Ct := { ash := (.cons (.d (.pair .id (.pair (.pair (.int .i64) (.pair .id (.pair (.int .i64) .unit))) (.pair (.int .i64) .unit)))) (.cons (.d (.pair .id (.pair (.pair (.int .i64) (.pair .id (.pair (.int .i64) .unit))) (.pair (.int .i64) .unit)))) .unit)), ms := [], foot := false, up := [], rsh := (.cons (.d (.int .i64)) .unit), ks := [], ms' := [], G := fun x => trS (o_tableTrigger_Host x) }
noncomputable def E_tableTrigger_Host : Env := mkE Try.prog [(52, ccmpCompareb.fc)] [55] 41 [] [] 0
theorem run_tableTrigger_Host : ∀ x, run E_tableTrigger_Host 41 c_tableTrigger_Host x = b_tableTrigger_Host x
  | ((x0, (x1, ())), ()) => by kernel_rfl
theorem S_tableTrigger_Host : Spec Try.prog 41 c_tableTrigger_Host.fc :=
  spec_fn (bs := []) (inl := [55]) (ls := []) mixed (hcs_cons ScmpCompareb hcs_nil) (by kernel_rfl) (by kernel_rfl) (by decide) (by kernel_rfl) trivial o_tableTrigger_Host (fun x => trS_get (o_tableTrigger_Host x)) (fun x => (run_tableTrigger_Host x).trans (o_tableTrigger_Host_eq x).symm)
/- function 24: (.d (.pair .id (.pair (.pair (.int .i64) (.pair .id (.pair (.int .i64) .unit))) (.pair (.int .i64) .unit)))) (.d (.pair .id (.pair (.pair (.int .i64) (.pair .id (.pair (.int .i64) .unit))) (.pair (.int .i64) .unit)))) -/
noncomputable def rtableComparex2 (x : ((Unit × (Unit × (Unit × (Int × (Int × Unit))))) × ((Am.Id × ((Int × (Am.Id × (Int × Unit))) × (Int × Unit))) × ((Am.Id × ((Int × (Am.Id × (Int × Unit))) × (Int × Unit))) × Unit)))) : Option (((Unit × (Unit × (Unit × (Int × (Int × Unit))))) × ((Am.Id × ((Int × (Am.Id × (Int × Unit))) × (Int × Unit))) × ((Am.Id × ((Int × (Am.Id × (Int × Unit))) × (Int × Unit))) × Unit))) ⊕ ((Unit × Unit) ⊕ (((Int × Unit) × Unit) ⊕ Empty))) := match x with
  | (((), ((), ((), (x0, (x1, ()))))), (x2, (x3, ()))) => bif ilt x1 x0 then bif bif ile 0 x1 then ilt x1 4 else false then bif ieq x1 0 then bS (o_tableTrigger_Id ((x2, x3, ()), ())) fun v0 => bif bif ieq v0.fst.fst 0 then false else true then some (Sum.inr (Sum.inr (Sum.inl v0))) else some (Sum.inl (((), (), (), x0, iwrap IntKind.i64 (iadd x1 1), ()), x2, x3, ())) else bif ieq x1 1 then bS (o_tableTrigger_Kind ((x2, x3, ()), ())) fun v0 => bif bif ieq v0.fst.fst 0 then false else true then some (Sum.inr (Sum.inr (Sum.inl v0))) else some (Sum.inl (((), (), (), x0, iwrap IntKind.i64 (iadd x1 1), ()), x2, x3, ())) else bif ieq x1 2 then bS (o_tableTrigger_Goes ((x2, x3, ()), ())) fun v0 => bif bif ieq v0.fst.fst 0 then false else true then some (Sum.inr (Sum.inr (Sum.inl v0))) else some (Sum.inl (((), (), (), x0, iwrap IntKind.i64 (iadd x1 1), ()), x2, x3, ())) else bif ieq x1 3 then bS (o_tableTrigger_Host ((x2, x3, ()), ())) fun v0 => bif bif ieq v0.fst.fst 0 then false else true then some (Sum.inr (Sum.inr (Sum.inl v0))) else some (Sum.inl (((), (), (), x0, iwrap IntKind.i64 (iadd x1 1), ()), x2, x3, ())) else none else none else some (Sum.inr (Sum.inl ((), ())))
noncomputable def wtableComparex2 : ((Unit × (Unit × (Unit × (Int × (Int × Unit))))) × ((Am.Id × ((Int × (Am.Id × (Int × Unit))) × (Int × Unit))) × ((Am.Id × ((Int × (Am.Id × (Int × Unit))) × (Int × Unit))) × Unit))) → Option ((Unit × Unit) ⊕ (((Int × Unit) × Unit) ⊕ Empty)) := shut (whl rtableComparex2)
noncomputable def ltableComparex2 : Lp := { m := 22, up := [], ksE := [], ksA := [], keep := [2, 3, 8, 9, 10], sh := (.cons (.loc 0 0) (.cons (.loc 1 0) (.cons (.lst [38, 39, 40, 41]) (.cons (.d (.int .i64)) (.cons (.d (.int .i64)) .unit))))), ms := [.box (.d (.pair .id (.pair (.pair (.int .i64) (.pair .id (.pair (.int .i64) .unit))) (.pair (.int .i64) .unit)))), .box (.d (.pair .id (.pair (.pair (.int .i64) (.pair .id (.pair (.int .i64) .unit))) (.pair (.int .i64) .unit))))], outs := [{ e := .exit 0, keep := [], ks := [], sh := .unit, ms := [] }, { e := .ret, keep := [4], ks := [], sh := (.cons (.d (.int .i64)) .unit), ms := [] }], sum := fun x => (trO1 (trO1 trO0)) (wtableComparex2 x) }
noncomputable def btableCompare (x : (((Am.Id × ((Int × (Am.Id × (Int × Unit))) × (Int × Unit))) × ((Am.Id × ((Int × (Am.Id × (Int × Unit))) × (Int × Unit))) × Unit)) × Unit)) : Option ((Int × Unit) × Unit) := match x with
  | ((x0, (x1, ())), ()) => bL (wtableComparex2 (((), (), (), 4, 0, ()), x0, x1, ())) (fun v0 => some ((0, ()), ())) fun u0 => bL u0 (fun v1 => some v1) fun u1 => none
noncomputable def otableCompare : (((Am.Id × ((Int × (Am.Id × (Int × Unit))) × (Int × Unit))) × ((Am.Id × ((Int × (Am.Id × (Int × Unit))) × (Int × Unit))) × Unit)) × Unit) → Option ((Int × Unit) × Unit) := shut btableCompare
theorem otableCompare_eq (x) : otableCompare x = btableCompare x := by rw [otableCompare, shut_eq]
theorem wtableComparex2_eq (x) : wtableComparex2 x = whl rtableComparex2 x := by rw [wtableComparex2, shut_eq]
noncomputable def ctableCompare : Ct := { ash := (.cons (.d (.pair .id (.pair (.pair (.int .i64) (.pair .id (.pair (.int .i64) .unit))) (.pair (.int .i64) .unit)))) (.cons (.d (.pair .id (.pair (.pair (.int .i64) (.pair .id (.pair (.int .i64) .unit))) (.pair (.int .i64) .unit)))) .unit)), ms := [], foot := false, up := [], rsh := (.cons (.d (.int .i64)) .unit), ks := [], ms' := [], G := fun x => trS (otableCompare x) }
noncomputable def EtableCompare : Env := mkE Try.prog [(38, c_tableTrigger_Id.fc), (39, c_tableTrigger_Kind.fc), (40, c_tableTrigger_Goes.fc), (41, c_tableTrigger_Host.fc)] [55] 24 [(2, .sum ltableComparex2)] [] 0
theorem rdtableComparex2 : ∀ x, round1 EtableCompare 24 ltableComparex2 (loopAt Try.prog 24 0) x = rtableComparex2 x
  | (((), ((), ((), (x0, (x1, ()))))), (x2, (x3, ()))) => by kernel_rfl
theorem runtableCompare : ∀ x, run EtableCompare 24 ctableCompare x = btableCompare x
  | ((x0, (x1, ())), ()) => by kernel_rfl
theorem StableCompare : Spec Try.prog 24 ctableCompare.fc :=
  spec_fn (bs := [loopAt Try.prog 24 0]) (inl := [55]) (ls := [(2, .sum ltableComparex2)]) mixed (hcs_cons S_tableTrigger_Id (hcs_cons S_tableTrigger_Kind (hcs_cons S_tableTrigger_Goes (hcs_cons S_tableTrigger_Host hcs_nil)))) (by kernel_rfl) (by kernel_rfl) (by decide) (by kernel_rfl) ⟨by kernel_rfl, lkOk_mk rdtableComparex2 (fun x => ((trO1_get (trO1_get trO0_get)) _).trans (wtableComparex2_eq x)) rfl, trivial⟩ otableCompare (fun x => trS_get (otableCompare x)) (fun x => (runtableCompare x).trans (otableCompare_eq x).symm)
/- function 12: (.d (.sl (.pair .id (.pair (.pair (.int .i64) (.pair .id (.pair (.int .i64) .unit))) (.pair (.int .i64) .unit))))) -/
noncomputable def rtableRightx2 (x : ((List (Am.Id × ((Int × (Am.Id × (Int × Unit))) × (Int × Unit))) × (List (Am.Id × ((Int × (Am.Id × (Int × Unit))) × (Int × Unit))) × (Int × (Int × Unit)))) × Unit)) : Option (((List (Am.Id × ((Int × (Am.Id × (Int × Unit))) × (Int × Unit))) × (List (Am.Id × ((Int × (Am.Id × (Int × Unit))) × (Int × Unit))) × (Int × (Int × Unit)))) × Unit) ⊕ (((List (Am.Id × ((Int × (Am.Id × (Int × Unit))) × (Int × Unit))) × Unit) × Unit) ⊕ (((Bool × Unit) × Unit) ⊕ Empty))) := match x with
  | ((x0, (x1, (x2, (x3, ())))), ()) => bif ilt x3 x2 then bif bif ile 0 x3 then ilt x3 (dlen x1) else false then bS (otableMay ((dget (Ty.id.pair (((Ty.int IntKind.i64).pair (Ty.id.pair ((Ty.int IntKind.i64).pair Ty.unit))).pair ((Ty.int IntKind.i64).pair Ty.unit))) x1 x3, ()), ())) fun v0 => bif bif bif v0.fst.fst then false else true then false else true then bif ilt 0 x3 then bif bif ile 0 (iwrap IntKind.i64 (isub x3 1)) then ilt (iwrap IntKind.i64 (isub x3 1)) (dlen x0) else false then bS (otableCompare ((dget (Ty.id.pair (((Ty.int IntKind.i64).pair (Ty.id.pair ((Ty.int IntKind.i64).pair Ty.unit))).pair ((Ty.int IntKind.i64).pair Ty.unit))) x0 (iwrap IntKind.i64 (isub x3 1)), dget (Ty.id.pair (((Ty.int IntKind.i64).pair (Ty.id.pair ((Ty.int IntKind.i64).pair Ty.unit))).pair ((Ty.int IntKind.i64).pair Ty.unit))) x1 x3, ()), ())) fun v1 => bif ile 0 v1.fst.fst then some (Sum.inr (Sum.inr (Sum.inl ((false, ()), ())))) else some (Sum.inl ((x0, x1, x2, iwrap IntKind.i64 (iadd x3 1), ()), ())) else none else some (Sum.inl ((x0, x1, x2, iwrap IntKind.i64 (iadd x3 1), ()), ())) else some (Sum.inr (Sum.inr (Sum.inl ((false, ()), ())))) else none else some (Sum.inr (Sum.inl ((x0, ()), ())))
noncomputable def wtableRightx2 : ((List (Am.Id × ((Int × (Am.Id × (Int × Unit))) × (Int × Unit))) × (List (Am.Id × ((Int × (Am.Id × (Int × Unit))) × (Int × Unit))) × (Int × (Int × Unit)))) × Unit) → Option (((List (Am.Id × ((Int × (Am.Id × (Int × Unit))) × (Int × Unit))) × Unit) × Unit) ⊕ (((Bool × Unit) × Unit) ⊕ Empty)) := shut (whl rtableRightx2)
noncomputable def ltableRightx2 : Lp := { m := 33, up := [], ksE := [], ksA := [], keep := [0, 5, 6, 7], sh := (.cons (.d (.sl (.pair .id (.pair (.pair (.int .i64) (.pair .id (.pair (.int .i64) .unit))) (.pair (.int .i64) .unit))))) (.cons (.d (.sl (.pair .id (.pair (.pair (.int .i64) (.pair .id (.pair (.int .i64) .unit))) (.pair (.int .i64) .unit))))) (.cons (.d (.int .i64)) (.cons (.d (.int .i64)) .unit)))), ms := [], outs := [{ e := .exit 0, keep := [0], ks := [], sh := (.cons (.d (.sl (.pair .id (.pair (.pair (.int .i64) (.pair .id (.pair (.int .i64) .unit))) (.pair (.int .i64) .unit))))) .unit), ms := [] }, { e := .ret, keep := [2], ks := [], sh := (.cons (.d .bool) .unit), ms := [] }], sum := fun x => (trO1 (trO1 trO0)) (wtableRightx2 x) }
noncomputable def btableRight (x : ((List (Am.Id × ((Int × (Am.Id × (Int × Unit))) × (Int × Unit))) × Unit) × Unit)) : Option ((Bool × Unit) × Unit) := match x with
  | ((x0, ()), ()) => bL (wtableRightx2 ((x0, x0, dlen x0, 0, ()), ())) (fun v0 => some ((ile (dlen v0.fst.fst) 32, ()), ())) fun u0 => bL u0 (fun v1 => some v1) fun u1 => none
noncomputable def otableRight : ((List (Am.Id × ((Int × (Am.Id × (Int × Unit))) × (Int × Unit))) × Unit) × Unit) → Option ((Bool × Unit) × Unit) := shut btableRight
theorem otableRight_eq (x) : otableRight x = btableRight x := by rw [otableRight, shut_eq]
theorem wtableRightx2_eq (x) : wtableRightx2 x = whl rtableRightx2 x := by rw [wtableRightx2, shut_eq]
noncomputable def ctableRight : Ct := { ash := (.cons (.d (.sl (.pair .id (.pair (.pair (.int .i64) (.pair .id (.pair (.int .i64) .unit))) (.pair (.int .i64) .unit))))) .unit), ms := [], foot := false, up := [], rsh := (.cons (.d .bool) .unit), ks := [], ms' := [], G := fun x => trS (otableRight x) }
noncomputable def EtableRight : Env := mkE Try.prog [(23, ctableMay.fc), (24, ctableCompare.fc)] [55] 12 [(2, .sum ltableRightx2)] [] 0
theorem rdtableRightx2 : ∀ x, round1 EtableRight 12 ltableRightx2 (loopAt Try.prog 12 0) x = rtableRightx2 x
  | ((x0, (x1, (x2, (x3, ())))), ()) => by kernel_rfl
theorem runtableRight : ∀ x, run EtableRight 12 ctableRight x = btableRight x
  | ((x0, ()), ()) => by kernel_rfl
theorem StableRight : Spec Try.prog 12 ctableRight.fc :=
  spec_fn (bs := [loopAt Try.prog 12 0]) (inl := [55]) (ls := [(2, .sum ltableRightx2)]) mixed (hcs_cons StableMay (hcs_cons StableCompare hcs_nil)) (by kernel_rfl) (by kernel_rfl) (by decide) (by kernel_rfl) ⟨by kernel_rfl, lkOk_mk rdtableRightx2 (fun x => ((trO1_get (trO1_get trO0_get)) _).trans (wtableRightx2_eq x)) rfl, trivial⟩ otableRight (fun x => trS_get (otableRight x)) (fun x => (runtableRight x).trans (otableRight_eq x).symm)
/- function 25: (.d .id) (.d .id) -/
noncomputable def ridentCommonx3 (x : ((Unit × (Unit × (Int × (Int × Unit)))) × (Am.Id × (Am.Id × Unit)))) : Option (((Unit × (Unit × (Int × (Int × Unit)))) × (Am.Id × (Am.Id × Unit))) ⊕ (((Int × Unit) × Unit) ⊕ Empty)) := match x with
  | (((), ((), (x0, (x1, ())))), (x2, (x3, ()))) => bif ilt x1 32 then bif bif ile 0 x1 then ilt x1 32 else false then bif bif ile 0 x1 then ilt x1 32 else false then bS (omath_bitsLeadingZeros8 ((iu8 (bitsI BinOp.xor IntKind.u8 (u8i (idget x2 (inat x1))) (u8i (idget x3 (inat x1)))), ()), ())) fun v0 => bif ilt v0.fst.fst 8 then some (Sum.inr (Sum.inl ((iwrap IntKind.i64 (iadd x0 v0.fst.fst), ()), ()))) else some (Sum.inl (((), (), iwrap IntKind.i64 (iadd x0 v0.fst.fst), iwrap IntKind.i64 (iadd x1 1), ()), x2, x3, ())) else none else none else some (Sum.inr (Sum.inl ((x0, ()), ())))
noncomputable def widentCommonx3 : ((Unit × (Unit × (Int × (Int × Unit)))) × (Am.Id × (Am.Id × Unit))) → Option (((Int × Unit) × Unit) ⊕ Empty) := shut (whl ridentCommonx3)
noncomputable def lidentCommonx3 : Lp := { m := 26, up := [], ksE := [], ksA := [], keep := [2, 3, 5, 8], sh := (.cons (.loc 0 0) (.cons (.loc 1 0) (.cons (.d (.int .i64)) (.cons (.d (.int .i64)) .unit)))), ms := [.box (.d .id), .box (.d .id)], outs := [{ e := .exit 0, keep := [5], ks := [], sh := (.cons (.d (.int .i64)) .unit), ms := [] }], sum := fun x => (trO1 trO0) (widentCommonx3 x) }
noncomputable def bidentCommon (x : ((Am.Id × (Am.Id × Unit)) × Unit)) : Option ((Int × Unit) × Unit) := match x with
  | ((x0, (x1, ())), ()) => bL (widentCommonx3 (((), (), 0, 0, ()), x0, x1, ())) (fun v0 => some v0) fun u0 => none
noncomputable def oidentCommon : ((Am.Id × (Am.Id × Unit)) × Unit) → Option ((Int × Unit) × Unit) := shut bidentCommon
theorem oidentCommon_eq (x) : oidentCommon x = bidentCommon x := by rw [oidentCommon, shut_eq]
theorem widentCommonx3_eq (x) : widentCommonx3 x = whl ridentCommonx3 x := by rw [widentCommonx3, shut_eq]
noncomputable def cidentCommon : Ct := { ash := (.cons (.d .id) (.cons (.d .id) .unit)), ms := [], foot := false, up := [], rsh := (.cons (.d (.int .i64)) .unit), ks := [], ms' := [], G := fun x => trS (oidentCommon x) }
noncomputable def EidentCommon : Env := mkE Try.prog [(42, cmath_bitsLeadingZeros8.fc)] [55] 25 [(3, .sum lidentCommonx3)] [] 0
theorem rdidentCommonx3 : ∀ x, round1 EidentCommon 25 lidentCommonx3 (loopAt Try.prog 25 0) x = ridentCommonx3 x
  | (((), ((), (x0, (x1, ())))), (x2, (x3, ()))) => by kernel_rfl
theorem runidentCommon : ∀ x, run EidentCommon 25 cidentCommon x = bidentCommon x
  | ((x0, (x1, ())), ()) => by kernel_rfl
theorem SidentCommon : Spec Try.prog 25 cidentCommon.fc :=
  spec_fn (bs := [loopAt Try.prog 25 0]) (inl := [55]) (ls := [(3, .sum lidentCommonx3)]) mixed (hcs_cons Smath_bitsLeadingZeros8 hcs_nil) (by kernel_rfl) (by kernel_rfl) (by decide) (by kernel_rfl) ⟨by kernel_rfl, lkOk_mk rdidentCommonx3 (fun x => ((trO1_get trO0_get) _).trans (widentCommonx3_eq x)) rfl, trivial⟩ oidentCommon (fun x => trS_get (oidentCommon x)) (fun x => (runidentCommon x).trans (oidentCommon_eq x).symm)
/- function 27: (.d (.pair .id (.pair (.pair (.int .i64) (.pair .id (.pair (.int .i64) .unit))) (.pair (.int .i64) .unit)))) (.cptr (.d .id)) -/
noncomputable def btableMatch_1 (x : (((Am.Id × ((Int × (Am.Id × (Int × Unit))) × (Int × Unit))) × (Am.Id × Unit)) × Unit)) : Option ((Bool × Unit) × Unit) := match x with
  | ((x0, (x1, ())), ()) => some ((ideq x0.fst x1, ()), ())
noncomputable def otableMatch_1 : (((Am.Id × ((Int × (Am.Id × (Int × Unit))) × (Int × Unit))) × (Am.Id × Unit)) × Unit) → Option ((Bool × Unit) × Unit) := shut btableMatch_1
theorem otableMatch_1_eq (x) : otableMatch_1 x = btableMatch_1 x := by rw [otableMatch_1, shut_eq]
noncomputable def ctableMatch_1 : Ct := { ash := (.cons (.d (.pair .id (.pair (.pair (.int .i64) (.pair .id (.pair (.int .i64) .unit))) (.pair (.int .i64) .unit)))) (.cons (.cptr (.d .id)) .unit)), ms := [], foot := false, up := [], rsh := (.cons (.d .bool) .unit), ks := [], ms' := [], G := fun x => trS (otableMatch_1 x) }
noncomputable def EtableMatch_1 : Env := mkE Try.prog [] [55] 27 [] [] 0
theorem runtableMatch_1 : ∀ x, run EtableMatch_1 27 ctableMatch_1 x = btableMatch_1 x
  | ((x0, (x1, ())), ()) => by kernel_rfl
theorem StableMatch_1 : Spec Try.prog 27 ctableMatch_1.fc :=
  spec_fn (bs := []) (inl := [55]) (ls := []) mixed hcs_nil (by kernel_rfl) (by kernel_rfl) (by decide) (by kernel_rfl) trivial otableMatch_1 (fun x => trS_get (otableMatch_1 x)) (fun x => (runtableMatch_1 x).trans (otableMatch_1_eq x).symm)
/- function 26: (.d (.sl (.pair .id (.pair (.pair (.int .i64) (.pair .id (.pair (.int .i64) .unit))) (.pair (.int .i64) .unit))))) (.fn (.func 27) .unit (.cons (.cptr (.d .id)) .unit)) -/
noncomputable def rtablePartedx2 (x : (((Unit × (Am.Id × Unit)) × (List (Am.Id × ((Int × (Am.Id × (Int × Unit))) × (Int × Unit))) × (List (Am.Id × ((Int × (Am.Id × (Int × Unit))) × (Int × Unit))) × (List (Am.Id × ((Int × (Am.Id × (Int × Unit))) × (Int × Unit))) × (Int × (Int × Unit)))))) × (Unit × (Unit × Unit)))) : Option ((((Unit × (Am.Id × Unit)) × (List (Am.Id × ((Int × (Am.Id × (Int × Unit))) × (Int × Unit))) × (List (Am.Id × ((Int × (Am.Id × (Int × Unit))) × (Int × Unit))) × (List (Am.Id × ((Int × (Am.Id × (Int × Unit))) × (Int × Unit))) × (Int × (Int × Unit)))))) × (Unit × (Unit × Unit))) ⊕ (((List (Am.Id × ((Int × (Am.Id × (Int × Unit))) × (Int × Unit))) × (List (Am.Id × ((Int × (Am.Id × (Int × Unit))) × (Int × Unit))) × Unit)) × Unit) ⊕ Empty)) := match x with
  | ((((), (x0, ())), (x1, (x2, (x3, (x4, (x5, ())))))), ((), ((), ()))) => bif ilt x5 x4 then bif bif ile 0 x5 then ilt x5 (dlen x3) else false then bS (otableMatch_1 ((dget (Ty.id.pair (((Ty.int IntKind.i64).pair (Ty.id.pair ((Ty.int IntKind.i64).pair Ty.unit))).pair ((Ty.int IntKind.i64).pair Ty.unit))) x3 x5, x0, ()), ())) fun v0 => bif v0.fst.fst then bif fits (dlen x1) ((1 : Int)) 88 then some (Sum.inl ((((), x0, ()), dapp x1 [dget (Ty.id.pair (((Ty.int IntKind.i64).pair (Ty.id.pair ((Ty.int IntKind.i64).pair Ty.unit))).pair ((Ty.int IntKind.i64).pair Ty.unit))) x3 x5], x2, x3, x4, iwrap IntKind.i64 (iadd x5 1), ()), (), (), ())) else none else bif fits (dlen x2) ((1 : Int)) 88 then some (Sum.inl ((((), x0, ()), x1, dapp x2 [dget (Ty.id.pair (((Ty.int IntKind.i64).pair (Ty.id.pair ((Ty.int IntKind.i64).pair Ty.unit))).pair ((Ty.int IntKind.i64).pair Ty.unit))) x3 x5], x3, x4, iwrap IntKind.i64 (iadd x5 1), ()), (), (), ())) else none else none else some (Sum.inr (Sum.inl ((x1, x2, ()), ())))
noncomputable def wtablePartedx2 : (((Unit × (Am.Id × Unit)) × (List (Am.Id × ((Int × (Am.Id × (Int × Unit))) × (Int × Unit))) × (List (Am.Id × ((Int × (Am.Id × (Int × Unit))) × (Int × Unit))) × (List (Am.Id × ((Int × (Am.Id × (Int × Unit))) × (Int × Unit))) × (Int × (Int × Unit)))))) × (Unit × (Unit × Unit))) → Option (((List (Am.Id × ((Int × (Am.Id × (Int × Unit))) × (Int × Unit))) × (List (Am.Id × ((Int × (Am.Id × (Int × Unit))) × (Int × Unit))) × Unit)) × Unit) ⊕ Empty) := shut (whl rtablePartedx2)
noncomputable def ltablePartedx2 : Lp := { m := 28, up := [.slot 4 0 (.pair .id (.pair (.pair (.int .i64) (.pair .id (.pair (.int .i64) .unit))) (.pair (.int .i64) .unit))) 40, .slot 5 0 (.pair .id (.pair (.pair (.int .i64) (.pair .id (.pair (.int .i64) .unit))) (.pair (.int .i64) .unit))) 40], ksE := [], ksA := [], keep := [1, 4, 5, 8, 9, 10], sh := (.cons (.fn (.func 27) .unit (.cons (.cptr (.d .id)) .unit)) (.cons (.own (.pair .id (.pair (.pair (.int .i64) (.pair .id (.pair (.int .i64) .unit))) (.pair (.int .i64) .unit))) 0) (.cons (.own (.pair .id (.pair (.pair (.int .i64) (.pair .id (.pair (.int .i64) .unit))) (.pair (.int .i64) .unit))) 1) (.cons (.d (.sl (.pair .id (.pair (.pair (.int .i64) (.pair .id (.pair (.int .i64) .unit))) (.pair (.int .i64) .unit))))) (.cons (.d (.int .i64)) (.cons (.d (.int .i64)) .unit)))))), ms := [.row 40 67, .row 40 67], outs := [{ e := .exit 0, keep := [4, 5], ks := [], sh := (.cons (.d (.sl (.pair .id (.pair (.pair (.int .i64) (.pair .id (.pair (.int .i64) .unit))) (.pair (.int .i64) .unit))))) (.cons (.d (.sl (.pair .id (.pair (.pair (.int .i64) (.pair .id (.pair (.int .i64) .unit))) (.pair (.int .i64) .unit))))) .unit)), ms := [] }], sum := fun x => (trO1 trO0) (wtablePartedx2 x) }
noncomputable def btableParted (x : ((List (Am.Id × ((Int × (Am.Id × (Int × Unit))) × (Int × Unit))) × ((Unit × (Am.Id × Unit)) × Unit)) × Unit)) : Option ((List (Am.Id × ((Int × (Am.Id × (Int × Unit))) × (Int × Unit))) × (List (Am.Id × ((Int × (Am.Id × (Int × Unit))) × (Int × Unit))) × Unit)) × Unit) := match x with
  | ((x0, (((), (x1, ())), ())), ()) => bL (wtablePartedx2 ((((), x1, ()), [], [], x0, dlen x0, 0, ()), (), (), ())) (fun v0 => some v0) fun u0 => none
noncomputable def otableParted : ((List (Am.Id × ((Int × (Am.Id × (Int × Unit))) × (Int × Unit))) × ((Unit × (Am.Id × Unit)) × Unit)) × Unit) → Option ((List (Am.Id × ((Int × (Am.Id × (Int × Unit))) × (Int × Unit))) × (List (Am.Id × ((Int × (Am.Id × (Int × Unit))) × (Int × Unit))) × Unit)) × Unit) := shut btableParted
theorem otableParted_eq (x) : otableParted x = btableParted x := by rw [otableParted, shut_eq]
theorem wtablePartedx2_eq (x) : wtablePartedx2 x = whl rtablePartedx2 x := by rw [wtablePartedx2, shut_eq]
noncomputable def ctableParted : Ct := { ash := (.cons (.d (.sl (.pair .id (.pair (.pair (.int .i64) (.pair .id (.pair (.int .i64) .unit))) (.pair (.int .i64) .unit))))) (.cons (.fn (.func 27) .unit (.cons (.cptr (.d .id)) .unit)) .unit)), ms := [], foot := false, up := [], rsh := (.cons (.d (.sl (.pair .id (.pair (.pair (.int .i64) (.pair .id (.pair (.int .i64) .unit))) (.pair (.int .i64) .unit))))) (.cons (.d (.sl (.pair .id (.pair (.pair (.int .i64) (.pair .id (.pair (.int .i64) .unit))) (.pair (.int .i64) .unit))))) .unit)), ks := [], ms' := [], G := fun x => trS (otableParted x) }
noncomputable def EtableParted : Env := mkE Try.prog [(27, ctableMatch_1.fc)] [55] 26 [(2, .sum ltablePartedx2)] [] 0
theorem rdtablePartedx2 : ∀ x, round1 EtableParted 26 ltablePartedx2 (loopAt Try.prog 26 0) x = rtablePartedx2 x
  | ((((), (x0, ())), (x1, (x2, (x3, (x4, (x5, ())))))), ((), ((), ()))) => by kernel_rfl
theorem runtableParted : ∀ x, run EtableParted 26 ctableParted x = btableParted x
  | ((x0, (((), (x1, ())), ())), ()) => by kernel_rfl
theorem StableParted : Spec Try.prog 26 ctableParted.fc :=
  spec_fn (bs := [loopAt Try.prog 26 0]) (inl := [55]) (ls := [(2, .sum ltablePartedx2)]) mixed (hcs_cons StableMatch_1 hcs_nil) (by kernel_rfl) (by kernel_rfl) (by decide) (by kernel_rfl) ⟨by kernel_rfl, lkOk_mk rdtablePartedx2 (fun x => ((trO1_get trO0_get) _).trans (wtablePartedx2_eq x)) rfl, trivial⟩ otableParted (fun x => trS_get (otableParted x)) (fun x => (runtableParted x).trans (otableParted_eq x).symm)
/- function 13: (.d (.sl (.pair .id (.pair (.pair (.int .i64) (.pair .id (.pair (.int .i64) .unit))) (.pair (.int .i64) .unit))))) (.d .id) -/
noncomputable def rtableMatchx5 (x : ((List (Am.Id × ((Int × (Am.Id × (Int × Unit))) × (Int × Unit))) × (Unit × (Int × (Unit × (List (Am.Id × ((Int × (Am.Id × (Int × Unit))) × (Int × Unit))) × (Int × (Int × Unit))))))) × (Am.Id × (Am.Id × Unit)))) : Option (((List (Am.Id × ((Int × (Am.Id × (Int × Unit))) × (Int × Unit))) × (Unit × (Int × (Unit × (List (Am.Id × ((Int × (Am.Id × (Int × Unit))) × (Int × Unit))) × (Int × (Int × Unit))))))) × (Am.Id × (Am.Id × Unit))) ⊕ (((List (Am.Id × ((Int × (Am.Id × (Int × Unit))) × (Int × Unit))) × (Int × (Unit × Unit))) × (Am.Id × Unit)) ⊕ Empty)) := match x with
  | ((x0, ((), (x1, ((), (x2, (x3, (x4, ()))))))), (x5, (x6, ()))) => bif ilt x4 x3 then bif bif ile 0 x4 then ilt x4 (dlen x2) else false then bS (oidentCommon (((dget (Ty.id.pair (((Ty.int IntKind.i64).pair (Ty.id.pair ((Ty.int IntKind.i64).pair Ty.unit))).pair ((Ty.int IntKind.i64).pair Ty.unit))) x2 x4).fst, x5, ()), ())) fun v0 => bif ilt x1 v0.fst.fst then some (Sum.inl ((x0, (), v0.fst.fst, (), x2, x3, iwrap IntKind.i64 (iadd x4 1), ()), x5, (dget (Ty.id.pair (((Ty.int IntKind.i64).pair (Ty.id.pair ((Ty.int IntKind.i64).pair Ty.unit))).pair ((Ty.int IntKind.i64).pair Ty.unit))) x2 x4).fst, ())) else some (Sum.inl ((x0, (), x1, (), x2, x3, iwrap IntKind.i64 (iadd x4 1), ()), x5, x6, ())) else none else some (Sum.inr (Sum.inl ((x0, x1, (), ()), x6, ())))
noncomputable def wtableMatchx5 : ((List (Am.Id × ((Int × (Am.Id × (Int × Unit))) × (Int × Unit))) × (Unit × (Int × (Unit × (List (Am.Id × ((Int × (Am.Id × (Int × Unit))) × (Int × Unit))) × (Int × (Int × Unit))))))) × (Am.Id × (Am.Id × Unit))) → Option (((List (Am.Id × ((Int × (Am.Id × (Int × Unit))) × (Int × Unit))) × (Int × (Unit × Unit))) × (Am.Id × Unit)) ⊕ Empty) := shut (whl rtableMatchx5)
noncomputable def ltableMatchx5 : Lp := { m := 43, up := [], ksE := [], ksA := [], keep := [0, 3, 6, 7, 17, 18, 19], sh := (.cons (.d (.sl (.pair .id (.pair (.pair (.int .i64) (.pair .id (.pair (.int .i64) .unit))) (.pair (.int .i64) .unit))))) (.cons (.loc 0 0) (.cons (.d (.int .i64)) (.cons (.loc 1 0) (.cons (.d (.sl (.pair .id (.pair (.pair (.int .i64) (.pair .id (.pair (.int .i64) .unit))) (.pair (.int .i64) .unit))))) (.cons (.d (.int .i64)) (.cons (.d (.int .i64)) .unit))))))), ms := [.box (.d .id), .box (.d .id)], outs := [{ e := .exit 0, keep := [0, 6, 7], ks := [], sh := (.cons (.d (.sl (.pair .id (.pair (.pair (.int .i64) (.pair .id (.pair (.int .i64) .unit))) (.pair (.int .i64) .unit))))) (.cons (.d (.int .i64)) (.cons (.loc 0 0) .unit))), ms := [.box (.d .id)] }], sum := fun x => (trO1 trO0) (wtableMatchx5 x) }
noncomputable def btableMatch (x : ((List (Am.Id × ((Int × (Am.Id × (Int × Unit))) × (Int × Unit))) × (Am.Id × Unit)) × Unit)) : Option ((List (Am.Id × ((Int × (Am.Id × (Int × Unit))) × (Int × Unit))) × (Int × Unit)) × Unit) := match x with
  | ((x0, (x1, ())), ()) => bS (otableRight ((x0, ()), ())) fun v0 => bif bif v0.fst.fst then false else true then some (([], 1, ()), ()) else bL (wtableMatchx5 ((x0, (), 127, (), x0, dlen x0, 0, ()), x1, Id.zero, ())) (fun v1 => bif ilt v1.fst.snd.fst 128 then some (([], 6, ()), ()) else bS (otableParted ((v1.fst.fst, ((), v1.snd), ()), ())) fun v2 => some ((v2.fst.fst, 0, ()), ())) fun u1 => none
noncomputable def otableMatch : ((List (Am.Id × ((Int × (Am.Id × (Int × Unit))) × (Int × Unit))) × (Am.Id × Unit)) × Unit) → Option ((List (Am.Id × ((Int × (Am.Id × (Int × Unit))) × (Int × Unit))) × (Int × Unit)) × Unit) := shut btableMatch
theorem otableMatch_eq (x) : otableMatch x = btableMatch x := by rw [otableMatch, shut_eq]
theorem wtableMatchx5_eq (x) : wtableMatchx5 x = whl rtableMatchx5 x := by rw [wtableMatchx5, shut_eq]
noncomputable def ctableMatch : Ct := { ash := (.cons (.d (.sl (.pair .id (.pair (.pair (.int .i64) (.pair .id (.pair (.int .i64) .unit))) (.pair (.int .i64) .unit))))) (.cons (.d .id) .unit)), ms := [], foot := false, up := [], rsh := (.cons (.d (.sl (.pair .id (.pair (.pair (.int .i64) (.pair .id (.pair (.int .i64) .unit))) (.pair (.int .i64) .unit))))) (.cons (.d (.int .i64)) .unit)), ks := [], ms' := [], G := fun x => trS (otableMatch x) }
noncomputable def EtableMatch : Env := mkE Try.prog [(12, ctableRight.fc), (25, cidentCommon.fc), (26, ctableParted.fc)] [55] 13 [(5, .sum ltableMatchx5)] [] 0
theorem rdtableMatchx5 : ∀ x, round1 EtableMatch 13 ltableMatchx5 (loopAt Try.prog 13 0) x = rtableMatchx5 x
  | ((x0, ((), (x1, ((), (x2, (x3, (x4, ()))))))), (x5, (x6, ()))) => by kernel_rfl
theorem runtableMatch : ∀ x, run EtableMatch 13 ctableMatch x = btableMatch x
  | ((x0, (x1, ())), ()) => by kernel_rfl
theorem StableMatch : Spec Try.prog 13 ctableMatch.fc :=
  spec_fn (bs := [loopAt Try.prog 13 0]) (inl := [55]) (ls := [(5, .sum ltableMatchx5)]) mixed (hcs_cons StableRight (hcs_cons SidentCommon (hcs_cons StableParted hcs_nil))) (by kernel_rfl) (by kernel_rfl) (by decide) (by kernel_rfl) ⟨by kernel_rfl, lkOk_mk rdtableMatchx5 (fun x => ((trO1_get trO0_get) _).trans (wtableMatchx5_eq x)) rfl, trivial⟩ otableMatch (fun x => trS_get (otableMatch x)) (fun x => (runtableMatch x).trans (otableMatch_eq x).symm)
end Am
end Go.Proofs.Ytgdgiihaakcmpaa
