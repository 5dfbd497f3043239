/-
  Printed contracts, part 1.
-/
import Derived.Test.YtkpojikfadeeeaaProg
import Derived.Test.YtkpojikfadeeeaaBm24
namespace Go.Proofs.Ytkpojikfadeeeaa
namespace Am
open Go Go.RowKit
set_option maxRecDepth 100000
set_option linter.unusedVariables false
theorem mixed : Try.prog.follows .mixedOrders = true := rfl
/- function 8: (.d (.sl (.pair (.int .i64) (.pair .id .unit)))) -/
noncomputable def blaw08Few (x : ((List (Int × (Am.Id × Unit)) × Unit) × Unit)) : Option ((List (Int × (Am.Id × Unit)) × Unit) × Unit) := match x with
  | ((x0, ()), ()) => bif bif bif ile 0 0 then ile 0 (imin (dlen x0) 18) else false then ile (imin (dlen x0) 18) (dlen x0) else false then some ((dsub x0 0 (imin (dlen x0) 18), ()), ()) else none
noncomputable def olaw08Few : ((List (Int × (Am.Id × Unit)) × Unit) × Unit) → Option ((List (Int × (Am.Id × Unit)) × Unit) × Unit) := shut blaw08Few
theorem olaw08Few_eq (x) : olaw08Few x = blaw08Few x := by rw [olaw08Few, shut_eq]
noncomputable def claw08Few : Ct := { ash := (.cons (.d (.sl (.pair (.int .i64) (.pair .id .unit)))) .unit), ms := [], foot := false, up := [], rsh := (.cons (.d (.sl (.pair (.int .i64) (.pair .id .unit)))) .unit), ks := [], ms' := [], G := fun x => trS (olaw08Few x) }
noncomputable def Elaw08Few : Env := mkE Try.prog [] [] 8 [] [] 0
theorem runlaw08Few : ∀ x, run Elaw08Few 8 claw08Few x = blaw08Few x
  | ((x0, ()), ()) => by kernel_rfl
theorem Slaw08Few : Spec Try.prog 8 claw08Few.fc :=
  spec_fn (bs := []) (inl := []) (ls := []) mixed hcs_nil (by kernel_rfl) (by kernel_rfl) (by decide) (by kernel_rfl) trivial olaw08Few (fun x => trS_get (olaw08Few x)) (fun x => (runlaw08Few x).trans (olaw08Few_eq x).symm)
/- function 27: (.d (.sl (.pair (.int .i64) (.pair .id .unit)))) (.fn (.func 26) .unit (.cons (.cptr (.d .id)) (.cons (.cptr (.d .id)) .unit))) -/
noncomputable def bfingerFilter (x : ((List (Int × (Am.Id × Unit)) × ((Unit × (Am.Id × (Am.Id × Unit))) × Unit)) × Unit)) : Option (((Unit × (List (Int × (Am.Id × Unit)) × ((Unit × (Am.Id × (Am.Id × Unit))) × Unit))) × Unit) × Unit) := match x with
  | ((x0, (((), (x1, (x2, ()))), ())), ()) => some ((((), x0, ((), x1, x2, ()), ()), ()), ())
noncomputable def ofingerFilter : ((List (Int × (Am.Id × Unit)) × ((Unit × (Am.Id × (Am.Id × Unit))) × Unit)) × Unit) → Option (((Unit × (List (Int × (Am.Id × Unit)) × ((Unit × (Am.Id × (Am.Id × Unit))) × Unit))) × Unit) × Unit) := shut bfingerFilter
theorem ofingerFilter_eq (x) : ofingerFilter x = bfingerFilter x := by rw [ofingerFilter, shut_eq]
noncomputable def cfingerFilter : Ct := { ash := (.cons (.d (.sl (.pair (.int .i64) (.pair .id .unit)))) (.cons (.fn (.func 26) .unit (.cons (.cptr (.d .id)) (.cons (.cptr (.d .id)) .unit))) .unit)), ms := [], foot := false, up := [], rsh := (.cons (.fn (.func 39) .unit (.cons (.cptr (.d (.sl (.pair (.int .i64) (.pair .id .unit))))) (.cons (.cptr (.fn (.func 26) .unit (.cons (.cptr (.d .id)) (.cons (.cptr (.d .id)) .unit)))) .unit))) .unit), ks := [], ms' := [], G := fun x => trS (ofingerFilter x) }
noncomputable def EfingerFilter : Env := mkE Try.prog [] [] 27 [] [] 0
theorem runfingerFilter : ∀ x, run EfingerFilter 27 cfingerFilter x = bfingerFilter x
  | ((x0, (((), (x1, (x2, ()))), ())), ()) => by kernel_rfl
theorem SfingerFilter : Spec Try.prog 27 cfingerFilter.fc :=
  spec_fn (bs := []) (inl := []) (ls := []) mixed hcs_nil (by kernel_rfl) (by kernel_rfl) (by decide) (by kernel_rfl) trivial ofingerFilter (fun x => trS_get (ofingerFilter x)) (fun x => (runfingerFilter x).trans (ofingerFilter_eq x).symm)
/- function 15: (.d .id) (.d .id) -/
noncomputable def ridentFarx4 (x : ((Unit × (Unit × (Unit × (Unit × (Int × (Int × Unit)))))) × (Am.Id × (Am.Id × (Am.Id × (Am.Id × Unit)))))) : Option (((Unit × (Unit × (Unit × (Unit × (Int × (Int × Unit)))))) × (Am.Id × (Am.Id × (Am.Id × (Am.Id × Unit))))) ⊕ (((Unit × (Unit × Unit)) × (Am.Id × (Am.Id × Unit))) ⊕ Empty)) := match x with
  | (((), ((), ((), ((), (x0, (x1, ())))))), (x2, (x3, (x4, (x5, ()))))) => bif ile 0 x1 then bif bif ile 0 x1 then ilt x1 32 else false then bif bif ile 0 x1 then ilt x1 32 else false then bif ilt (iwrap IntKind.i64 (isub (iwrap IntKind.i64 (isub (iwrap IntKind.i64 (u8i (idget x3 (inat x1)))) (iwrap IntKind.i64 (u8i (idget x2 (inat x1)))))) x0)) 0 then bif bif ile 0 x1 then ilt x1 32 else false then some (Sum.inl (((), (), (), (), 1, iwrap IntKind.i64 (isub x1 1), ()), x2, x3, x4, idset x5 (inat x1) (iu8 (iwrap IntKind.u8 (iwrap IntKind.i64 (iadd (iwrap IntKind.i64 (isub (iwrap IntKind.i64 (isub (iwrap IntKind.i64 (u8i (idget x3 (inat x1)))) (iwrap IntKind.i64 (u8i (idget x2 (inat x1)))))) x0)) 256)))), ())) else none else bif bif ile 0 x1 then ilt x1 32 else false then some (Sum.inl (((), (), (), (), 0, iwrap IntKind.i64 (isub x1 1), ()), x2, x3, x4, idset x5 (inat x1) (iu8 (iwrap IntKind.u8 (iwrap IntKind.i64 (isub (iwrap IntKind.i64 (isub (iwrap IntKind.i64 (u8i (idget x3 (inat x1)))) (iwrap IntKind.i64 (u8i (idget x2 (inat x1)))))) x0)))), ())) else none else none else none else some (Sum.inr (Sum.inl (((), (), ()), x4, x5, ())))
noncomputable def widentFarx4 : ((Unit × (Unit × (Unit × (Unit × (Int × (Int × Unit)))))) × (Am.Id × (Am.Id × (Am.Id × (Am.Id × Unit))))) → Option (((Unit × (Unit × Unit)) × (Am.Id × (Am.Id × Unit))) ⊕ Empty) := shut (whl ridentFarx4)
noncomputable def lidentFarx4 : Lp := { m := 33, up := [], ksE := [0, 1, 2, 3], ksA := [0, 1, 2, 3], keep := [2, 3, 4, 5, 6, 7], sh := (.cons (.loc 0 0) (.cons (.loc 1 0) (.cons (.loc 2 0) (.cons (.loc 3 0) (.cons (.d (.int .i64)) (.cons (.d (.int .i64)) .unit)))))), ms := [.box (.d .id), .box (.d .id), .box (.d .id), .box (.d .id)], outs := [{ e := .exit 0, keep := [4, 5], ks := [2, 3], sh := (.cons (.loc 0 0) (.cons (.loc 1 0) .unit)), ms := [.box (.d .id), .box (.d .id)] }], sum := fun x => (trO1 trO0) (widentFarx4 x) }
noncomputable def bidentFar (x : ((Am.Id × (Am.Id × Unit)) × Unit)) : Option ((Am.Id × Unit) × Unit) := match x with
  | ((x0, (x1, ())), ()) => bL (widentFarx4 (((), (), (), (), 0, 31, ()), x0, x1, Id.zero, Id.zero, ())) (fun v0 => some (v0.snd.snd, ())) fun u0 => none
noncomputable def oidentFar : ((Am.Id × (Am.Id × Unit)) × Unit) → Option ((Am.Id × Unit) × Unit) := shut bidentFar
theorem oidentFar_eq (x) : oidentFar x = bidentFar x := by rw [oidentFar, shut_eq]
theorem widentFarx4_eq (x) : widentFarx4 x = whl ridentFarx4 x := by rw [widentFarx4, shut_eq]
noncomputable def cidentFar : Ct := { ash := (.cons (.d .id) (.cons (.d .id) .unit)), ms := [], foot := false, up := [], rsh := (.cons (.d .id) .unit), ks := [], ms' := [], G := fun x => trS (oidentFar x) }
noncomputable def EidentFar : Env := mkE Try.prog [] [] 15 [(4, .sum lidentFarx4)] [] 0
theorem rdidentFarx4 : ∀ x, round1 EidentFar 15 lidentFarx4 (loopAt Try.prog 15 0) x = ridentFarx4 x
  | (((), ((), ((), ((), (x0, (x1, ())))))), (x2, (x3, (x4, (x5, ()))))) => by kernel_rfl
theorem runidentFar : ∀ x, run EidentFar 15 cidentFar x = bidentFar x
  | ((x0, (x1, ())), ()) => by kernel_rfl
theorem SidentFar : Spec Try.prog 15 cidentFar.fc :=
  spec_fn (bs := [loopAt Try.prog 15 0]) (inl := []) (ls := [(4, .sum lidentFarx4)]) mixed hcs_nil (by kernel_rfl) (by kernel_rfl) (by decide) (by kernel_rfl) ⟨by kernel_rfl, lkOk_mk rdidentFarx4 (fun x => ((trO1_get trO0_get) _).trans (widentFarx4_eq x)) rfl, trivial⟩ oidentFar (fun x => trS_get (oidentFar x)) (fun x => (runidentFar x).trans (oidentFar_eq x).symm)
/- function 45: (.d .u8) -/
noncomputable def bcmpIsNaN (x : ((UInt8 × Unit) × Unit)) : Option ((Bool × Unit) × Unit) := match x with
  | ((x0, ()), ()) => some ((bif u8eq x0 x0 then false else true, ()), ())
noncomputable def ocmpIsNaN : ((UInt8 × Unit) × Unit) → Option ((Bool × Unit) × Unit) := shut bcmpIsNaN
theorem ocmpIsNaN_eq (x) : ocmpIsNaN x = bcmpIsNaN x := by rw [ocmpIsNaN, shut_eq]
noncomputable def ccmpIsNaN : Ct := { ash := (.cons (.d .u8) .unit), ms := [], foot := false, up := [], rsh := (.cons (.d .bool) .unit), ks := [], ms' := [], G := fun x => trS (ocmpIsNaN x) }
noncomputable def EcmpIsNaN : Env := mkE Try.prog [] [] 45 [] [] 0
theorem runcmpIsNaN : ∀ x, run EcmpIsNaN 45 ccmpIsNaN x = bcmpIsNaN x
  | ((x0, ()), ()) => by kernel_rfl
theorem ScmpIsNaN : Spec Try.prog 45 ccmpIsNaN.fc :=
  spec_fn (bs := []) (inl := []) (ls := []) mixed hcs_nil (by kernel_rfl) (by kernel_rfl) (by decide) (by kernel_rfl) trivial ocmpIsNaN (fun x => trS_get (ocmpIsNaN x)) (fun x => (runcmpIsNaN x).trans (ocmpIsNaN_eq x).symm)
/- function 41: (.d .u8) (.d .u8) -/
noncomputable def bcmpCompare (x : ((UInt8 × (UInt8 × Unit)) × Unit)) : Option ((Int × Unit) × Unit) := match x with
  | ((x0, (x1, ())), ()) => bS (ocmpIsNaN ((x0, ()), ())) fun v0 => bS (ocmpIsNaN ((x1, ()), ())) fun v1 => bif v0.fst.fst then bif v1.fst.fst then some ((0, ()), ()) else some ((-1, ()), ()) else bif v1.fst.fst then some ((1, ()), ()) else bif ilt (u8i x0) (u8i x1) then some ((-1, ()), ()) else bif ilt (u8i x1) (u8i x0) then some ((1, ()), ()) else some ((0, ()), ())
noncomputable def ocmpCompare : ((UInt8 × (UInt8 × Unit)) × Unit) → Option ((Int × Unit) × Unit) := shut bcmpCompare
theorem ocmpCompare_eq (x) : ocmpCompare x = bcmpCompare x := by rw [ocmpCompare, shut_eq]
noncomputable def ccmpCompare : Ct := { ash := (.cons (.d .u8) (.cons (.d .u8) .unit)), ms := [], foot := false, up := [], rsh := (.cons (.d (.int .i64)) .unit), ks := [], ms' := [], G := fun x => trS (ocmpCompare x) }
noncomputable def EcmpCompare : Env := mkE Try.prog [(45, ccmpIsNaN.fc)] [] 41 [] [] 0
theorem runcmpCompare : ∀ x, run EcmpCompare 41 ccmpCompare x = bcmpCompare x
  | ((x0, (x1, ())), ()) => by kernel_rfl
theorem ScmpCompare : Spec Try.prog 41 ccmpCompare.fc :=
  spec_fn (bs := []) (inl := []) (ls := []) mixed (hcs_cons ScmpIsNaN hcs_nil) (by kernel_rfl) (by kernel_rfl) (by decide) (by kernel_rfl) trivial ocmpCompare (fun x => trS_get (ocmpCompare x)) (fun x => (runcmpCompare x).trans (ocmpCompare_eq x).symm)
/- function 29: (.d (.sl .u8)) (.d (.sl .u8)) -/
noncomputable def rslicesComparex2 (x : ((List UInt8 × (List UInt8 × (List UInt8 × (Int × (Int × Unit))))) × Unit)) : Option (((List UInt8 × (List UInt8 × (List UInt8 × (Int × (Int × Unit))))) × Unit) ⊕ (((Int × Unit) × Unit) ⊕ (((List UInt8 × (List UInt8 × Unit)) × Unit) ⊕ Empty))) := match x with
  | ((x0, (x1, (x2, (x3, (x4, ()))))), ()) => bif ilt x4 x3 then bif bif ile 0 x4 then ilt x4 (dlen x2) else false then bif ile (dlen x1) x4 then some (Sum.inr (Sum.inl ((1, ()), ()))) else bif bif ile 0 x4 then ilt x4 (dlen x1) else false then bS (ocmpCompare ((dget Ty.u8 x2 x4, dget Ty.u8 x1 x4, ()), ())) fun v0 => bif bif ieq v0.fst.fst 0 then false else true then some (Sum.inr (Sum.inl v0)) else some (Sum.inl ((x0, x1, x2, x3, iwrap IntKind.i64 (iadd x4 1), ()), ())) else none else none else some (Sum.inr (Sum.inr (Sum.inl ((x0, x1, ()), ()))))
noncomputable def wslicesComparex2 : ((List UInt8 × (List UInt8 × (List UInt8 × (Int × (Int × Unit))))) × Unit) → Option (((Int × Unit) × Unit) ⊕ (((List UInt8 × (List UInt8 × Unit)) × Unit) ⊕ Empty)) := shut (whl rslicesComparex2)
noncomputable def lslicesComparex2 : Lp := { m := 36, up := [], ksE := [], ksA := [], keep := [0, 1, 9, 10, 11], sh := (.cons (.d (.sl .u8)) (.cons (.d (.sl .u8)) (.cons (.d (.sl .u8)) (.cons (.d (.int .i64)) (.cons (.d (.int .i64)) .unit))))), ms := [], outs := [{ e := .ret, keep := [4], ks := [], sh := (.cons (.d (.int .i64)) .unit), ms := [] }, { e := .exit 0, keep := [0, 1], ks := [], sh := (.cons (.d (.sl .u8)) (.cons (.d (.sl .u8)) .unit)), ms := [] }], sum := fun x => (trO1 (trO1 trO0)) (wslicesComparex2 x) }
noncomputable def bslicesCompare (x : ((List UInt8 × (List UInt8 × Unit)) × Unit)) : Option ((Int × Unit) × Unit) := match x with
  | ((x0, (x1, ())), ()) => bL (wslicesComparex2 ((x0, x1, x0, dlen x0, 0, ()), ())) (fun v0 => some v0) fun u0 => bL u0 (fun v1 => bif ilt (dlen v1.fst.fst) (dlen v1.fst.snd.fst) then some ((-1, ()), ()) else some ((0, ()), ())) fun u1 => none
noncomputable def oslicesCompare : ((List UInt8 × (List UInt8 × Unit)) × Unit) → Option ((Int × Unit) × Unit) := shut bslicesCompare
theorem oslicesCompare_eq (x) : oslicesCompare x = bslicesCompare x := by rw [oslicesCompare, shut_eq]
theorem wslicesComparex2_eq (x) : wslicesComparex2 x = whl rslicesComparex2 x := by rw [wslicesComparex2, shut_eq]
noncomputable def cslicesCompare : Ct := { ash := (.cons (.d (.sl .u8)) (.cons (.d (.sl .u8)) .unit)), ms := [], foot := false, up := [], rsh := (.cons (.d (.int .i64)) .unit), ks := [], ms' := [], G := fun x => trS (oslicesCompare x) }
noncomputable def EslicesCompare : Env := mkE Try.prog [(41, ccmpCompare.fc)] [] 29 [(2, .sum lslicesComparex2)] [] 0
theorem rdslicesComparex2 : ∀ x, round1 EslicesCompare 29 lslicesComparex2 (loopAt Try.prog 29 0) x = rslicesComparex2 x
  | ((x0, (x1, (x2, (x3, (x4, ()))))), ()) => by kernel_rfl
theorem runslicesCompare : ∀ x, run EslicesCompare 29 cslicesCompare x = bslicesCompare x
  | ((x0, (x1, ())), ()) => by kernel_rfl
theorem SslicesCompare : Spec Try.prog 29 cslicesCompare.fc :=
  spec_fn (bs := [loopAt Try.prog 29 0]) (inl := []) (ls := [(2, .sum lslicesComparex2)]) mixed (hcs_cons ScmpCompare hcs_nil) (by kernel_rfl) (by kernel_rfl) (by decide) (by kernel_rfl) ⟨by kernel_rfl, lkOk_mk rdslicesComparex2 (fun x => ((trO1_get (trO1_get trO0_get)) _).trans (wslicesComparex2_eq x)) rfl, trivial⟩ oslicesCompare (fun x => trS_get (oslicesCompare x)) (fun x => (runslicesCompare x).trans (oslicesCompare_eq x).symm)
/- function 14: (.d .id) (.d .id) -/
noncomputable def bidentCompare (x : ((Am.Id × (Am.Id × Unit)) × Unit)) : Option ((Int × Unit) × Unit) := match x with
  | ((x0, (x1, ())), ()) => bS (oslicesCompare ((x0.l, x1.l, ()), ())) fun v0 => some v0
noncomputable def oidentCompare : ((Am.Id × (Am.Id × Unit)) × Unit) → Option ((Int × Unit) × Unit) := shut bidentCompare
theorem oidentCompare_eq (x) : oidentCompare x = bidentCompare x := by rw [oidentCompare, shut_eq]
noncomputable def cidentCompare : Ct := { ash := (.cons (.d .id) (.cons (.d .id) .unit)), ms := [], foot := false, up := [], rsh := (.cons (.d (.int .i64)) .unit), ks := [], ms' := [], G := fun x => trS (oidentCompare x) }
noncomputable def EidentCompare : Env := mkE Try.prog [(29, cslicesCompare.fc)] [] 14 [] [] 0
theorem runidentCompare : ∀ x, run EidentCompare 14 cidentCompare x = bidentCompare x
  | ((x0, (x1, ())), ()) => by kernel_rfl
theorem SidentCompare : Spec Try.prog 14 cidentCompare.fc :=
  spec_fn (bs := []) (inl := []) (ls := []) mixed (hcs_cons SslicesCompare hcs_nil) (by kernel_rfl) (by kernel_rfl) (by decide) (by kernel_rfl) trivial oidentCompare (fun x => trS_get (oidentCompare x)) (fun x => (runidentCompare x).trans (oidentCompare_eq x).symm)
/- function 13: (.d .id) (.d .id) (.d .id) -/
noncomputable def bidentIn (x : ((Am.Id × (Am.Id × (Am.Id × Unit))) × Unit)) : Option ((Bool × Unit) × Unit) := match x with
  | ((x0, (x1, (x2, ()))), ()) => bif ideq x1 x2 then some ((true, ()), ()) else bS (oidentFar ((x1, x0, ()), ())) fun v0 => bif bif ideq v0.fst.fst Id.zero then false else true then bS (oidentFar ((x1, x2, ()), ())) fun v1 => bS (oidentCompare ((v0.fst.fst, v1.fst), ())) fun v2 => some ((ile v2.fst.fst 0, ()), ()) else some ((false, ()), ())
noncomputable def oidentIn : ((Am.Id × (Am.Id × (Am.Id × Unit))) × Unit) → Option ((Bool × Unit) × Unit) := shut bidentIn
theorem oidentIn_eq (x) : oidentIn x = bidentIn x := by rw [oidentIn, shut_eq]
noncomputable def cidentIn : Ct := { ash := (.cons (.d .id) (.cons (.d .id) (.cons (.d .id) .unit))), ms := [], foot := false, up := [], rsh := (.cons (.d .bool) .unit), ks := [], ms' := [], G := fun x => trS (oidentIn x) }
noncomputable def EidentIn : Env := mkE Try.prog [(15, cidentFar.fc), (14, cidentCompare.fc)] [] 13 [] [] 0
theorem runidentIn : ∀ x, run EidentIn 13 cidentIn x = bidentIn x
  | ((x0, (x1, (x2, ()))), ()) => by kernel_rfl
theorem SidentIn : Spec Try.prog 13 cidentIn.fc :=
  spec_fn (bs := []) (inl := []) (ls := []) mixed (hcs_cons SidentFar (hcs_cons SidentCompare hcs_nil)) (by kernel_rfl) (by kernel_rfl) (by decide) (by kernel_rfl) trivial oidentIn (fun x => trS_get (oidentIn x)) (fun x => (runidentIn x).trans (oidentIn_eq x).symm)
/- function 26: (.d (.pair (.int .i64) (.pair .id .unit))) (.cptr (.d .id)) (.cptr (.d .id)) -/
noncomputable def bfingerClosest_1 (x : (((Int × (Am.Id × Unit)) × (Am.Id × (Am.Id × Unit))) × Unit)) : Option ((Bool × Unit) × Unit) := match x with
  | ((x0, (x1, (x2, ()))), ()) => bif bif ideq x0.snd.fst x1 then false else true then bif bif ideq x0.snd.fst x2 then false else true then bS (oidentIn ((x0.snd.fst, x1, x2, ()), ())) fun v0 => some v0 else some ((false, ()), ()) else some ((false, ()), ())
noncomputable def ofingerClosest_1 : (((Int × (Am.Id × Unit)) × (Am.Id × (Am.Id × Unit))) × Unit) → Option ((Bool × Unit) × Unit) := shut bfingerClosest_1
theorem ofingerClosest_1_eq (x) : ofingerClosest_1 x = bfingerClosest_1 x := by rw [ofingerClosest_1, shut_eq]
noncomputable def cfingerClosest_1 : Ct := { ash := (.cons (.d (.pair (.int .i64) (.pair .id .unit))) (.cons (.cptr (.d .id)) (.cons (.cptr (.d .id)) .unit))), ms := [], foot := false, up := [], rsh := (.cons (.d .bool) .unit), ks := [], ms' := [], G := fun x => trS (ofingerClosest_1 x) }
noncomputable def EfingerClosest_1 : Env := mkE Try.prog [(13, cidentIn.fc)] [] 26 [] [] 0
theorem runfingerClosest_1 : ∀ x, run EfingerClosest_1 26 cfingerClosest_1 x = bfingerClosest_1 x
  | ((x0, (x1, (x2, ()))), ()) => by kernel_rfl
theorem SfingerClosest_1 : Spec Try.prog 26 cfingerClosest_1.fc :=
  spec_fn (bs := []) (inl := []) (ls := []) mixed (hcs_cons SidentIn hcs_nil) (by kernel_rfl) (by kernel_rfl) (by decide) (by kernel_rfl) trivial ofingerClosest_1 (fun x => trS_get (ofingerClosest_1 x)) (fun x => (runfingerClosest_1 x).trans (ofingerClosest_1_eq x).symm)
/- function 9: (.d .id) (.d .id) (.d (.sl (.pair (.int .i64) (.pair .id .unit)))) -/
noncomputable def bYfingerClosesty5 (x : ((Unit × (Unit × (Unit × Unit))) × ((Int × (Am.Id × Unit)) × Unit) × (Am.Id × ((Int × (Am.Id × Unit)) × (Int × Unit))))) : Option (Am.Id × ((Int × (Am.Id × Unit)) × (Int × Unit))) := match x with
  | (((), ((), ((), ()))), (x0, ()), (x1, (x2, (x3, ())))) => bif bif bif ieq x3 0 then false else true then false else true then bS (oidentFar ((x1, x2.snd), ())) fun v0 => bS (oidentFar ((x1, x0.snd), ())) fun v1 => bS (oidentCompare ((v0.fst.fst, v1.fst), ())) fun v2 => bif ilt v2.fst.fst 0 then some (x1, x0, 0, ()) else some (x1, x2, x3, ()) else some (x1, x0, 0, ())
noncomputable def oYfingerClosesty5 : ((Unit × (Unit × (Unit × Unit))) × ((Int × (Am.Id × Unit)) × Unit) × (Am.Id × ((Int × (Am.Id × Unit)) × (Int × Unit)))) → Option (Am.Id × ((Int × (Am.Id × Unit)) × (Int × Unit))) := shut bYfingerClosesty5
theorem oYfingerClosesty5_eq (x) : oYfingerClosesty5 x = bYfingerClosesty5 x := by rw [oYfingerClosesty5, shut_eq]
noncomputable def rfingerClosesty5ix1 (y : (Unit × (Unit × (Unit × Unit)))) (x : ((Unit × ((Unit × (Am.Id × (Am.Id × Unit))) × (List (Int × (Am.Id × Unit)) × (Int × (Int × Unit))))) × (Am.Id × ((Int × (Am.Id × Unit)) × (Int × (Unit × Unit)))))) : Option (((Unit × ((Unit × (Am.Id × (Am.Id × Unit))) × (List (Int × (Am.Id × Unit)) × (Int × (Int × Unit))))) × (Am.Id × ((Int × (Am.Id × Unit)) × (Int × (Unit × Unit))))) ⊕ ((Unit × (Am.Id × ((Int × (Am.Id × Unit)) × (Int × (Unit × Unit))))) ⊕ Empty)) := match y, x with
  | ((), ((), ((), ()))), (((), (((), (x0, (x1, ()))), (x2, (x3, (x4, ()))))), (x5, (x6, (x7, ((), ()))))) => bif ilt x4 x3 then bif bif ile 0 x4 then ilt x4 (dlen x2) else false then bS (ofingerClosest_1 ((dget ((Ty.int IntKind.i64).pair (Ty.id.pair Ty.unit)) x2 x4, x0, x1, ()), ())) fun v0 => bif v0.fst.fst then bS (oYfingerClosesty5 (((), (), (), ()), (dget ((Ty.int IntKind.i64).pair (Ty.id.pair Ty.unit)) x2 x4, ()), x5, x6, x7, ())) fun v1 => some (Sum.inl (((), ((), x0, x1, ()), x2, x3, iwrap IntKind.i64 (iadd x4 1), ()), v1.fst, v1.snd.fst, v1.snd.snd.fst, (), ())) else some (Sum.inl (((), ((), x0, x1, ()), x2, x3, iwrap IntKind.i64 (iadd x4 1), ()), x5, x6, x7, (), ())) else none else some (Sum.inr (Sum.inl ((), x5, x6, x7, (), ())))
noncomputable def wfingerClosesty5ix1 : ((Unit × (Unit × (Unit × Unit))) × ((Unit × ((Unit × (Am.Id × (Am.Id × Unit))) × (List (Int × (Am.Id × Unit)) × (Int × (Int × Unit))))) × (Am.Id × ((Int × (Am.Id × Unit)) × (Int × (Unit × Unit)))))) → Option ((Unit × (Am.Id × ((Int × (Am.Id × Unit)) × (Int × (Unit × Unit))))) ⊕ Empty) := shut fun p => whl (rfingerClosesty5ix1 p.1) p.2
theorem wfingerClosesty5ix1_eq (x) : wfingerClosesty5ix1 x = whl (rfingerClosesty5ix1 x.1) x.2 := by rw [wfingerClosesty5ix1, shut_eq]
noncomputable def lfingerClosesty5ix1 (y : (Unit × (Unit × (Unit × Unit)))) : Lp := { m := 22, up := [], ksE := [0, 1, 2, 3], ksA := [0, 1, 2, 3], keep := [0, 2, 6, 7, 8], sh := (.cons (.yld 3) (.cons (.cptr (.fn (.func 26) .unit (.cons (.cptr (.d .id)) (.cons (.cptr (.d .id)) .unit)))) (.cons (.d (.sl (.pair (.int .i64) (.pair .id .unit)))) (.cons (.d (.int .i64)) (.cons (.d (.int .i64)) .unit))))), ms := [.fro (.d .id), .box (.d (.pair (.int .i64) (.pair .id .unit))), .box (.d (.int .i64)), .loop], outs := [{ e := .exit 0, keep := [], ks := [0, 1, 2, 3], sh := .unit, ms := [.fro (.d .id), .box (.d (.pair (.int .i64) (.pair .id .unit))), .box (.d (.int .i64)), .loop] }], sum := fun x => (trO1 trO0) (wfingerClosesty5ix1 (y, x)) }
noncomputable def YffingerClosesty5 (x : (Unit × (Unit × (Unit × Unit)))) (p : ((Int × (Am.Id × Unit)) × Unit) × (Am.Id × ((Int × (Am.Id × Unit)) × (Int × Unit)))) : Tr (Am.Id × ((Int × (Am.Id × Unit)) × (Int × Unit))) := trS (oYfingerClosesty5 (x, p.1, p.2))
noncomputable def EfingerClosesty5i0 (x : (Unit × (Unit × (Unit × Unit)))) : Env := mkE Try.prog [(26, cfingerClosest_1.fc)] [] 39 [(1, .sum (lfingerClosesty5ix1 x))] [] 4
noncomputable def EfingerClosesty5i (x : (Unit × (Unit × (Unit × Unit)))) : Env := (EfingerClosesty5i0 x).yielding 4 [0, 1, 2] (fcY (.cons (.d (.pair (.int .i64) (.pair .id .unit))) .unit) [.fro (.d .id), .box (.d (.pair (.int .i64) (.pair .id .unit))), .box (.d (.int .i64))] (YffingerClosesty5 x))
theorem rdfingerClosesty5ix1 : ∀ y x, round1 (EfingerClosesty5i y) 39 (lfingerClosesty5ix1 y) (loopAt Try.prog 39 0) x = rfingerClosesty5ix1 y x
  | ((), ((), ((), ()))), (((), (((), (x0, (x1, ()))), (x2, (x3, (x4, ()))))), (x5, (x6, (x7, ((), ()))))) => by kernel_rfl
noncomputable def bIfingerClosesty5 (x : ((Unit × (Unit × (Unit × Unit))) × (List (Int × (Am.Id × Unit)) × ((Unit × (Am.Id × (Am.Id × Unit))) × Unit)) × (Am.Id × ((Int × (Am.Id × Unit)) × (Int × Unit))))) : Option (Am.Id × ((Int × (Am.Id × Unit)) × (Int × Unit))) := match x with
  | (((), ((), ((), ()))), (x0, (((), (x1, (x2, ()))), ())), (x3, (x4, (x5, ())))) => Option.rec none (fun val => some (val.snd.fst, val.snd.snd.fst, val.snd.snd.snd.fst, ())) (bif isL (wfingerClosesty5ix1 (((), (), (), ()), ((), ((), x1, x2, ()), x0, dlen x0, 0, ()), x3, x4, x5, (), ())) then some ((), (getL (wfingerClosesty5ix1 (((), (), (), ()), ((), ((), x1, x2, ()), x0, dlen x0, 0, ()), x3, x4, x5, (), ()))).snd.fst, (getL (wfingerClosesty5ix1 (((), (), (), ()), ((), ((), x1, x2, ()), x0, dlen x0, 0, ()), x3, x4, x5, (), ()))).snd.snd.fst, (getL (wfingerClosesty5ix1 (((), (), (), ()), ((), ((), x1, x2, ()), x0, dlen x0, 0, ()), x3, x4, x5, (), ()))).snd.snd.snd.fst, (), ()) else none)
noncomputable def oIfingerClosesty5 : ((Unit × (Unit × (Unit × Unit))) × (List (Int × (Am.Id × Unit)) × ((Unit × (Am.Id × (Am.Id × Unit))) × Unit)) × (Am.Id × ((Int × (Am.Id × Unit)) × (Int × Unit)))) → Option (Am.Id × ((Int × (Am.Id × Unit)) × (Int × Unit))) := shut bIfingerClosesty5
theorem oIfingerClosesty5_eq (x) : oIfingerClosesty5 x = bIfingerClosesty5 x := by rw [oIfingerClosesty5, shut_eq]
noncomputable def rffingerClosesty5 : Rf := { it := 39, m := 35, up := [], keep := [4, 8, 9], sh := (.cons (.loc 0 0) (.cons (.loc 1 0) (.cons (.loc 2 0) .unit))), csh := (.cons (.cptr (.d (.sl (.pair (.int .i64) (.pair .id .unit))))) (.cons (.cptr (.fn (.func 26) .unit (.cons (.cptr (.d .id)) (.cons (.cptr (.d .id)) .unit)))) .unit)), ksE := [1, 3, 4], ms := [.fro (.d .id), .box (.d (.pair (.int .i64) (.pair .id .unit))), .box (.d (.int .i64))], sum := fun x => trS (oIfingerClosesty5 x) }
theorem itfingerClosesty5 : ∀ x y z, runIt (EfingerClosesty5i0 x) 39 (.cons (.d (.pair (.int .i64) (.pair .id .unit))) .unit) (.cons (.cptr (.d (.sl (.pair (.int .i64) (.pair .id .unit))))) (.cons (.cptr (.fn (.func 26) .unit (.cons (.cptr (.d .id)) (.cons (.cptr (.d .id)) .unit)))) .unit)) [.fro (.d .id), .box (.d (.pair (.int .i64) (.pair .id .unit))), .box (.d (.int .i64))] (YffingerClosesty5 x) y z = bIfingerClosesty5 (x, y, z)
  | ((), ((), ((), ()))), (x0, (((), (x1, (x2, ()))), ())), (x3, (x4, (x5, ()))) => by kernel_rfl
noncomputable def bfingerClosest (x : ((Am.Id × (Am.Id × (List (Int × (Am.Id × Unit)) × Unit))) × Unit)) : Option (((Int × (Am.Id × Unit)) × (Int × Unit)) × Unit) := match x with
  | ((x0, (x1, (x2, ()))), ()) => bS (ofingerFilter ((x2, ((), x1, x0, ()), ()), ())) fun v0 => bS (oIfingerClosesty5 (((), (), (), ()), (v0.fst.fst.snd.fst, ((), v0.fst.fst.snd.snd.fst.snd), ()), x1, (0, Id.zero, ()), 6, ())) fun v1 => some (v1.snd, ())
noncomputable def ofingerClosest : ((Am.Id × (Am.Id × (List (Int × (Am.Id × Unit)) × Unit))) × Unit) → Option (((Int × (Am.Id × Unit)) × (Int × Unit)) × Unit) := shut bfingerClosest
theorem ofingerClosest_eq (x) : ofingerClosest x = bfingerClosest x := by rw [ofingerClosest, shut_eq]
noncomputable def cfingerClosest : Ct := { ash := (.cons (.d .id) (.cons (.d .id) (.cons (.d (.sl (.pair (.int .i64) (.pair .id .unit)))) .unit))), ms := [], foot := false, up := [], rsh := (.cons (.d (.pair (.int .i64) (.pair .id .unit))) (.cons (.d (.int .i64)) .unit)), ks := [], ms' := [], G := fun x => trS (ofingerClosest x) }
noncomputable def EfingerClosest : Env := mkE Try.prog [(27, cfingerFilter.fc), (15, cidentFar.fc), (14, cidentCompare.fc)] [] 9 [] [(5, rffingerClosesty5)] 0
theorem bdfingerClosesty5 : ∀ x a z, bodyB EfingerClosest 9 35 [4, 8, 9] (.cons (.loc 0 0) (.cons (.loc 1 0) (.cons (.loc 2 0) .unit))) (.cons (.d (.pair (.int .i64) (.pair .id .unit))) .unit) [.fro (.d .id), .box (.d (.pair (.int .i64) (.pair .id .unit))), .box (.d (.int .i64))] (rfPs (rfAt Try.prog 9 0)) (rfAs (rfAt Try.prog 9 0)) (rfBo (rfAt Try.prog 9 0)) x a z = bYfingerClosesty5 (x, a, z)
  | ((), ((), ((), ()))), (x0, ()), (x1, (x2, (x3, ()))) => by kernel_rfl
theorem runfingerClosest : ∀ x, run EfingerClosest 9 cfingerClosest x = bfingerClosest x
  | ((x0, (x1, (x2, ()))), ()) => by kernel_rfl
theorem XfingerClosesty5 : ExecOk EfingerClosest 9 none (rfAt Try.prog 9 0) :=
  exec_rf (P := Try.prog) (cs := [(27, cfingerFilter.fc), (15, cidentFar.fc), (14, cidentCompare.fc)]) (cs2 := [(26, cfingerClosest_1.fc)]) (inl := []) (inl2 := []) (f := 9) (ls := []) (rs := [(5, rffingerClosesty5)]) (nf := 0) (rf := rffingerClosesty5) (d := rfAt Try.prog 9 0) (ysh := (.cons (.d (.pair (.int .i64) (.pair .id .unit))) .unit)) (Y := YffingerClosesty5) (ls2 := fun x => [(1, .sum (lfingerClosesty5ix1 x))]) (bs2 := [loopAt Try.prog 39 0]) mixed (hcs_cons SfingerFilter (hcs_cons SidentFar (hcs_cons SidentCompare hcs_nil))) (hcs_cons SfingerClosest_1 hcs_nil) (by kernel_rfl) (by kernel_rfl) (by kernel_rfl) (fun a => by kernel_rfl) (fun x a z => bYfingerClosesty5 (x, a, z)) (fun x a z => (trS_get (oYfingerClosesty5 (x, a, z))).trans (oYfingerClosesty5_eq (x, a, z))) bdfingerClosesty5 (fun x => show List.Nodup ([1] : List Nat) by decide) (by kernel_rfl) (fun x => ⟨by kernel_rfl, lkOk_mk (rdfingerClosesty5ix1 x) (fun y => ((trO1_get trO0_get) _).trans (wfingerClosesty5ix1_eq (x, y))) rfl, trivial⟩) (fun x y z => oIfingerClosesty5 (x, y, z)) (fun x y z => trS_get (oIfingerClosesty5 (x, y, z))) (fun x y z => (itfingerClosesty5 x y z).trans (oIfingerClosesty5_eq (x, y, z)).symm)
theorem SfingerClosest : Spec Try.prog 9 cfingerClosest.fc :=
  spec_fnr (bs := []) (ds := [rfAt Try.prog 9 0]) (inl := []) (ls := []) mixed (hcs_cons SfingerFilter (hcs_cons SidentFar (hcs_cons SidentCompare hcs_nil))) (by kernel_rfl) (by kernel_rfl) (by decide) (by kernel_rfl) trivial (by kernel_rfl) (all_cons XfingerClosesty5 all_nil) ofingerClosest (fun x => trS_get (ofingerClosest x)) (fun x => (runfingerClosest x).trans (ofingerClosest_eq x).symm)
/- function 44: (.d .id) (.d (.int .i64)) -/
noncomputable def rref01Bitx3 (x : ((Int × (Int × (Int × Unit))) × Unit)) : Option (((Int × (Int × (Int × Unit))) × Unit) ⊕ (((Int × Unit) × Unit) ⊕ Empty)) := match x with
  | ((x0, (x1, (x2, ()))), ()) => bif bif ieq 8 0 then false else true then bif ilt x2 (iwrap IntKind.i64 (isub 7 (irem x0 8))) then bif bif ieq 2 0 then false else true then some (Sum.inl ((x0, iwrap IntKind.i64 (iquo x1 2), iwrap IntKind.i64 (iadd x2 1), ()), ())) else none else some (Sum.inr (Sum.inl ((x1, ()), ()))) else none
noncomputable def wref01Bitx3 : ((Int × (Int × (Int × Unit))) × Unit) → Option (((Int × Unit) × Unit) ⊕ Empty) := shut (whl rref01Bitx3)
noncomputable def lref01Bitx3 : Lp := { m := 23, up := [], ksE := [], ksA := [], keep := [1, 5, 6], sh := (.cons (.d (.int .i64)) (.cons (.d (.int .i64)) (.cons (.d (.int .i64)) .unit))), ms := [], outs := [{ e := .exit 0, keep := [5], ks := [], sh := (.cons (.d (.int .i64)) .unit), ms := [] }], sum := fun x => (trO1 trO0) (wref01Bitx3 x) }
noncomputable def bref01Bit (x : ((Am.Id × (Int × Unit)) × Unit)) : Option ((Int × Unit) × Unit) := match x with
  | ((x0, (x1, ())), ()) => bif bif ieq 8 0 then false else true then bif bif ile 0 (iwrap IntKind.i64 (iquo x1 8)) then ilt (iwrap IntKind.i64 (iquo x1 8)) 32 else false then bL (wref01Bitx3 ((x1, iwrap IntKind.i64 (u8i (idget x0 (inat (iwrap IntKind.i64 (iquo x1 8))))), 0, ()), ())) (fun v0 => bif bif ieq 2 0 then false else true then some ((irem v0.fst.fst 2, ()), ()) else none) fun u0 => none else none else none
noncomputable def oref01Bit : ((Am.Id × (Int × Unit)) × Unit) → Option ((Int × Unit) × Unit) := shut bref01Bit
theorem oref01Bit_eq (x) : oref01Bit x = bref01Bit x := by rw [oref01Bit, shut_eq]
theorem wref01Bitx3_eq (x) : wref01Bitx3 x = whl rref01Bitx3 x := by rw [wref01Bitx3, shut_eq]
noncomputable def cref01Bit : Ct := { ash := (.cons (.d .id) (.cons (.d (.int .i64)) .unit)), ms := [], foot := false, up := [], rsh := (.cons (.d (.int .i64)) .unit), ks := [], ms' := [], G := fun x => trS (oref01Bit x) }
noncomputable def Eref01Bit : Env := mkE Try.prog [] [] 44 [(3, .sum lref01Bitx3)] [] 0
theorem rdref01Bitx3 : ∀ x, round1 Eref01Bit 44 lref01Bitx3 (loopAt Try.prog 44 0) x = rref01Bitx3 x
  | ((x0, (x1, (x2, ()))), ()) => by kernel_rfl
theorem runref01Bit : ∀ x, run Eref01Bit 44 cref01Bit x = bref01Bit x
  | ((x0, (x1, ())), ()) => by kernel_rfl
theorem Sref01Bit : Spec Try.prog 44 cref01Bit.fc :=
  spec_fn (bs := [loopAt Try.prog 44 0]) (inl := []) (ls := [(3, .sum lref01Bitx3)]) mixed hcs_nil (by kernel_rfl) (by kernel_rfl) (by decide) (by kernel_rfl) ⟨by kernel_rfl, lkOk_mk rdref01Bitx3 (fun x => ((trO1_get trO0_get) _).trans (wref01Bitx3_eq x)) rfl, trivial⟩ oref01Bit (fun x => trS_get (oref01Bit x)) (fun x => (runref01Bit x).trans (oref01Bit_eq x).symm)
/- function 40: (.d .id) (.d .id) -/
noncomputable def rref01Comparex2 (x : ((Unit × (Unit × (Int × Unit))) × (Am.Id × (Am.Id × Unit)))) : Option (((Unit × (Unit × (Int × Unit))) × (Am.Id × (Am.Id × Unit))) ⊕ ((Unit × Unit) ⊕ (((Int × Unit) × Unit) ⊕ Empty))) := match x with
  | (((), ((), (x0, ()))), (x1, (x2, ()))) => bif ilt x0 256 then bS (oref01Bit ((x1, x0, ()), ())) fun v0 => bS (oref01Bit ((x2, x0, ()), ())) fun v1 => bif ilt v0.fst.fst v1.fst.fst then some (Sum.inr (Sum.inr (Sum.inl ((-1, ()), ())))) else bS (oref01Bit ((x1, x0, ()), ())) fun v2 => bS (oref01Bit ((x2, x0, ()), ())) fun v3 => bif ilt v1.fst.fst v0.fst.fst then some (Sum.inr (Sum.inr (Sum.inl ((1, ()), ())))) else some (Sum.inl (((), (), iwrap IntKind.i64 (iadd x0 1), ()), x1, x2, ())) else some (Sum.inr (Sum.inl ((), ())))
noncomputable def wref01Comparex2 : ((Unit × (Unit × (Int × Unit))) × (Am.Id × (Am.Id × Unit))) → Option ((Unit × Unit) ⊕ (((Int × Unit) × Unit) ⊕ Empty)) := shut (whl rref01Comparex2)
noncomputable def lref01Comparex2 : Lp := { m := 24, up := [], ksE := [0, 1], ksA := [0, 1], keep := [2, 3, 5], sh := (.cons (.loc 0 0) (.cons (.loc 1 0) (.cons (.d (.int .i64)) .unit))), ms := [.box (.d .id), .box (.d .id)], outs := [{ e := .exit 0, keep := [], ks := [], sh := .unit, ms := [] }, { e := .ret, keep := [4], ks := [], sh := (.cons (.d (.int .i64)) .unit), ms := [] }], sum := fun x => (trO1 (trO1 trO0)) (wref01Comparex2 x) }
noncomputable def bref01Compare (x : ((Am.Id × (Am.Id × Unit)) × Unit)) : Option ((Int × Unit) × Unit) := match x with
  | ((x0, (x1, ())), ()) => bL (wref01Comparex2 (((), (), 0, ()), x0, x1, ())) (fun v0 => some ((0, ()), ())) fun u0 => bL u0 (fun v1 => some v1) fun u1 => none
noncomputable def oref01Compare : ((Am.Id × (Am.Id × Unit)) × Unit) → Option ((Int × Unit) × Unit) := shut bref01Compare
theorem oref01Compare_eq (x) : oref01Compare x = bref01Compare x := by rw [oref01Compare, shut_eq]
theorem wref01Comparex2_eq (x) : wref01Comparex2 x = whl rref01Comparex2 x := by rw [wref01Comparex2, shut_eq]
noncomputable def cref01Compare : Ct := { ash := (.cons (.d .id) (.cons (.d .id) .unit)), ms := [], foot := false, up := [], rsh := (.cons (.d (.int .i64)) .unit), ks := [], ms' := [], G := fun x => trS (oref01Compare x) }
noncomputable def Eref01Compare : Env := mkE Try.prog [(44, cref01Bit.fc)] [] 40 [(2, .sum lref01Comparex2)] [] 0
theorem rdref01Comparex2 : ∀ x, round1 Eref01Compare 40 lref01Comparex2 (loopAt Try.prog 40 0) x = rref01Comparex2 x
  | (((), ((), (x0, ()))), (x1, (x2, ()))) => by kernel_rfl
theorem runref01Compare : ∀ x, run Eref01Compare 40 cref01Compare x = bref01Compare x
  | ((x0, (x1, ())), ()) => by kernel_rfl
theorem Sref01Compare : Spec Try.prog 40 cref01Compare.fc :=
  spec_fn (bs := [loopAt Try.prog 40 0]) (inl := []) (ls := [(2, .sum lref01Comparex2)]) mixed (hcs_cons Sref01Bit hcs_nil) (by kernel_rfl) (by kernel_rfl) (by decide) (by kernel_rfl) ⟨by kernel_rfl, lkOk_mk rdref01Comparex2 (fun x => ((trO1_get (trO1_get trO0_get)) _).trans (wref01Comparex2_eq x)) rfl, trivial⟩ oref01Compare (fun x => trS_get (oref01Compare x)) (fun x => (runref01Compare x).trans (oref01Compare_eq x).symm)
/- function 28: (.d .id) (.d .id) (.d .id) -/
noncomputable def bref01In (x : ((Am.Id × (Am.Id × (Am.Id × Unit))) × Unit)) : Option ((Bool × Unit) × Unit) := match x with
  | ((x0, (x1, (x2, ()))), ()) => bif ideq x1 x2 then some ((true, ()), ()) else bS (oref01Compare ((x1, x2, ()), ())) fun v0 => bif ilt v0.fst.fst 0 then bS (oref01Compare ((x1, x0, ()), ())) fun v1 => bif ilt v1.fst.fst 0 then bS (oref01Compare ((x0, x2, ()), ())) fun v2 => some ((ile v2.fst.fst 0, ()), ()) else some ((false, ()), ()) else bS (oref01Compare ((x1, x0, ()), ())) fun v1 => bif bif ilt v1.fst.fst 0 then false else true then bS (oref01Compare ((x0, x2, ()), ())) fun v2 => some ((ile v2.fst.fst 0, ()), ()) else some ((true, ()), ())
noncomputable def oref01In : ((Am.Id × (Am.Id × (Am.Id × Unit))) × Unit) → Option ((Bool × Unit) × Unit) := shut bref01In
theorem oref01In_eq (x) : oref01In x = bref01In x := by rw [oref01In, shut_eq]
noncomputable def cref01In : Ct := { ash := (.cons (.d .id) (.cons (.d .id) (.cons (.d .id) .unit))), ms := [], foot := false, up := [], rsh := (.cons (.d .bool) .unit), ks := [], ms' := [], G := fun x => trS (oref01In x) }
noncomputable def Eref01In : Env := mkE Try.prog [(40, cref01Compare.fc)] [] 28 [] [] 0
theorem runref01In : ∀ x, run Eref01In 28 cref01In x = bref01In x
  | ((x0, (x1, (x2, ()))), ()) => by kernel_rfl
theorem Sref01In : Spec Try.prog 28 cref01In.fc :=
  spec_fn (bs := []) (inl := []) (ls := []) mixed (hcs_cons Sref01Compare hcs_nil) (by kernel_rfl) (by kernel_rfl) (by decide) (by kernel_rfl) trivial oref01In (fun x => trS_get (oref01In x)) (fun x => (runref01In x).trans (oref01In_eq x).symm)
/- function 11: (.d .id) (.d .id) (.d .id) -/
noncomputable def bref08Between (x : ((Am.Id × (Am.Id × (Am.Id × Unit))) × Unit)) : Option ((Bool × Unit) × Unit) := match x with
  | ((x0, (x1, (x2, ()))), ()) => bif bif ideq x0 x1 then false else true then bif bif ideq x0 x2 then false else true then bS (oref01In ((x0, x1, x2, ()), ())) fun v0 => some v0 else some ((false, ()), ()) else some ((false, ()), ())
noncomputable def oref08Between : ((Am.Id × (Am.Id × (Am.Id × Unit))) × Unit) → Option ((Bool × Unit) × Unit) := shut bref08Between
theorem oref08Between_eq (x) : oref08Between x = bref08Between x := by rw [oref08Between, shut_eq]
noncomputable def cref08Between : Ct := { ash := (.cons (.d .id) (.cons (.d .id) (.cons (.d .id) .unit))), ms := [], foot := false, up := [], rsh := (.cons (.d .bool) .unit), ks := [], ms' := [], G := fun x => trS (oref08Between x) }
noncomputable def Eref08Between : Env := mkE Try.prog [(28, cref01In.fc)] [] 11 [] [] 0
theorem runref08Between : ∀ x, run Eref08Between 11 cref08Between x = bref08Between x
  | ((x0, (x1, (x2, ()))), ()) => by kernel_rfl
theorem Sref08Between : Spec Try.prog 11 cref08Between.fc :=
  spec_fn (bs := []) (inl := []) (ls := []) mixed (hcs_cons Sref01In hcs_nil) (by kernel_rfl) (by kernel_rfl) (by decide) (by kernel_rfl) trivial oref08Between (fun x => trS_get (oref08Between x)) (fun x => (runref08Between x).trans (oref08Between_eq x).symm)
/- function 10: (.d .id) (.d .id) (.d (.sl (.pair (.int .i64) (.pair .id .unit)))) -/
noncomputable def rref08Closestx4 (x : ((Unit × (Unit × (Unit × (Unit × (Bool × (List (Int × (Am.Id × Unit)) × (Int × (Int × Unit)))))))) × (Am.Id × (Am.Id × ((Int × (Am.Id × Unit)) × ((Int × (Am.Id × Unit)) × Unit)))))) : Option (((Unit × (Unit × (Unit × (Unit × (Bool × (List (Int × (Am.Id × Unit)) × (Int × (Int × Unit)))))))) × (Am.Id × (Am.Id × ((Int × (Am.Id × Unit)) × ((Int × (Am.Id × Unit)) × Unit))))) ⊕ (((Unit × (Unit × Unit)) × ((Int × (Am.Id × Unit)) × ((Int × (Am.Id × Unit)) × Unit))) ⊕ Empty)) := match x with
  | (((), ((), ((), ((), (x0, (x1, (x2, (x3, ())))))))), (x4, (x5, (x6, (x7, ()))))) => bif ilt x3 x2 then bif bif ile 0 x3 then ilt x3 (dlen x1) else false then bS (oref08Between (((dget ((Ty.int IntKind.i64).pair (Ty.id.pair Ty.unit)) x1 x3).snd.fst, x5, x4, ()), ())) fun v0 => bif v0.fst.fst then bif bif bif x0 then false else true then false else true then bS (oref08Between ((x7.snd.fst, x5, (dget ((Ty.int IntKind.i64).pair (Ty.id.pair Ty.unit)) x1 x3).snd), ())) fun v1 => bif v1.fst.fst then some (Sum.inl (((), (), (), (), true, x1, x2, iwrap IntKind.i64 (iadd x3 1), ()), x4, x5, x6, dget ((Ty.int IntKind.i64).pair (Ty.id.pair Ty.unit)) x1 x3, ())) else some (Sum.inl (((), (), (), (), x0, x1, x2, iwrap IntKind.i64 (iadd x3 1), ()), x4, x5, x6, x7, ())) else some (Sum.inl (((), (), (), (), true, x1, x2, iwrap IntKind.i64 (iadd x3 1), ()), x4, x5, x6, dget ((Ty.int IntKind.i64).pair (Ty.id.pair Ty.unit)) x1 x3, ())) else some (Sum.inl (((), (), (), (), x0, x1, x2, iwrap IntKind.i64 (iadd x3 1), ()), x4, x5, x6, x7, ())) else none else some (Sum.inr (Sum.inl (((), (), ()), x6, x7, ())))
noncomputable def wref08Closestx4 : ((Unit × (Unit × (Unit × (Unit × (Bool × (List (Int × (Am.Id × Unit)) × (Int × (Int × Unit)))))))) × (Am.Id × (Am.Id × ((Int × (Am.Id × Unit)) × ((Int × (Am.Id × Unit)) × Unit))))) → Option (((Unit × (Unit × Unit)) × ((Int × (Am.Id × Unit)) × ((Int × (Am.Id × Unit)) × Unit))) ⊕ Empty) := shut (whl rref08Closestx4)
noncomputable def lref08Closestx4 : Lp := { m := 38, up := [], ksE := [0, 1, 2, 3], ksA := [0, 1, 2, 3], keep := [3, 4, 6, 7, 8, 12, 13, 14], sh := (.cons (.loc 0 0) (.cons (.loc 1 0) (.cons (.loc 2 0) (.cons (.loc 3 0) (.cons (.d .bool) (.cons (.d (.sl (.pair (.int .i64) (.pair .id .unit)))) (.cons (.d (.int .i64)) (.cons (.d (.int .i64)) .unit)))))))), ms := [.box (.d .id), .box (.d .id), .box (.d (.pair (.int .i64) (.pair .id .unit))), .box (.d (.pair (.int .i64) (.pair .id .unit)))], outs := [{ e := .exit 0, keep := [6, 7], ks := [2, 3], sh := (.cons (.loc 0 0) (.cons (.loc 1 0) .unit)), ms := [.box (.d (.pair (.int .i64) (.pair .id .unit))), .box (.d (.pair (.int .i64) (.pair .id .unit)))] }], sum := fun x => (trO1 trO0) (wref08Closestx4 x) }
noncomputable def bref08Closest (x : ((Am.Id × (Am.Id × (List (Int × (Am.Id × Unit)) × Unit))) × Unit)) : Option (((Int × (Am.Id × Unit)) × Unit) × Unit) := match x with
  | ((x0, (x1, (x2, ()))), ()) => bL (wref08Closestx4 (((), (), (), (), false, x2, dlen x2, 0, ()), x0, x1, (0, Id.zero, ()), (-1, Id.zero, ()), ())) (fun v0 => some (v0.snd.snd, ())) fun u0 => none
noncomputable def oref08Closest : ((Am.Id × (Am.Id × (List (Int × (Am.Id × Unit)) × Unit))) × Unit) → Option (((Int × (Am.Id × Unit)) × Unit) × Unit) := shut bref08Closest
theorem oref08Closest_eq (x) : oref08Closest x = bref08Closest x := by rw [oref08Closest, shut_eq]
theorem wref08Closestx4_eq (x) : wref08Closestx4 x = whl rref08Closestx4 x := by rw [wref08Closestx4, shut_eq]
noncomputable def cref08Closest : Ct := { ash := (.cons (.d .id) (.cons (.d .id) (.cons (.d (.sl (.pair (.int .i64) (.pair .id .unit)))) .unit))), ms := [], foot := false, up := [], rsh := (.cons (.d (.pair (.int .i64) (.pair .id .unit))) .unit), ks := [], ms' := [], G := fun x => trS (oref08Closest x) }
noncomputable def Eref08Closest : Env := mkE Try.prog [(11, cref08Between.fc)] [] 10 [(4, .sum lref08Closestx4)] [] 0
theorem rdref08Closestx4 : ∀ x, round1 Eref08Closest 10 lref08Closestx4 (loopAt Try.prog 10 0) x = rref08Closestx4 x
  | (((), ((), ((), ((), (x0, (x1, (x2, (x3, ())))))))), (x4, (x5, (x6, (x7, ()))))) => by kernel_rfl
theorem runref08Closest : ∀ x, run Eref08Closest 10 cref08Closest x = bref08Closest x
  | ((x0, (x1, (x2, ()))), ()) => by kernel_rfl
theorem Sref08Closest : Spec Try.prog 10 cref08Closest.fc :=
  spec_fn (bs := [loopAt Try.prog 10 0]) (inl := []) (ls := [(4, .sum lref08Closestx4)]) mixed (hcs_cons Sref08Between hcs_nil) (by kernel_rfl) (by kernel_rfl) (by decide) (by kernel_rfl) ⟨by kernel_rfl, lkOk_mk rdref08Closestx4 (fun x => ((trO1_get trO0_get) _).trans (wref08Closestx4_eq x)) rfl, trivial⟩ oref08Closest (fun x => trS_get (oref08Closest x)) (fun x => (runref08Closest x).trans (oref08Closest_eq x).symm)
/- function 12:  -/
noncomputable def blaw08Alive (x : (Unit × Unit)) : Option ((Bool × Unit) × Unit) := match x with
  | ((), ()) => bS (ofingerClosest ((idset Id.zero 31 (iu8 12), idset Id.zero 31 (iu8 3), [(1, idset Id.zero 31 (iu8 5), ()), (2, idset Id.zero 31 (iu8 9), ()), (3, idset Id.zero 31 (iu8 12), ())], ()), ())) fun v0 => bif ieq v0.fst.snd.fst 0 then some ((ieq v0.fst.fst.fst 2, ()), ()) else some ((false, ()), ())
noncomputable def olaw08Alive : (Unit × Unit) → Option ((Bool × Unit) × Unit) := shut blaw08Alive
theorem olaw08Alive_eq (x) : olaw08Alive x = blaw08Alive x := by rw [olaw08Alive, shut_eq]
noncomputable def claw08Alive : Ct := { ash := .unit, ms := [], foot := false, up := [], rsh := (.cons (.d .bool) .unit), ks := [], ms' := [], G := fun x => trS (olaw08Alive x) }
noncomputable def Elaw08Alive : Env := mkE Try.prog [(9, cfingerClosest.fc)] [] 12 [] [] 0
theorem runlaw08Alive : ∀ x, run Elaw08Alive 12 claw08Alive x = blaw08Alive x
  | ((), ()) => by kernel_rfl
theorem Slaw08Alive : Spec Try.prog 12 claw08Alive.fc :=
  spec_fn (bs := []) (inl := []) (ls := []) mixed (hcs_cons SfingerClosest hcs_nil) (by kernel_rfl) (by kernel_rfl) (by decide) (by kernel_rfl) trivial olaw08Alive (fun x => trS_get (olaw08Alive x)) (fun x => (runlaw08Alive x).trans (olaw08Alive_eq x).symm)
/- function 3: (.d .id) (.d .id) (.d (.sl (.pair (.int .i64) (.pair .id .unit)))) -/
noncomputable def rlaw08FingerChoosesx5 (x : ((Unit × (Unit × (Unit × (Int × (Unit × (List (Int × (Am.Id × Unit)) × (Int × (Int × Unit)))))))) × (Am.Id × (Am.Id × ((Int × (Am.Id × Unit)) × ((Int × (Am.Id × Unit)) × Unit)))))) : Option (((Unit × (Unit × (Unit × (Int × (Unit × (List (Int × (Am.Id × Unit)) × (Int × (Int × Unit)))))))) × (Am.Id × (Am.Id × ((Int × (Am.Id × Unit)) × ((Int × (Am.Id × Unit)) × Unit))))) ⊕ (((Unit × (Int × Unit)) × ((Int × (Am.Id × Unit)) × Unit)) ⊕ (((Bool × Unit) × Unit) ⊕ Empty))) := match x with
  | (((), ((), ((), (x0, ((), (x1, (x2, (x3, ())))))))), (x4, (x5, (x6, (x7, ()))))) => bif ilt x3 x2 then bif bif ile 0 x3 then ilt x3 (dlen x1) else false then bS (oref08Between (((dget ((Ty.int IntKind.i64).pair (Ty.id.pair Ty.unit)) x1 x3).snd.fst, x5, x4, ()), ())) fun v0 => bif v0.fst.fst then bS (olaw08Alive ((), ())) fun v1 => bif v1.fst.fst then bif ieq x0 0 then some (Sum.inr (Sum.inr (Sum.inl ((bif ieq x6.fst x7.fst then bif ideq x6.snd.fst x7.snd.fst then true else false else false, ()), ())))) else some (Sum.inr (Sum.inr (Sum.inl ((false, ()), ())))) else some (Sum.inr (Sum.inr (Sum.inl ((false, ()), ())))) else some (Sum.inl (((), (), (), x0, (), x1, x2, iwrap IntKind.i64 (iadd x3 1), ()), x4, x5, x6, x7, ())) else none else some (Sum.inr (Sum.inl (((), x0, ()), x6, ())))
noncomputable def wlaw08FingerChoosesx5 : ((Unit × (Unit × (Unit × (Int × (Unit × (List (Int × (Am.Id × Unit)) × (Int × (Int × Unit)))))))) × (Am.Id × (Am.Id × ((Int × (Am.Id × Unit)) × ((Int × (Am.Id × Unit)) × Unit))))) → Option (((Unit × (Int × Unit)) × ((Int × (Am.Id × Unit)) × Unit)) ⊕ (((Bool × Unit) × Unit) ⊕ Empty)) := shut (whl rlaw08FingerChoosesx5)
noncomputable def llaw08FingerChoosesx5 : Lp := { m := 57, up := [], ksE := [0, 1, 2, 3], ksA := [0, 1, 2, 3], keep := [3, 4, 7, 8, 9, 25, 26, 27], sh := (.cons (.loc 0 0) (.cons (.loc 1 0) (.cons (.loc 2 0) (.cons (.d (.int .i64)) (.cons (.loc 3 0) (.cons (.d (.sl (.pair (.int .i64) (.pair .id .unit)))) (.cons (.d (.int .i64)) (.cons (.d (.int .i64)) .unit)))))))), ms := [.box (.d .id), .box (.d .id), .box (.d (.pair (.int .i64) (.pair .id .unit))), .box (.d (.pair (.int .i64) (.pair .id .unit)))], outs := [{ e := .exit 0, keep := [7, 8], ks := [2], sh := (.cons (.loc 0 0) (.cons (.d (.int .i64)) .unit)), ms := [.box (.d (.pair (.int .i64) (.pair .id .unit)))] }, { e := .ret, keep := [6], ks := [], sh := (.cons (.d .bool) .unit), ms := [] }], sum := fun x => (trO1 (trO1 trO0)) (wlaw08FingerChoosesx5 x) }
noncomputable def blaw08FingerChooses (x : ((Am.Id × (Am.Id × (List (Int × (Am.Id × Unit)) × Unit))) × Unit)) : Option ((Bool × Unit) × Unit) := match x with
  | ((x0, (x1, (x2, ()))), ()) => bS (olaw08Few ((x2, ()), ())) fun v0 => bS (ofingerClosest ((x0, x1, v0.fst), ())) fun v1 => bS (oref08Closest ((x0, x1, v0.fst), ())) fun v2 => bL (wlaw08FingerChoosesx5 (((), (), (), v1.fst.snd.fst, (), v0.fst.fst, dlen v0.fst.fst, 0, ()), x0, x1, v1.fst.fst, v2.fst)) (fun v3 => bS (olaw08Alive ((), ())) fun v4 => bif v4.fst.fst then bif ieq v3.fst.snd.fst 6 then some ((bif ieq v3.snd.fst.fst 0 then bif ideq v3.snd.fst.snd.fst Id.zero then true else false else false, ()), ()) else some ((false, ()), ()) else some ((false, ()), ())) fun u3 => bL u3 (fun v4 => some v4) fun u4 => none
noncomputable def olaw08FingerChooses : ((Am.Id × (Am.Id × (List (Int × (Am.Id × Unit)) × Unit))) × Unit) → Option ((Bool × Unit) × Unit) := shut blaw08FingerChooses
theorem olaw08FingerChooses_eq (x) : olaw08FingerChooses x = blaw08FingerChooses x := by rw [olaw08FingerChooses, shut_eq]
theorem wlaw08FingerChoosesx5_eq (x) : wlaw08FingerChoosesx5 x = whl rlaw08FingerChoosesx5 x := by rw [wlaw08FingerChoosesx5, shut_eq]
noncomputable def claw08FingerChooses : Ct := { ash := (.cons (.d .id) (.cons (.d .id) (.cons (.d (.sl (.pair (.int .i64) (.pair .id .unit)))) .unit))), ms := [], foot := false, up := [], rsh := (.cons (.d .bool) .unit), ks := [], ms' := [], G := fun x => trS (olaw08FingerChooses x) }
noncomputable def Elaw08FingerChooses : Env := mkE Try.prog [(8, claw08Few.fc), (9, cfingerClosest.fc), (10, cref08Closest.fc), (11, cref08Between.fc), (12, claw08Alive.fc)] [] 3 [(5, .sum llaw08FingerChoosesx5)] [] 0
theorem rdlaw08FingerChoosesx5 : ∀ x, round1 Elaw08FingerChooses 3 llaw08FingerChoosesx5 (loopAt Try.prog 3 0) x = rlaw08FingerChoosesx5 x
  | (((), ((), ((), (x0, ((), (x1, (x2, (x3, ())))))))), (x4, (x5, (x6, (x7, ()))))) => by kernel_rfl
theorem runlaw08FingerChooses : ∀ x, run Elaw08FingerChooses 3 claw08FingerChooses x = blaw08FingerChooses x
  | ((x0, (x1, (x2, ()))), ()) => by kernel_rfl
theorem Slaw08FingerChooses : Spec Try.prog 3 claw08FingerChooses.fc :=
  spec_fn (bs := [loopAt Try.prog 3 0]) (inl := []) (ls := [(5, .sum llaw08FingerChoosesx5)]) mixed (hcs_cons Slaw08Few (hcs_cons SfingerClosest (hcs_cons Sref08Closest (hcs_cons Sref08Between (hcs_cons Slaw08Alive hcs_nil))))) (by kernel_rfl) (by kernel_rfl) (by decide) (by kernel_rfl) ⟨by kernel_rfl, lkOk_mk rdlaw08FingerChoosesx5 (fun x => ((trO1_get (trO1_get trO0_get)) _).trans (wlaw08FingerChoosesx5_eq x)) rfl, trivial⟩ olaw08FingerChooses (fun x => trS_get (olaw08FingerChooses x)) (fun x => (runlaw08FingerChooses x).trans (olaw08FingerChooses_eq x).symm)
/- function 4: (.d .id) (.d .id) (.d (.sl (.pair (.int .i64) (.pair .id .unit)))) -/
noncomputable def rlaw08FingerNearsx5 (x : ((Unit × (Unit × (List (Int × (Am.Id × Unit)) × (Int × (Int × Unit))))) × (Am.Id × (Am.Id × Unit)))) : Option (((Unit × (Unit × (List (Int × (Am.Id × Unit)) × (Int × (Int × Unit))))) × (Am.Id × (Am.Id × Unit))) ⊕ ((Unit × Unit) ⊕ (((Bool × Unit) × Unit) ⊕ Empty))) := match x with
  | (((), ((), (x0, (x1, (x2, ()))))), (x3, (x4, ()))) => bif ilt x2 x1 then bif bif ile 0 x2 then ilt x2 (dlen x0) else false then bif bif ideq (dget ((Ty.int IntKind.i64).pair (Ty.id.pair Ty.unit)) x0 x2).snd.fst x4 then false else true then bif bif ideq (dget ((Ty.int IntKind.i64).pair (Ty.id.pair Ty.unit)) x0 x2).snd.fst x3 then false else true then bS (oidentIn (((dget ((Ty.int IntKind.i64).pair (Ty.id.pair Ty.unit)) x0 x2).snd.fst, x4, x3, ()), ())) fun v0 => bif v0.fst.fst then some (Sum.inr (Sum.inr (Sum.inl ((false, ()), ())))) else some (Sum.inl (((), (), x0, x1, iwrap IntKind.i64 (iadd x2 1), ()), x3, x4, ())) else some (Sum.inl (((), (), x0, x1, iwrap IntKind.i64 (iadd x2 1), ()), x3, x4, ())) else some (Sum.inl (((), (), x0, x1, iwrap IntKind.i64 (iadd x2 1), ()), x3, x4, ())) else none else some (Sum.inr (Sum.inl ((), ())))
noncomputable def wlaw08FingerNearsx5 : ((Unit × (Unit × (List (Int × (Am.Id × Unit)) × (Int × (Int × Unit))))) × (Am.Id × (Am.Id × Unit))) → Option ((Unit × Unit) ⊕ (((Bool × Unit) × Unit) ⊕ Empty)) := shut (whl rlaw08FingerNearsx5)
noncomputable def llaw08FingerNearsx5 : Lp := { m := 104, up := [], ksE := [0, 1], ksA := [0, 1], keep := [3, 4, 24, 25, 26], sh := (.cons (.loc 0 0) (.cons (.loc 1 0) (.cons (.d (.sl (.pair (.int .i64) (.pair .id .unit)))) (.cons (.d (.int .i64)) (.cons (.d (.int .i64)) .unit))))), ms := [.box (.d .id), .box (.d .id)], outs := [{ e := .exit 0, keep := [], ks := [], sh := .unit, ms := [] }, { e := .ret, keep := [6], ks := [], sh := (.cons (.d .bool) .unit), ms := [] }], sum := fun x => (trO1 (trO1 trO0)) (wlaw08FingerNearsx5 x) }
noncomputable def rlaw08FingerNearsx14 (x : ((Unit × (Unit × (Unit × (List (Int × (Am.Id × Unit)) × (Int × (Int × Unit)))))) × (Am.Id × (Am.Id × ((Int × (Am.Id × Unit)) × Unit))))) : Option (((Unit × (Unit × (Unit × (List (Int × (Am.Id × Unit)) × (Int × (Int × Unit)))))) × (Am.Id × (Am.Id × ((Int × (Am.Id × Unit)) × Unit)))) ⊕ (((Bool × Unit) × Unit) ⊕ (((Unit × (Unit × (Unit × Unit))) × (Am.Id × (Am.Id × ((Int × (Am.Id × Unit)) × Unit)))) ⊕ Empty))) := match x with
  | (((), ((), ((), (x0, (x1, (x2, ())))))), (x3, (x4, (x5, ())))) => bif ilt x2 x1 then bif bif ile 0 x2 then ilt x2 (dlen x0) else false then bif bif ideq (dget ((Ty.int IntKind.i64).pair (Ty.id.pair Ty.unit)) x0 x2).snd.fst x5.snd.fst then false else true then bif bif ideq (dget ((Ty.int IntKind.i64).pair (Ty.id.pair Ty.unit)) x0 x2).snd.fst x3 then false else true then bif bif ideq (dget ((Ty.int IntKind.i64).pair (Ty.id.pair Ty.unit)) x0 x2).snd.fst x4 then false else true then bS (oidentIn (((dget ((Ty.int IntKind.i64).pair (Ty.id.pair Ty.unit)) x0 x2).snd.fst, x5.snd.fst, x3, ()), ())) fun v0 => bif v0.fst.fst then some (Sum.inr (Sum.inl ((false, ()), ()))) else some (Sum.inl (((), (), (), x0, x1, iwrap IntKind.i64 (iadd x2 1), ()), x3, x4, x5, ())) else some (Sum.inl (((), (), (), x0, x1, iwrap IntKind.i64 (iadd x2 1), ()), x3, x4, x5, ())) else some (Sum.inl (((), (), (), x0, x1, iwrap IntKind.i64 (iadd x2 1), ()), x3, x4, x5, ())) else some (Sum.inl (((), (), (), x0, x1, iwrap IntKind.i64 (iadd x2 1), ()), x3, x4, x5, ())) else none else some (Sum.inr (Sum.inr (Sum.inl (((), (), (), ()), x3, x4, x5, ()))))
noncomputable def wlaw08FingerNearsx14 : ((Unit × (Unit × (Unit × (List (Int × (Am.Id × Unit)) × (Int × (Int × Unit)))))) × (Am.Id × (Am.Id × ((Int × (Am.Id × Unit)) × Unit)))) → Option (((Bool × Unit) × Unit) ⊕ (((Unit × (Unit × (Unit × Unit))) × (Am.Id × (Am.Id × ((Int × (Am.Id × Unit)) × Unit)))) ⊕ Empty)) := shut (whl rlaw08FingerNearsx14)
noncomputable def llaw08FingerNearsx14 : Lp := { m := 104, up := [], ksE := [0, 1, 2], ksA := [0, 1, 2], keep := [3, 4, 7, 67, 68, 69], sh := (.cons (.loc 0 0) (.cons (.loc 1 0) (.cons (.loc 2 0) (.cons (.d (.sl (.pair (.int .i64) (.pair .id .unit)))) (.cons (.d (.int .i64)) (.cons (.d (.int .i64)) .unit)))))), ms := [.box (.d .id), .box (.d .id), .box (.d (.pair (.int .i64) (.pair .id .unit)))], outs := [{ e := .ret, keep := [6], ks := [], sh := (.cons (.d .bool) .unit), ms := [] }, { e := .exit 2, keep := [3, 4, 7], ks := [0, 1, 2], sh := (.cons (.loc 0 0) (.cons (.loc 1 0) (.cons (.loc 2 0) .unit))), ms := [.box (.d .id), .box (.d .id), .box (.d (.pair (.int .i64) (.pair .id .unit)))] }], sum := fun x => (trO1 (trO1 trO0)) (wlaw08FingerNearsx14 x) }
noncomputable def blaw08FingerNears (x : ((Am.Id × (Am.Id × (List (Int × (Am.Id × Unit)) × Unit))) × Unit)) : Option ((Bool × Unit) × Unit) := match x with
  | ((x0, (x1, (x2, ()))), ()) => bS (olaw08Few ((x2, ()), ())) fun v0 => bS (ofingerClosest ((x0, x1, v0.fst), ())) fun v1 => bif bif ieq v1.fst.snd.fst 0 then false else true then bL (wlaw08FingerNearsx5 (((), (), v0.fst.fst, dlen v0.fst.fst, 0, ()), x0, x1, ())) (fun v2 => bS (olaw08Alive ((), ())) fun v3 => some v3) fun u2 => bL u2 (fun v3 => some v3) fun u3 => none else bif bif ideq x0 x1 then false else true then bS (oidentFar ((v1.fst.fst.snd.fst, x0, ()), ())) fun v2 => bS (oidentFar ((x1, x0, ()), ())) fun v3 => bS (oidentCompare ((v2.fst.fst, v3.fst), ())) fun v4 => bif bif ile 0 v4.fst.fst then false else true then bS (olaw08Alive ((), ())) fun v5 => bif bif v5.fst.fst then false else true then some ((false, ()), ()) else bL (wlaw08FingerNearsx14 (((), (), (), v0.fst.fst, dlen v0.fst.fst, 0, ()), x0, x1, v1.fst.fst, ())) (fun v6 => some v6) fun u6 => bL u6 (fun v7 => bS (oidentIn ((v7.snd.snd.snd.fst.snd.fst, v7.snd.snd.fst, v7.snd.fst, ()), ())) fun v8 => some v8) fun u7 => none else some ((false, ()), ()) else bS (olaw08Alive ((), ())) fun v2 => bif bif v2.fst.fst then false else true then some ((false, ()), ()) else bL (wlaw08FingerNearsx14 (((), (), (), v0.fst.fst, dlen v0.fst.fst, 0, ()), x0, x1, v1.fst.fst, ())) (fun v3 => some v3) fun u3 => bL u3 (fun v4 => bS (oidentIn ((v4.snd.snd.snd.fst.snd.fst, v4.snd.snd.fst, v4.snd.fst, ()), ())) fun v5 => some v5) fun u4 => none
noncomputable def olaw08FingerNears : ((Am.Id × (Am.Id × (List (Int × (Am.Id × Unit)) × Unit))) × Unit) → Option ((Bool × Unit) × Unit) := shut blaw08FingerNears
theorem olaw08FingerNears_eq (x) : olaw08FingerNears x = blaw08FingerNears x := by rw [olaw08FingerNears, shut_eq]
theorem wlaw08FingerNearsx5_eq (x) : wlaw08FingerNearsx5 x = whl rlaw08FingerNearsx5 x := by rw [wlaw08FingerNearsx5, shut_eq]
theorem wlaw08FingerNearsx14_eq (x) : wlaw08FingerNearsx14 x = whl rlaw08FingerNearsx14 x := by rw [wlaw08FingerNearsx14, shut_eq]
noncomputable def claw08FingerNears : Ct := { ash := (.cons (.d .id) (.cons (.d .id) (.cons (.d (.sl (.pair (.int .i64) (.pair .id .unit)))) .unit))), ms := [], foot := false, up := [], rsh := (.cons (.d .bool) .unit), ks := [], ms' := [], G := fun x => trS (olaw08FingerNears x) }
noncomputable def Elaw08FingerNears : Env := mkE Try.prog [(8, claw08Few.fc), (9, cfingerClosest.fc), (15, cidentFar.fc), (12, claw08Alive.fc), (14, cidentCompare.fc), (13, cidentIn.fc)] [] 4 [(5, .sum llaw08FingerNearsx5), (14, .sum llaw08FingerNearsx14)] [] 0
theorem rdlaw08FingerNearsx5 : ∀ x, round1 Elaw08FingerNears 4 llaw08FingerNearsx5 (loopAt Try.prog 4 0) x = rlaw08FingerNearsx5 x
  | (((), ((), (x0, (x1, (x2, ()))))), (x3, (x4, ()))) => by kernel_rfl
theorem rdlaw08FingerNearsx14 : ∀ x, round1 Elaw08FingerNears 4 llaw08FingerNearsx14 (loopAt Try.prog 4 1) x = rlaw08FingerNearsx14 x
  | (((), ((), ((), (x0, (x1, (x2, ())))))), (x3, (x4, (x5, ())))) => by kernel_rfl
theorem runlaw08FingerNears : ∀ x, run Elaw08FingerNears 4 claw08FingerNears x = blaw08FingerNears x
  | ((x0, (x1, (x2, ()))), ()) => by kernel_rfl
theorem Slaw08FingerNears : Spec Try.prog 4 claw08FingerNears.fc :=
  spec_fn (bs := [loopAt Try.prog 4 0, loopAt Try.prog 4 1]) (inl := []) (ls := [(5, .sum llaw08FingerNearsx5), (14, .sum llaw08FingerNearsx14)]) mixed (hcs_cons Slaw08Few (hcs_cons SfingerClosest (hcs_cons SidentFar (hcs_cons Slaw08Alive (hcs_cons SidentCompare (hcs_cons SidentIn hcs_nil)))))) (by kernel_rfl) (by kernel_rfl) (by decide) (by kernel_rfl) ⟨by kernel_rfl, lkOk_mk rdlaw08FingerNearsx5 (fun x => ((trO1_get (trO1_get trO0_get)) _).trans (wlaw08FingerNearsx5_eq x)) rfl, ⟨by kernel_rfl, lkOk_mk rdlaw08FingerNearsx14 (fun x => ((trO1_get (trO1_get trO0_get)) _).trans (wlaw08FingerNearsx14_eq x)) rfl, trivial⟩⟩ olaw08FingerNears (fun x => trS_get (olaw08FingerNears x)) (fun x => (runlaw08FingerNears x).trans (olaw08FingerNears_eq x).symm)
/- function 24: (.d .id) (.d (.int .i64)) -/
noncomputable def ridentStepx5 (x : ((Unit × (Unit × (Int × (Int × Unit)))) × (Am.Id × (Am.Id × Unit)))) : Option (((Unit × (Unit × (Int × (Int × Unit)))) × (Am.Id × (Am.Id × Unit))) ⊕ (((Unit × (Unit × Unit)) × (Am.Id × (Am.Id × Unit))) ⊕ Empty)) := match x with
  | (((), ((), (x0, (x1, ())))), (x2, (x3, ()))) => bif ile 0 x1 then bif ilt 0 x0 then bif bif ile 0 x1 then ilt x1 32 else false then bif bif ile 0 x1 then ilt x1 32 else false then bif ile 0 8 then some (Sum.inl (((), (), ishr (iwrap IntKind.i64 (iadd (iwrap IntKind.i64 (u8i (idget x2 (inat x1)))) x0)) (ibits 8 IntKind.i64), iwrap IntKind.i64 (isub x1 1), ()), idset x2 (inat x1) (iu8 (iwrap IntKind.u8 (iwrap IntKind.i64 (iadd (iwrap IntKind.i64 (u8i (idget x2 (inat x1)))) x0)))), x3, ())) else none else none else none else some (Sum.inr (Sum.inl (((), (), ()), x2, x3, ()))) else some (Sum.inr (Sum.inl (((), (), ()), x2, x3, ())))
noncomputable def widentStepx5 : ((Unit × (Unit × (Int × (Int × Unit)))) × (Am.Id × (Am.Id × Unit))) → Option (((Unit × (Unit × Unit)) × (Am.Id × (Am.Id × Unit))) ⊕ Empty) := shut (whl ridentStepx5)
noncomputable def lidentStepx5 : Lp := { m := 43, up := [], ksE := [0, 1], ksA := [0, 1], keep := [2, 4, 6, 7], sh := (.cons (.loc 0 0) (.cons (.loc 1 0) (.cons (.d (.int .i64)) (.cons (.d (.int .i64)) .unit)))), ms := [.box (.d .id), .box (.d .id)], outs := [{ e := .exit 0, keep := [2, 4], ks := [0, 1], sh := (.cons (.loc 0 0) (.cons (.loc 1 0) .unit)), ms := [.box (.d .id), .box (.d .id)] }], sum := fun x => (trO1 trO0) (widentStepx5 x) }
noncomputable def bidentStep (x : ((Am.Id × (Int × Unit)) × Unit)) : Option ((Am.Id × (Int × Unit)) × Unit) := match x with
  | ((x0, (x1, ())), ()) => bif bif ilt x1 0 then false else true then bif ile 256 x1 then some ((Id.zero, 1, ()), ()) else bif bif ieq 8 0 then false else true then bif ile 0 (irem x1 8) then bif bif ieq 8 0 then false else true then bL (widentStepx5 (((), (), iwrap IntKind.i64 (ishl 1 (ibits (irem x1 8) IntKind.i64)), iwrap IntKind.i64 (isub 31 (iwrap IntKind.i64 (iquo x1 8))), ()), x0, Id.zero, ())) (fun v0 => some ((v0.snd.fst, 0, ()), ())) fun u0 => none else none else none else none else some ((Id.zero, 1, ()), ())
noncomputable def oidentStep : ((Am.Id × (Int × Unit)) × Unit) → Option ((Am.Id × (Int × Unit)) × Unit) := shut bidentStep
theorem oidentStep_eq (x) : oidentStep x = bidentStep x := by rw [oidentStep, shut_eq]
theorem widentStepx5_eq (x) : widentStepx5 x = whl ridentStepx5 x := by rw [widentStepx5, shut_eq]
noncomputable def cidentStep : Ct := { ash := (.cons (.d .id) (.cons (.d (.int .i64)) .unit)), ms := [], foot := false, up := [], rsh := (.cons (.d .id) (.cons (.d (.int .i64)) .unit)), ks := [], ms' := [], G := fun x => trS (oidentStep x) }
noncomputable def EidentStep : Env := mkE Try.prog [] [] 24 [(5, .sum lidentStepx5)] [] 0
theorem rdidentStepx5 : ∀ x, round1 EidentStep 24 lidentStepx5 (loopAt Try.prog 24 0) x = ridentStepx5 x
  | (((), ((), (x0, (x1, ())))), (x2, (x3, ()))) => by kernel_rfl
theorem runidentStep : ∀ x, run EidentStep 24 cidentStep x = bidentStep x
  | ((x0, (x1, ())), ()) => by kernel_rfl
theorem SidentStep : Spec Try.prog 24 cidentStep.fc :=
  spec_fn (bs := [loopAt Try.prog 24 0]) (inl := []) (ls := [(5, .sum lidentStepx5)]) mixed hcs_nil (by kernel_rfl) (by kernel_rfl) (by decide) (by kernel_rfl) ⟨by kernel_rfl, lkOk_mk rdidentStepx5 (fun x => ((trO1_get trO0_get) _).trans (widentStepx5_eq x)) rfl, trivial⟩ oidentStep (fun x => trS_get (oidentStep x)) (fun x => (runidentStep x).trans (oidentStep_eq x).symm)
end Am
end Go.Proofs.Ytkpojikfadeeeaa
