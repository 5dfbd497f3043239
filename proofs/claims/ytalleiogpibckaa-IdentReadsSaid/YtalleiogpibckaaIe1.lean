/-
  Printed contracts, part 1.
-/
import Derived.Test.YtalleiogpibckaaProg
import Derived.Test.YtalleiogpibckaaBm24
import Derived.Test.YtalleiogpibckaaTy
namespace Go.Proofs.Ytalleiogpibckaa
namespace Am
open Go Go.RowKit
set_option maxRecDepth 100000
set_option linter.unusedVariables false
theorem mixed : Try.prog.follows .mixedOrders = true := rfl
/- function 10: (.d .id) (.d (.int .i64)) -/
noncomputable def ridentStepx5 (x : ((Unit × (Unit × (Int × (Int × Unit)))) × (Am.Id × (Am.Id × Unit)))) : Option (((Unit × (Unit × (Int × (Int × Unit)))) × (Am.Id × (Am.Id × Unit))) ⊕ (((Unit × (Unit × Unit)) × (Am.Id × (Am.Id × Unit))) ⊕ Empty)) := match x with
  | (((), ((), (x0, (x1, ())))), (x2, (x3, ()))) => bif ile 0 x1 then bif ilt 0 x0 then bif bif ile 0 x1 then ilt x1 32 else false then bif bif ile 0 x1 then ilt x1 32 else false then bif ile 0 8 then some (Sum.inl (((), (), ishr (iwrap IntKind.i64 (iadd (iwrap IntKind.i64 (u8i (idget x2 (inat x1)))) x0)) (ibits 8 IntKind.i64), iwrap IntKind.i64 (isub x1 1), ()), idset x2 (inat x1) (iu8 (iwrap IntKind.u8 (iwrap IntKind.i64 (iadd (iwrap IntKind.i64 (u8i (idget x2 (inat x1)))) x0)))), x3, ())) else none else none else none else some (Sum.inr (Sum.inl (((), (), ()), x2, x3, ()))) else some (Sum.inr (Sum.inl (((), (), ()), x2, x3, ())))
noncomputable def widentStepx5 : ((Unit × (Unit × (Int × (Int × Unit)))) × (Am.Id × (Am.Id × Unit))) → Option (((Unit × (Unit × Unit)) × (Am.Id × (Am.Id × Unit))) ⊕ Empty) := shut (whl ridentStepx5)
noncomputable def lidentStepx5 : Lp := { m := 43, up := [], ksE := [], ksA := [], keep := [2, 4, 6, 7], sh := (.cons (.loc 0 0) (.cons (.loc 1 0) (.cons (.d (.int .i64)) (.cons (.d (.int .i64)) .unit)))), ms := [.box (.d .id), .box (.d .id)], outs := [{ e := .exit 0, keep := [2, 4], ks := [], sh := (.cons (.loc 0 0) (.cons (.loc 1 0) .unit)), ms := [.box (.d .id), .box (.d .id)] }], sum := fun x => (trO1 trO0) (widentStepx5 x) }
noncomputable def bidentStep (x : ((Am.Id × (Int × Unit)) × Unit)) : Option ((Am.Id × (Int × Unit)) × Unit) := match x with
  | ((x0, (x1, ())), ()) => bif bif ilt x1 0 then false else true then bif ile 256 x1 then some ((Id.zero, 1, ()), ()) else bif bif ieq 8 0 then false else true then bif ile 0 (irem x1 8) then bif bif ieq 8 0 then false else true then bL (widentStepx5 (((), (), iwrap IntKind.i64 (ishl 1 (ibits (irem x1 8) IntKind.i64)), iwrap IntKind.i64 (isub 31 (iwrap IntKind.i64 (iquo x1 8))), ()), x0, Id.zero, ())) (fun v0 => some ((v0.snd.fst, 0, ()), ())) fun u0 => none else none else none else none else some ((Id.zero, 1, ()), ())
noncomputable def oidentStep : ((Am.Id × (Int × Unit)) × Unit) → Option ((Am.Id × (Int × Unit)) × Unit) := shut bidentStep
theorem oidentStep_eq (x) : oidentStep x = bidentStep x := by rw [oidentStep, shut_eq]
theorem widentStepx5_eq (x) : widentStepx5 x = whl ridentStepx5 x := by rw [widentStepx5, shut_eq]
noncomputable def cidentStep : Ct := { ash := (.cons (.d .id) (.cons (.d (.int .i64)) .unit)), ms := [], foot := false, up := [], rsh := (.cons (.d .id) (.cons (.d (.int .i64)) .unit)), ks := [], ms' := [], G := fun x => trS (oidentStep x) }
noncomputable def EidentStep : Env := mkE Try.prog [] [] 10 [(5, .sum lidentStepx5)] [] 0
theorem rdidentStepx5 : ∀ x, round1 EidentStep 10 lidentStepx5 (loopAt Try.prog 10 0) x = ridentStepx5 x
  | (((), ((), (x0, (x1, ())))), (x2, (x3, ()))) => by kernel_rfl
theorem runidentStep : ∀ x, run EidentStep 10 cidentStep x = bidentStep x
  | ((x0, (x1, ())), ()) => by kernel_rfl
theorem SidentStep : Spec Try.prog 10 cidentStep.fc :=
  spec_fn (bs := [loopAt Try.prog 10 0]) (inl := []) (ls := [(5, .sum lidentStepx5)]) mixed hcs_nil (by kernel_rfl) (by kernel_rfl) (by decide) (by kernel_rfl) ⟨by kernel_rfl, lkOk_mk rdidentStepx5 (fun x => ((trO1_get trO0_get) _).trans (widentStepx5_eq x)) rfl, trivial⟩ oidentStep (fun x => trS_get (oidentStep x)) (fun x => (runidentStep x).trans (oidentStep_eq x).symm)
/- function 39: (.d .u8) -/
noncomputable def bcmpIsNaN (x : ((UInt8 × Unit) × Unit)) : Option ((Bool × Unit) × Unit) := match x with
  | ((x0, ()), ()) => some ((bif u8eq x0 x0 then false else true, ()), ())
noncomputable def ocmpIsNaN : ((UInt8 × Unit) × Unit) → Option ((Bool × Unit) × Unit) := shut bcmpIsNaN
theorem ocmpIsNaN_eq (x) : ocmpIsNaN x = bcmpIsNaN x := by rw [ocmpIsNaN, shut_eq]
noncomputable def ccmpIsNaN : Ct := { ash := (.cons (.d .u8) .unit), ms := [], foot := false, up := [], rsh := (.cons (.d .bool) .unit), ks := [], ms' := [], G := fun x => trS (ocmpIsNaN x) }
noncomputable def EcmpIsNaN : Env := mkE Try.prog [] [] 39 [] [] 0
theorem runcmpIsNaN : ∀ x, run EcmpIsNaN 39 ccmpIsNaN x = bcmpIsNaN x
  | ((x0, ()), ()) => by kernel_rfl
theorem ScmpIsNaN : Spec Try.prog 39 ccmpIsNaN.fc :=
  spec_fn (bs := []) (inl := []) (ls := []) mixed hcs_nil (by kernel_rfl) (by kernel_rfl) (by decide) (by kernel_rfl) trivial ocmpIsNaN (fun x => trS_get (ocmpIsNaN x)) (fun x => (runcmpIsNaN x).trans (ocmpIsNaN_eq x).symm)
/- function 35: (.d .u8) (.d .u8) -/
noncomputable def bcmpCompare (x : ((UInt8 × (UInt8 × Unit)) × Unit)) : Option ((Int × Unit) × Unit) := match x with
  | ((x0, (x1, ())), ()) => bS (ocmpIsNaN ((x0, ()), ())) fun v0 => bS (ocmpIsNaN ((x1, ()), ())) fun v1 => bif v0.fst.fst then bif v1.fst.fst then some ((0, ()), ()) else some ((-1, ()), ()) else bif v1.fst.fst then some ((1, ()), ()) else bif ilt (u8i x0) (u8i x1) then some ((-1, ()), ()) else bif ilt (u8i x1) (u8i x0) then some ((1, ()), ()) else some ((0, ()), ())
noncomputable def ocmpCompare : ((UInt8 × (UInt8 × Unit)) × Unit) → Option ((Int × Unit) × Unit) := shut bcmpCompare
theorem ocmpCompare_eq (x) : ocmpCompare x = bcmpCompare x := by rw [ocmpCompare, shut_eq]
noncomputable def ccmpCompare : Ct := { ash := (.cons (.d .u8) (.cons (.d .u8) .unit)), ms := [], foot := false, up := [], rsh := (.cons (.d (.int .i64)) .unit), ks := [], ms' := [], G := fun x => trS (ocmpCompare x) }
noncomputable def EcmpCompare : Env := mkE Try.prog [(39, ccmpIsNaN.fc)] [] 35 [] [] 0
theorem runcmpCompare : ∀ x, run EcmpCompare 35 ccmpCompare x = bcmpCompare x
  | ((x0, (x1, ())), ()) => by kernel_rfl
theorem ScmpCompare : Spec Try.prog 35 ccmpCompare.fc :=
  spec_fn (bs := []) (inl := []) (ls := []) mixed (hcs_cons ScmpIsNaN hcs_nil) (by kernel_rfl) (by kernel_rfl) (by decide) (by kernel_rfl) trivial ocmpCompare (fun x => trS_get (ocmpCompare x)) (fun x => (runcmpCompare x).trans (ocmpCompare_eq x).symm)
/- function 27: (.d (.sl .u8)) (.d (.sl .u8)) -/
noncomputable def rslicesComparex2 (x : ((List UInt8 × (List UInt8 × (List UInt8 × (Int × (Int × Unit))))) × Unit)) : Option (((List UInt8 × (List UInt8 × (List UInt8 × (Int × (Int × Unit))))) × Unit) ⊕ (((Int × Unit) × Unit) ⊕ (((List UInt8 × (List UInt8 × Unit)) × Unit) ⊕ Empty))) := match x with
  | ((x0, (x1, (x2, (x3, (x4, ()))))), ()) => bif ilt x4 x3 then bif bif ile 0 x4 then ilt x4 (dlen x2) else false then bif ile (dlen x1) x4 then some (Sum.inr (Sum.inl ((1, ()), ()))) else bif bif ile 0 x4 then ilt x4 (dlen x1) else false then bS (ocmpCompare ((dget Ty.u8 x2 x4, dget Ty.u8 x1 x4, ()), ())) fun v0 => bif bif ieq v0.fst.fst 0 then false else true then some (Sum.inr (Sum.inl v0)) else some (Sum.inl ((x0, x1, x2, x3, iwrap IntKind.i64 (iadd x4 1), ()), ())) else none else none else some (Sum.inr (Sum.inr (Sum.inl ((x0, x1, ()), ()))))
noncomputable def wslicesComparex2 : ((List UInt8 × (List UInt8 × (List UInt8 × (Int × (Int × Unit))))) × Unit) → Option (((Int × Unit) × Unit) ⊕ (((List UInt8 × (List UInt8 × Unit)) × Unit) ⊕ Empty)) := shut (whl rslicesComparex2)
noncomputable def lslicesComparex2 : Lp := { m := 36, up := [], ksE := [], ksA := [], keep := [0, 1, 9, 10, 11], sh := (.cons (.d (.sl .u8)) (.cons (.d (.sl .u8)) (.cons (.d (.sl .u8)) (.cons (.d (.int .i64)) (.cons (.d (.int .i64)) .unit))))), ms := [], outs := [{ e := .ret, keep := [4], ks := [], sh := (.cons (.d (.int .i64)) .unit), ms := [] }, { e := .exit 0, keep := [0, 1], ks := [], sh := (.cons (.d (.sl .u8)) (.cons (.d (.sl .u8)) .unit)), ms := [] }], sum := fun x => (trO1 (trO1 trO0)) (wslicesComparex2 x) }
noncomputable def bslicesCompare (x : ((List UInt8 × (List UInt8 × Unit)) × Unit)) : Option ((Int × Unit) × Unit) := match x with
  | ((x0, (x1, ())), ()) => bL (wslicesComparex2 ((x0, x1, x0, dlen x0, 0, ()), ())) (fun v0 => some v0) fun u0 => bL u0 (fun v1 => bif ilt (dlen v1.fst.fst) (dlen v1.fst.snd.fst) then some ((-1, ()), ()) else some ((0, ()), ())) fun u1 => none
noncomputable def oslicesCompare : ((List UInt8 × (List UInt8 × Unit)) × Unit) → Option ((Int × Unit) × Unit) := shut bslicesCompare
theorem oslicesCompare_eq (x) : oslicesCompare x = bslicesCompare x := by rw [oslicesCompare, shut_eq]
theorem wslicesComparex2_eq (x) : wslicesComparex2 x = whl rslicesComparex2 x := by rw [wslicesComparex2, shut_eq]
noncomputable def cslicesCompare : Ct := { ash := (.cons (.d (.sl .u8)) (.cons (.d (.sl .u8)) .unit)), ms := [], foot := false, up := [], rsh := (.cons (.d (.int .i64)) .unit), ks := [], ms' := [], G := fun x => trS (oslicesCompare x) }
noncomputable def EslicesCompare : Env := mkE Try.prog [(35, ccmpCompare.fc)] [] 27 [(2, .sum lslicesComparex2)] [] 0
theorem rdslicesComparex2 : ∀ x, round1 EslicesCompare 27 lslicesComparex2 (loopAt Try.prog 27 0) x = rslicesComparex2 x
  | ((x0, (x1, (x2, (x3, (x4, ()))))), ()) => by kernel_rfl
theorem runslicesCompare : ∀ x, run EslicesCompare 27 cslicesCompare x = bslicesCompare x
  | ((x0, (x1, ())), ()) => by kernel_rfl
theorem SslicesCompare : Spec Try.prog 27 cslicesCompare.fc :=
  spec_fn (bs := [loopAt Try.prog 27 0]) (inl := []) (ls := [(2, .sum lslicesComparex2)]) mixed (hcs_cons ScmpCompare hcs_nil) (by kernel_rfl) (by kernel_rfl) (by decide) (by kernel_rfl) ⟨by kernel_rfl, lkOk_mk rdslicesComparex2 (fun x => ((trO1_get (trO1_get trO0_get)) _).trans (wslicesComparex2_eq x)) rfl, trivial⟩ oslicesCompare (fun x => trS_get (oslicesCompare x)) (fun x => (runslicesCompare x).trans (oslicesCompare_eq x).symm)
/- function 11: (.d .id) (.d .id) -/
noncomputable def bidentCompare (x : ((Am.Id × (Am.Id × Unit)) × Unit)) : Option ((Int × Unit) × Unit) := match x with
  | ((x0, (x1, ())), ()) => bS (oslicesCompare ((x0.l, x1.l, ()), ())) fun v0 => some v0
noncomputable def oidentCompare : ((Am.Id × (Am.Id × Unit)) × Unit) → Option ((Int × Unit) × Unit) := shut bidentCompare
theorem oidentCompare_eq (x) : oidentCompare x = bidentCompare x := by rw [oidentCompare, shut_eq]
noncomputable def cidentCompare : Ct := { ash := (.cons (.d .id) (.cons (.d .id) .unit)), ms := [], foot := false, up := [], rsh := (.cons (.d (.int .i64)) .unit), ks := [], ms' := [], G := fun x => trS (oidentCompare x) }
noncomputable def EidentCompare : Env := mkE Try.prog [(27, cslicesCompare.fc)] [] 11 [] [] 0
theorem runidentCompare : ∀ x, run EidentCompare 11 cidentCompare x = bidentCompare x
  | ((x0, (x1, ())), ()) => by kernel_rfl
theorem SidentCompare : Spec Try.prog 11 cidentCompare.fc :=
  spec_fn (bs := []) (inl := []) (ls := []) mixed (hcs_cons SslicesCompare hcs_nil) (by kernel_rfl) (by kernel_rfl) (by decide) (by kernel_rfl) trivial oidentCompare (fun x => trS_get (oidentCompare x)) (fun x => (runidentCompare x).trans (oidentCompare_eq x).symm)
/- function 22: (.d .id) (.d (.int .i64)) -/
noncomputable def rref01Bitx3 (x : ((Int × (Int × (Int × Unit))) × Unit)) : Option (((Int × (Int × (Int × Unit))) × Unit) ⊕ (((Int × Unit) × Unit) ⊕ Empty)) := match x with
  | ((x0, (x1, (x2, ()))), ()) => bif bif ieq 8 0 then false else true then bif ilt x2 (iwrap IntKind.i64 (isub 7 (irem x0 8))) then bif bif ieq 2 0 then false else true then some (Sum.inl ((x0, iwrap IntKind.i64 (iquo x1 2), iwrap IntKind.i64 (iadd x2 1), ()), ())) else none else some (Sum.inr (Sum.inl ((x1, ()), ()))) else none
noncomputable def wref01Bitx3 : ((Int × (Int × (Int × Unit))) × Unit) → Option (((Int × Unit) × Unit) ⊕ Empty) := shut (whl rref01Bitx3)
noncomputable def lref01Bitx3 : Lp := { m := 23, up := [], ksE := [], ksA := [], keep := [1, 5, 6], sh := (.cons (.d (.int .i64)) (.cons (.d (.int .i64)) (.cons (.d (.int .i64)) .unit))), ms := [], outs := [{ e := .exit 0, keep := [5], ks := [], sh := (.cons (.d (.int .i64)) .unit), ms := [] }], sum := fun x => (trO1 trO0) (wref01Bitx3 x) }
noncomputable def bref01Bit (x : ((Am.Id × (Int × Unit)) × Unit)) : Option ((Int × Unit) × Unit) := match x with
  | ((x0, (x1, ())), ()) => bif bif ieq 8 0 then false else true then bif bif ile 0 (iwrap IntKind.i64 (iquo x1 8)) then ilt (iwrap IntKind.i64 (iquo x1 8)) 32 else false then bL (wref01Bitx3 ((x1, iwrap IntKind.i64 (u8i (idget x0 (inat (iwrap IntKind.i64 (iquo x1 8))))), 0, ()), ())) (fun v0 => bif bif ieq 2 0 then false else true then some ((irem v0.fst.fst 2, ()), ()) else none) fun u0 => none else none else none
noncomputable def oref01Bit : ((Am.Id × (Int × Unit)) × Unit) → Option ((Int × Unit) × Unit) := shut bref01Bit
theorem oref01Bit_eq (x) : oref01Bit x = bref01Bit x := by rw [oref01Bit, shut_eq]
theorem wref01Bitx3_eq (x) : wref01Bitx3 x = whl rref01Bitx3 x := by rw [wref01Bitx3, shut_eq]
noncomputable def cref01Bit : Ct := { ash := (.cons (.d .id) (.cons (.d (.int .i64)) .unit)), ms := [], foot := false, up := [], rsh := (.cons (.d (.int .i64)) .unit), ks := [], ms' := [], G := fun x => trS (oref01Bit x) }
noncomputable def Eref01Bit : Env := mkE Try.prog [] [] 22 [(3, .sum lref01Bitx3)] [] 0
theorem rdref01Bitx3 : ∀ x, round1 Eref01Bit 22 lref01Bitx3 (loopAt Try.prog 22 0) x = rref01Bitx3 x
  | ((x0, (x1, (x2, ()))), ()) => by kernel_rfl
theorem runref01Bit : ∀ x, run Eref01Bit 22 cref01Bit x = bref01Bit x
  | ((x0, (x1, ())), ()) => by kernel_rfl
theorem Sref01Bit : Spec Try.prog 22 cref01Bit.fc :=
  spec_fn (bs := [loopAt Try.prog 22 0]) (inl := []) (ls := [(3, .sum lref01Bitx3)]) mixed hcs_nil (by kernel_rfl) (by kernel_rfl) (by decide) (by kernel_rfl) ⟨by kernel_rfl, lkOk_mk rdref01Bitx3 (fun x => ((trO1_get trO0_get) _).trans (wref01Bitx3_eq x)) rfl, trivial⟩ oref01Bit (fun x => trS_get (oref01Bit x)) (fun x => (runref01Bit x).trans (oref01Bit_eq x).symm)
/- function 12: (.d .id) (.d .id) -/
noncomputable def rref01Comparex2 (x : ((Unit × (Unit × (Int × Unit))) × (Am.Id × (Am.Id × Unit)))) : Option (((Unit × (Unit × (Int × Unit))) × (Am.Id × (Am.Id × Unit))) ⊕ ((Unit × Unit) ⊕ (((Int × Unit) × Unit) ⊕ Empty))) := match x with
  | (((), ((), (x0, ()))), (x1, (x2, ()))) => bif ilt x0 256 then bS (oref01Bit ((x1, x0, ()), ())) fun v0 => bS (oref01Bit ((x2, x0, ()), ())) fun v1 => bif ilt v0.fst.fst v1.fst.fst then some (Sum.inr (Sum.inr (Sum.inl ((-1, ()), ())))) else bS (oref01Bit ((x1, x0, ()), ())) fun v2 => bS (oref01Bit ((x2, x0, ()), ())) fun v3 => bif ilt v1.fst.fst v0.fst.fst then some (Sum.inr (Sum.inr (Sum.inl ((1, ()), ())))) else some (Sum.inl (((), (), iwrap IntKind.i64 (iadd x0 1), ()), x1, x2, ())) else some (Sum.inr (Sum.inl ((), ())))
noncomputable def wref01Comparex2 : ((Unit × (Unit × (Int × Unit))) × (Am.Id × (Am.Id × Unit))) → Option ((Unit × Unit) ⊕ (((Int × Unit) × Unit) ⊕ Empty)) := shut (whl rref01Comparex2)
noncomputable def lref01Comparex2 : Lp := { m := 24, up := [], ksE := [], ksA := [], keep := [2, 3, 5], sh := (.cons (.loc 0 0) (.cons (.loc 1 0) (.cons (.d (.int .i64)) .unit))), ms := [.box (.d .id), .box (.d .id)], outs := [{ e := .exit 0, keep := [], ks := [], sh := .unit, ms := [] }, { e := .ret, keep := [4], ks := [], sh := (.cons (.d (.int .i64)) .unit), ms := [] }], sum := fun x => (trO1 (trO1 trO0)) (wref01Comparex2 x) }
noncomputable def bref01Compare (x : ((Am.Id × (Am.Id × Unit)) × Unit)) : Option ((Int × Unit) × Unit) := match x with
  | ((x0, (x1, ())), ()) => bL (wref01Comparex2 (((), (), 0, ()), x0, x1, ())) (fun v0 => some ((0, ()), ())) fun u0 => bL u0 (fun v1 => some v1) fun u1 => none
noncomputable def oref01Compare : ((Am.Id × (Am.Id × Unit)) × Unit) → Option ((Int × Unit) × Unit) := shut bref01Compare
theorem oref01Compare_eq (x) : oref01Compare x = bref01Compare x := by rw [oref01Compare, shut_eq]
theorem wref01Comparex2_eq (x) : wref01Comparex2 x = whl rref01Comparex2 x := by rw [wref01Comparex2, shut_eq]
noncomputable def cref01Compare : Ct := { ash := (.cons (.d .id) (.cons (.d .id) .unit)), ms := [], foot := false, up := [], rsh := (.cons (.d (.int .i64)) .unit), ks := [], ms' := [], G := fun x => trS (oref01Compare x) }
noncomputable def Eref01Compare : Env := mkE Try.prog [(22, cref01Bit.fc)] [] 12 [(2, .sum lref01Comparex2)] [] 0
theorem rdref01Comparex2 : ∀ x, round1 Eref01Compare 12 lref01Comparex2 (loopAt Try.prog 12 0) x = rref01Comparex2 x
  | (((), ((), (x0, ()))), (x1, (x2, ()))) => by kernel_rfl
theorem runref01Compare : ∀ x, run Eref01Compare 12 cref01Compare x = bref01Compare x
  | ((x0, (x1, ())), ()) => by kernel_rfl
theorem Sref01Compare : Spec Try.prog 12 cref01Compare.fc :=
  spec_fn (bs := [loopAt Try.prog 12 0]) (inl := []) (ls := [(2, .sum lref01Comparex2)]) mixed (hcs_cons Sref01Bit hcs_nil) (by kernel_rfl) (by kernel_rfl) (by decide) (by kernel_rfl) ⟨by kernel_rfl, lkOk_mk rdref01Comparex2 (fun x => ((trO1_get (trO1_get trO0_get)) _).trans (wref01Comparex2_eq x)) rfl, trivial⟩ oref01Compare (fun x => trS_get (oref01Compare x)) (fun x => (runref01Compare x).trans (oref01Compare_eq x).symm)
/- function 13: (.d .id) (.d .id) -/
noncomputable def ridentFarx4 (x : ((Unit × (Unit × (Unit × (Unit × (Int × (Int × Unit)))))) × (Am.Id × (Am.Id × (Am.Id × (Am.Id × Unit)))))) : Option (((Unit × (Unit × (Unit × (Unit × (Int × (Int × Unit)))))) × (Am.Id × (Am.Id × (Am.Id × (Am.Id × Unit))))) ⊕ (((Unit × (Unit × Unit)) × (Am.Id × (Am.Id × Unit))) ⊕ Empty)) := match x with
  | (((), ((), ((), ((), (x0, (x1, ())))))), (x2, (x3, (x4, (x5, ()))))) => bif ile 0 x1 then bif bif ile 0 x1 then ilt x1 32 else false then bif bif ile 0 x1 then ilt x1 32 else false then bif ilt (iwrap IntKind.i64 (isub (iwrap IntKind.i64 (isub (iwrap IntKind.i64 (u8i (idget x3 (inat x1)))) (iwrap IntKind.i64 (u8i (idget x2 (inat x1)))))) x0)) 0 then bif bif ile 0 x1 then ilt x1 32 else false then some (Sum.inl (((), (), (), (), 1, iwrap IntKind.i64 (isub x1 1), ()), x2, x3, x4, idset x5 (inat x1) (iu8 (iwrap IntKind.u8 (iwrap IntKind.i64 (iadd (iwrap IntKind.i64 (isub (iwrap IntKind.i64 (isub (iwrap IntKind.i64 (u8i (idget x3 (inat x1)))) (iwrap IntKind.i64 (u8i (idget x2 (inat x1)))))) x0)) 256)))), ())) else none else bif bif ile 0 x1 then ilt x1 32 else false then some (Sum.inl (((), (), (), (), 0, iwrap IntKind.i64 (isub x1 1), ()), x2, x3, x4, idset x5 (inat x1) (iu8 (iwrap IntKind.u8 (iwrap IntKind.i64 (isub (iwrap IntKind.i64 (isub (iwrap IntKind.i64 (u8i (idget x3 (inat x1)))) (iwrap IntKind.i64 (u8i (idget x2 (inat x1)))))) x0)))), ())) else none else none else none else some (Sum.inr (Sum.inl (((), (), ()), x4, x5, ())))
noncomputable def widentFarx4 : ((Unit × (Unit × (Unit × (Unit × (Int × (Int × Unit)))))) × (Am.Id × (Am.Id × (Am.Id × (Am.Id × Unit))))) → Option (((Unit × (Unit × Unit)) × (Am.Id × (Am.Id × Unit))) ⊕ Empty) := shut (whl ridentFarx4)
noncomputable def lidentFarx4 : Lp := { m := 33, up := [], ksE := [], ksA := [], keep := [2, 3, 4, 5, 6, 7], sh := (.cons (.loc 0 0) (.cons (.loc 1 0) (.cons (.loc 2 0) (.cons (.loc 3 0) (.cons (.d (.int .i64)) (.cons (.d (.int .i64)) .unit)))))), ms := [.box (.d .id), .box (.d .id), .box (.d .id), .box (.d .id)], outs := [{ e := .exit 0, keep := [4, 5], ks := [], sh := (.cons (.loc 0 0) (.cons (.loc 1 0) .unit)), ms := [.box (.d .id), .box (.d .id)] }], sum := fun x => (trO1 trO0) (widentFarx4 x) }
noncomputable def bidentFar (x : ((Am.Id × (Am.Id × Unit)) × Unit)) : Option ((Am.Id × Unit) × Unit) := match x with
  | ((x0, (x1, ())), ()) => bL (widentFarx4 (((), (), (), (), 0, 31, ()), x0, x1, Id.zero, Id.zero, ())) (fun v0 => some (v0.snd.snd, ())) fun u0 => none
noncomputable def oidentFar : ((Am.Id × (Am.Id × Unit)) × Unit) → Option ((Am.Id × Unit) × Unit) := shut bidentFar
theorem oidentFar_eq (x) : oidentFar x = bidentFar x := by rw [oidentFar, shut_eq]
theorem widentFarx4_eq (x) : widentFarx4 x = whl ridentFarx4 x := by rw [widentFarx4, shut_eq]
noncomputable def cidentFar : Ct := { ash := (.cons (.d .id) (.cons (.d .id) .unit)), ms := [], foot := false, up := [], rsh := (.cons (.d .id) .unit), ks := [], ms' := [], G := fun x => trS (oidentFar x) }
noncomputable def EidentFar : Env := mkE Try.prog [] [] 13 [(4, .sum lidentFarx4)] [] 0
theorem rdidentFarx4 : ∀ x, round1 EidentFar 13 lidentFarx4 (loopAt Try.prog 13 0) x = ridentFarx4 x
  | (((), ((), ((), ((), (x0, (x1, ())))))), (x2, (x3, (x4, (x5, ()))))) => by kernel_rfl
theorem runidentFar : ∀ x, run EidentFar 13 cidentFar x = bidentFar x
  | ((x0, (x1, ())), ()) => by kernel_rfl
theorem SidentFar : Spec Try.prog 13 cidentFar.fc :=
  spec_fn (bs := [loopAt Try.prog 13 0]) (inl := []) (ls := [(4, .sum lidentFarx4)]) mixed hcs_nil (by kernel_rfl) (by kernel_rfl) (by decide) (by kernel_rfl) ⟨by kernel_rfl, lkOk_mk rdidentFarx4 (fun x => ((trO1_get trO0_get) _).trans (widentFarx4_eq x)) rfl, trivial⟩ oidentFar (fun x => trS_get (oidentFar x)) (fun x => (runidentFar x).trans (oidentFar_eq x).symm)
/- function 28: (.d .id) -/
noncomputable def rref01Notx3 (x : ((Unit × (Unit × (Unit × (Int × Unit)))) × (Am.Id × (Am.Id × (Am.Id × Unit))))) : Option (((Unit × (Unit × (Unit × (Int × Unit)))) × (Am.Id × (Am.Id × (Am.Id × Unit)))) ⊕ (((Unit × (Unit × Unit)) × (Am.Id × (Am.Id × Unit))) ⊕ Empty)) := match x with
  | (((), ((), ((), (x0, ())))), (x1, (x2, (x3, ())))) => bif ilt x0 32 then bif bif ile 0 x0 then ilt x0 32 else false then bif bif ile 0 x0 then ilt x0 32 else false then some (Sum.inl (((), (), (), iwrap IntKind.i64 (iadd x0 1), ()), x1, x2, idset x3 (inat x0) (iu8 (iwrap IntKind.u8 (isub (u8i (iu8 255)) (u8i (idget x1 (inat x0)))))), ())) else none else none else some (Sum.inr (Sum.inl (((), (), ()), x2, x3, ())))
noncomputable def wref01Notx3 : ((Unit × (Unit × (Unit × (Int × Unit)))) × (Am.Id × (Am.Id × (Am.Id × Unit)))) → Option (((Unit × (Unit × Unit)) × (Am.Id × (Am.Id × Unit))) ⊕ Empty) := shut (whl rref01Notx3)
noncomputable def lref01Notx3 : Lp := { m := 17, up := [], ksE := [], ksA := [], keep := [1, 2, 3, 4], sh := (.cons (.loc 0 0) (.cons (.loc 1 0) (.cons (.loc 2 0) (.cons (.d (.int .i64)) .unit)))), ms := [.box (.d .id), .box (.d .id), .box (.d .id)], outs := [{ e := .exit 0, keep := [2, 3], ks := [], sh := (.cons (.loc 0 0) (.cons (.loc 1 0) .unit)), ms := [.box (.d .id), .box (.d .id)] }], sum := fun x => (trO1 trO0) (wref01Notx3 x) }
noncomputable def bref01Not (x : ((Am.Id × Unit) × Unit)) : Option ((Am.Id × Unit) × Unit) := match x with
  | ((x0, ()), ()) => bL (wref01Notx3 (((), (), (), 0, ()), x0, Id.zero, Id.zero, ())) (fun v0 => some (v0.snd.snd, ())) fun u0 => none
noncomputable def oref01Not : ((Am.Id × Unit) × Unit) → Option ((Am.Id × Unit) × Unit) := shut bref01Not
theorem oref01Not_eq (x) : oref01Not x = bref01Not x := by rw [oref01Not, shut_eq]
theorem wref01Notx3_eq (x) : wref01Notx3 x = whl rref01Notx3 x := by rw [wref01Notx3, shut_eq]
noncomputable def cref01Not : Ct := { ash := (.cons (.d .id) .unit), ms := [], foot := false, up := [], rsh := (.cons (.d .id) .unit), ks := [], ms' := [], G := fun x => trS (oref01Not x) }
noncomputable def Eref01Not : Env := mkE Try.prog [] [] 28 [(3, .sum lref01Notx3)] [] 0
theorem rdref01Notx3 : ∀ x, round1 Eref01Not 28 lref01Notx3 (loopAt Try.prog 28 0) x = rref01Notx3 x
  | (((), ((), ((), (x0, ())))), (x1, (x2, (x3, ())))) => by kernel_rfl
theorem runref01Not : ∀ x, run Eref01Not 28 cref01Not x = bref01Not x
  | ((x0, ()), ()) => by kernel_rfl
theorem Sref01Not : Spec Try.prog 28 cref01Not.fc :=
  spec_fn (bs := [loopAt Try.prog 28 0]) (inl := []) (ls := [(3, .sum lref01Notx3)]) mixed hcs_nil (by kernel_rfl) (by kernel_rfl) (by decide) (by kernel_rfl) ⟨by kernel_rfl, lkOk_mk rdref01Notx3 (fun x => ((trO1_get trO0_get) _).trans (wref01Notx3_eq x)) rfl, trivial⟩ oref01Not (fun x => trS_get (oref01Not x)) (fun x => (runref01Not x).trans (oref01Not_eq x).symm)
/- function 16: (.d .id) (.d .id) -/
noncomputable def rref01Addx4 (x : ((Unit × (Unit × (Unit × (Unit × (Int × (Int × Unit)))))) × (Am.Id × (Am.Id × (Am.Id × (Am.Id × Unit)))))) : Option (((Unit × (Unit × (Unit × (Unit × (Int × (Int × Unit)))))) × (Am.Id × (Am.Id × (Am.Id × (Am.Id × Unit))))) ⊕ (((Unit × (Unit × Unit)) × (Am.Id × (Am.Id × Unit))) ⊕ Empty)) := match x with
  | (((), ((), ((), ((), (x0, (x1, ())))))), (x2, (x3, (x4, (x5, ()))))) => bif ile 0 x1 then bif bif ile 0 x1 then ilt x1 32 else false then bif bif ile 0 x1 then ilt x1 32 else false then bif bif ieq 256 0 then false else true then bif bif ile 0 x1 then ilt x1 32 else false then bif bif ieq 256 0 then false else true then some (Sum.inl (((), (), (), (), iwrap IntKind.i64 (iquo (iwrap IntKind.i64 (iadd (iwrap IntKind.i64 (iadd (iwrap IntKind.i64 (u8i (idget x2 (inat x1)))) (iwrap IntKind.i64 (u8i (idget x3 (inat x1)))))) x0)) 256), iwrap IntKind.i64 (isub x1 1), ()), x2, x3, x4, idset x5 (inat x1) (iu8 (iwrap IntKind.u8 (irem (iwrap IntKind.i64 (iadd (iwrap IntKind.i64 (iadd (iwrap IntKind.i64 (u8i (idget x2 (inat x1)))) (iwrap IntKind.i64 (u8i (idget x3 (inat x1)))))) x0)) 256))), ())) else none else none else none else none else none else some (Sum.inr (Sum.inl (((), (), ()), x4, x5, ())))
noncomputable def wref01Addx4 : ((Unit × (Unit × (Unit × (Unit × (Int × (Int × Unit)))))) × (Am.Id × (Am.Id × (Am.Id × (Am.Id × Unit))))) → Option (((Unit × (Unit × Unit)) × (Am.Id × (Am.Id × Unit))) ⊕ Empty) := shut (whl rref01Addx4)
noncomputable def lref01Addx4 : Lp := { m := 33, up := [], ksE := [], ksA := [], keep := [2, 3, 4, 5, 6, 7], sh := (.cons (.loc 0 0) (.cons (.loc 1 0) (.cons (.loc 2 0) (.cons (.loc 3 0) (.cons (.d (.int .i64)) (.cons (.d (.int .i64)) .unit)))))), ms := [.box (.d .id), .box (.d .id), .box (.d .id), .box (.d .id)], outs := [{ e := .exit 0, keep := [4, 5], ks := [], sh := (.cons (.loc 0 0) (.cons (.loc 1 0) .unit)), ms := [.box (.d .id), .box (.d .id)] }], sum := fun x => (trO1 trO0) (wref01Addx4 x) }
noncomputable def bref01Add (x : ((Am.Id × (Am.Id × Unit)) × Unit)) : Option ((Am.Id × Unit) × Unit) := match x with
  | ((x0, (x1, ())), ()) => bL (wref01Addx4 (((), (), (), (), 0, 31, ()), x0, x1, Id.zero, Id.zero, ())) (fun v0 => some (v0.snd.snd, ())) fun u0 => none
noncomputable def oref01Add : ((Am.Id × (Am.Id × Unit)) × Unit) → Option ((Am.Id × Unit) × Unit) := shut bref01Add
theorem oref01Add_eq (x) : oref01Add x = bref01Add x := by rw [oref01Add, shut_eq]
theorem wref01Addx4_eq (x) : wref01Addx4 x = whl rref01Addx4 x := by rw [wref01Addx4, shut_eq]
noncomputable def cref01Add : Ct := { ash := (.cons (.d .id) (.cons (.d .id) .unit)), ms := [], foot := false, up := [], rsh := (.cons (.d .id) .unit), ks := [], ms' := [], G := fun x => trS (oref01Add x) }
noncomputable def Eref01Add : Env := mkE Try.prog [] [] 16 [(4, .sum lref01Addx4)] [] 0
theorem rdref01Addx4 : ∀ x, round1 Eref01Add 16 lref01Addx4 (loopAt Try.prog 16 0) x = rref01Addx4 x
  | (((), ((), ((), ((), (x0, (x1, ())))))), (x2, (x3, (x4, (x5, ()))))) => by kernel_rfl
theorem runref01Add : ∀ x, run Eref01Add 16 cref01Add x = bref01Add x
  | ((x0, (x1, ())), ()) => by kernel_rfl
theorem Sref01Add : Spec Try.prog 16 cref01Add.fc :=
  spec_fn (bs := [loopAt Try.prog 16 0]) (inl := []) (ls := [(4, .sum lref01Addx4)]) mixed hcs_nil (by kernel_rfl) (by kernel_rfl) (by decide) (by kernel_rfl) ⟨by kernel_rfl, lkOk_mk rdref01Addx4 (fun x => ((trO1_get trO0_get) _).trans (wref01Addx4_eq x)) rfl, trivial⟩ oref01Add (fun x => trS_get (oref01Add x)) (fun x => (runref01Add x).trans (oref01Add_eq x).symm)
/- function 17: (.d (.int .i64)) -/
noncomputable def rref01Powerx4 (x : ((Int × (Unit × (Unit × (UInt8 × (Int × Unit))))) × (Am.Id × (Am.Id × Unit)))) : Option (((Int × (Unit × (Unit × (UInt8 × (Int × Unit))))) × (Am.Id × (Am.Id × Unit))) ⊕ (((Int × (Unit × (Unit × (UInt8 × Unit)))) × (Am.Id × (Am.Id × Unit))) ⊕ Empty)) := match x with
  | ((x0, ((), ((), (x1, (x2, ()))))), (x3, (x4, ()))) => bif bif ieq 8 0 then false else true then bif ilt x2 (irem x0 8) then some (Sum.inl ((x0, (), (), iu8 (iwrap IntKind.u8 (imul (u8i (iu8 2)) (u8i x1))), iwrap IntKind.i64 (iadd x2 1), ()), x3, x4, ())) else some (Sum.inr (Sum.inl ((x0, (), (), x1, ()), x3, x4, ()))) else none
noncomputable def wref01Powerx4 : ((Int × (Unit × (Unit × (UInt8 × (Int × Unit))))) × (Am.Id × (Am.Id × Unit))) → Option (((Int × (Unit × (Unit × (UInt8 × Unit)))) × (Am.Id × (Am.Id × Unit))) ⊕ Empty) := shut (whl rref01Powerx4)
noncomputable def lref01Powerx4 : Lp := { m := 21, up := [], ksE := [], ksA := [], keep := [0, 2, 3, 4, 5], sh := (.cons (.d (.int .i64)) (.cons (.loc 0 0) (.cons (.loc 1 0) (.cons (.d .u8) (.cons (.d (.int .i64)) .unit))))), ms := [.box (.d .id), .box (.d .id)], outs := [{ e := .exit 0, keep := [0, 2, 3, 4], ks := [], sh := (.cons (.d (.int .i64)) (.cons (.loc 0 0) (.cons (.loc 1 0) (.cons (.d .u8) .unit)))), ms := [.box (.d .id), .box (.d .id)] }], sum := fun x => (trO1 trO0) (wref01Powerx4 x) }
noncomputable def bref01Power (x : ((Int × Unit) × Unit)) : Option ((Am.Id × Unit) × Unit) := match x with
  | ((x0, ()), ()) => bL (wref01Powerx4 ((x0, (), (), iu8 1, 0, ()), Id.zero, Id.zero, ())) (fun v0 => bif bif ieq 8 0 then false else true then bif bif ile 0 (iwrap IntKind.i64 (isub 31 (iwrap IntKind.i64 (iquo v0.fst.fst 8)))) then ilt (iwrap IntKind.i64 (isub 31 (iwrap IntKind.i64 (iquo v0.fst.fst 8)))) 32 else false then some ((idset v0.snd.snd.fst (inat (iwrap IntKind.i64 (isub 31 (iwrap IntKind.i64 (iquo v0.fst.fst 8))))) v0.fst.snd.snd.snd.fst, ()), ()) else none else none) fun u0 => none
noncomputable def oref01Power : ((Int × Unit) × Unit) → Option ((Am.Id × Unit) × Unit) := shut bref01Power
theorem oref01Power_eq (x) : oref01Power x = bref01Power x := by rw [oref01Power, shut_eq]
theorem wref01Powerx4_eq (x) : wref01Powerx4 x = whl rref01Powerx4 x := by rw [wref01Powerx4, shut_eq]
noncomputable def cref01Power : Ct := { ash := (.cons (.d (.int .i64)) .unit), ms := [], foot := false, up := [], rsh := (.cons (.d .id) .unit), ks := [], ms' := [], G := fun x => trS (oref01Power x) }
noncomputable def Eref01Power : Env := mkE Try.prog [] [] 17 [(4, .sum lref01Powerx4)] [] 0
theorem rdref01Powerx4 : ∀ x, round1 Eref01Power 17 lref01Powerx4 (loopAt Try.prog 17 0) x = rref01Powerx4 x
  | ((x0, ((), ((), (x1, (x2, ()))))), (x3, (x4, ()))) => by kernel_rfl
theorem runref01Power : ∀ x, run Eref01Power 17 cref01Power x = bref01Power x
  | ((x0, ()), ()) => by kernel_rfl
theorem Sref01Power : Spec Try.prog 17 cref01Power.fc :=
  spec_fn (bs := [loopAt Try.prog 17 0]) (inl := []) (ls := [(4, .sum lref01Powerx4)]) mixed hcs_nil (by kernel_rfl) (by kernel_rfl) (by decide) (by kernel_rfl) ⟨by kernel_rfl, lkOk_mk rdref01Powerx4 (fun x => ((trO1_get trO0_get) _).trans (wref01Powerx4_eq x)) rfl, trivial⟩ oref01Power (fun x => trS_get (oref01Power x)) (fun x => (runref01Power x).trans (oref01Power_eq x).symm)
/- function 14: (.d .id) (.d .id) -/
noncomputable def bref01Far (x : ((Am.Id × (Am.Id × Unit)) × Unit)) : Option ((Am.Id × Unit) × Unit) := match x with
  | ((x0, (x1, ())), ()) => bS (oref01Not ((x0, ()), ())) fun v0 => bS (oref01Add ((x1, v0.fst), ())) fun v1 => bS (oref01Power ((0, ()), ())) fun v2 => bS (oref01Add ((v1.fst.fst, v2.fst), ())) fun v3 => some v3
noncomputable def oref01Far : ((Am.Id × (Am.Id × Unit)) × Unit) → Option ((Am.Id × Unit) × Unit) := shut bref01Far
theorem oref01Far_eq (x) : oref01Far x = bref01Far x := by rw [oref01Far, shut_eq]
noncomputable def cref01Far : Ct := { ash := (.cons (.d .id) (.cons (.d .id) .unit)), ms := [], foot := false, up := [], rsh := (.cons (.d .id) .unit), ks := [], ms' := [], G := fun x => trS (oref01Far x) }
noncomputable def Eref01Far : Env := mkE Try.prog [(28, cref01Not.fc), (16, cref01Add.fc), (17, cref01Power.fc)] [] 14 [] [] 0
theorem runref01Far : ∀ x, run Eref01Far 14 cref01Far x = bref01Far x
  | ((x0, (x1, ())), ()) => by kernel_rfl
theorem Sref01Far : Spec Try.prog 14 cref01Far.fc :=
  spec_fn (bs := []) (inl := []) (ls := []) mixed (hcs_cons Sref01Not (hcs_cons Sref01Add (hcs_cons Sref01Power hcs_nil))) (by kernel_rfl) (by kernel_rfl) (by decide) (by kernel_rfl) trivial oref01Far (fun x => trS_get (oref01Far x)) (fun x => (runref01Far x).trans (oref01Far_eq x).symm)
/- function 18: (.d .id) (.d .id) (.d .id) -/
noncomputable def bidentIn (x : ((Am.Id × (Am.Id × (Am.Id × Unit))) × Unit)) : Option ((Bool × Unit) × Unit) := match x with
  | ((x0, (x1, (x2, ()))), ()) => bif ideq x1 x2 then some ((true, ()), ()) else bS (oidentFar ((x1, x0, ()), ())) fun v0 => bif bif ideq v0.fst.fst Id.zero then false else true then bS (oidentFar ((x1, x2, ()), ())) fun v1 => bS (oidentCompare ((v0.fst.fst, v1.fst), ())) fun v2 => some ((ile v2.fst.fst 0, ()), ()) else some ((false, ()), ())
noncomputable def oidentIn : ((Am.Id × (Am.Id × (Am.Id × Unit))) × Unit) → Option ((Bool × Unit) × Unit) := shut bidentIn
theorem oidentIn_eq (x) : oidentIn x = bidentIn x := by rw [oidentIn, shut_eq]
noncomputable def cidentIn : Ct := { ash := (.cons (.d .id) (.cons (.d .id) (.cons (.d .id) .unit))), ms := [], foot := false, up := [], rsh := (.cons (.d .bool) .unit), ks := [], ms' := [], G := fun x => trS (oidentIn x) }
noncomputable def EidentIn : Env := mkE Try.prog [(13, cidentFar.fc), (11, cidentCompare.fc)] [] 18 [] [] 0
theorem runidentIn : ∀ x, run EidentIn 18 cidentIn x = bidentIn x
  | ((x0, (x1, (x2, ()))), ()) => by kernel_rfl
theorem SidentIn : Spec Try.prog 18 cidentIn.fc :=
  spec_fn (bs := []) (inl := []) (ls := []) mixed (hcs_cons SidentFar (hcs_cons SidentCompare hcs_nil)) (by kernel_rfl) (by kernel_rfl) (by decide) (by kernel_rfl) trivial oidentIn (fun x => trS_get (oidentIn x)) (fun x => (runidentIn x).trans (oidentIn_eq x).symm)
/- function 36: (.d .u8) -/
noncomputable def bmath_bitsLen8 (x : ((UInt8 × Unit) × Unit)) : Option ((Int × Unit) × Unit) := match x with
  | ((x0, ()), ()) => bif bif ile 0 (u8i x0) then ilt (u8i x0) (dlen [0, 1, 2, 2, 3, 3, 3, 3, 4, 4, 4, 4, 4, 4, 4, 4, 5, 5, 5, 5, 5, 5, 5, 5, 5, 5, 5, 5, 5, 5, 5, 5, 6, 6, 6, 6, 6, 6, 6, 6, 6, 6, 6, 6, 6, 6, 6, 6, 6, 6, 6, 6, 6, 6, 6, 6, 6, 6, 6, 6, 6, 6, 6, 6, 7, 7, 7, 7, 7, 7, 7, 7, 7, 7, 7, 7, 7, 7, 7, 7, 7, 7, 7, 7, 7, 7, 7, 7, 7, 7, 7, 7, 7, 7, 7, 7, 7, 7, 7, 7, 7, 7, 7, 7, 7, 7, 7, 7, 7, 7, 7, 7, 7, 7, 7, 7, 7, 7, 7, 7, 7, 7, 7, 7, 7, 7, 7, 7, 8, 8, 8, 8, 8, 8, 8, 8, 8, 8, 8, 8, 8, 8, 8, 8, 8, 8, 8, 8, 8, 8, 8, 8, 8, 8, 8, 8, 8, 8, 8, 8, 8, 8, 8, 8, 8, 8, 8, 8, 8, 8, 8, 8, 8, 8, 8, 8, 8, 8, 8, 8, 8, 8, 8, 8, 8, 8, 8, 8, 8, 8, 8, 8, 8, 8, 8, 8, 8, 8, 8, 8, 8, 8, 8, 8, 8, 8, 8, 8, 8, 8, 8, 8, 8, 8, 8, 8, 8, 8, 8, 8, 8, 8, 8, 8, 8, 8, 8, 8, 8, 8, 8, 8, 8, 8, 8, 8, 8, 8, 8, 8, 8, 8, 8, 8, 8, 8, 8, 8, 8, 8, 8, 8, 8, 8, 8, 8]) else false then some ((iwrap IntKind.i64 (u8i (sget [0, 1, 2, 2, 3, 3, 3, 3, 4, 4, 4, 4, 4, 4, 4, 4, 5, 5, 5, 5, 5, 5, 5, 5, 5, 5, 5, 5, 5, 5, 5, 5, 6, 6, 6, 6, 6, 6, 6, 6, 6, 6, 6, 6, 6, 6, 6, 6, 6, 6, 6, 6, 6, 6, 6, 6, 6, 6, 6, 6, 6, 6, 6, 6, 7, 7, 7, 7, 7, 7, 7, 7, 7, 7, 7, 7, 7, 7, 7, 7, 7, 7, 7, 7, 7, 7, 7, 7, 7, 7, 7, 7, 7, 7, 7, 7, 7, 7, 7, 7, 7, 7, 7, 7, 7, 7, 7, 7, 7, 7, 7, 7, 7, 7, 7, 7, 7, 7, 7, 7, 7, 7, 7, 7, 7, 7, 7, 7, 8, 8, 8, 8, 8, 8, 8, 8, 8, 8, 8, 8, 8, 8, 8, 8, 8, 8, 8, 8, 8, 8, 8, 8, 8, 8, 8, 8, 8, 8, 8, 8, 8, 8, 8, 8, 8, 8, 8, 8, 8, 8, 8, 8, 8, 8, 8, 8, 8, 8, 8, 8, 8, 8, 8, 8, 8, 8, 8, 8, 8, 8, 8, 8, 8, 8, 8, 8, 8, 8, 8, 8, 8, 8, 8, 8, 8, 8, 8, 8, 8, 8, 8, 8, 8, 8, 8, 8, 8, 8, 8, 8, 8, 8, 8, 8, 8, 8, 8, 8, 8, 8, 8, 8, 8, 8, 8, 8, 8, 8, 8, 8, 8, 8, 8, 8, 8, 8, 8, 8, 8, 8, 8, 8, 8, 8, 8, 8] (u8i x0))), ()), ()) else none
noncomputable def omath_bitsLen8 : ((UInt8 × Unit) × Unit) → Option ((Int × Unit) × Unit) := shut bmath_bitsLen8
theorem omath_bitsLen8_eq (x) : omath_bitsLen8 x = bmath_bitsLen8 x := by rw [omath_bitsLen8, shut_eq]
noncomputable def cmath_bitsLen8 : Ct := { ash := (.cons (.d .u8) .unit), ms := [], foot := false, up := [], rsh := (.cons (.d (.int .i64)) .unit), ks := [], ms' := [], G := fun x => trS (omath_bitsLen8 x) }
noncomputable def Emath_bitsLen8 : Env := mkE Try.prog [] [] 36 [] [] 0
theorem runmath_bitsLen8 : ∀ x, run Emath_bitsLen8 36 cmath_bitsLen8 x = bmath_bitsLen8 x
  | ((x0, ()), ()) => by kernel_rfl
theorem Smath_bitsLen8 : Spec Try.prog 36 cmath_bitsLen8.fc :=
  spec_fn (bs := []) (inl := []) (ls := []) mixed hcs_nil (by kernel_rfl) (by kernel_rfl) (by decide) (by kernel_rfl) trivial omath_bitsLen8 (fun x => trS_get (omath_bitsLen8 x)) (fun x => (runmath_bitsLen8 x).trans (omath_bitsLen8_eq x).symm)
/- function 20: (.d .id) (.d .id) -/
noncomputable def ridentCommonx3 (x : ((Unit × (Unit × (Int × (Int × Unit)))) × (Am.Id × (Am.Id × Unit)))) : Option (((Unit × (Unit × (Int × (Int × Unit)))) × (Am.Id × (Am.Id × Unit))) ⊕ (((Int × Unit) × Unit) ⊕ Empty)) := match x with
  | (((), ((), (x0, (x1, ())))), (x2, (x3, ()))) => bif ilt x1 32 then bif bif ile 0 x1 then ilt x1 32 else false then bif bif ile 0 x1 then ilt x1 32 else false then bS (omath_bitsLeadingZeros8 ((iu8 (bitsI BinOp.xor IntKind.u8 (u8i (idget x2 (inat x1))) (u8i (idget x3 (inat x1)))), ()), ())) fun v0 => bif ilt v0.fst.fst 8 then some (Sum.inr (Sum.inl ((iwrap IntKind.i64 (iadd x0 v0.fst.fst), ()), ()))) else some (Sum.inl (((), (), iwrap IntKind.i64 (iadd x0 v0.fst.fst), iwrap IntKind.i64 (iadd x1 1), ()), x2, x3, ())) else none else none else some (Sum.inr (Sum.inl ((x0, ()), ())))
noncomputable def widentCommonx3 : ((Unit × (Unit × (Int × (Int × Unit)))) × (Am.Id × (Am.Id × Unit))) → Option (((Int × Unit) × Unit) ⊕ Empty) := shut (whl ridentCommonx3)
noncomputable def lidentCommonx3 : Lp := { m := 26, up := [], ksE := [], ksA := [], keep := [2, 3, 5, 8], sh := (.cons (.loc 0 0) (.cons (.loc 1 0) (.cons (.d (.int .i64)) (.cons (.d (.int .i64)) .unit)))), ms := [.box (.d .id), .box (.d .id)], outs := [{ e := .exit 0, keep := [5], ks := [], sh := (.cons (.d (.int .i64)) .unit), ms := [] }], sum := fun x => (trO1 trO0) (widentCommonx3 x) }
noncomputable def bidentCommon (x : ((Am.Id × (Am.Id × Unit)) × Unit)) : Option ((Int × Unit) × Unit) := match x with
  | ((x0, (x1, ())), ()) => bL (widentCommonx3 (((), (), 0, 0, ()), x0, x1, ())) (fun v0 => some v0) fun u0 => none
noncomputable def oidentCommon : ((Am.Id × (Am.Id × Unit)) × Unit) → Option ((Int × Unit) × Unit) := shut bidentCommon
theorem oidentCommon_eq (x) : oidentCommon x = bidentCommon x := by rw [oidentCommon, shut_eq]
theorem widentCommonx3_eq (x) : widentCommonx3 x = whl ridentCommonx3 x := by rw [widentCommonx3, shut_eq]
noncomputable def cidentCommon : Ct := { ash := (.cons (.d .id) (.cons (.d .id) .unit)), ms := [], foot := false, up := [], rsh := (.cons (.d (.int .i64)) .unit), ks := [], ms' := [], G := fun x => trS (oidentCommon x) }
noncomputable def EidentCommon : Env := mkE Try.prog [(29, cmath_bitsLeadingZeros8.fc)] [] 20 [(3, .sum lidentCommonx3)] [] 0
theorem rdidentCommonx3 : ∀ x, round1 EidentCommon 20 lidentCommonx3 (loopAt Try.prog 20 0) x = ridentCommonx3 x
  | (((), ((), (x0, (x1, ())))), (x2, (x3, ()))) => by kernel_rfl
theorem runidentCommon : ∀ x, run EidentCommon 20 cidentCommon x = bidentCommon x
  | ((x0, (x1, ())), ()) => by kernel_rfl
theorem SidentCommon : Spec Try.prog 20 cidentCommon.fc :=
  spec_fn (bs := [loopAt Try.prog 20 0]) (inl := []) (ls := [(3, .sum lidentCommonx3)]) mixed (hcs_cons Smath_bitsLeadingZeros8 hcs_nil) (by kernel_rfl) (by kernel_rfl) (by decide) (by kernel_rfl) ⟨by kernel_rfl, lkOk_mk rdidentCommonx3 (fun x => ((trO1_get trO0_get) _).trans (widentCommonx3_eq x)) rfl, trivial⟩ oidentCommon (fun x => trS_get (oidentCommon x)) (fun x => (runidentCommon x).trans (oidentCommon_eq x).symm)
/- function 15:  -/
noncomputable def blaw01Alive (x : (Unit × Unit)) : Option ((Bool × Unit) × Unit) := match x with
  | ((), ()) => bS (oidentStep ((Id.zero, 3, ()), ())) fun v0 => bif ieq v0.fst.snd.fst 0 then bif bif ile 0 31 then ilt 31 32 else false then bif u8eq (idget v0.fst.fst (inat 31)) (iu8 8) then bS (oidentIn ((v0.fst.fst, idset Id.zero 31 (iu8 7), idset Id.zero 31 (iu8 9), ()), ())) fun v1 => bif v1.fst.fst then bS (oidentText ((v0.fst.fst, ()), ())) fun v2 => some ((ieq (dlen v2.fst.fst) 64, ()), ()) else some ((false, ()), ()) else some ((false, ()), ()) else none else some ((false, ()), ())
noncomputable def olaw01Alive : (Unit × Unit) → Option ((Bool × Unit) × Unit) := shut blaw01Alive
theorem olaw01Alive_eq (x) : olaw01Alive x = blaw01Alive x := by rw [olaw01Alive, shut_eq]
noncomputable def claw01Alive : Ct := { ash := .unit, ms := [], foot := false, up := [], rsh := (.cons (.d .bool) .unit), ks := [], ms' := [], G := fun x => trS (olaw01Alive x) }
noncomputable def Elaw01Alive : Env := mkE Try.prog [(10, cidentStep.fc), (18, cidentIn.fc), (25, cidentText.fc)] [] 15 [] [] 0
theorem runlaw01Alive : ∀ x, run Elaw01Alive 15 claw01Alive x = blaw01Alive x
  | ((), ()) => by kernel_rfl
theorem Slaw01Alive : Spec Try.prog 15 claw01Alive.fc :=
  spec_fn (bs := []) (inl := []) (ls := []) mixed (hcs_cons SidentStep (hcs_cons SidentIn (hcs_cons SidentText hcs_nil))) (by kernel_rfl) (by kernel_rfl) (by decide) (by kernel_rfl) trivial olaw01Alive (fun x => trS_get (olaw01Alive x)) (fun x => (runlaw01Alive x).trans (olaw01Alive_eq x).symm)
/- function 3: (.d .id) (.d .id) (.d (.int .i64)) -/
noncomputable def blaw01IdentWays (x : ((Am.Id × (Am.Id × (Int × Unit))) × Unit)) : Option ((Bool × Unit) × Unit) := match x with
  | ((x0, (x1, (x2, ()))), ()) => bS (oidentStep ((x0, x2, ()), ())) fun v0 => bS (oidentCompare ((x0, x1, ()), ())) fun v1 => bS (oref01Compare ((x0, x1, ()), ())) fun v2 => bif bif bif ieq v1.fst.fst v2.fst.fst then false else true then false else true then bS (oidentFar ((x0, x1, ()), ())) fun v3 => bS (oref01Far ((x0, x1, ()), ())) fun v4 => bif bif bif ideq v3.fst.fst v4.fst.fst then false else true then false else true then bS (olaw01Alive ((), ())) fun v5 => bif bif v5.fst.fst then false else true then some ((false, ()), ()) else bif bif ilt x2 0 then false else true then bif ilt 255 x2 then bif ieq v0.fst.snd.fst 1 then some ((ideq v0.fst.fst Id.zero, ()), ()) else some ((false, ()), ()) else bif ieq v0.fst.snd.fst 0 then bS (oref01Power ((x2, ()), ())) fun v6 => bS (oref01Add ((x0, v6.fst), ())) fun v7 => some ((ideq v0.fst.fst v7.fst.fst, ()), ()) else some ((false, ()), ()) else bif ieq v0.fst.snd.fst 1 then some ((ideq v0.fst.fst Id.zero, ()), ()) else some ((false, ()), ()) else some ((false, ()), ()) else some ((false, ()), ())
noncomputable def olaw01IdentWays : ((Am.Id × (Am.Id × (Int × Unit))) × Unit) → Option ((Bool × Unit) × Unit) := shut blaw01IdentWays
theorem olaw01IdentWays_eq (x) : olaw01IdentWays x = blaw01IdentWays x := by rw [olaw01IdentWays, shut_eq]
noncomputable def claw01IdentWays : Ct := { ash := (.cons (.d .id) (.cons (.d .id) (.cons (.d (.int .i64)) .unit))), ms := [], foot := false, up := [], rsh := (.cons (.d .bool) .unit), ks := [], ms' := [], G := fun x => trS (olaw01IdentWays x) }
noncomputable def Elaw01IdentWays : Env := mkE Try.prog [(10, cidentStep.fc), (11, cidentCompare.fc), (12, cref01Compare.fc), (13, cidentFar.fc), (14, cref01Far.fc), (15, claw01Alive.fc), (17, cref01Power.fc), (16, cref01Add.fc)] [] 3 [] [] 0
theorem runlaw01IdentWays : ∀ x, run Elaw01IdentWays 3 claw01IdentWays x = blaw01IdentWays x
  | ((x0, (x1, (x2, ()))), ()) => by kernel_rfl
theorem Slaw01IdentWays : Spec Try.prog 3 claw01IdentWays.fc :=
  spec_fn (bs := []) (inl := []) (ls := []) mixed (hcs_cons SidentStep (hcs_cons SidentCompare (hcs_cons Sref01Compare (hcs_cons SidentFar (hcs_cons Sref01Far (hcs_cons Slaw01Alive (hcs_cons Sref01Power (hcs_cons Sref01Add hcs_nil)))))))) (by kernel_rfl) (by kernel_rfl) (by decide) (by kernel_rfl) trivial olaw01IdentWays (fun x => trS_get (olaw01IdentWays x)) (fun x => (runlaw01IdentWays x).trans (olaw01IdentWays_eq x).symm)
/- function 4: (.d .id) (.d .id) (.d .id) -/
noncomputable def blaw01IdentRounds (x : ((Am.Id × (Am.Id × (Am.Id × Unit))) × Unit)) : Option ((Bool × Unit) × Unit) := match x with
  | ((x0, (x1, (x2, ()))), ()) => bS (oidentFar ((x0, x1, ()), ())) fun v0 => bS (oidentFar ((x1, x2, ()), ())) fun v1 => bS (oref01Add ((v0.fst.fst, v1.fst), ())) fun v2 => bS (oidentFar ((x0, x2, ()), ())) fun v3 => bif bif bif ideq v2.fst.fst v3.fst.fst then false else true then false else true then bS (oidentFar ((x0, x1, ()), ())) fun v4 => bS (oidentFar ((x1, x0, ()), ())) fun v5 => bS (oref01Add ((v0.fst.fst, v5.fst), ())) fun v6 => bif bif bif ideq v6.fst.fst Id.zero then false else true then false else true then bS (olaw01Alive ((), ())) fun v7 => bif bif v7.fst.fst then false else true then some ((false, ()), ()) else bS (oidentFar ((x0, x1, ()), ())) fun v8 => bS (oref01Add ((x0, v0.fst), ())) fun v9 => bif ideq v9.fst.fst x1 then bS (oidentFar ((x0, x0, ()), ())) fun v10 => bif ideq v10.fst.fst Id.zero then bS (oidentFar ((x0, x1, ()), ())) fun v11 => some ((beq (ideq v0.fst.fst Id.zero) (ideq x0 x1), ()), ()) else some ((false, ()), ()) else some ((false, ()), ()) else some ((false, ()), ()) else some ((false, ()), ())
noncomputable def olaw01IdentRounds : ((Am.Id × (Am.Id × (Am.Id × Unit))) × Unit) → Option ((Bool × Unit) × Unit) := shut blaw01IdentRounds
theorem olaw01IdentRounds_eq (x) : olaw01IdentRounds x = blaw01IdentRounds x := by rw [olaw01IdentRounds, shut_eq]
noncomputable def claw01IdentRounds : Ct := { ash := (.cons (.d .id) (.cons (.d .id) (.cons (.d .id) .unit))), ms := [], foot := false, up := [], rsh := (.cons (.d .bool) .unit), ks := [], ms' := [], G := fun x => trS (olaw01IdentRounds x) }
noncomputable def Elaw01IdentRounds : Env := mkE Try.prog [(13, cidentFar.fc), (16, cref01Add.fc), (15, claw01Alive.fc)] [] 4 [] [] 0
theorem runlaw01IdentRounds : ∀ x, run Elaw01IdentRounds 4 claw01IdentRounds x = blaw01IdentRounds x
  | ((x0, (x1, (x2, ()))), ()) => by kernel_rfl
theorem Slaw01IdentRounds : Spec Try.prog 4 claw01IdentRounds.fc :=
  spec_fn (bs := []) (inl := []) (ls := []) mixed (hcs_cons SidentFar (hcs_cons Sref01Add (hcs_cons Slaw01Alive hcs_nil))) (by kernel_rfl) (by kernel_rfl) (by decide) (by kernel_rfl) trivial olaw01IdentRounds (fun x => trS_get (olaw01IdentRounds x)) (fun x => (runlaw01IdentRounds x).trans (olaw01IdentRounds_eq x).symm)
/- function 5: (.d .id) (.d .id) (.d .id) -/
noncomputable def blaw01IdentThree (x : ((Am.Id × (Am.Id × (Am.Id × Unit))) × Unit)) : Option ((Bool × Unit) × Unit) := match x with
  | ((x0, (x1, (x2, ()))), ()) => bif ideq x1 x2 then bS (olaw01Alive ((), ())) fun v0 => bif v0.fst.fst then bS (oidentIn ((x0, x1, x2, ()), ())) fun v1 => some v1 else some ((false, ()), ()) else bS (oidentIn ((x0, x1, x2, ()), ())) fun v0 => bS (oidentIn ((x0, x2, x1, ()), ())) fun v1 => bif bif beq v0.fst.fst v1.fst.fst then false else true then bS (olaw01Alive ((), ())) fun v2 => bif bif v2.fst.fst then false else true then some ((false, ()), ()) else bif bif ideq x0 x1 then false else true then bif ideq x0 x2 then some ((beq v0.fst.fst (ideq x0 x2), ()), ()) else bS (oidentIn ((x0, x1, x2, ()), ())) fun v3 => bS (oidentIn ((x2, x0, x1, ()), ())) fun v4 => bif beq v0.fst.fst v4.fst.fst then bS (oidentIn ((x0, x1, x2, ()), ())) fun v5 => bS (oidentIn ((x1, x2, x0, ()), ())) fun v6 => some ((beq v0.fst.fst v6.fst.fst, ()), ()) else some ((false, ()), ()) else some ((beq v0.fst.fst (ideq x0 x2), ()), ()) else some ((false, ()), ())
noncomputable def olaw01IdentThree : ((Am.Id × (Am.Id × (Am.Id × Unit))) × Unit) → Option ((Bool × Unit) × Unit) := shut blaw01IdentThree
theorem olaw01IdentThree_eq (x) : olaw01IdentThree x = blaw01IdentThree x := by rw [olaw01IdentThree, shut_eq]
noncomputable def claw01IdentThree : Ct := { ash := (.cons (.d .id) (.cons (.d .id) (.cons (.d .id) .unit))), ms := [], foot := false, up := [], rsh := (.cons (.d .bool) .unit), ks := [], ms' := [], G := fun x => trS (olaw01IdentThree x) }
noncomputable def Elaw01IdentThree : Env := mkE Try.prog [(15, claw01Alive.fc), (18, cidentIn.fc)] [] 5 [] [] 0
theorem runlaw01IdentThree : ∀ x, run Elaw01IdentThree 5 claw01IdentThree x = blaw01IdentThree x
  | ((x0, (x1, (x2, ()))), ()) => by kernel_rfl
theorem Slaw01IdentThree : Spec Try.prog 5 claw01IdentThree.fc :=
  spec_fn (bs := []) (inl := []) (ls := []) mixed (hcs_cons Slaw01Alive (hcs_cons SidentIn hcs_nil)) (by kernel_rfl) (by kernel_rfl) (by decide) (by kernel_rfl) trivial olaw01IdentThree (fun x => trS_get (olaw01IdentThree x)) (fun x => (runlaw01IdentThree x).trans (olaw01IdentThree_eq x).symm)
/- function 6: (.d .id) (.d (.int .i64)) (.d (.int .i64)) -/
noncomputable def blaw01IdentSteps (x : ((Am.Id × (Int × (Int × Unit))) × Unit)) : Option ((Bool × Unit) × Unit) := match x with
  | ((x0, (x1, (x2, ()))), ()) => bif bif ieq 255 0 then false else true then bif bif ieq 255 0 then false else true then bif bif ieq 255 0 then false else true then bif bif ieq 255 0 then false else true then bS (oidentStep ((x0, irem (iwrap IntKind.i64 (iadd (irem x2 255) 255)) 255, ()), ())) fun v0 => bS (oidentStep ((v0.fst.fst, irem (iwrap IntKind.i64 (iadd (irem x2 255) 255)) 255, ()), ())) fun v1 => bS (oidentStep ((x0, iwrap IntKind.i64 (iadd (irem (iwrap IntKind.i64 (iadd (irem x2 255) 255)) 255) 1), ()), ())) fun v2 => bS (oidentStep ((v0.fst.fst, irem (iwrap IntKind.i64 (iadd (irem x1 255) 255)) 255, ()), ())) fun v3 => bS (oidentStep ((x0, irem (iwrap IntKind.i64 (iadd (irem x1 255) 255)) 255, ()), ())) fun v4 => bS (oidentStep ((v4.fst.fst, irem (iwrap IntKind.i64 (iadd (irem x2 255) 255)) 255, ()), ())) fun v5 => bif bif bif ieq v0.fst.snd.fst 0 then false else true then false else true then bif bif bif ieq v1.fst.snd.fst 0 then false else true then false else true then bif bif bif ieq v2.fst.snd.fst 0 then false else true then false else true then bif bif bif ieq v3.fst.snd.fst 0 then false else true then false else true then bif bif bif ieq v4.fst.snd.fst 0 then false else true then false else true then bif bif bif ieq v5.fst.snd.fst 0 then false else true then false else true then bS (olaw01Alive ((), ())) fun v6 => bif bif v6.fst.fst then false else true then some ((false, ()), ()) else bif ideq v1.fst.fst v2.fst.fst then bif ideq v3.fst.fst v5.fst.fst then bS (oidentFar ((x0, v0.fst.fst, ()), ())) fun v7 => bS (oref01Power ((irem (iwrap IntKind.i64 (iadd (irem x2 255) 255)) 255, ()), ())) fun v8 => some ((ideq v7.fst.fst v8.fst.fst, ()), ()) else some ((false, ()), ()) else some ((false, ()), ()) else some ((false, ()), ()) else some ((false, ()), ()) else some ((false, ()), ()) else some ((false, ()), ()) else some ((false, ()), ()) else some ((false, ()), ()) else none else none else none else none
noncomputable def olaw01IdentSteps : ((Am.Id × (Int × (Int × Unit))) × Unit) → Option ((Bool × Unit) × Unit) := shut blaw01IdentSteps
theorem olaw01IdentSteps_eq (x) : olaw01IdentSteps x = blaw01IdentSteps x := by rw [olaw01IdentSteps, shut_eq]
noncomputable def claw01IdentSteps : Ct := { ash := (.cons (.d .id) (.cons (.d (.int .i64)) (.cons (.d (.int .i64)) .unit))), ms := [], foot := false, up := [], rsh := (.cons (.d .bool) .unit), ks := [], ms' := [], G := fun x => trS (olaw01IdentSteps x) }
noncomputable def Elaw01IdentSteps : Env := mkE Try.prog [(10, cidentStep.fc), (15, claw01Alive.fc), (13, cidentFar.fc), (17, cref01Power.fc)] [] 6 [] [] 0
theorem runlaw01IdentSteps : ∀ x, run Elaw01IdentSteps 6 claw01IdentSteps x = blaw01IdentSteps x
  | ((x0, (x1, (x2, ()))), ()) => by kernel_rfl
theorem Slaw01IdentSteps : Spec Try.prog 6 claw01IdentSteps.fc :=
  spec_fn (bs := []) (inl := []) (ls := []) mixed (hcs_cons SidentStep (hcs_cons Slaw01Alive (hcs_cons SidentFar (hcs_cons Sref01Power hcs_nil)))) (by kernel_rfl) (by kernel_rfl) (by decide) (by kernel_rfl) trivial olaw01IdentSteps (fun x => trS_get (olaw01IdentSteps x)) (fun x => (runlaw01IdentSteps x).trans (olaw01IdentSteps_eq x).symm)
/- function 19: (.d .id) (.d .id) (.d .id) -/
noncomputable def bref01In (x : ((Am.Id × (Am.Id × (Am.Id × Unit))) × Unit)) : Option ((Bool × Unit) × Unit) := match x with
  | ((x0, (x1, (x2, ()))), ()) => bif ideq x1 x2 then some ((true, ()), ()) else bS (oref01Compare ((x1, x2, ()), ())) fun v0 => bif ilt v0.fst.fst 0 then bS (oref01Compare ((x1, x0, ()), ())) fun v1 => bif ilt v1.fst.fst 0 then bS (oref01Compare ((x0, x2, ()), ())) fun v2 => some ((ile v2.fst.fst 0, ()), ()) else some ((false, ()), ()) else bS (oref01Compare ((x1, x0, ()), ())) fun v1 => bif bif ilt v1.fst.fst 0 then false else true then bS (oref01Compare ((x0, x2, ()), ())) fun v2 => some ((ile v2.fst.fst 0, ()), ()) else some ((true, ()), ())
noncomputable def oref01In : ((Am.Id × (Am.Id × (Am.Id × Unit))) × Unit) → Option ((Bool × Unit) × Unit) := shut bref01In
theorem oref01In_eq (x) : oref01In x = bref01In x := by rw [oref01In, shut_eq]
noncomputable def cref01In : Ct := { ash := (.cons (.d .id) (.cons (.d .id) (.cons (.d .id) .unit))), ms := [], foot := false, up := [], rsh := (.cons (.d .bool) .unit), ks := [], ms' := [], G := fun x => trS (oref01In x) }
noncomputable def Eref01In : Env := mkE Try.prog [(12, cref01Compare.fc)] [] 19 [] [] 0
theorem runref01In : ∀ x, run Eref01In 19 cref01In x = bref01In x
  | ((x0, (x1, (x2, ()))), ()) => by kernel_rfl
theorem Sref01In : Spec Try.prog 19 cref01In.fc :=
  spec_fn (bs := []) (inl := []) (ls := []) mixed (hcs_cons Sref01Compare hcs_nil) (by kernel_rfl) (by kernel_rfl) (by decide) (by kernel_rfl) trivial oref01In (fun x => trS_get (oref01In x)) (fun x => (runref01In x).trans (oref01In_eq x).symm)
/- function 21: (.d .id) (.d .id) -/
noncomputable def rref01Commonx2 (x : ((Unit × (Unit × (Int × Unit))) × (Am.Id × (Am.Id × Unit)))) : Option (((Unit × (Unit × (Int × Unit))) × (Am.Id × (Am.Id × Unit))) ⊕ (((Int × Unit) × Unit) ⊕ Empty)) := match x with
  | (((), ((), (x0, ()))), (x1, (x2, ()))) => bif ilt x0 256 then bS (oref01Bit ((x1, x0, ()), ())) fun v0 => bS (oref01Bit ((x2, x0, ()), ())) fun v1 => bif ieq v0.fst.fst v1.fst.fst then some (Sum.inl (((), (), iwrap IntKind.i64 (iadd x0 1), ()), x1, x2, ())) else some (Sum.inr (Sum.inl ((x0, ()), ()))) else some (Sum.inr (Sum.inl ((x0, ()), ())))
noncomputable def wref01Commonx2 : ((Unit × (Unit × (Int × Unit))) × (Am.Id × (Am.Id × Unit))) → Option (((Int × Unit) × Unit) ⊕ Empty) := shut (whl rref01Commonx2)
noncomputable def lref01Commonx2 : Lp := { m := 20, up := [], ksE := [], ksA := [], keep := [2, 3, 5], sh := (.cons (.loc 0 0) (.cons (.loc 1 0) (.cons (.d (.int .i64)) .unit))), ms := [.box (.d .id), .box (.d .id)], outs := [{ e := .exit 0, keep := [5], ks := [], sh := (.cons (.d (.int .i64)) .unit), ms := [] }], sum := fun x => (trO1 trO0) (wref01Commonx2 x) }
noncomputable def bref01Common (x : ((Am.Id × (Am.Id × Unit)) × Unit)) : Option ((Int × Unit) × Unit) := match x with
  | ((x0, (x1, ())), ()) => bL (wref01Commonx2 (((), (), 0, ()), x0, x1, ())) (fun v0 => some v0) fun u0 => none
noncomputable def oref01Common : ((Am.Id × (Am.Id × Unit)) × Unit) → Option ((Int × Unit) × Unit) := shut bref01Common
theorem oref01Common_eq (x) : oref01Common x = bref01Common x := by rw [oref01Common, shut_eq]
theorem wref01Commonx2_eq (x) : wref01Commonx2 x = whl rref01Commonx2 x := by rw [wref01Commonx2, shut_eq]
noncomputable def cref01Common : Ct := { ash := (.cons (.d .id) (.cons (.d .id) .unit)), ms := [], foot := false, up := [], rsh := (.cons (.d (.int .i64)) .unit), ks := [], ms' := [], G := fun x => trS (oref01Common x) }
noncomputable def Eref01Common : Env := mkE Try.prog [(22, cref01Bit.fc)] [] 21 [(2, .sum lref01Commonx2)] [] 0
theorem rdref01Commonx2 : ∀ x, round1 Eref01Common 21 lref01Commonx2 (loopAt Try.prog 21 0) x = rref01Commonx2 x
  | (((), ((), (x0, ()))), (x1, (x2, ()))) => by kernel_rfl
theorem runref01Common : ∀ x, run Eref01Common 21 cref01Common x = bref01Common x
  | ((x0, (x1, ())), ()) => by kernel_rfl
theorem Sref01Common : Spec Try.prog 21 cref01Common.fc :=
  spec_fn (bs := [loopAt Try.prog 21 0]) (inl := []) (ls := [(2, .sum lref01Commonx2)]) mixed (hcs_cons Sref01Bit hcs_nil) (by kernel_rfl) (by kernel_rfl) (by decide) (by kernel_rfl) ⟨by kernel_rfl, lkOk_mk rdref01Commonx2 (fun x => ((trO1_get trO0_get) _).trans (wref01Commonx2_eq x)) rfl, trivial⟩ oref01Common (fun x => trS_get (oref01Common x)) (fun x => (runref01Common x).trans (oref01Common_eq x).symm)
/- function 7: (.d .id) (.d .id) (.d .id) -/
noncomputable def blaw01IdentBetween (x : ((Am.Id × (Am.Id × (Am.Id × Unit))) × Unit)) : Option ((Bool × Unit) × Unit) := match x with
  | ((x0, (x1, (x2, ()))), ()) => bS (olaw01Alive ((), ())) fun v0 => bif v0.fst.fst then bS (oidentIn ((x0, x1, x2, ()), ())) fun v1 => bS (oref01In ((x0, x1, x2, ()), ())) fun v2 => bif beq v1.fst.fst v2.fst.fst then bS (oidentCommon ((x1, x2, ()), ())) fun v3 => bS (oref01Common ((x1, x2, ()), ())) fun v4 => bif ieq v3.fst.fst v4.fst.fst then bS (oidentIn ((x2, x1, x2, ()), ())) fun v5 => bif v5.fst.fst then bif bif ideq x1 x2 then false else true then bS (oidentIn ((x1, x1, x2, ()), ())) fun v6 => some ((bif v6.fst.fst then false else true, ()), ()) else some ((true, ()), ()) else some ((false, ()), ()) else some ((false, ()), ()) else some ((false, ()), ()) else some ((false, ()), ())
noncomputable def olaw01IdentBetween : ((Am.Id × (Am.Id × (Am.Id × Unit))) × Unit) → Option ((Bool × Unit) × Unit) := shut blaw01IdentBetween
theorem olaw01IdentBetween_eq (x) : olaw01IdentBetween x = blaw01IdentBetween x := by rw [olaw01IdentBetween, shut_eq]
noncomputable def claw01IdentBetween : Ct := { ash := (.cons (.d .id) (.cons (.d .id) (.cons (.d .id) .unit))), ms := [], foot := false, up := [], rsh := (.cons (.d .bool) .unit), ks := [], ms' := [], G := fun x => trS (olaw01IdentBetween x) }
noncomputable def Elaw01IdentBetween : Env := mkE Try.prog [(15, claw01Alive.fc), (18, cidentIn.fc), (19, cref01In.fc), (20, cidentCommon.fc), (21, cref01Common.fc)] [] 7 [] [] 0
theorem runlaw01IdentBetween : ∀ x, run Elaw01IdentBetween 7 claw01IdentBetween x = blaw01IdentBetween x
  | ((x0, (x1, (x2, ()))), ()) => by kernel_rfl
theorem Slaw01IdentBetween : Spec Try.prog 7 claw01IdentBetween.fc :=
  spec_fn (bs := []) (inl := []) (ls := []) mixed (hcs_cons Slaw01Alive (hcs_cons SidentIn (hcs_cons Sref01In (hcs_cons SidentCommon (hcs_cons Sref01Common hcs_nil))))) (by kernel_rfl) (by kernel_rfl) (by decide) (by kernel_rfl) trivial olaw01IdentBetween (fun x => trS_get (olaw01IdentBetween x)) (fun x => (runlaw01IdentBetween x).trans (olaw01IdentBetween_eq x).symm)
/- function 8: (.d .id) (.d .id) (.d .id) -/
noncomputable def blaw01IdentBits (x : ((Am.Id × (Am.Id × (Am.Id × Unit))) × Unit)) : Option ((Bool × Unit) × Unit) := match x with
  | ((x0, (x1, (x2, ()))), ()) => bS (oidentCommon ((x0, x1, ()), ())) fun v0 => bif bif ilt v0.fst.fst 0 then false else true then bif bif ilt 256 v0.fst.fst then false else true then bS (oidentCommon ((x1, x0, ()), ())) fun v1 => bif bif bif ieq v0.fst.fst v1.fst.fst then false else true then false else true then bif bif bif beq (ieq v0.fst.fst 256) (ideq x0 x1) then false else true then false else true then bif ilt v0.fst.fst 256 then bS (oref01Bit ((x0, v0.fst), ())) fun v2 => bS (oref01Bit ((x1, v0.fst), ())) fun v3 => bif bif ieq v2.fst.fst v3.fst.fst then false else true then bS (olaw01Alive ((), ())) fun v4 => bif bif v4.fst.fst then false else true then some ((false, ()), ()) else bS (oidentCommon ((x0, x2, ()), ())) fun v5 => bif bif ile v0.fst.fst v5.fst.fst then false else true then bS (oidentCompare ((x1, x2, ()), ())) fun v6 => bS (oidentCompare ((x0, x2, ()), ())) fun v7 => bif ieq v6.fst.fst v7.fst.fst then bS (oidentCommon ((x1, x2, ()), ())) fun v8 => some ((ieq v8.fst.fst v5.fst.fst, ()), ()) else some ((false, ()), ()) else some ((true, ()), ()) else some ((false, ()), ()) else bS (olaw01Alive ((), ())) fun v2 => bif bif v2.fst.fst then false else true then some ((false, ()), ()) else bS (oidentCommon ((x0, x2, ()), ())) fun v3 => bif bif ile v0.fst.fst v3.fst.fst then false else true then bS (oidentCompare ((x1, x2, ()), ())) fun v4 => bS (oidentCompare ((x0, x2, ()), ())) fun v5 => bif ieq v4.fst.fst v5.fst.fst then bS (oidentCommon ((x1, x2, ()), ())) fun v6 => some ((ieq v6.fst.fst v3.fst.fst, ()), ()) else some ((false, ()), ()) else some ((true, ()), ()) else some ((false, ()), ()) else some ((false, ()), ()) else some ((false, ()), ()) else some ((false, ()), ())
noncomputable def olaw01IdentBits : ((Am.Id × (Am.Id × (Am.Id × Unit))) × Unit) → Option ((Bool × Unit) × Unit) := shut blaw01IdentBits
theorem olaw01IdentBits_eq (x) : olaw01IdentBits x = blaw01IdentBits x := by rw [olaw01IdentBits, shut_eq]
noncomputable def claw01IdentBits : Ct := { ash := (.cons (.d .id) (.cons (.d .id) (.cons (.d .id) .unit))), ms := [], foot := false, up := [], rsh := (.cons (.d .bool) .unit), ks := [], ms' := [], G := fun x => trS (olaw01IdentBits x) }
noncomputable def Elaw01IdentBits : Env := mkE Try.prog [(20, cidentCommon.fc), (22, cref01Bit.fc), (15, claw01Alive.fc), (11, cidentCompare.fc)] [] 8 [] [] 0
theorem runlaw01IdentBits : ∀ x, run Elaw01IdentBits 8 claw01IdentBits x = blaw01IdentBits x
  | ((x0, (x1, (x2, ()))), ()) => by kernel_rfl
theorem Slaw01IdentBits : Spec Try.prog 8 claw01IdentBits.fc :=
  spec_fn (bs := []) (inl := []) (ls := []) mixed (hcs_cons SidentCommon (hcs_cons Sref01Bit (hcs_cons Slaw01Alive (hcs_cons SidentCompare hcs_nil)))) (by kernel_rfl) (by kernel_rfl) (by decide) (by kernel_rfl) trivial olaw01IdentBits (fun x => trS_get (olaw01IdentBits x)) (fun x => (runlaw01IdentBits x).trans (olaw01IdentBits_eq x).symm)
end Am
end Go.Proofs.Ytalleiogpibckaa
