/-
  Printed contracts, part 2.
-/
import Derived.Test.YtalleiogpibckaaIe1
namespace Go.Proofs.Ytalleiogpibckaa
namespace Am
open Go Go.RowKit
set_option maxRecDepth 100000
set_option linter.unusedVariables false
/- function 23: (.d .str) -/
noncomputable def ridentParsex5 (x : ((List UInt8 × (Unit × (Unit × (Int × Unit)))) × (Am.Id × (Am.Id × Unit)))) : Option (((List UInt8 × (Unit × (Unit × (Int × Unit)))) × (Am.Id × (Am.Id × Unit))) ⊕ (((Unit × (Unit × Unit)) × (Am.Id × (Am.Id × Unit))) ⊕ (((Unit × (Int × Unit)) × (Am.Id × Unit)) ⊕ Empty))) := match x with
  | ((x0, ((), ((), (x1, ())))), (x2, (x3, ()))) => bif ilt x1 32 then bif bif ile 0 (iwrap IntKind.i64 (imul 2 x1)) then ilt (iwrap IntKind.i64 (imul 2 x1)) (dlen x0) else false then bS (ostringsIndexByte (([48, 49, 50, 51, 52, 53, 54, 55, 56, 57, 97, 98, 99, 100, 101, 102], sget x0 (iwrap IntKind.i64 (imul 2 x1)), ()), ())) fun v0 => bif bif ile 0 (iwrap IntKind.i64 (iadd (iwrap IntKind.i64 (imul 2 x1)) 1)) then ilt (iwrap IntKind.i64 (iadd (iwrap IntKind.i64 (imul 2 x1)) 1)) (dlen x0) else false then bS (ostringsIndexByte (([48, 49, 50, 51, 52, 53, 54, 55, 56, 57, 97, 98, 99, 100, 101, 102], sget x0 (iwrap IntKind.i64 (iadd (iwrap IntKind.i64 (imul 2 x1)) 1)), ()), ())) fun v1 => bif bif ilt v0.fst.fst 0 then false else true then bif ilt v1.fst.fst 0 then some (Sum.inr (Sum.inr (Sum.inl (((), 4, ()), Id.zero, ())))) else bif ile 0 4 then bif bif ile 0 x1 then ilt x1 32 else false then some (Sum.inl ((x0, (), (), iwrap IntKind.i64 (iadd x1 1), ()), x2, idset x3 (inat x1) (iu8 (iwrap IntKind.u8 (bitsI BinOp.or IntKind.i64 (iwrap IntKind.i64 (ishl v0.fst.fst (ibits 4 IntKind.i64))) v1.fst.fst))), ())) else none else none else some (Sum.inr (Sum.inr (Sum.inl (((), 4, ()), Id.zero, ())))) else none else none else some (Sum.inr (Sum.inl (((), (), ()), x2, x3, ())))
noncomputable def widentParsex5 : ((List UInt8 × (Unit × (Unit × (Int × Unit)))) × (Am.Id × (Am.Id × Unit))) → Option (((Unit × (Unit × Unit)) × (Am.Id × (Am.Id × Unit))) ⊕ (((Unit × (Int × Unit)) × (Am.Id × Unit)) ⊕ Empty)) := shut (whl ridentParsex5)
noncomputable def lidentParsex5 : Lp := { m := 42, up := [], ksE := [], ksA := [], keep := [0, 2, 4, 12], sh := (.cons (.d .str) (.cons (.loc 0 0) (.cons (.loc 1 0) (.cons (.d (.int .i64)) .unit)))), ms := [.box (.d .id), .box (.d .id)], outs := [{ e := .exit 0, keep := [2, 4], ks := [], sh := (.cons (.loc 0 0) (.cons (.loc 1 0) .unit)), ms := [.box (.d .id), .box (.d .id)] }, { e := .ret, keep := [2, 3], ks := [], sh := (.cons (.loc 0 0) (.cons (.d (.int .i64)) .unit)), ms := [.box (.d .id)] }], sum := fun x => (trO1 (trO1 trO0)) (widentParsex5 x) }
noncomputable def bidentParse (x : ((List UInt8 × Unit) × Unit)) : Option ((Am.Id × (Int × Unit)) × Unit) := match x with
  | ((x0, ()), ()) => bif bif ieq (dlen x0) 64 then false else true then some ((Id.zero, 4, ()), ()) else bL (widentParsex5 ((x0, (), (), 0, ()), Id.zero, Id.zero, ())) (fun v0 => some ((v0.snd.snd.fst, 0, ()), ())) fun u0 => bL u0 (fun v1 => some ((v1.snd.fst, v1.fst.snd), ())) fun u1 => none
noncomputable def oidentParse : ((List UInt8 × Unit) × Unit) → Option ((Am.Id × (Int × Unit)) × Unit) := shut bidentParse
theorem oidentParse_eq (x) : oidentParse x = bidentParse x := by rw [oidentParse, shut_eq]
theorem widentParsex5_eq (x) : widentParsex5 x = whl ridentParsex5 x := by rw [widentParsex5, shut_eq]
noncomputable def cidentParse : Ct := { ash := (.cons (.d .str) .unit), ms := [], foot := false, up := [], rsh := (.cons (.d .id) (.cons (.d (.int .i64)) .unit)), ks := [], ms' := [], G := fun x => trS (oidentParse x) }
noncomputable def EidentParse : Env := mkE Try.prog [(30, cstringsIndexByte.fc)] [] 23 [(5, .sum lidentParsex5)] [] 0
theorem rdidentParsex5 : ∀ x, round1 EidentParse 23 lidentParsex5 (loopAt Try.prog 23 0) x = ridentParsex5 x
  | ((x0, ((), ((), (x1, ())))), (x2, (x3, ()))) => by kernel_rfl
theorem runidentParse : ∀ x, run EidentParse 23 cidentParse x = bidentParse x
  | ((x0, ()), ()) => by kernel_rfl
theorem SidentParse : Spec Try.prog 23 cidentParse.fc :=
  spec_fn (bs := [loopAt Try.prog 23 0]) (inl := []) (ls := [(5, .sum lidentParsex5)]) mixed (hcs_cons SstringsIndexByte hcs_nil) (by kernel_rfl) (by kernel_rfl) (by decide) (by kernel_rfl) ⟨by kernel_rfl, lkOk_mk rdidentParsex5 (fun x => ((trO1_get (trO1_get trO0_get)) _).trans (widentParsex5_eq x)) rfl, trivial⟩ oidentParse (fun x => trS_get (oidentParse x)) (fun x => (runidentParse x).trans (oidentParse_eq x).symm)
/- function 34: (.d .u8) -/
noncomputable def bref01Digit (x : ((UInt8 × Unit) × Unit)) : Option ((UInt8 × Unit) × Unit) := match x with
  | ((x0, ()), ()) => bif ilt (u8i x0) (u8i (iu8 10)) then some ((iu8 (iwrap IntKind.u8 (iadd (u8i (iu8 48)) (u8i x0))), ()), ()) else some ((iu8 (iwrap IntKind.u8 (isub (u8i (iu8 (iwrap IntKind.u8 (iadd (u8i (iu8 97)) (u8i x0))))) (u8i (iu8 10)))), ()), ())
noncomputable def oref01Digit : ((UInt8 × Unit) × Unit) → Option ((UInt8 × Unit) × Unit) := shut bref01Digit
theorem oref01Digit_eq (x) : oref01Digit x = bref01Digit x := by rw [oref01Digit, shut_eq]
noncomputable def cref01Digit : Ct := { ash := (.cons (.d .u8) .unit), ms := [], foot := false, up := [], rsh := (.cons (.d .u8) .unit), ks := [], ms' := [], G := fun x => trS (oref01Digit x) }
noncomputable def Eref01Digit : Env := mkE Try.prog [] [] 34 [] [] 0
theorem runref01Digit : ∀ x, run Eref01Digit 34 cref01Digit x = bref01Digit x
  | ((x0, ()), ()) => by kernel_rfl
theorem Sref01Digit : Spec Try.prog 34 cref01Digit.fc :=
  spec_fn (bs := []) (inl := []) (ls := []) mixed hcs_nil (by kernel_rfl) (by kernel_rfl) (by decide) (by kernel_rfl) trivial oref01Digit (fun x => trS_get (oref01Digit x)) (fun x => (runref01Digit x).trans (oref01Digit_eq x).symm)
/- function 31: (.d .u8) -/
noncomputable def rref01Halfx2 (x : ((UInt8 × (Int × Unit)) × Unit)) : Option (((UInt8 × (Int × Unit)) × Unit) ⊕ ((Unit × Unit) ⊕ (((Int × Unit) × Unit) ⊕ Empty))) := match x with
  | ((x0, (x1, ())), ()) => bif ilt x1 16 then bS (oref01Digit ((iu8 (iwrap IntKind.u8 x1), ()), ())) fun v0 => bif u8eq v0.fst.fst x0 then some (Sum.inr (Sum.inr (Sum.inl ((x1, ()), ())))) else some (Sum.inl ((x0, iwrap IntKind.i64 (iadd x1 1), ()), ())) else some (Sum.inr (Sum.inl ((), ())))
noncomputable def wref01Halfx2 : ((UInt8 × (Int × Unit)) × Unit) → Option ((Unit × Unit) ⊕ (((Int × Unit) × Unit) ⊕ Empty)) := shut (whl rref01Halfx2)
noncomputable def lref01Halfx2 : Lp := { m := 14, up := [], ksE := [], ksA := [], keep := [0, 3], sh := (.cons (.d .u8) (.cons (.d (.int .i64)) .unit)), ms := [], outs := [{ e := .exit 0, keep := [], ks := [], sh := .unit, ms := [] }, { e := .ret, keep := [2], ks := [], sh := (.cons (.d (.int .i64)) .unit), ms := [] }], sum := fun x => (trO1 (trO1 trO0)) (wref01Halfx2 x) }
noncomputable def bref01Half (x : ((UInt8 × Unit) × Unit)) : Option ((Int × Unit) × Unit) := match x with
  | ((x0, ()), ()) => bL (wref01Halfx2 ((x0, 0, ()), ())) (fun v0 => some ((16, ()), ())) fun u0 => bL u0 (fun v1 => some v1) fun u1 => none
noncomputable def oref01Half : ((UInt8 × Unit) × Unit) → Option ((Int × Unit) × Unit) := shut bref01Half
theorem oref01Half_eq (x) : oref01Half x = bref01Half x := by rw [oref01Half, shut_eq]
theorem wref01Halfx2_eq (x) : wref01Halfx2 x = whl rref01Halfx2 x := by rw [wref01Halfx2, shut_eq]
noncomputable def cref01Half : Ct := { ash := (.cons (.d .u8) .unit), ms := [], foot := false, up := [], rsh := (.cons (.d (.int .i64)) .unit), ks := [], ms' := [], G := fun x => trS (oref01Half x) }
noncomputable def Eref01Half : Env := mkE Try.prog [(34, cref01Digit.fc)] [] 31 [(2, .sum lref01Halfx2)] [] 0
theorem rdref01Halfx2 : ∀ x, round1 Eref01Half 31 lref01Halfx2 (loopAt Try.prog 31 0) x = rref01Halfx2 x
  | ((x0, (x1, ())), ()) => by kernel_rfl
theorem runref01Half : ∀ x, run Eref01Half 31 cref01Half x = bref01Half x
  | ((x0, ()), ()) => by kernel_rfl
theorem Sref01Half : Spec Try.prog 31 cref01Half.fc :=
  spec_fn (bs := [loopAt Try.prog 31 0]) (inl := []) (ls := [(2, .sum lref01Halfx2)]) mixed (hcs_cons Sref01Digit hcs_nil) (by kernel_rfl) (by kernel_rfl) (by decide) (by kernel_rfl) ⟨by kernel_rfl, lkOk_mk rdref01Halfx2 (fun x => ((trO1_get (trO1_get trO0_get)) _).trans (wref01Halfx2_eq x)) rfl, trivial⟩ oref01Half (fun x => trS_get (oref01Half x)) (fun x => (runref01Half x).trans (oref01Half_eq x).symm)
/- function 24: (.d .str) -/
noncomputable def rref01Parsex5 (x : ((List UInt8 × (Unit × (Unit × (Int × Unit)))) × (Am.Id × (Am.Id × Unit)))) : Option (((List UInt8 × (Unit × (Unit × (Int × Unit)))) × (Am.Id × (Am.Id × Unit))) ⊕ (((Unit × (Unit × Unit)) × (Am.Id × (Am.Id × Unit))) ⊕ (((Unit × (Bool × Unit)) × (Am.Id × Unit)) ⊕ Empty))) := match x with
  | ((x0, ((), ((), (x1, ())))), (x2, (x3, ()))) => bif ilt x1 32 then bif bif ile 0 (iwrap IntKind.i64 (imul 2 x1)) then ilt (iwrap IntKind.i64 (imul 2 x1)) (dlen x0) else false then bS (oref01Half ((sget x0 (iwrap IntKind.i64 (imul 2 x1)), ()), ())) fun v0 => bif bif ilt 15 v0.fst.fst then false else true then bif bif ile 0 (iwrap IntKind.i64 (iadd (iwrap IntKind.i64 (imul 2 x1)) 1)) then ilt (iwrap IntKind.i64 (iadd (iwrap IntKind.i64 (imul 2 x1)) 1)) (dlen x0) else false then bS (oref01Half ((sget x0 (iwrap IntKind.i64 (iadd (iwrap IntKind.i64 (imul 2 x1)) 1)), ()), ())) fun v1 => bif ilt 15 v1.fst.fst then some (Sum.inr (Sum.inr (Sum.inl (((), false, ()), Id.zero, ())))) else bif bif ile 0 (iwrap IntKind.i64 (imul 2 x1)) then ilt (iwrap IntKind.i64 (imul 2 x1)) (dlen x0) else false then bS (oref01Half ((sget x0 (iwrap IntKind.i64 (imul 2 x1)), ()), ())) fun v2 => bif bif ile 0 (iwrap IntKind.i64 (iadd (iwrap IntKind.i64 (imul 2 x1)) 1)) then ilt (iwrap IntKind.i64 (iadd (iwrap IntKind.i64 (imul 2 x1)) 1)) (dlen x0) else false then bS (oref01Half ((sget x0 (iwrap IntKind.i64 (iadd (iwrap IntKind.i64 (imul 2 x1)) 1)), ()), ())) fun v3 => bif bif ile 0 x1 then ilt x1 32 else false then some (Sum.inl ((x0, (), (), iwrap IntKind.i64 (iadd x1 1), ()), x2, idset x3 (inat x1) (iu8 (iwrap IntKind.u8 (iwrap IntKind.i64 (iadd (iwrap IntKind.i64 (imul 16 v0.fst.fst)) v1.fst.fst)))), ())) else none else none else none else none else some (Sum.inr (Sum.inr (Sum.inl (((), false, ()), Id.zero, ())))) else none else some (Sum.inr (Sum.inl (((), (), ()), x2, x3, ())))
noncomputable def wref01Parsex5 : ((List UInt8 × (Unit × (Unit × (Int × Unit)))) × (Am.Id × (Am.Id × Unit))) → Option (((Unit × (Unit × Unit)) × (Am.Id × (Am.Id × Unit))) ⊕ (((Unit × (Bool × Unit)) × (Am.Id × Unit)) ⊕ Empty)) := shut (whl rref01Parsex5)
noncomputable def lref01Parsex5 : Lp := { m := 48, up := [], ksE := [], ksA := [], keep := [0, 2, 4, 5], sh := (.cons (.d .str) (.cons (.loc 0 0) (.cons (.loc 1 0) (.cons (.d (.int .i64)) .unit)))), ms := [.box (.d .id), .box (.d .id)], outs := [{ e := .exit 0, keep := [2, 4], ks := [], sh := (.cons (.loc 0 0) (.cons (.loc 1 0) .unit)), ms := [.box (.d .id), .box (.d .id)] }, { e := .ret, keep := [2, 3], ks := [], sh := (.cons (.loc 0 0) (.cons (.d .bool) .unit)), ms := [.box (.d .id)] }], sum := fun x => (trO1 (trO1 trO0)) (wref01Parsex5 x) }
noncomputable def bref01Parse (x : ((List UInt8 × Unit) × Unit)) : Option ((Am.Id × (Bool × Unit)) × Unit) := match x with
  | ((x0, ()), ()) => bif bif ieq (dlen x0) 64 then false else true then some ((Id.zero, false, ()), ()) else bL (wref01Parsex5 ((x0, (), (), 0, ()), Id.zero, Id.zero, ())) (fun v0 => some ((v0.snd.snd.fst, true, ()), ())) fun u0 => bL u0 (fun v1 => some ((v1.snd.fst, v1.fst.snd), ())) fun u1 => none
noncomputable def oref01Parse : ((List UInt8 × Unit) × Unit) → Option ((Am.Id × (Bool × Unit)) × Unit) := shut bref01Parse
theorem oref01Parse_eq (x) : oref01Parse x = bref01Parse x := by rw [oref01Parse, shut_eq]
theorem wref01Parsex5_eq (x) : wref01Parsex5 x = whl rref01Parsex5 x := by rw [wref01Parsex5, shut_eq]
noncomputable def cref01Parse : Ct := { ash := (.cons (.d .str) .unit), ms := [], foot := false, up := [], rsh := (.cons (.d .id) (.cons (.d .bool) .unit)), ks := [], ms' := [], G := fun x => trS (oref01Parse x) }
noncomputable def Eref01Parse : Env := mkE Try.prog [(31, cref01Half.fc)] [] 24 [(5, .sum lref01Parsex5)] [] 0
theorem rdref01Parsex5 : ∀ x, round1 Eref01Parse 24 lref01Parsex5 (loopAt Try.prog 24 0) x = rref01Parsex5 x
  | ((x0, ((), ((), (x1, ())))), (x2, (x3, ()))) => by kernel_rfl
theorem runref01Parse : ∀ x, run Eref01Parse 24 cref01Parse x = bref01Parse x
  | ((x0, ()), ()) => by kernel_rfl
theorem Sref01Parse : Spec Try.prog 24 cref01Parse.fc :=
  spec_fn (bs := [loopAt Try.prog 24 0]) (inl := []) (ls := [(5, .sum lref01Parsex5)]) mixed (hcs_cons Sref01Half hcs_nil) (by kernel_rfl) (by kernel_rfl) (by decide) (by kernel_rfl) ⟨by kernel_rfl, lkOk_mk rdref01Parsex5 (fun x => ((trO1_get (trO1_get trO0_get)) _).trans (wref01Parsex5_eq x)) rfl, trivial⟩ oref01Parse (fun x => trS_get (oref01Parse x)) (fun x => (runref01Parse x).trans (oref01Parse_eq x).symm)
/- function 26: (.d .id) -/
noncomputable def rref01Textx3 (x : ((List UInt8 × (Am.Id × (Int × Unit))) × (Unit × Unit))) : Option (((List UInt8 × (Am.Id × (Int × Unit))) × (Unit × Unit)) ⊕ (((List UInt8 × Unit) × (Unit × Unit)) ⊕ Empty)) := match x with
  | ((x0, (x1, (x2, ()))), ((), ())) => bif ilt x2 32 then bif bif ile 0 x2 then ilt x2 32 else false then bif bif ieq (u8i (iu8 16)) 0 then false else true then bS (oref01Digit ((iu8 (iwrap IntKind.u8 (iquo (u8i (idget x1 (inat x2))) (u8i (iu8 16)))), ()), ())) fun v0 => bif bif ieq (u8i (iu8 16)) 0 then false else true then bS (oref01Digit ((iu8 (irem (u8i (idget x1 (inat x2))) (u8i (iu8 16))), ()), ())) fun v1 => bif fits (dlen x0) (dlen [v0.fst.fst, v1.fst.fst]) 1 then some (Sum.inl ((dapp x0 [v0.fst.fst, v1.fst.fst], x1, iwrap IntKind.i64 (iadd x2 1), ()), (), ())) else none else none else none else none else some (Sum.inr (Sum.inl ((x0, ()), (), ())))
noncomputable def wref01Textx3 : ((List UInt8 × (Am.Id × (Int × Unit))) × (Unit × Unit)) → Option (((List UInt8 × Unit) × (Unit × Unit)) ⊕ Empty) := shut (whl rref01Textx3)
noncomputable def lref01Textx3 : Lp := { m := 23, up := [], ksE := [], ksA := [], keep := [3, 7, 8], sh := (.cons (.own .u8 0) (.cons (.d .id) (.cons (.d (.int .i64)) .unit))), ms := [.row 5 1], outs := [{ e := .exit 0, keep := [3], ks := [], sh := (.cons (.own .u8 0) .unit), ms := [.row 5 1] }], sum := fun x => (trO1 trO0) (wref01Textx3 x) }
noncomputable def bref01Text (x : ((Am.Id × Unit) × Unit)) : Option ((List UInt8 × Unit) × Unit) := match x with
  | ((x0, ()), ()) => bL (wref01Textx3 (([], x0, 0, ()), (), ())) (fun v0 => some (v0.fst, ())) fun u0 => none
noncomputable def oref01Text : ((Am.Id × Unit) × Unit) → Option ((List UInt8 × Unit) × Unit) := shut bref01Text
theorem oref01Text_eq (x) : oref01Text x = bref01Text x := by rw [oref01Text, shut_eq]
theorem wref01Textx3_eq (x) : wref01Textx3 x = whl rref01Textx3 x := by rw [wref01Textx3, shut_eq]
noncomputable def cref01Text : Ct := { ash := (.cons (.d .id) .unit), ms := [], foot := false, up := [], rsh := (.cons (.d .str) .unit), ks := [], ms' := [], G := fun x => trS (oref01Text x) }
noncomputable def Eref01Text : Env := mkE Try.prog [(34, cref01Digit.fc)] [] 26 [(3, .sum lref01Textx3)] [] 0
theorem rdref01Textx3 : ∀ x, round1 Eref01Text 26 lref01Textx3 (loopAt Try.prog 26 0) x = rref01Textx3 x
  | ((x0, (x1, (x2, ()))), ((), ())) => by kernel_rfl
theorem runref01Text : ∀ x, run Eref01Text 26 cref01Text x = bref01Text x
  | ((x0, ()), ()) => by kernel_rfl
theorem Sref01Text : Spec Try.prog 26 cref01Text.fc :=
  spec_fn (bs := [loopAt Try.prog 26 0]) (inl := []) (ls := [(3, .sum lref01Textx3)]) mixed (hcs_cons Sref01Digit hcs_nil) (by kernel_rfl) (by kernel_rfl) (by decide) (by kernel_rfl) ⟨by kernel_rfl, lkOk_mk rdref01Textx3 (fun x => ((trO1_get trO0_get) _).trans (wref01Textx3_eq x)) rfl, trivial⟩ oref01Text (fun x => trS_get (oref01Text x)) (fun x => (runref01Text x).trans (oref01Text_eq x).symm)
/- function 9: (.d .id) (.d .str) -/
noncomputable def blaw01IdentReads (x : ((Am.Id × (List UInt8 × Unit)) × Unit)) : Option ((Bool × Unit) × Unit) := match x with
  | ((x0, (x1, ())), ()) => bif bif bif ile 0 0 then ile 0 (imin (dlen x1) 70) else false then ile (imin (dlen x1) 70) (dlen x1) else false then bS (oidentParse ((dsub x1 0 (imin (dlen x1) 70), ()), ())) fun v0 => bS (oref01Parse ((dsub x1 0 (imin (dlen x1) 70), ()), ())) fun v1 => bif bif bif ideq v0.fst.fst v1.fst.fst then false else true then false else true then bif bif bif beq (ieq v0.fst.snd.fst 0) v1.fst.snd.fst then false else true then false else true then bif bif v1.fst.snd.fst then false else true then bif bif bif ieq v0.fst.snd.fst 4 then false else true then false else true then bif v1.fst.snd.fst then bS (oidentText ((v0.fst.fst, ()), ())) fun v2 => bif bif bif seq v2.fst.fst (dsub x1 0 (imin (dlen x1) 70)) then false else true then false else true then bS (olaw01Alive ((), ())) fun v3 => bif bif v3.fst.fst then false else true then some ((false, ()), ()) else bS (oidentText ((x0, ()), ())) fun v4 => bS (oidentParse v4) fun v5 => bS (oidentText ((x0, ()), ())) fun v6 => bS (oref01Text ((x0, ()), ())) fun v7 => bif seq v4.fst.fst v7.fst.fst then bif ieq v5.fst.snd.fst 0 then some ((ideq v5.fst.fst x0, ()), ()) else some ((false, ()), ()) else some ((false, ()), ()) else some ((false, ()), ()) else bS (olaw01Alive ((), ())) fun v2 => bif bif v2.fst.fst then false else true then some ((false, ()), ()) else bS (oidentText ((x0, ()), ())) fun v3 => bS (oidentParse v3) fun v4 => bS (oidentText ((x0, ()), ())) fun v5 => bS (oref01Text ((x0, ()), ())) fun v6 => bif seq v3.fst.fst v6.fst.fst then bif ieq v4.fst.snd.fst 0 then some ((ideq v4.fst.fst x0, ()), ()) else some ((false, ()), ()) else some ((false, ()), ()) else some ((false, ()), ()) else bif v1.fst.snd.fst then bS (oidentText ((v0.fst.fst, ()), ())) fun v2 => bif bif bif seq v2.fst.fst (dsub x1 0 (imin (dlen x1) 70)) then false else true then false else true then bS (olaw01Alive ((), ())) fun v3 => bif bif v3.fst.fst then false else true then some ((false, ()), ()) else bS (oidentText ((x0, ()), ())) fun v4 => bS (oidentParse v4) fun v5 => bS (oidentText ((x0, ()), ())) fun v6 => bS (oref01Text ((x0, ()), ())) fun v7 => bif seq v4.fst.fst v7.fst.fst then bif ieq v5.fst.snd.fst 0 then some ((ideq v5.fst.fst x0, ()), ()) else some ((false, ()), ()) else some ((false, ()), ()) else some ((false, ()), ()) else bS (olaw01Alive ((), ())) fun v2 => bif bif v2.fst.fst then false else true then some ((false, ()), ()) else bS (oidentText ((x0, ()), ())) fun v3 => bS (oidentParse v3) fun v4 => bS (oidentText ((x0, ()), ())) fun v5 => bS (oref01Text ((x0, ()), ())) fun v6 => bif seq v3.fst.fst v6.fst.fst then bif ieq v4.fst.snd.fst 0 then some ((ideq v4.fst.fst x0, ()), ()) else some ((false, ()), ()) else some ((false, ()), ()) else some ((false, ()), ()) else some ((false, ()), ()) else none
noncomputable def olaw01IdentReads : ((Am.Id × (List UInt8 × Unit)) × Unit) → Option ((Bool × Unit) × Unit) := shut blaw01IdentReads
theorem olaw01IdentReads_eq (x) : olaw01IdentReads x = blaw01IdentReads x := by rw [olaw01IdentReads, shut_eq]
noncomputable def claw01IdentReads : Ct := { ash := (.cons (.d .id) (.cons (.d .str) .unit)), ms := [], foot := false, up := [], rsh := (.cons (.d .bool) .unit), ks := [], ms' := [], G := fun x => trS (olaw01IdentReads x) }
noncomputable def Elaw01IdentReads : Env := mkE Try.prog [(23, cidentParse.fc), (24, cref01Parse.fc), (25, cidentText.fc), (15, claw01Alive.fc), (26, cref01Text.fc)] [] 9 [] [] 0
theorem runlaw01IdentReads : ∀ x, run Elaw01IdentReads 9 claw01IdentReads x = blaw01IdentReads x
  | ((x0, (x1, ())), ()) => by kernel_rfl
theorem Slaw01IdentReads : Spec Try.prog 9 claw01IdentReads.fc :=
  spec_fn (bs := []) (inl := []) (ls := []) mixed (hcs_cons SidentParse (hcs_cons Sref01Parse (hcs_cons SidentText (hcs_cons Slaw01Alive (hcs_cons Sref01Text hcs_nil))))) (by kernel_rfl) (by kernel_rfl) (by decide) (by kernel_rfl) trivial olaw01IdentReads (fun x => trS_get (olaw01IdentReads x)) (fun x => (runlaw01IdentReads x).trans (olaw01IdentReads_eq x).symm)
end Am
end Go.Proofs.Ytalleiogpibckaa
