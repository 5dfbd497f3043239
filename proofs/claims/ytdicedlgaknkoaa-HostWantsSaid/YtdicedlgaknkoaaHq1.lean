/-
  Printed contracts, part 1.
-/
import Derived.Test.YtdicedlgaknkoaaProg
import Derived.Test.YtdicedlgaknkoaaBm24
import Derived.Test.YtdicedlgaknkoaaHe
namespace Go.Proofs.Ytdicedlgaknkoaa
namespace Am
open Go Go.RowKit
set_option maxRecDepth 100000
set_option linter.unusedVariables false
theorem mixed : Try.prog.follows .mixedOrders = true := rfl
/- function 9: (.d (.pair (.int .i64) (.pair (.int .i64) (.pair (.sl (.pair .id (.pair (.int .i64) .unit))) (.pair (.sl (.pair .id (.pair (.int .i64) (.pair (.int .i64) .unit)))) (.pair (.sl .str) .unit)))))) -/
noncomputable def rlaw17Fewx3 (x : ((Unit × (Unit × (List (List UInt8) × (Int × (Int × Unit))))) × ((Int × (Int × (Unit × (Unit × (Unit × Unit))))) × ((Int × (Int × (List (Am.Id × (Int × Unit)) × (List (Am.Id × (Int × (Int × Unit))) × (List (List UInt8) × Unit))))) × (Unit × Unit))))) : Option (((Unit × (Unit × (List (List UInt8) × (Int × (Int × Unit))))) × ((Int × (Int × (Unit × (Unit × (Unit × Unit))))) × ((Int × (Int × (List (Am.Id × (Int × Unit)) × (List (Am.Id × (Int × (Int × Unit))) × (List (List UInt8) × Unit))))) × (Unit × Unit)))) ⊕ (((Unit × (Unit × Unit)) × ((Int × (Int × (Unit × (Unit × (Unit × Unit))))) × ((Int × (Int × (List (Am.Id × (Int × Unit)) × (List (Am.Id × (Int × (Int × Unit))) × (List (List UInt8) × Unit))))) × Unit))) ⊕ Empty)) := match x with
  | (((), ((), (x0, (x1, (x2, ()))))), ((x3, (x4, ((), ((), ((), ()))))), ((x5, (x6, (x7, (x8, (x9, ()))))), ((), ())))) => bif ilt x2 x1 then bif bif ile 0 x2 then ilt x2 (dlen x0) else false then bif bif bif ile 0 0 then ile 0 (imin (dlen (dget Ty.str x0 x2)) 70) else false then ile (imin (dlen (dget Ty.str x0 x2)) 70) (dlen (dget Ty.str x0 x2)) else false then bif fits (dlen x9) ((1 : Int)) 16 then some (Sum.inl (((), (), x0, x1, iwrap IntKind.i64 (iadd x2 1), ()), (x3, x4, (), (), (), ()), (x5, x6, x7, x8, dapp x9 [dsub (dget Ty.str x0 x2) 0 (imin (dlen (dget Ty.str x0 x2)) 70)], ()), (), ())) else none else none else none else some (Sum.inr (Sum.inl (((), (), ()), (x3, x4, (), (), (), ()), (x5, x6, x7, x8, x9, ()), ())))
noncomputable def wlaw17Fewx3 : ((Unit × (Unit × (List (List UInt8) × (Int × (Int × Unit))))) × ((Int × (Int × (Unit × (Unit × (Unit × Unit))))) × ((Int × (Int × (List (Am.Id × (Int × Unit)) × (List (Am.Id × (Int × (Int × Unit))) × (List (List UInt8) × Unit))))) × (Unit × Unit)))) → Option (((Unit × (Unit × Unit)) × ((Int × (Int × (Unit × (Unit × (Unit × Unit))))) × ((Int × (Int × (List (Am.Id × (Int × Unit)) × (List (Am.Id × (Int × (Int × Unit))) × (List (List UInt8) × Unit))))) × Unit))) ⊕ Empty) := shut (whl rlaw17Fewx3)
noncomputable def llaw17Fewx3 : Lp := { m := 49, up := [.box 2 4 .str 9], ksE := [], ksA := [], keep := [2, 3, 31, 32, 33], sh := (.cons (.loc 0 0) (.cons (.loc 1 0) (.cons (.d (.sl .str)) (.cons (.d (.int .i64)) (.cons (.d (.int .i64)) .unit))))), ms := [.box (.agg (.cons (.d (.int .i64)) (.cons (.d (.int .i64)) (.cons .nil (.cons .nil (.cons .nil .unit)))))), .box (.agg (.cons (.d (.int .i64)) (.cons (.d (.int .i64)) (.cons (.d (.sl (.pair .id (.pair (.int .i64) .unit)))) (.cons (.d (.sl (.pair .id (.pair (.int .i64) (.pair (.int .i64) .unit))))) (.cons (.own .str 2) .unit)))))), .row 9 1], outs := [{ e := .exit 0, keep := [2, 3], ks := [], sh := (.cons (.loc 0 0) (.cons (.loc 1 0) .unit)), ms := [.box (.agg (.cons (.d (.int .i64)) (.cons (.d (.int .i64)) (.cons .nil (.cons .nil (.cons .nil .unit)))))), .box (.d (.pair (.int .i64) (.pair (.int .i64) (.pair (.sl (.pair .id (.pair (.int .i64) .unit))) (.pair (.sl (.pair .id (.pair (.int .i64) (.pair (.int .i64) .unit)))) (.pair (.sl .str) .unit))))))] }], sum := fun x => (trO1 trO0) (wlaw17Fewx3 x) }
noncomputable def blaw17Few (x : (((Int × (Int × (List (Am.Id × (Int × Unit)) × (List (Am.Id × (Int × (Int × Unit))) × (List (List UInt8) × Unit))))) × Unit) × Unit)) : Option (((Int × (Int × (List (Am.Id × (Int × Unit)) × (List (Am.Id × (Int × (Int × Unit))) × (List (List UInt8) × Unit))))) × Unit) × Unit) := match x with
  | ((x0, ()), ()) => bif bif bif ile 0 0 then ile 0 (imin (dlen x0.snd.snd.fst) 10) else false then ile (imin (dlen x0.snd.snd.fst) 10) (dlen x0.snd.snd.fst) else false then bif bif bif ile 0 0 then ile 0 (imin (dlen x0.snd.snd.snd.fst) 10) else false then ile (imin (dlen x0.snd.snd.snd.fst) 10) (dlen x0.snd.snd.snd.fst) else false then bif bif bif ile 0 0 then ile 0 (imin (dlen x0.snd.snd.snd.snd.fst) 34) else false then ile (imin (dlen x0.snd.snd.snd.snd.fst) 34) (dlen x0.snd.snd.snd.snd.fst) else false then bL (wlaw17Fewx3 (((), (), dsub x0.snd.snd.snd.snd.fst 0 (imin (dlen x0.snd.snd.snd.snd.fst) 34), dlen (dsub x0.snd.snd.snd.snd.fst 0 (imin (dlen x0.snd.snd.snd.snd.fst) 34)), 0, ()), (0, 0, (), (), (), ()), (x0.fst, x0.snd.fst, dsub x0.snd.snd.fst 0 (imin (dlen x0.snd.snd.fst) 10), dsub x0.snd.snd.snd.fst 0 (imin (dlen x0.snd.snd.snd.fst) 10), [], ()), (), ())) (fun v0 => some (v0.snd.snd, ())) fun u0 => none else none else none else none
noncomputable def olaw17Few : (((Int × (Int × (List (Am.Id × (Int × Unit)) × (List (Am.Id × (Int × (Int × Unit))) × (List (List UInt8) × Unit))))) × Unit) × Unit) → Option (((Int × (Int × (List (Am.Id × (Int × Unit)) × (List (Am.Id × (Int × (Int × Unit))) × (List (List UInt8) × Unit))))) × Unit) × Unit) := shut blaw17Few
theorem olaw17Few_eq (x) : olaw17Few x = blaw17Few x := by rw [olaw17Few, shut_eq]
theorem wlaw17Fewx3_eq (x) : wlaw17Fewx3 x = whl rlaw17Fewx3 x := by rw [wlaw17Fewx3, shut_eq]
noncomputable def claw17Few : Ct := { ash := (.cons (.d (.pair (.int .i64) (.pair (.int .i64) (.pair (.sl (.pair .id (.pair (.int .i64) .unit))) (.pair (.sl (.pair .id (.pair (.int .i64) (.pair (.int .i64) .unit)))) (.pair (.sl .str) .unit)))))) .unit), ms := [], foot := false, up := [], rsh := (.cons (.d (.pair (.int .i64) (.pair (.int .i64) (.pair (.sl (.pair .id (.pair (.int .i64) .unit))) (.pair (.sl (.pair .id (.pair (.int .i64) (.pair (.int .i64) .unit)))) (.pair (.sl .str) .unit)))))) .unit), ks := [], ms' := [], G := fun x => trS (olaw17Few x) }
noncomputable def Elaw17Few : Env := mkE Try.prog [] [] 9 [(3, .sum llaw17Fewx3)] [] 0
theorem rdlaw17Fewx3 : ∀ x, round1 Elaw17Few 9 llaw17Fewx3 (loopAt Try.prog 9 0) x = rlaw17Fewx3 x
  | (((), ((), (x0, (x1, (x2, ()))))), ((x3, (x4, ((), ((), ((), ()))))), ((x5, (x6, (x7, (x8, (x9, ()))))), ((), ())))) => by kernel_rfl
theorem runlaw17Few : ∀ x, run Elaw17Few 9 claw17Few x = blaw17Few x
  | ((x0, ()), ()) => by kernel_rfl
theorem Slaw17Few : Spec Try.prog 9 claw17Few.fc :=
  spec_fn (bs := [loopAt Try.prog 9 0]) (inl := []) (ls := [(3, .sum llaw17Fewx3)]) mixed hcs_nil (by kernel_rfl) (by kernel_rfl) (by decide) (by kernel_rfl) ⟨by kernel_rfl, lkOk_mk rdlaw17Fewx3 (fun x => ((trO1_get trO0_get) _).trans (wlaw17Fewx3_eq x)) rfl, trivial⟩ olaw17Few (fun x => trS_get (olaw17Few x)) (fun x => (runlaw17Few x).trans (olaw17Few_eq x).symm)
/- function 40: (.d (.pair (.int .i64) (.pair (.int .i64) (.pair (.sl (.pair .id (.pair (.int .i64) .unit))) (.pair (.sl (.pair .id (.pair (.int .i64) (.pair (.int .i64) .unit)))) (.pair (.sl .str) .unit)))))) -/
noncomputable def rhostWantsx3 (x : ((List (Am.Id × ((Am.Id × (Int × Unit)) × Unit)) × (List (Am.Id × (Int × Unit)) × (Int × (Int × Unit)))) × (Unit × Unit))) : Option (((List (Am.Id × ((Am.Id × (Int × Unit)) × Unit)) × (List (Am.Id × (Int × Unit)) × (Int × (Int × Unit)))) × (Unit × Unit)) ⊕ (((List (Am.Id × ((Am.Id × (Int × Unit)) × Unit)) × Unit) × Unit) ⊕ Empty)) := match x with
  | ((x0, (x1, (x2, (x3, ())))), ((), ())) => bif ilt x3 x2 then bif bif ile 0 x3 then ilt x3 (dlen x1) else false then bif fits (dlen x0) ((1 : Int)) 72 then some (Sum.inl ((dapp x0 [((dget (Ty.id.pair ((Ty.int IntKind.i64).pair Ty.unit)) x1 x3).fst, dget (Ty.id.pair ((Ty.int IntKind.i64).pair Ty.unit)) x1 x3, ())], x1, x2, iwrap IntKind.i64 (iadd x3 1), ()), (), ())) else none else none else some (Sum.inr (Sum.inl ((x0, ()), ())))
noncomputable def whostWantsx3 : ((List (Am.Id × ((Am.Id × (Int × Unit)) × Unit)) × (List (Am.Id × (Int × Unit)) × (Int × (Int × Unit)))) × (Unit × Unit)) → Option (((List (Am.Id × ((Am.Id × (Int × Unit)) × Unit)) × Unit) × Unit) ⊕ Empty) := shut (whl rhostWantsx3)
noncomputable def lhostWantsx3 : Lp := { m := 22, up := [.slot 3 0 (.pair .id (.pair (.pair .id (.pair (.int .i64) .unit)) .unit)) 81], ksE := [], ksA := [], keep := [3, 7, 8, 9], sh := (.cons (.own (.pair .id (.pair (.pair .id (.pair (.int .i64) .unit)) .unit)) 0) (.cons (.d (.sl (.pair .id (.pair (.int .i64) .unit)))) (.cons (.d (.int .i64)) (.cons (.d (.int .i64)) .unit)))), ms := [.row 81 65], outs := [{ e := .exit 0, keep := [3], ks := [], sh := (.cons (.d (.sl (.pair .id (.pair (.pair .id (.pair (.int .i64) .unit)) .unit)))) .unit), ms := [] }], sum := fun x => (trO1 trO0) (whostWantsx3 x) }
noncomputable def bhostWants (x : (((Int × (Int × (List (Am.Id × (Int × Unit)) × (List (Am.Id × (Int × (Int × Unit))) × (List (List UInt8) × Unit))))) × Unit) × Unit)) : Option ((List (Am.Id × ((Am.Id × (Int × Unit)) × Unit)) × Unit) × Unit) := match x with
  | ((x0, ()), ()) => bL (whostWantsx3 (([], x0.snd.snd.fst, dlen x0.snd.snd.fst, 0, ()), (), ())) (fun v0 => some v0) fun u0 => none
noncomputable def ohostWants : (((Int × (Int × (List (Am.Id × (Int × Unit)) × (List (Am.Id × (Int × (Int × Unit))) × (List (List UInt8) × Unit))))) × Unit) × Unit) → Option ((List (Am.Id × ((Am.Id × (Int × Unit)) × Unit)) × Unit) × Unit) := shut bhostWants
theorem ohostWants_eq (x) : ohostWants x = bhostWants x := by rw [ohostWants, shut_eq]
theorem whostWantsx3_eq (x) : whostWantsx3 x = whl rhostWantsx3 x := by rw [whostWantsx3, shut_eq]
noncomputable def chostWants : Ct := { ash := (.cons (.d (.pair (.int .i64) (.pair (.int .i64) (.pair (.sl (.pair .id (.pair (.int .i64) .unit))) (.pair (.sl (.pair .id (.pair (.int .i64) (.pair (.int .i64) .unit)))) (.pair (.sl .str) .unit)))))) .unit), ms := [], foot := false, up := [], rsh := (.cons (.d (.sl (.pair .id (.pair (.pair .id (.pair (.int .i64) .unit)) .unit)))) .unit), ks := [], ms' := [], G := fun x => trS (ohostWants x) }
noncomputable def EhostWants : Env := mkE Try.prog [] [] 40 [(3, .sum lhostWantsx3)] [] 0
theorem rdhostWantsx3 : ∀ x, round1 EhostWants 40 lhostWantsx3 (loopAt Try.prog 40 0) x = rhostWantsx3 x
  | ((x0, (x1, (x2, (x3, ())))), ((), ())) => by kernel_rfl
theorem runhostWants : ∀ x, run EhostWants 40 chostWants x = bhostWants x
  | ((x0, ()), ()) => by kernel_rfl
theorem ShostWants : Spec Try.prog 40 chostWants.fc :=
  spec_fn (bs := [loopAt Try.prog 40 0]) (inl := []) (ls := [(3, .sum lhostWantsx3)]) mixed hcs_nil (by kernel_rfl) (by kernel_rfl) (by decide) (by kernel_rfl) ⟨by kernel_rfl, lkOk_mk rdhostWantsx3 (fun x => ((trO1_get trO0_get) _).trans (whostWantsx3_eq x)) rfl, trivial⟩ ohostWants (fun x => trS_get (ohostWants x)) (fun x => (runhostWants x).trans (ohostWants_eq x).symm)
/- function 44: (.d (.pair (.int .i64) (.pair (.int .i64) (.pair (.sl (.pair .id (.pair (.int .i64) .unit))) (.pair (.sl (.pair .id (.pair (.int .i64) (.pair (.int .i64) .unit)))) (.pair (.sl .str) .unit)))))) -/
noncomputable def rhostHintsx3 (x : ((List (Am.Id × ((Am.Id × (Int × (Int × Unit))) × Unit)) × (List (Am.Id × (Int × (Int × Unit))) × (Int × (Int × Unit)))) × (Unit × Unit))) : Option (((List (Am.Id × ((Am.Id × (Int × (Int × Unit))) × Unit)) × (List (Am.Id × (Int × (Int × Unit))) × (Int × (Int × Unit)))) × (Unit × Unit)) ⊕ (((List (Am.Id × ((Am.Id × (Int × (Int × Unit))) × Unit)) × Unit) × Unit) ⊕ Empty)) := match x with
  | ((x0, (x1, (x2, (x3, ())))), ((), ())) => bif ilt x3 x2 then bif bif ile 0 x3 then ilt x3 (dlen x1) else false then bif fits (dlen x0) ((1 : Int)) 80 then some (Sum.inl ((dapp x0 [((dget (Ty.id.pair ((Ty.int IntKind.i64).pair ((Ty.int IntKind.i64).pair Ty.unit))) x1 x3).fst, dget (Ty.id.pair ((Ty.int IntKind.i64).pair ((Ty.int IntKind.i64).pair Ty.unit))) x1 x3, ())], x1, x2, iwrap IntKind.i64 (iadd x3 1), ()), (), ())) else none else none else some (Sum.inr (Sum.inl ((x0, ()), ())))
noncomputable def whostHintsx3 : ((List (Am.Id × ((Am.Id × (Int × (Int × Unit))) × Unit)) × (List (Am.Id × (Int × (Int × Unit))) × (Int × (Int × Unit)))) × (Unit × Unit)) → Option (((List (Am.Id × ((Am.Id × (Int × (Int × Unit))) × Unit)) × Unit) × Unit) ⊕ Empty) := shut (whl rhostHintsx3)
noncomputable def lhostHintsx3 : Lp := { m := 22, up := [.slot 3 0 (.pair .id (.pair (.pair .id (.pair (.int .i64) (.pair (.int .i64) .unit))) .unit)) 90], ksE := [], ksA := [], keep := [3, 7, 8, 9], sh := (.cons (.own (.pair .id (.pair (.pair .id (.pair (.int .i64) (.pair (.int .i64) .unit))) .unit)) 0) (.cons (.d (.sl (.pair .id (.pair (.int .i64) (.pair (.int .i64) .unit))))) (.cons (.d (.int .i64)) (.cons (.d (.int .i64)) .unit)))), ms := [.row 90 66], outs := [{ e := .exit 0, keep := [3], ks := [], sh := (.cons (.d (.sl (.pair .id (.pair (.pair .id (.pair (.int .i64) (.pair (.int .i64) .unit))) .unit)))) .unit), ms := [] }], sum := fun x => (trO1 trO0) (whostHintsx3 x) }
noncomputable def bhostHints (x : (((Int × (Int × (List (Am.Id × (Int × Unit)) × (List (Am.Id × (Int × (Int × Unit))) × (List (List UInt8) × Unit))))) × Unit) × Unit)) : Option ((List (Am.Id × ((Am.Id × (Int × (Int × Unit))) × Unit)) × Unit) × Unit) := match x with
  | ((x0, ()), ()) => bL (whostHintsx3 (([], x0.snd.snd.snd.fst, dlen x0.snd.snd.snd.fst, 0, ()), (), ())) (fun v0 => some v0) fun u0 => none
noncomputable def ohostHints : (((Int × (Int × (List (Am.Id × (Int × Unit)) × (List (Am.Id × (Int × (Int × Unit))) × (List (List UInt8) × Unit))))) × Unit) × Unit) → Option ((List (Am.Id × ((Am.Id × (Int × (Int × Unit))) × Unit)) × Unit) × Unit) := shut bhostHints
theorem ohostHints_eq (x) : ohostHints x = bhostHints x := by rw [ohostHints, shut_eq]
theorem whostHintsx3_eq (x) : whostHintsx3 x = whl rhostHintsx3 x := by rw [whostHintsx3, shut_eq]
noncomputable def chostHints : Ct := { ash := (.cons (.d (.pair (.int .i64) (.pair (.int .i64) (.pair (.sl (.pair .id (.pair (.int .i64) .unit))) (.pair (.sl (.pair .id (.pair (.int .i64) (.pair (.int .i64) .unit)))) (.pair (.sl .str) .unit)))))) .unit), ms := [], foot := false, up := [], rsh := (.cons (.d (.sl (.pair .id (.pair (.pair .id (.pair (.int .i64) (.pair (.int .i64) .unit))) .unit)))) .unit), ks := [], ms' := [], G := fun x => trS (ohostHints x) }
noncomputable def EhostHints : Env := mkE Try.prog [] [] 44 [(3, .sum lhostHintsx3)] [] 0
theorem rdhostHintsx3 : ∀ x, round1 EhostHints 44 lhostHintsx3 (loopAt Try.prog 44 0) x = rhostHintsx3 x
  | ((x0, (x1, (x2, (x3, ())))), ((), ())) => by kernel_rfl
theorem runhostHints : ∀ x, run EhostHints 44 chostHints x = bhostHints x
  | ((x0, ()), ()) => by kernel_rfl
theorem ShostHints : Spec Try.prog 44 chostHints.fc :=
  spec_fn (bs := [loopAt Try.prog 44 0]) (inl := []) (ls := [(3, .sum lhostHintsx3)]) mixed hcs_nil (by kernel_rfl) (by kernel_rfl) (by decide) (by kernel_rfl) ⟨by kernel_rfl, lkOk_mk rdhostHintsx3 (fun x => ((trO1_get trO0_get) _).trans (whostHintsx3_eq x)) rfl, trivial⟩ ohostHints (fun x => trS_get (ohostHints x)) (fun x => (runhostHints x).trans (ohostHints_eq x).symm)
/- function 93: (.d .id) -/
noncomputable def b_hostKey_Name (x : ((Am.Id × Unit) × Unit)) : Option ((Am.Id × Unit) × Unit) := match x with
  | ((x0, ()), ()) => some ((x0, ()), ())
noncomputable def o_hostKey_Name : ((Am.Id × Unit) × Unit) → Option ((Am.Id × Unit) × Unit) := shut b_hostKey_Name
theorem o_hostKey_Name_eq (x) : o_hostKey_Name x = b_hostKey_Name x := by rw [o_hostKey_Name, shut_eq]
noncomputable def c_hostKey_Name : Ct := { ash := (.cons (.d .id) .unit), ms := [], foot := false, up := [], rsh := (.cons (.d .id) .unit), ks := [], ms' := [], G := fun x => trS (o_hostKey_Name x) }
noncomputable def E_hostKey_Name : Env := mkE Try.prog [] [] 93 [] [] 0
theorem run_hostKey_Name : ∀ x, run E_hostKey_Name 93 c_hostKey_Name x = b_hostKey_Name x
  | ((x0, ()), ()) => by kernel_rfl
theorem S_hostKey_Name : Spec Try.prog 93 c_hostKey_Name.fc :=
  spec_fn (bs := []) (inl := []) (ls := []) mixed hcs_nil (by kernel_rfl) (by kernel_rfl) (by decide) (by kernel_rfl) trivial o_hostKey_Name (fun x => trS_get (o_hostKey_Name x)) (fun x => (run_hostKey_Name x).trans (o_hostKey_Name_eq x).symm)
/- function 64: (.d (.pair .id (.pair (.pair .id (.pair (.int .i64) .unit)) .unit))) (.cptr (.d .id)) -/
noncomputable def bhostAt_1b (x : (((Am.Id × ((Am.Id × (Int × Unit)) × Unit)) × (Am.Id × Unit)) × Unit)) : Option ((Bool × Unit) × Unit) := match x with
  | ((x0, (x1, ())), ()) => bS (o_hostKey_Name ((x0.fst, ()), ())) fun v0 => some ((ideq v0.fst.fst x1, ()), ())
noncomputable def ohostAt_1b : (((Am.Id × ((Am.Id × (Int × Unit)) × Unit)) × (Am.Id × Unit)) × Unit) → Option ((Bool × Unit) × Unit) := shut bhostAt_1b
theorem ohostAt_1b_eq (x) : ohostAt_1b x = bhostAt_1b x := by rw [ohostAt_1b, shut_eq]
noncomputable def chostAt_1b : Ct := { ash := (.cons (.d (.pair .id (.pair (.pair .id (.pair (.int .i64) .unit)) .unit))) (.cons (.cptr (.d .id)) .unit)), ms := [], foot := false, up := [], rsh := (.cons (.d .bool) .unit), ks := [], ms' := [], G := fun x => trS (ohostAt_1b x) }
noncomputable def EhostAt_1b : Env := mkE Try.prog [(93, c_hostKey_Name.fc)] [] 64 [] [] 0
theorem runhostAt_1b : ∀ x, run EhostAt_1b 64 chostAt_1b x = bhostAt_1b x
  | ((x0, (x1, ())), ()) => by kernel_rfl
theorem ShostAt_1b : Spec Try.prog 64 chostAt_1b.fc :=
  spec_fn (bs := []) (inl := []) (ls := []) mixed (hcs_cons S_hostKey_Name hcs_nil) (by kernel_rfl) (by kernel_rfl) (by decide) (by kernel_rfl) trivial ohostAt_1b (fun x => trS_get (ohostAt_1b x)) (fun x => (runhostAt_1b x).trans (ohostAt_1b_eq x).symm)
/- function 63: (.d (.sl (.pair .id (.pair (.pair .id (.pair (.int .i64) .unit)) .unit)))) (.fn (.func 64) .unit (.cons (.cptr (.d .id)) .unit)) -/
noncomputable def rslicesIndexFuncfx2 (x : ((List (Am.Id × ((Am.Id × (Int × Unit)) × Unit)) × ((Unit × (Am.Id × Unit)) × (Int × (Int × Unit)))) × Unit)) : Option (((List (Am.Id × ((Am.Id × (Int × Unit)) × Unit)) × ((Unit × (Am.Id × Unit)) × (Int × (Int × Unit)))) × Unit) ⊕ ((Unit × Unit) ⊕ (((Int × Unit) × Unit) ⊕ Empty))) := match x with
  | ((x0, (((), (x1, ())), (x2, (x3, ())))), ()) => bif ilt x3 x2 then bif bif ile 0 x3 then ilt x3 (dlen x0) else false then bS (ohostAt_1b ((dget (Ty.id.pair ((Ty.id.pair ((Ty.int IntKind.i64).pair Ty.unit)).pair Ty.unit)) x0 x3, x1, ()), ())) fun v0 => bif v0.fst.fst then some (Sum.inr (Sum.inr (Sum.inl ((x3, ()), ())))) else some (Sum.inl ((x0, ((), x1, ()), x2, iwrap IntKind.i64 (iadd x3 1), ()), ())) else none else some (Sum.inr (Sum.inl ((), ())))
noncomputable def wslicesIndexFuncfx2 : ((List (Am.Id × ((Am.Id × (Int × Unit)) × Unit)) × ((Unit × (Am.Id × Unit)) × (Int × (Int × Unit)))) × Unit) → Option ((Unit × Unit) ⊕ (((Int × Unit) × Unit) ⊕ Empty)) := shut (whl rslicesIndexFuncfx2)
noncomputable def lslicesIndexFuncfx2 : Lp := { m := 19, up := [], ksE := [], ksA := [], keep := [0, 1, 7, 8], sh := (.cons (.d (.sl (.pair .id (.pair (.pair .id (.pair (.int .i64) .unit)) .unit)))) (.cons (.fn (.func 64) .unit (.cons (.cptr (.d .id)) .unit)) (.cons (.d (.int .i64)) (.cons (.d (.int .i64)) .unit)))), ms := [], outs := [{ e := .exit 0, keep := [], ks := [], sh := .unit, ms := [] }, { e := .ret, keep := [4], ks := [], sh := (.cons (.d (.int .i64)) .unit), ms := [] }], sum := fun x => (trO1 (trO1 trO0)) (wslicesIndexFuncfx2 x) }
noncomputable def bslicesIndexFuncf (x : ((List (Am.Id × ((Am.Id × (Int × Unit)) × Unit)) × ((Unit × (Am.Id × Unit)) × Unit)) × Unit)) : Option ((Int × Unit) × Unit) := match x with
  | ((x0, (((), (x1, ())), ())), ()) => bL (wslicesIndexFuncfx2 ((x0, ((), x1, ()), dlen x0, 0, ()), ())) (fun v0 => some ((-1, ()), ())) fun u0 => bL u0 (fun v1 => some v1) fun u1 => none
noncomputable def oslicesIndexFuncf : ((List (Am.Id × ((Am.Id × (Int × Unit)) × Unit)) × ((Unit × (Am.Id × Unit)) × Unit)) × Unit) → Option ((Int × Unit) × Unit) := shut bslicesIndexFuncf
theorem oslicesIndexFuncf_eq (x) : oslicesIndexFuncf x = bslicesIndexFuncf x := by rw [oslicesIndexFuncf, shut_eq]
theorem wslicesIndexFuncfx2_eq (x) : wslicesIndexFuncfx2 x = whl rslicesIndexFuncfx2 x := by rw [wslicesIndexFuncfx2, shut_eq]
noncomputable def cslicesIndexFuncf : Ct := { ash := (.cons (.d (.sl (.pair .id (.pair (.pair .id (.pair (.int .i64) .unit)) .unit)))) (.cons (.fn (.func 64) .unit (.cons (.cptr (.d .id)) .unit)) .unit)), ms := [], foot := false, up := [], rsh := (.cons (.d (.int .i64)) .unit), ks := [], ms' := [], G := fun x => trS (oslicesIndexFuncf x) }
noncomputable def EslicesIndexFuncf : Env := mkE Try.prog [(64, chostAt_1b.fc)] [] 63 [(2, .sum lslicesIndexFuncfx2)] [] 0
theorem rdslicesIndexFuncfx2 : ∀ x, round1 EslicesIndexFuncf 63 lslicesIndexFuncfx2 (loopAt Try.prog 63 0) x = rslicesIndexFuncfx2 x
  | ((x0, (((), (x1, ())), (x2, (x3, ())))), ()) => by kernel_rfl
theorem runslicesIndexFuncf : ∀ x, run EslicesIndexFuncf 63 cslicesIndexFuncf x = bslicesIndexFuncf x
  | ((x0, (((), (x1, ())), ())), ()) => by kernel_rfl
theorem SslicesIndexFuncf : Spec Try.prog 63 cslicesIndexFuncf.fc :=
  spec_fn (bs := [loopAt Try.prog 63 0]) (inl := []) (ls := [(2, .sum lslicesIndexFuncfx2)]) mixed (hcs_cons ShostAt_1b hcs_nil) (by kernel_rfl) (by kernel_rfl) (by decide) (by kernel_rfl) ⟨by kernel_rfl, lkOk_mk rdslicesIndexFuncfx2 (fun x => ((trO1_get (trO1_get trO0_get)) _).trans (wslicesIndexFuncfx2_eq x)) rfl, trivial⟩ oslicesIndexFuncf (fun x => trS_get (oslicesIndexFuncf x)) (fun x => (runslicesIndexFuncf x).trans (oslicesIndexFuncf_eq x).symm)
/- function 39: (.d (.sl (.pair .id (.pair (.pair .id (.pair (.int .i64) .unit)) .unit)))) (.d .id) -/
noncomputable def bhostAtb (x : ((List (Am.Id × ((Am.Id × (Int × Unit)) × Unit)) × (Am.Id × Unit)) × Unit)) : Option ((Int × Unit) × Unit) := match x with
  | ((x0, (x1, ())), ()) => bS (oslicesIndexFuncf ((x0, ((), x1, ()), ()), ())) fun v0 => some v0
noncomputable def ohostAtb : ((List (Am.Id × ((Am.Id × (Int × Unit)) × Unit)) × (Am.Id × Unit)) × Unit) → Option ((Int × Unit) × Unit) := shut bhostAtb
theorem ohostAtb_eq (x) : ohostAtb x = bhostAtb x := by rw [ohostAtb, shut_eq]
noncomputable def chostAtb : Ct := { ash := (.cons (.d (.sl (.pair .id (.pair (.pair .id (.pair (.int .i64) .unit)) .unit)))) (.cons (.d .id) .unit)), ms := [], foot := false, up := [], rsh := (.cons (.d (.int .i64)) .unit), ks := [], ms' := [], G := fun x => trS (ohostAtb x) }
noncomputable def EhostAtb : Env := mkE Try.prog [(63, cslicesIndexFuncf.fc)] [] 39 [] [] 0
theorem runhostAtb : ∀ x, run EhostAtb 39 chostAtb x = bhostAtb x
  | ((x0, (x1, ())), ()) => by kernel_rfl
theorem ShostAtb : Spec Try.prog 39 chostAtb.fc :=
  spec_fn (bs := []) (inl := []) (ls := []) mixed (hcs_cons SslicesIndexFuncf hcs_nil) (by kernel_rfl) (by kernel_rfl) (by decide) (by kernel_rfl) trivial ohostAtb (fun x => trS_get (ohostAtb x)) (fun x => (runhostAtb x).trans (ohostAtb_eq x).symm)
/- function 48: (.d (.sl (.pair .id (.pair (.pair .id (.pair (.int .i64) .unit)) .unit)))) -/
noncomputable def rhostUnlikex2 (x : ((List (Am.Id × ((Am.Id × (Int × Unit)) × Unit)) × (List (Am.Id × ((Am.Id × (Int × Unit)) × Unit)) × (Int × (Int × Unit)))) × Unit)) : Option (((List (Am.Id × ((Am.Id × (Int × Unit)) × Unit)) × (List (Am.Id × ((Am.Id × (Int × Unit)) × Unit)) × (Int × (Int × Unit)))) × Unit) ⊕ (((List (Am.Id × ((Am.Id × (Int × Unit)) × Unit)) × Unit) × Unit) ⊕ (((Bool × Unit) × Unit) ⊕ Empty))) := match x with
  | ((x0, (x1, (x2, (x3, ())))), ()) => bif ilt x3 x2 then bif bif ile 0 x3 then ilt x3 (dlen x1) else false then bS (o_hostKey_Name (((dget (Ty.id.pair ((Ty.id.pair ((Ty.int IntKind.i64).pair Ty.unit)).pair Ty.unit)) x1 x3).fst, ()), ())) fun v0 => bS (ohostAtb ((x0, v0.fst), ())) fun v1 => bif bif ieq v1.fst.fst x3 then false else true then some (Sum.inr (Sum.inr (Sum.inl ((false, ()), ())))) else some (Sum.inl ((x0, x1, x2, iwrap IntKind.i64 (iadd x3 1), ()), ())) else none else some (Sum.inr (Sum.inl ((x0, ()), ())))
noncomputable def whostUnlikex2 : ((List (Am.Id × ((Am.Id × (Int × Unit)) × Unit)) × (List (Am.Id × ((Am.Id × (Int × Unit)) × Unit)) × (Int × (Int × Unit)))) × Unit) → Option (((List (Am.Id × ((Am.Id × (Int × Unit)) × Unit)) × Unit) × Unit) ⊕ (((Bool × Unit) × Unit) ⊕ Empty)) := shut (whl rhostUnlikex2)
noncomputable def lhostUnlikex2 : Lp := { m := 23, up := [], ksE := [], ksA := [], keep := [0, 5, 6, 7], sh := (.cons (.d (.sl (.pair .id (.pair (.pair .id (.pair (.int .i64) .unit)) .unit)))) (.cons (.d (.sl (.pair .id (.pair (.pair .id (.pair (.int .i64) .unit)) .unit)))) (.cons (.d (.int .i64)) (.cons (.d (.int .i64)) .unit)))), ms := [], outs := [{ e := .exit 0, keep := [0], ks := [], sh := (.cons (.d (.sl (.pair .id (.pair (.pair .id (.pair (.int .i64) .unit)) .unit)))) .unit), ms := [] }, { e := .ret, keep := [2], ks := [], sh := (.cons (.d .bool) .unit), ms := [] }], sum := fun x => (trO1 (trO1 trO0)) (whostUnlikex2 x) }
noncomputable def bhostUnlike (x : ((List (Am.Id × ((Am.Id × (Int × Unit)) × Unit)) × Unit) × Unit)) : Option ((Bool × Unit) × Unit) := match x with
  | ((x0, ()), ()) => bL (whostUnlikex2 ((x0, x0, dlen x0, 0, ()), ())) (fun v0 => some ((ile (dlen v0.fst.fst) 8, ()), ())) fun u0 => bL u0 (fun v1 => some v1) fun u1 => none
noncomputable def ohostUnlike : ((List (Am.Id × ((Am.Id × (Int × Unit)) × Unit)) × Unit) × Unit) → Option ((Bool × Unit) × Unit) := shut bhostUnlike
theorem ohostUnlike_eq (x) : ohostUnlike x = bhostUnlike x := by rw [ohostUnlike, shut_eq]
theorem whostUnlikex2_eq (x) : whostUnlikex2 x = whl rhostUnlikex2 x := by rw [whostUnlikex2, shut_eq]
noncomputable def chostUnlike : Ct := { ash := (.cons (.d (.sl (.pair .id (.pair (.pair .id (.pair (.int .i64) .unit)) .unit)))) .unit), ms := [], foot := false, up := [], rsh := (.cons (.d .bool) .unit), ks := [], ms' := [], G := fun x => trS (ohostUnlike x) }
noncomputable def EhostUnlike : Env := mkE Try.prog [(93, c_hostKey_Name.fc), (39, chostAtb.fc)] [] 48 [(2, .sum lhostUnlikex2)] [] 0
theorem rdhostUnlikex2 : ∀ x, round1 EhostUnlike 48 lhostUnlikex2 (loopAt Try.prog 48 0) x = rhostUnlikex2 x
  | ((x0, (x1, (x2, (x3, ())))), ()) => by kernel_rfl
theorem runhostUnlike : ∀ x, run EhostUnlike 48 chostUnlike x = bhostUnlike x
  | ((x0, ()), ()) => by kernel_rfl
theorem ShostUnlike : Spec Try.prog 48 chostUnlike.fc :=
  spec_fn (bs := [loopAt Try.prog 48 0]) (inl := []) (ls := [(2, .sum lhostUnlikex2)]) mixed (hcs_cons S_hostKey_Name (hcs_cons ShostAtb hcs_nil)) (by kernel_rfl) (by kernel_rfl) (by decide) (by kernel_rfl) ⟨by kernel_rfl, lkOk_mk rdhostUnlikex2 (fun x => ((trO1_get (trO1_get trO0_get)) _).trans (whostUnlikex2_eq x)) rfl, trivial⟩ ohostUnlike (fun x => trS_get (ohostUnlike x)) (fun x => (runhostUnlike x).trans (ohostUnlike_eq x).symm)
/- function 45: (.d (.pair .id (.pair (.pair .id (.pair (.int .i64) .unit)) .unit))) -/
noncomputable def bhostRight_1 (x : (((Am.Id × ((Am.Id × (Int × Unit)) × Unit)) × Unit) × Unit)) : Option ((Bool × Unit) × Unit) := match x with
  | ((x0, ()), ()) => bif bif ilt x0.snd.fst.snd.fst 1 then false else true then some ((ilt 1048576 x0.snd.fst.snd.fst, ()), ()) else some ((true, ()), ())
noncomputable def ohostRight_1 : (((Am.Id × ((Am.Id × (Int × Unit)) × Unit)) × Unit) × Unit) → Option ((Bool × Unit) × Unit) := shut bhostRight_1
theorem ohostRight_1_eq (x) : ohostRight_1 x = bhostRight_1 x := by rw [ohostRight_1, shut_eq]
noncomputable def chostRight_1 : Ct := { ash := (.cons (.d (.pair .id (.pair (.pair .id (.pair (.int .i64) .unit)) .unit))) .unit), ms := [], foot := false, up := [], rsh := (.cons (.d .bool) .unit), ks := [], ms' := [], G := fun x => trS (ohostRight_1 x) }
noncomputable def EhostRight_1 : Env := mkE Try.prog [] [] 45 [] [] 0
theorem runhostRight_1 : ∀ x, run EhostRight_1 45 chostRight_1 x = bhostRight_1 x
  | ((x0, ()), ()) => by kernel_rfl
theorem ShostRight_1 : Spec Try.prog 45 chostRight_1.fc :=
  spec_fn (bs := []) (inl := []) (ls := []) mixed hcs_nil (by kernel_rfl) (by kernel_rfl) (by decide) (by kernel_rfl) trivial ohostRight_1 (fun x => trS_get (ohostRight_1 x)) (fun x => (runhostRight_1 x).trans (ohostRight_1_eq x).symm)
/- function 63: (.d (.sl (.pair .id (.pair (.pair .id (.pair (.int .i64) .unit)) .unit)))) (.fn (.func 45) .unit .unit) -/
noncomputable def rslicesIndexFuncx2 (x : ((List (Am.Id × ((Am.Id × (Int × Unit)) × Unit)) × ((Unit × Unit) × (Int × (Int × Unit)))) × Unit)) : Option (((List (Am.Id × ((Am.Id × (Int × Unit)) × Unit)) × ((Unit × Unit) × (Int × (Int × Unit)))) × Unit) ⊕ ((Unit × Unit) ⊕ (((Int × Unit) × Unit) ⊕ Empty))) := match x with
  | ((x0, (((), ()), (x1, (x2, ())))), ()) => bif ilt x2 x1 then bif bif ile 0 x2 then ilt x2 (dlen x0) else false then bS (ohostRight_1 ((dget (Ty.id.pair ((Ty.id.pair ((Ty.int IntKind.i64).pair Ty.unit)).pair Ty.unit)) x0 x2, ()), ())) fun v0 => bif v0.fst.fst then some (Sum.inr (Sum.inr (Sum.inl ((x2, ()), ())))) else some (Sum.inl ((x0, ((), ()), x1, iwrap IntKind.i64 (iadd x2 1), ()), ())) else none else some (Sum.inr (Sum.inl ((), ())))
noncomputable def wslicesIndexFuncx2 : ((List (Am.Id × ((Am.Id × (Int × Unit)) × Unit)) × ((Unit × Unit) × (Int × (Int × Unit)))) × Unit) → Option ((Unit × Unit) ⊕ (((Int × Unit) × Unit) ⊕ Empty)) := shut (whl rslicesIndexFuncx2)
noncomputable def lslicesIndexFuncx2 : Lp := { m := 19, up := [], ksE := [], ksA := [], keep := [0, 1, 7, 8], sh := (.cons (.d (.sl (.pair .id (.pair (.pair .id (.pair (.int .i64) .unit)) .unit)))) (.cons (.fn (.func 45) .unit .unit) (.cons (.d (.int .i64)) (.cons (.d (.int .i64)) .unit)))), ms := [], outs := [{ e := .exit 0, keep := [], ks := [], sh := .unit, ms := [] }, { e := .ret, keep := [4], ks := [], sh := (.cons (.d (.int .i64)) .unit), ms := [] }], sum := fun x => (trO1 (trO1 trO0)) (wslicesIndexFuncx2 x) }
noncomputable def bslicesIndexFunc (x : ((List (Am.Id × ((Am.Id × (Int × Unit)) × Unit)) × ((Unit × Unit) × Unit)) × Unit)) : Option ((Int × Unit) × Unit) := match x with
  | ((x0, (((), ()), ())), ()) => bL (wslicesIndexFuncx2 ((x0, ((), ()), dlen x0, 0, ()), ())) (fun v0 => some ((-1, ()), ())) fun u0 => bL u0 (fun v1 => some v1) fun u1 => none
noncomputable def oslicesIndexFunc : ((List (Am.Id × ((Am.Id × (Int × Unit)) × Unit)) × ((Unit × Unit) × Unit)) × Unit) → Option ((Int × Unit) × Unit) := shut bslicesIndexFunc
theorem oslicesIndexFunc_eq (x) : oslicesIndexFunc x = bslicesIndexFunc x := by rw [oslicesIndexFunc, shut_eq]
theorem wslicesIndexFuncx2_eq (x) : wslicesIndexFuncx2 x = whl rslicesIndexFuncx2 x := by rw [wslicesIndexFuncx2, shut_eq]
noncomputable def cslicesIndexFunc : Ct := { ash := (.cons (.d (.sl (.pair .id (.pair (.pair .id (.pair (.int .i64) .unit)) .unit)))) (.cons (.fn (.func 45) .unit .unit) .unit)), ms := [], foot := false, up := [], rsh := (.cons (.d (.int .i64)) .unit), ks := [], ms' := [], G := fun x => trS (oslicesIndexFunc x) }
noncomputable def EslicesIndexFunc : Env := mkE Try.prog [(45, chostRight_1.fc)] [] 63 [(2, .sum lslicesIndexFuncx2)] [] 0
theorem rdslicesIndexFuncx2 : ∀ x, round1 EslicesIndexFunc 63 lslicesIndexFuncx2 (loopAt Try.prog 63 0) x = rslicesIndexFuncx2 x
  | ((x0, (((), ()), (x1, (x2, ())))), ()) => by kernel_rfl
theorem runslicesIndexFunc : ∀ x, run EslicesIndexFunc 63 cslicesIndexFunc x = bslicesIndexFunc x
  | ((x0, (((), ()), ())), ()) => by kernel_rfl
theorem SslicesIndexFunc : Spec Try.prog 63 cslicesIndexFunc.fc :=
  spec_fn (bs := [loopAt Try.prog 63 0]) (inl := []) (ls := [(2, .sum lslicesIndexFuncx2)]) mixed (hcs_cons ShostRight_1 hcs_nil) (by kernel_rfl) (by kernel_rfl) (by decide) (by kernel_rfl) ⟨by kernel_rfl, lkOk_mk rdslicesIndexFuncx2 (fun x => ((trO1_get (trO1_get trO0_get)) _).trans (wslicesIndexFuncx2_eq x)) rfl, trivial⟩ oslicesIndexFunc (fun x => trS_get (oslicesIndexFunc x)) (fun x => (runslicesIndexFunc x).trans (oslicesIndexFunc_eq x).symm)
/- function 49: (.d (.sl (.pair .id (.pair (.pair .id (.pair (.int .i64) .unit)) .unit)))) (.fn (.func 45) .unit .unit) -/
noncomputable def bslicesContainsFunc (x : ((List (Am.Id × ((Am.Id × (Int × Unit)) × Unit)) × ((Unit × Unit) × Unit)) × Unit)) : Option ((Bool × Unit) × Unit) := match x with
  | ((x0, (((), ()), ())), ()) => bS (oslicesIndexFunc ((x0, ((), ()), ()), ())) fun v0 => some ((ile 0 v0.fst.fst, ()), ())
noncomputable def oslicesContainsFunc : ((List (Am.Id × ((Am.Id × (Int × Unit)) × Unit)) × ((Unit × Unit) × Unit)) × Unit) → Option ((Bool × Unit) × Unit) := shut bslicesContainsFunc
theorem oslicesContainsFunc_eq (x) : oslicesContainsFunc x = bslicesContainsFunc x := by rw [oslicesContainsFunc, shut_eq]
noncomputable def cslicesContainsFunc : Ct := { ash := (.cons (.d (.sl (.pair .id (.pair (.pair .id (.pair (.int .i64) .unit)) .unit)))) (.cons (.fn (.func 45) .unit .unit) .unit)), ms := [], foot := false, up := [], rsh := (.cons (.d .bool) .unit), ks := [], ms' := [], G := fun x => trS (oslicesContainsFunc x) }
noncomputable def EslicesContainsFunc : Env := mkE Try.prog [(63, cslicesIndexFunc.fc)] [] 49 [] [] 0
theorem runslicesContainsFunc : ∀ x, run EslicesContainsFunc 49 cslicesContainsFunc x = bslicesContainsFunc x
  | ((x0, (((), ()), ())), ()) => by kernel_rfl
theorem SslicesContainsFunc : Spec Try.prog 49 cslicesContainsFunc.fc :=
  spec_fn (bs := []) (inl := []) (ls := []) mixed (hcs_cons SslicesIndexFunc hcs_nil) (by kernel_rfl) (by kernel_rfl) (by decide) (by kernel_rfl) trivial oslicesContainsFunc (fun x => trS_get (oslicesContainsFunc x)) (fun x => (runslicesContainsFunc x).trans (oslicesContainsFunc_eq x).symm)
/- function 38: (.d (.int .i64)) -/
noncomputable def bhostNumber (x : ((Int × Unit) × Unit)) : Option ((Bool × Unit) × Unit) := match x with
  | ((x0, ()), ()) => bif ile 0 x0 then some ((ilt x0 16, ()), ()) else some ((false, ()), ())
noncomputable def ohostNumber : ((Int × Unit) × Unit) → Option ((Bool × Unit) × Unit) := shut bhostNumber
theorem ohostNumber_eq (x) : ohostNumber x = bhostNumber x := by rw [ohostNumber, shut_eq]
noncomputable def chostNumber : Ct := { ash := (.cons (.d (.int .i64)) .unit), ms := [], foot := false, up := [], rsh := (.cons (.d .bool) .unit), ks := [], ms' := [], G := fun x => trS (ohostNumber x) }
noncomputable def EhostNumber : Env := mkE Try.prog [] [] 38 [] [] 0
theorem runhostNumber : ∀ x, run EhostNumber 38 chostNumber x = bhostNumber x
  | ((x0, ()), ()) => by kernel_rfl
theorem ShostNumber : Spec Try.prog 38 chostNumber.fc :=
  spec_fn (bs := []) (inl := []) (ls := []) mixed hcs_nil (by kernel_rfl) (by kernel_rfl) (by decide) (by kernel_rfl) trivial ohostNumber (fun x => trS_get (ohostNumber x)) (fun x => (runhostNumber x).trans (ohostNumber_eq x).symm)
/- function 72: (.d (.pair .id (.pair (.pair .id (.pair (.int .i64) (.pair (.int .i64) .unit))) .unit))) (.cptr (.d .id)) -/
noncomputable def bhostAt_1 (x : (((Am.Id × ((Am.Id × (Int × (Int × Unit))) × Unit)) × (Am.Id × Unit)) × Unit)) : Option ((Bool × Unit) × Unit) := match x with
  | ((x0, (x1, ())), ()) => bS (o_hostKey_Name ((x0.fst, ()), ())) fun v0 => some ((ideq v0.fst.fst x1, ()), ())
noncomputable def ohostAt_1 : (((Am.Id × ((Am.Id × (Int × (Int × Unit))) × Unit)) × (Am.Id × Unit)) × Unit) → Option ((Bool × Unit) × Unit) := shut bhostAt_1
theorem ohostAt_1_eq (x) : ohostAt_1 x = bhostAt_1 x := by rw [ohostAt_1, shut_eq]
noncomputable def chostAt_1 : Ct := { ash := (.cons (.d (.pair .id (.pair (.pair .id (.pair (.int .i64) (.pair (.int .i64) .unit))) .unit))) (.cons (.cptr (.d .id)) .unit)), ms := [], foot := false, up := [], rsh := (.cons (.d .bool) .unit), ks := [], ms' := [], G := fun x => trS (ohostAt_1 x) }
noncomputable def EhostAt_1 : Env := mkE Try.prog [(93, c_hostKey_Name.fc)] [] 72 [] [] 0
theorem runhostAt_1 : ∀ x, run EhostAt_1 72 chostAt_1 x = bhostAt_1 x
  | ((x0, (x1, ())), ()) => by kernel_rfl
theorem ShostAt_1 : Spec Try.prog 72 chostAt_1.fc :=
  spec_fn (bs := []) (inl := []) (ls := []) mixed (hcs_cons S_hostKey_Name hcs_nil) (by kernel_rfl) (by kernel_rfl) (by decide) (by kernel_rfl) trivial ohostAt_1 (fun x => trS_get (ohostAt_1 x)) (fun x => (runhostAt_1 x).trans (ohostAt_1_eq x).symm)
/- function 65: (.d (.sl (.pair .id (.pair (.pair .id (.pair (.int .i64) (.pair (.int .i64) .unit))) .unit)))) (.fn (.func 72) .unit (.cons (.cptr (.d .id)) .unit)) -/
noncomputable def rslicesIndexFuncdx2 (x : ((List (Am.Id × ((Am.Id × (Int × (Int × Unit))) × Unit)) × ((Unit × (Am.Id × Unit)) × (Int × (Int × Unit)))) × Unit)) : Option (((List (Am.Id × ((Am.Id × (Int × (Int × Unit))) × Unit)) × ((Unit × (Am.Id × Unit)) × (Int × (Int × Unit)))) × Unit) ⊕ ((Unit × Unit) ⊕ (((Int × Unit) × Unit) ⊕ Empty))) := match x with
  | ((x0, (((), (x1, ())), (x2, (x3, ())))), ()) => bif ilt x3 x2 then bif bif ile 0 x3 then ilt x3 (dlen x0) else false then bS (ohostAt_1 ((dget (Ty.id.pair ((Ty.id.pair ((Ty.int IntKind.i64).pair ((Ty.int IntKind.i64).pair Ty.unit))).pair Ty.unit)) x0 x3, x1, ()), ())) fun v0 => bif v0.fst.fst then some (Sum.inr (Sum.inr (Sum.inl ((x3, ()), ())))) else some (Sum.inl ((x0, ((), x1, ()), x2, iwrap IntKind.i64 (iadd x3 1), ()), ())) else none else some (Sum.inr (Sum.inl ((), ())))
noncomputable def wslicesIndexFuncdx2 : ((List (Am.Id × ((Am.Id × (Int × (Int × Unit))) × Unit)) × ((Unit × (Am.Id × Unit)) × (Int × (Int × Unit)))) × Unit) → Option ((Unit × Unit) ⊕ (((Int × Unit) × Unit) ⊕ Empty)) := shut (whl rslicesIndexFuncdx2)
noncomputable def lslicesIndexFuncdx2 : Lp := { m := 19, up := [], ksE := [], ksA := [], keep := [0, 1, 7, 8], sh := (.cons (.d (.sl (.pair .id (.pair (.pair .id (.pair (.int .i64) (.pair (.int .i64) .unit))) .unit)))) (.cons (.fn (.func 72) .unit (.cons (.cptr (.d .id)) .unit)) (.cons (.d (.int .i64)) (.cons (.d (.int .i64)) .unit)))), ms := [], outs := [{ e := .exit 0, keep := [], ks := [], sh := .unit, ms := [] }, { e := .ret, keep := [4], ks := [], sh := (.cons (.d (.int .i64)) .unit), ms := [] }], sum := fun x => (trO1 (trO1 trO0)) (wslicesIndexFuncdx2 x) }
noncomputable def bslicesIndexFuncd (x : ((List (Am.Id × ((Am.Id × (Int × (Int × Unit))) × Unit)) × ((Unit × (Am.Id × Unit)) × Unit)) × Unit)) : Option ((Int × Unit) × Unit) := match x with
  | ((x0, (((), (x1, ())), ())), ()) => bL (wslicesIndexFuncdx2 ((x0, ((), x1, ()), dlen x0, 0, ()), ())) (fun v0 => some ((-1, ()), ())) fun u0 => bL u0 (fun v1 => some v1) fun u1 => none
noncomputable def oslicesIndexFuncd : ((List (Am.Id × ((Am.Id × (Int × (Int × Unit))) × Unit)) × ((Unit × (Am.Id × Unit)) × Unit)) × Unit) → Option ((Int × Unit) × Unit) := shut bslicesIndexFuncd
theorem oslicesIndexFuncd_eq (x) : oslicesIndexFuncd x = bslicesIndexFuncd x := by rw [oslicesIndexFuncd, shut_eq]
theorem wslicesIndexFuncdx2_eq (x) : wslicesIndexFuncdx2 x = whl rslicesIndexFuncdx2 x := by rw [wslicesIndexFuncdx2, shut_eq]
noncomputable def cslicesIndexFuncd : Ct := { ash := (.cons (.d (.sl (.pair .id (.pair (.pair .id (.pair (.int .i64) (.pair (.int .i64) .unit))) .unit)))) (.cons (.fn (.func 72) .unit (.cons (.cptr (.d .id)) .unit)) .unit)), ms := [], foot := false, up := [], rsh := (.cons (.d (.int .i64)) .unit), ks := [], ms' := [], G := fun x => trS (oslicesIndexFuncd x) }
noncomputable def EslicesIndexFuncd : Env := mkE Try.prog [(72, chostAt_1.fc)] [] 65 [(2, .sum lslicesIndexFuncdx2)] [] 0
theorem rdslicesIndexFuncdx2 : ∀ x, round1 EslicesIndexFuncd 65 lslicesIndexFuncdx2 (loopAt Try.prog 65 0) x = rslicesIndexFuncdx2 x
  | ((x0, (((), (x1, ())), (x2, (x3, ())))), ()) => by kernel_rfl
theorem runslicesIndexFuncd : ∀ x, run EslicesIndexFuncd 65 cslicesIndexFuncd x = bslicesIndexFuncd x
  | ((x0, (((), (x1, ())), ())), ()) => by kernel_rfl
theorem SslicesIndexFuncd : Spec Try.prog 65 cslicesIndexFuncd.fc :=
  spec_fn (bs := [loopAt Try.prog 65 0]) (inl := []) (ls := [(2, .sum lslicesIndexFuncdx2)]) mixed (hcs_cons ShostAt_1 hcs_nil) (by kernel_rfl) (by kernel_rfl) (by decide) (by kernel_rfl) ⟨by kernel_rfl, lkOk_mk rdslicesIndexFuncdx2 (fun x => ((trO1_get (trO1_get trO0_get)) _).trans (wslicesIndexFuncdx2_eq x)) rfl, trivial⟩ oslicesIndexFuncd (fun x => trS_get (oslicesIndexFuncd x)) (fun x => (runslicesIndexFuncd x).trans (oslicesIndexFuncd_eq x).symm)
/- function 59: (.d (.sl (.pair .id (.pair (.pair .id (.pair (.int .i64) (.pair (.int .i64) .unit))) .unit)))) (.d .id) -/
noncomputable def bhostAt (x : ((List (Am.Id × ((Am.Id × (Int × (Int × Unit))) × Unit)) × (Am.Id × Unit)) × Unit)) : Option ((Int × Unit) × Unit) := match x with
  | ((x0, (x1, ())), ()) => bS (oslicesIndexFuncd ((x0, ((), x1, ()), ()), ())) fun v0 => some v0
noncomputable def ohostAt : ((List (Am.Id × ((Am.Id × (Int × (Int × Unit))) × Unit)) × (Am.Id × Unit)) × Unit) → Option ((Int × Unit) × Unit) := shut bhostAt
theorem ohostAt_eq (x) : ohostAt x = bhostAt x := by rw [ohostAt, shut_eq]
noncomputable def chostAt : Ct := { ash := (.cons (.d (.sl (.pair .id (.pair (.pair .id (.pair (.int .i64) (.pair (.int .i64) .unit))) .unit)))) (.cons (.d .id) .unit)), ms := [], foot := false, up := [], rsh := (.cons (.d (.int .i64)) .unit), ks := [], ms' := [], G := fun x => trS (ohostAt x) }
noncomputable def EhostAt : Env := mkE Try.prog [(65, cslicesIndexFuncd.fc)] [] 59 [] [] 0
theorem runhostAt : ∀ x, run EhostAt 59 chostAt x = bhostAt x
  | ((x0, (x1, ())), ()) => by kernel_rfl
theorem ShostAt : Spec Try.prog 59 chostAt.fc :=
  spec_fn (bs := []) (inl := []) (ls := []) mixed (hcs_cons SslicesIndexFuncd hcs_nil) (by kernel_rfl) (by kernel_rfl) (by decide) (by kernel_rfl) trivial ohostAt (fun x => trS_get (ohostAt x)) (fun x => (runhostAt x).trans (ohostAt_eq x).symm)
/- function 50: (.d (.sl (.pair .id (.pair (.pair .id (.pair (.int .i64) (.pair (.int .i64) .unit))) .unit)))) -/
noncomputable def rhostUnlikebx2 (x : ((List (Am.Id × ((Am.Id × (Int × (Int × Unit))) × Unit)) × (List (Am.Id × ((Am.Id × (Int × (Int × Unit))) × Unit)) × (Int × (Int × Unit)))) × Unit)) : Option (((List (Am.Id × ((Am.Id × (Int × (Int × Unit))) × Unit)) × (List (Am.Id × ((Am.Id × (Int × (Int × Unit))) × Unit)) × (Int × (Int × Unit)))) × Unit) ⊕ (((List (Am.Id × ((Am.Id × (Int × (Int × Unit))) × Unit)) × Unit) × Unit) ⊕ (((Bool × Unit) × Unit) ⊕ Empty))) := match x with
  | ((x0, (x1, (x2, (x3, ())))), ()) => bif ilt x3 x2 then bif bif ile 0 x3 then ilt x3 (dlen x1) else false then bS (o_hostKey_Name (((dget (Ty.id.pair ((Ty.id.pair ((Ty.int IntKind.i64).pair ((Ty.int IntKind.i64).pair Ty.unit))).pair Ty.unit)) x1 x3).fst, ()), ())) fun v0 => bS (ohostAt ((x0, v0.fst), ())) fun v1 => bif bif ieq v1.fst.fst x3 then false else true then some (Sum.inr (Sum.inr (Sum.inl ((false, ()), ())))) else some (Sum.inl ((x0, x1, x2, iwrap IntKind.i64 (iadd x3 1), ()), ())) else none else some (Sum.inr (Sum.inl ((x0, ()), ())))
noncomputable def whostUnlikebx2 : ((List (Am.Id × ((Am.Id × (Int × (Int × Unit))) × Unit)) × (List (Am.Id × ((Am.Id × (Int × (Int × Unit))) × Unit)) × (Int × (Int × Unit)))) × Unit) → Option (((List (Am.Id × ((Am.Id × (Int × (Int × Unit))) × Unit)) × Unit) × Unit) ⊕ (((Bool × Unit) × Unit) ⊕ Empty)) := shut (whl rhostUnlikebx2)
noncomputable def lhostUnlikebx2 : Lp := { m := 23, up := [], ksE := [], ksA := [], keep := [0, 5, 6, 7], sh := (.cons (.d (.sl (.pair .id (.pair (.pair .id (.pair (.int .i64) (.pair (.int .i64) .unit))) .unit)))) (.cons (.d (.sl (.pair .id (.pair (.pair .id (.pair (.int .i64) (.pair (.int .i64) .unit))) .unit)))) (.cons (.d (.int .i64)) (.cons (.d (.int .i64)) .unit)))), ms := [], outs := [{ e := .exit 0, keep := [0], ks := [], sh := (.cons (.d (.sl (.pair .id (.pair (.pair .id (.pair (.int .i64) (.pair (.int .i64) .unit))) .unit)))) .unit), ms := [] }, { e := .ret, keep := [2], ks := [], sh := (.cons (.d .bool) .unit), ms := [] }], sum := fun x => (trO1 (trO1 trO0)) (whostUnlikebx2 x) }
noncomputable def bhostUnlikeb (x : ((List (Am.Id × ((Am.Id × (Int × (Int × Unit))) × Unit)) × Unit) × Unit)) : Option ((Bool × Unit) × Unit) := match x with
  | ((x0, ()), ()) => bL (whostUnlikebx2 ((x0, x0, dlen x0, 0, ()), ())) (fun v0 => some ((ile (dlen v0.fst.fst) 8, ()), ())) fun u0 => bL u0 (fun v1 => some v1) fun u1 => none
noncomputable def ohostUnlikeb : ((List (Am.Id × ((Am.Id × (Int × (Int × Unit))) × Unit)) × Unit) × Unit) → Option ((Bool × Unit) × Unit) := shut bhostUnlikeb
theorem ohostUnlikeb_eq (x) : ohostUnlikeb x = bhostUnlikeb x := by rw [ohostUnlikeb, shut_eq]
theorem whostUnlikebx2_eq (x) : whostUnlikebx2 x = whl rhostUnlikebx2 x := by rw [whostUnlikebx2, shut_eq]
noncomputable def chostUnlikeb : Ct := { ash := (.cons (.d (.sl (.pair .id (.pair (.pair .id (.pair (.int .i64) (.pair (.int .i64) .unit))) .unit)))) .unit), ms := [], foot := false, up := [], rsh := (.cons (.d .bool) .unit), ks := [], ms' := [], G := fun x => trS (ohostUnlikeb x) }
noncomputable def EhostUnlikeb : Env := mkE Try.prog [(93, c_hostKey_Name.fc), (59, chostAt.fc)] [] 50 [(2, .sum lhostUnlikebx2)] [] 0
theorem rdhostUnlikebx2 : ∀ x, round1 EhostUnlikeb 50 lhostUnlikebx2 (loopAt Try.prog 50 0) x = rhostUnlikebx2 x
  | ((x0, (x1, (x2, (x3, ())))), ()) => by kernel_rfl
theorem runhostUnlikeb : ∀ x, run EhostUnlikeb 50 chostUnlikeb x = bhostUnlikeb x
  | ((x0, ()), ()) => by kernel_rfl
theorem ShostUnlikeb : Spec Try.prog 50 chostUnlikeb.fc :=
  spec_fn (bs := [loopAt Try.prog 50 0]) (inl := []) (ls := [(2, .sum lhostUnlikebx2)]) mixed (hcs_cons S_hostKey_Name (hcs_cons ShostAt hcs_nil)) (by kernel_rfl) (by kernel_rfl) (by decide) (by kernel_rfl) ⟨by kernel_rfl, lkOk_mk rdhostUnlikebx2 (fun x => ((trO1_get (trO1_get trO0_get)) _).trans (whostUnlikebx2_eq x)) rfl, trivial⟩ ohostUnlikeb (fun x => trS_get (ohostUnlikeb x)) (fun x => (runhostUnlikeb x).trans (ohostUnlikeb_eq x).symm)
/- function 28: (.d (.int .i64)) -/
noncomputable def bhostTime (x : ((Int × Unit) × Unit)) : Option ((Bool × Unit) × Unit) := match x with
  | ((x0, ()), ()) => bif ile 0 x0 then some ((ile x0 1099511627776, ()), ()) else some ((false, ()), ())
noncomputable def ohostTime : ((Int × Unit) × Unit) → Option ((Bool × Unit) × Unit) := shut bhostTime
theorem ohostTime_eq (x) : ohostTime x = bhostTime x := by rw [ohostTime, shut_eq]
noncomputable def chostTime : Ct := { ash := (.cons (.d (.int .i64)) .unit), ms := [], foot := false, up := [], rsh := (.cons (.d .bool) .unit), ks := [], ms' := [], G := fun x => trS (ohostTime x) }
noncomputable def EhostTime : Env := mkE Try.prog [] [] 28 [] [] 0
theorem runhostTime : ∀ x, run EhostTime 28 chostTime x = bhostTime x
  | ((x0, ()), ()) => by kernel_rfl
theorem ShostTime : Spec Try.prog 28 chostTime.fc :=
  spec_fn (bs := []) (inl := []) (ls := []) mixed hcs_nil (by kernel_rfl) (by kernel_rfl) (by decide) (by kernel_rfl) trivial ohostTime (fun x => trS_get (ohostTime x)) (fun x => (runhostTime x).trans (ohostTime_eq x).symm)
/- function 46: (.d (.pair .id (.pair (.pair .id (.pair (.int .i64) (.pair (.int .i64) .unit))) .unit))) -/
noncomputable def bhostRight_2 (x : (((Am.Id × ((Am.Id × (Int × (Int × Unit))) × Unit)) × Unit) × Unit)) : Option ((Bool × Unit) × Unit) := match x with
  | ((x0, ()), ()) => bS (ohostNumber ((x0.snd.fst.snd.fst, ()), ())) fun v0 => bif bif bif v0.fst.fst then false else true then false else true then bS (ohostTime (x0.snd.fst.snd.snd, ())) fun v1 => some ((bif v1.fst.fst then false else true, ()), ()) else some ((true, ()), ())
noncomputable def ohostRight_2 : (((Am.Id × ((Am.Id × (Int × (Int × Unit))) × Unit)) × Unit) × Unit) → Option ((Bool × Unit) × Unit) := shut bhostRight_2
theorem ohostRight_2_eq (x) : ohostRight_2 x = bhostRight_2 x := by rw [ohostRight_2, shut_eq]
noncomputable def chostRight_2 : Ct := { ash := (.cons (.d (.pair .id (.pair (.pair .id (.pair (.int .i64) (.pair (.int .i64) .unit))) .unit))) .unit), ms := [], foot := false, up := [], rsh := (.cons (.d .bool) .unit), ks := [], ms' := [], G := fun x => trS (ohostRight_2 x) }
noncomputable def EhostRight_2 : Env := mkE Try.prog [(38, chostNumber.fc), (28, chostTime.fc)] [] 46 [] [] 0
theorem runhostRight_2 : ∀ x, run EhostRight_2 46 chostRight_2 x = bhostRight_2 x
  | ((x0, ()), ()) => by kernel_rfl
theorem ShostRight_2 : Spec Try.prog 46 chostRight_2.fc :=
  spec_fn (bs := []) (inl := []) (ls := []) mixed (hcs_cons ShostNumber (hcs_cons ShostTime hcs_nil)) (by kernel_rfl) (by kernel_rfl) (by decide) (by kernel_rfl) trivial ohostRight_2 (fun x => trS_get (ohostRight_2 x)) (fun x => (runhostRight_2 x).trans (ohostRight_2_eq x).symm)
/- function 65: (.d (.sl (.pair .id (.pair (.pair .id (.pair (.int .i64) (.pair (.int .i64) .unit))) .unit)))) (.fn (.func 46) .unit .unit) -/
noncomputable def rslicesIndexFuncbx2 (x : ((List (Am.Id × ((Am.Id × (Int × (Int × Unit))) × Unit)) × ((Unit × Unit) × (Int × (Int × Unit)))) × Unit)) : Option (((List (Am.Id × ((Am.Id × (Int × (Int × Unit))) × Unit)) × ((Unit × Unit) × (Int × (Int × Unit)))) × Unit) ⊕ ((Unit × Unit) ⊕ (((Int × Unit) × Unit) ⊕ Empty))) := match x with
  | ((x0, (((), ()), (x1, (x2, ())))), ()) => bif ilt x2 x1 then bif bif ile 0 x2 then ilt x2 (dlen x0) else false then bS (ohostRight_2 ((dget (Ty.id.pair ((Ty.id.pair ((Ty.int IntKind.i64).pair ((Ty.int IntKind.i64).pair Ty.unit))).pair Ty.unit)) x0 x2, ()), ())) fun v0 => bif v0.fst.fst then some (Sum.inr (Sum.inr (Sum.inl ((x2, ()), ())))) else some (Sum.inl ((x0, ((), ()), x1, iwrap IntKind.i64 (iadd x2 1), ()), ())) else none else some (Sum.inr (Sum.inl ((), ())))
noncomputable def wslicesIndexFuncbx2 : ((List (Am.Id × ((Am.Id × (Int × (Int × Unit))) × Unit)) × ((Unit × Unit) × (Int × (Int × Unit)))) × Unit) → Option ((Unit × Unit) ⊕ (((Int × Unit) × Unit) ⊕ Empty)) := shut (whl rslicesIndexFuncbx2)
noncomputable def lslicesIndexFuncbx2 : Lp := { m := 19, up := [], ksE := [], ksA := [], keep := [0, 1, 7, 8], sh := (.cons (.d (.sl (.pair .id (.pair (.pair .id (.pair (.int .i64) (.pair (.int .i64) .unit))) .unit)))) (.cons (.fn (.func 46) .unit .unit) (.cons (.d (.int .i64)) (.cons (.d (.int .i64)) .unit)))), ms := [], outs := [{ e := .exit 0, keep := [], ks := [], sh := .unit, ms := [] }, { e := .ret, keep := [4], ks := [], sh := (.cons (.d (.int .i64)) .unit), ms := [] }], sum := fun x => (trO1 (trO1 trO0)) (wslicesIndexFuncbx2 x) }
noncomputable def bslicesIndexFuncb (x : ((List (Am.Id × ((Am.Id × (Int × (Int × Unit))) × Unit)) × ((Unit × Unit) × Unit)) × Unit)) : Option ((Int × Unit) × Unit) := match x with
  | ((x0, (((), ()), ())), ()) => bL (wslicesIndexFuncbx2 ((x0, ((), ()), dlen x0, 0, ()), ())) (fun v0 => some ((-1, ()), ())) fun u0 => bL u0 (fun v1 => some v1) fun u1 => none
noncomputable def oslicesIndexFuncb : ((List (Am.Id × ((Am.Id × (Int × (Int × Unit))) × Unit)) × ((Unit × Unit) × Unit)) × Unit) → Option ((Int × Unit) × Unit) := shut bslicesIndexFuncb
theorem oslicesIndexFuncb_eq (x) : oslicesIndexFuncb x = bslicesIndexFuncb x := by rw [oslicesIndexFuncb, shut_eq]
theorem wslicesIndexFuncbx2_eq (x) : wslicesIndexFuncbx2 x = whl rslicesIndexFuncbx2 x := by rw [wslicesIndexFuncbx2, shut_eq]
noncomputable def cslicesIndexFuncb : Ct := { ash := (.cons (.d (.sl (.pair .id (.pair (.pair .id (.pair (.int .i64) (.pair (.int .i64) .unit))) .unit)))) (.cons (.fn (.func 46) .unit .unit) .unit)), ms := [], foot := false, up := [], rsh := (.cons (.d (.int .i64)) .unit), ks := [], ms' := [], G := fun x => trS (oslicesIndexFuncb x) }
noncomputable def EslicesIndexFuncb : Env := mkE Try.prog [(46, chostRight_2.fc)] [] 65 [(2, .sum lslicesIndexFuncbx2)] [] 0
theorem rdslicesIndexFuncbx2 : ∀ x, round1 EslicesIndexFuncb 65 lslicesIndexFuncbx2 (loopAt Try.prog 65 0) x = rslicesIndexFuncbx2 x
  | ((x0, (((), ()), (x1, (x2, ())))), ()) => by kernel_rfl
theorem runslicesIndexFuncb : ∀ x, run EslicesIndexFuncb 65 cslicesIndexFuncb x = bslicesIndexFuncb x
  | ((x0, (((), ()), ())), ()) => by kernel_rfl
theorem SslicesIndexFuncb : Spec Try.prog 65 cslicesIndexFuncb.fc :=
  spec_fn (bs := [loopAt Try.prog 65 0]) (inl := []) (ls := [(2, .sum lslicesIndexFuncbx2)]) mixed (hcs_cons ShostRight_2 hcs_nil) (by kernel_rfl) (by kernel_rfl) (by decide) (by kernel_rfl) ⟨by kernel_rfl, lkOk_mk rdslicesIndexFuncbx2 (fun x => ((trO1_get (trO1_get trO0_get)) _).trans (wslicesIndexFuncbx2_eq x)) rfl, trivial⟩ oslicesIndexFuncb (fun x => trS_get (oslicesIndexFuncb x)) (fun x => (runslicesIndexFuncb x).trans (oslicesIndexFuncb_eq x).symm)
/- function 51: (.d (.sl (.pair .id (.pair (.pair .id (.pair (.int .i64) (.pair (.int .i64) .unit))) .unit)))) (.fn (.func 46) .unit .unit) -/
noncomputable def bslicesContainsFuncb (x : ((List (Am.Id × ((Am.Id × (Int × (Int × Unit))) × Unit)) × ((Unit × Unit) × Unit)) × Unit)) : Option ((Bool × Unit) × Unit) := match x with
  | ((x0, (((), ()), ())), ()) => bS (oslicesIndexFuncb ((x0, ((), ()), ()), ())) fun v0 => some ((ile 0 v0.fst.fst, ()), ())
noncomputable def oslicesContainsFuncb : ((List (Am.Id × ((Am.Id × (Int × (Int × Unit))) × Unit)) × ((Unit × Unit) × Unit)) × Unit) → Option ((Bool × Unit) × Unit) := shut bslicesContainsFuncb
theorem oslicesContainsFuncb_eq (x) : oslicesContainsFuncb x = bslicesContainsFuncb x := by rw [oslicesContainsFuncb, shut_eq]
noncomputable def cslicesContainsFuncb : Ct := { ash := (.cons (.d (.sl (.pair .id (.pair (.pair .id (.pair (.int .i64) (.pair (.int .i64) .unit))) .unit)))) (.cons (.fn (.func 46) .unit .unit) .unit)), ms := [], foot := false, up := [], rsh := (.cons (.d .bool) .unit), ks := [], ms' := [], G := fun x => trS (oslicesContainsFuncb x) }
noncomputable def EslicesContainsFuncb : Env := mkE Try.prog [(65, cslicesIndexFuncb.fc)] [] 51 [] [] 0
theorem runslicesContainsFuncb : ∀ x, run EslicesContainsFuncb 51 cslicesContainsFuncb x = bslicesContainsFuncb x
  | ((x0, (((), ()), ())), ()) => by kernel_rfl
theorem SslicesContainsFuncb : Spec Try.prog 51 cslicesContainsFuncb.fc :=
  spec_fn (bs := []) (inl := []) (ls := []) mixed (hcs_cons SslicesIndexFuncb hcs_nil) (by kernel_rfl) (by kernel_rfl) (by decide) (by kernel_rfl) trivial oslicesContainsFuncb (fun x => trS_get (oslicesContainsFuncb x)) (fun x => (runslicesContainsFuncb x).trans (oslicesContainsFuncb_eq x).symm)
/- function 47: (.d .str) -/
noncomputable def bhostRight_3 (x : ((List UInt8 × Unit) × Unit)) : Option ((Bool × Unit) × Unit) := match x with
  | ((x0, ()), ()) => some ((ilt 64 (dlen x0), ()), ())
noncomputable def ohostRight_3 : ((List UInt8 × Unit) × Unit) → Option ((Bool × Unit) × Unit) := shut bhostRight_3
theorem ohostRight_3_eq (x) : ohostRight_3 x = bhostRight_3 x := by rw [ohostRight_3, shut_eq]
noncomputable def chostRight_3 : Ct := { ash := (.cons (.d .str) .unit), ms := [], foot := false, up := [], rsh := (.cons (.d .bool) .unit), ks := [], ms' := [], G := fun x => trS (ohostRight_3 x) }
noncomputable def EhostRight_3 : Env := mkE Try.prog [] [] 47 [] [] 0
theorem runhostRight_3 : ∀ x, run EhostRight_3 47 chostRight_3 x = bhostRight_3 x
  | ((x0, ()), ()) => by kernel_rfl
theorem ShostRight_3 : Spec Try.prog 47 chostRight_3.fc :=
  spec_fn (bs := []) (inl := []) (ls := []) mixed hcs_nil (by kernel_rfl) (by kernel_rfl) (by decide) (by kernel_rfl) trivial ohostRight_3 (fun x => trS_get (ohostRight_3 x)) (fun x => (runhostRight_3 x).trans (ohostRight_3_eq x).symm)
/- function 66: (.d (.sl .str)) (.fn (.func 47) .unit .unit) -/
noncomputable def rslicesIndexFunccx2 (x : ((List (List UInt8) × ((Unit × Unit) × (Int × (Int × Unit)))) × Unit)) : Option (((List (List UInt8) × ((Unit × Unit) × (Int × (Int × Unit)))) × Unit) ⊕ ((Unit × Unit) ⊕ (((Int × Unit) × Unit) ⊕ Empty))) := match x with
  | ((x0, (((), ()), (x1, (x2, ())))), ()) => bif ilt x2 x1 then bif bif ile 0 x2 then ilt x2 (dlen x0) else false then bS (ohostRight_3 ((dget Ty.str x0 x2, ()), ())) fun v0 => bif v0.fst.fst then some (Sum.inr (Sum.inr (Sum.inl ((x2, ()), ())))) else some (Sum.inl ((x0, ((), ()), x1, iwrap IntKind.i64 (iadd x2 1), ()), ())) else none else some (Sum.inr (Sum.inl ((), ())))
noncomputable def wslicesIndexFunccx2 : ((List (List UInt8) × ((Unit × Unit) × (Int × (Int × Unit)))) × Unit) → Option ((Unit × Unit) ⊕ (((Int × Unit) × Unit) ⊕ Empty)) := shut (whl rslicesIndexFunccx2)
noncomputable def lslicesIndexFunccx2 : Lp := { m := 19, up := [], ksE := [], ksA := [], keep := [0, 1, 7, 8], sh := (.cons (.d (.sl .str)) (.cons (.fn (.func 47) .unit .unit) (.cons (.d (.int .i64)) (.cons (.d (.int .i64)) .unit)))), ms := [], outs := [{ e := .exit 0, keep := [], ks := [], sh := .unit, ms := [] }, { e := .ret, keep := [4], ks := [], sh := (.cons (.d (.int .i64)) .unit), ms := [] }], sum := fun x => (trO1 (trO1 trO0)) (wslicesIndexFunccx2 x) }
noncomputable def bslicesIndexFuncc (x : ((List (List UInt8) × ((Unit × Unit) × Unit)) × Unit)) : Option ((Int × Unit) × Unit) := match x with
  | ((x0, (((), ()), ())), ()) => bL (wslicesIndexFunccx2 ((x0, ((), ()), dlen x0, 0, ()), ())) (fun v0 => some ((-1, ()), ())) fun u0 => bL u0 (fun v1 => some v1) fun u1 => none
noncomputable def oslicesIndexFuncc : ((List (List UInt8) × ((Unit × Unit) × Unit)) × Unit) → Option ((Int × Unit) × Unit) := shut bslicesIndexFuncc
theorem oslicesIndexFuncc_eq (x) : oslicesIndexFuncc x = bslicesIndexFuncc x := by rw [oslicesIndexFuncc, shut_eq]
theorem wslicesIndexFunccx2_eq (x) : wslicesIndexFunccx2 x = whl rslicesIndexFunccx2 x := by rw [wslicesIndexFunccx2, shut_eq]
noncomputable def cslicesIndexFuncc : Ct := { ash := (.cons (.d (.sl .str)) (.cons (.fn (.func 47) .unit .unit) .unit)), ms := [], foot := false, up := [], rsh := (.cons (.d (.int .i64)) .unit), ks := [], ms' := [], G := fun x => trS (oslicesIndexFuncc x) }
noncomputable def EslicesIndexFuncc : Env := mkE Try.prog [(47, chostRight_3.fc)] [] 66 [(2, .sum lslicesIndexFunccx2)] [] 0
theorem rdslicesIndexFunccx2 : ∀ x, round1 EslicesIndexFuncc 66 lslicesIndexFunccx2 (loopAt Try.prog 66 0) x = rslicesIndexFunccx2 x
  | ((x0, (((), ()), (x1, (x2, ())))), ()) => by kernel_rfl
theorem runslicesIndexFuncc : ∀ x, run EslicesIndexFuncc 66 cslicesIndexFuncc x = bslicesIndexFuncc x
  | ((x0, (((), ()), ())), ()) => by kernel_rfl
theorem SslicesIndexFuncc : Spec Try.prog 66 cslicesIndexFuncc.fc :=
  spec_fn (bs := [loopAt Try.prog 66 0]) (inl := []) (ls := [(2, .sum lslicesIndexFunccx2)]) mixed (hcs_cons ShostRight_3 hcs_nil) (by kernel_rfl) (by kernel_rfl) (by decide) (by kernel_rfl) ⟨by kernel_rfl, lkOk_mk rdslicesIndexFunccx2 (fun x => ((trO1_get (trO1_get trO0_get)) _).trans (wslicesIndexFunccx2_eq x)) rfl, trivial⟩ oslicesIndexFuncc (fun x => trS_get (oslicesIndexFuncc x)) (fun x => (runslicesIndexFuncc x).trans (oslicesIndexFuncc_eq x).symm)
/- function 52: (.d (.sl .str)) (.fn (.func 47) .unit .unit) -/
noncomputable def bslicesContainsFuncc (x : ((List (List UInt8) × ((Unit × Unit) × Unit)) × Unit)) : Option ((Bool × Unit) × Unit) := match x with
  | ((x0, (((), ()), ())), ()) => bS (oslicesIndexFuncc ((x0, ((), ()), ()), ())) fun v0 => some ((ile 0 v0.fst.fst, ()), ())
noncomputable def oslicesContainsFuncc : ((List (List UInt8) × ((Unit × Unit) × Unit)) × Unit) → Option ((Bool × Unit) × Unit) := shut bslicesContainsFuncc
theorem oslicesContainsFuncc_eq (x) : oslicesContainsFuncc x = bslicesContainsFuncc x := by rw [oslicesContainsFuncc, shut_eq]
noncomputable def cslicesContainsFuncc : Ct := { ash := (.cons (.d (.sl .str)) (.cons (.fn (.func 47) .unit .unit) .unit)), ms := [], foot := false, up := [], rsh := (.cons (.d .bool) .unit), ks := [], ms' := [], G := fun x => trS (oslicesContainsFuncc x) }
noncomputable def EslicesContainsFuncc : Env := mkE Try.prog [(66, cslicesIndexFuncc.fc)] [] 52 [] [] 0
theorem runslicesContainsFuncc : ∀ x, run EslicesContainsFuncc 52 cslicesContainsFuncc x = bslicesContainsFuncc x
  | ((x0, (((), ()), ())), ()) => by kernel_rfl
theorem SslicesContainsFuncc : Spec Try.prog 52 cslicesContainsFuncc.fc :=
  spec_fn (bs := []) (inl := []) (ls := []) mixed (hcs_cons SslicesIndexFuncc hcs_nil) (by kernel_rfl) (by kernel_rfl) (by decide) (by kernel_rfl) trivial oslicesContainsFuncc (fun x => trS_get (oslicesContainsFuncc x)) (fun x => (runslicesContainsFuncc x).trans (oslicesContainsFuncc_eq x).symm)
/- function 22: (.d (.pair (.int .i64) (.pair (.int .i64) (.pair (.sl (.pair .id (.pair (.int .i64) .unit))) (.pair (.sl (.pair .id (.pair (.int .i64) (.pair (.int .i64) .unit)))) (.pair (.sl .str) .unit)))))) -/
noncomputable def bhostRight (x : (((Int × (Int × (List (Am.Id × (Int × Unit)) × (List (Am.Id × (Int × (Int × Unit))) × (List (List UInt8) × Unit))))) × Unit) × Unit)) : Option ((Bool × Unit) × Unit) := match x with
  | ((x0, ()), ()) => bS (ohostWants ((x0, ()), ())) fun v0 => bS (ohostHints ((x0, ()), ())) fun v1 => bS (ohostUnlike v0) fun v2 => bif v2.fst.fst then bS (oslicesContainsFunc ((v0.fst.fst, ((), ()), ()), ())) fun v3 => bif bif v3.fst.fst then false else true then bS (ohostUnlikeb v1) fun v4 => bif v4.fst.fst then bS (oslicesContainsFuncb ((v1.fst.fst, ((), ()), ()), ())) fun v5 => bS (ohostNumber ((x0.fst, ()), ())) fun v6 => bif v6.fst.fst then bS (ohostNumber ((x0.snd.fst, ()), ())) fun v7 => bif v7.fst.fst then bif bif v5.fst.fst then false else true then bif ile (dlen x0.snd.snd.snd.snd.fst) 32 then bS (oslicesContainsFuncc ((x0.snd.snd.snd.snd.fst, ((), ()), ()), ())) fun v8 => some ((bif v8.fst.fst then false else true, ()), ()) else some ((false, ()), ()) else some ((false, ()), ()) else some ((false, ()), ()) else some ((false, ()), ()) else bS (ohostNumber ((x0.fst, ()), ())) fun v5 => bif v5.fst.fst then bS (ohostNumber ((x0.snd.fst, ()), ())) fun v6 => bif v6.fst.fst then some ((false, ()), ()) else some ((false, ()), ()) else some ((false, ()), ()) else bS (ohostNumber ((x0.fst, ()), ())) fun v4 => bif v4.fst.fst then bS (ohostNumber ((x0.snd.fst, ()), ())) fun v5 => bif v5.fst.fst then some ((false, ()), ()) else some ((false, ()), ()) else some ((false, ()), ()) else bS (ohostNumber ((x0.fst, ()), ())) fun v3 => bif v3.fst.fst then bS (ohostNumber ((x0.snd.fst, ()), ())) fun v4 => bif v4.fst.fst then some ((false, ()), ()) else some ((false, ()), ()) else some ((false, ()), ())
noncomputable def ohostRight : (((Int × (Int × (List (Am.Id × (Int × Unit)) × (List (Am.Id × (Int × (Int × Unit))) × (List (List UInt8) × Unit))))) × Unit) × Unit) → Option ((Bool × Unit) × Unit) := shut bhostRight
theorem ohostRight_eq (x) : ohostRight x = bhostRight x := by rw [ohostRight, shut_eq]
noncomputable def chostRight : Ct := { ash := (.cons (.d (.pair (.int .i64) (.pair (.int .i64) (.pair (.sl (.pair .id (.pair (.int .i64) .unit))) (.pair (.sl (.pair .id (.pair (.int .i64) (.pair (.int .i64) .unit)))) (.pair (.sl .str) .unit)))))) .unit), ms := [], foot := false, up := [], rsh := (.cons (.d .bool) .unit), ks := [], ms' := [], G := fun x => trS (ohostRight x) }
noncomputable def EhostRight : Env := mkE Try.prog [(40, chostWants.fc), (44, chostHints.fc), (48, chostUnlike.fc), (49, cslicesContainsFunc.fc), (38, chostNumber.fc), (50, chostUnlikeb.fc), (51, cslicesContainsFuncb.fc), (52, cslicesContainsFuncc.fc)] [] 22 [] [] 0
theorem runhostRight : ∀ x, run EhostRight 22 chostRight x = bhostRight x
  | ((x0, ()), ()) => by kernel_rfl
theorem ShostRight : Spec Try.prog 22 chostRight.fc :=
  spec_fn (bs := []) (inl := []) (ls := []) mixed (hcs_cons ShostWants (hcs_cons ShostHints (hcs_cons ShostUnlike (hcs_cons SslicesContainsFunc (hcs_cons ShostNumber (hcs_cons ShostUnlikeb (hcs_cons SslicesContainsFuncb (hcs_cons SslicesContainsFuncc hcs_nil)))))))) (by kernel_rfl) (by kernel_rfl) (by decide) (by kernel_rfl) trivial ohostRight (fun x => trS_get (ohostRight x)) (fun x => (runhostRight x).trans (ohostRight_eq x).symm)
end Am
end Go.Proofs.Ytdicedlgaknkoaa
