/-
  Printed contracts, part 2.
-/
import Derived.Test.YtkjpoongkdapoaaMa1
namespace Go.Proofs.Ytkjpoongkdapoaa
namespace Am
open Go Go.RowKit
set_option maxRecDepth 100000
set_option linter.unusedVariables false
/- function 16: (.d (.pair (.sl (.pair (.int .i64) (.pair (.int .i64) (.pair (.int .i64) (.pair .str .unit))))) (.pair (.int .i64) (.pair (.int .i64) .unit)))) (.d (.int .i64)) -/
noncomputable def bmailTwice (x : (((List (Int × (Int × (Int × (List UInt8 × Unit)))) × (Int × (Int × Unit))) × (Int × Unit)) × Unit)) : Option (((List (Int × (Int × (Int × (List UInt8 × Unit)))) × (Int × (Int × Unit))) × (Int × Unit)) × Unit) := match x with
  | ((x0, (x1, ())), ()) => bS (omailTake ((x0, x1, ()), ())) fun v0 => bif bif ieq v0.fst.snd.snd.fst 0 then false else true then some ((([], 0, 0, ()), v0.fst.snd.snd), ()) else bif ieq (dlen x0.fst) 64 then some ((([], 0, 0, ()), 8, ()), ()) else bS (oslicesClip ((x0.fst, ()), ())) fun v1 => bif fits (dlen v1.fst.fst) (dlen [v0.fst.snd.fst]) 40 then some (((dapp v1.fst.fst [v0.fst.snd.fst], x0.snd), 0, ()), ()) else none
noncomputable def omailTwice : (((List (Int × (Int × (Int × (List UInt8 × Unit)))) × (Int × (Int × Unit))) × (Int × Unit)) × Unit) → Option (((List (Int × (Int × (Int × (List UInt8 × Unit)))) × (Int × (Int × Unit))) × (Int × Unit)) × Unit) := shut bmailTwice
theorem omailTwice_eq (x) : omailTwice x = bmailTwice x := by rw [omailTwice, shut_eq]
noncomputable def cmailTwice : Ct := { ash := (.cons (.d (.pair (.sl (.pair (.int .i64) (.pair (.int .i64) (.pair (.int .i64) (.pair .str .unit))))) (.pair (.int .i64) (.pair (.int .i64) .unit)))) (.cons (.d (.int .i64)) .unit)), ms := [], foot := false, up := [], rsh := (.cons (.d (.pair (.sl (.pair (.int .i64) (.pair (.int .i64) (.pair (.int .i64) (.pair .str .unit))))) (.pair (.int .i64) (.pair (.int .i64) .unit)))) (.cons (.d (.int .i64)) .unit)), ks := [], ms' := [], G := fun x => trS (omailTwice x) }
noncomputable def EmailTwice : Env := mkE Try.prog [(15, cmailTake.fc), (19, cslicesClip.fc)] [] 16 [] [] 0
noncomputable def qmailTwice (x : (((List (Int × (Int × (Int × (List UInt8 × Unit)))) × (Int × (Int × Unit))) × (Int × Unit)) × Unit)) : Option (((List (Int × (Int × (Int × (List UInt8 × Unit)))) × (Int × (Int × Unit))) × (Int × Unit)) × Unit) := match x with
  | ((x0, (x1, ())), ()) => bS (omailTake ((x0, x1, ()), ())) fun v0 => bif bif ieq v0.fst.snd.snd.fst 0 then false else true then some ((([], 0, 0, ()), v0.fst.snd.snd), ()) else bif ieq (dlen x0.fst) 64 then some ((([], 0, 0, ()), 8, ()), ()) else agree (bS (oslicesClip ((x0.fst, ()), ())) fun v1 => bif fits (dlen v1.fst.fst) (dlen [v0.fst.snd.fst]) 40 then some (((dapp v1.fst.fst [v0.fst.snd.fst], x0.snd), 0, ()), ()) else none) (bS (oslicesClip ((x0.fst, ()), ())) fun v1 => bif fits (dlen v1.fst.fst) (dlen [v0.fst.snd.fst]) 40 then some (((dapp v1.fst.fst [v0.fst.snd.fst], x0.snd), 0, ()), ()) else none)
theorem runmailTwice : ∀ x, run EmailTwice 16 cmailTwice x = bmailTwice x
  | ((x0, (x1, ())), ()) => (show _ = qmailTwice ((x0, (x1, ())), ()) by kernel_rfl).trans (by simp only [qmailTwice, bmailTwice, agree_self])
theorem SmailTwice : Spec Try.prog 16 cmailTwice.fc :=
  spec_fn (bs := []) (inl := []) (ls := []) mixed (hcs_cons SmailTake (hcs_cons SslicesClip hcs_nil)) (by kernel_rfl) (by kernel_rfl) (by decide) (by kernel_rfl) trivial omailTwice (fun x => trS_get (omailTwice x)) (fun x => (runmailTwice x).trans (omailTwice_eq x).symm)
/- function 17: (.d (.pair (.sl (.pair (.int .i64) (.pair (.int .i64) (.pair (.int .i64) (.pair .str .unit))))) (.pair (.int .i64) (.pair (.int .i64) .unit)))) (.d (.int .i64)) -/
noncomputable def bmailLose (x : (((List (Int × (Int × (Int × (List UInt8 × Unit)))) × (Int × (Int × Unit))) × (Int × Unit)) × Unit)) : Option (((List (Int × (Int × (Int × (List UInt8 × Unit)))) × (Int × (Int × Unit))) × (Int × Unit)) × Unit) := match x with
  | ((x0, (x1, ())), ()) => bS (omailTake ((x0, x1, ()), ())) fun v0 => some ((v0.fst.fst, v0.fst.snd.snd), ())
noncomputable def omailLose : (((List (Int × (Int × (Int × (List UInt8 × Unit)))) × (Int × (Int × Unit))) × (Int × Unit)) × Unit) → Option (((List (Int × (Int × (Int × (List UInt8 × Unit)))) × (Int × (Int × Unit))) × (Int × Unit)) × Unit) := shut bmailLose
theorem omailLose_eq (x) : omailLose x = bmailLose x := by rw [omailLose, shut_eq]
noncomputable def cmailLose : Ct := { ash := (.cons (.d (.pair (.sl (.pair (.int .i64) (.pair (.int .i64) (.pair (.int .i64) (.pair .str .unit))))) (.pair (.int .i64) (.pair (.int .i64) .unit)))) (.cons (.d (.int .i64)) .unit)), ms := [], foot := false, up := [], rsh := (.cons (.d (.pair (.sl (.pair (.int .i64) (.pair (.int .i64) (.pair (.int .i64) (.pair .str .unit))))) (.pair (.int .i64) (.pair (.int .i64) .unit)))) (.cons (.d (.int .i64)) .unit)), ks := [], ms' := [], G := fun x => trS (omailLose x) }
noncomputable def EmailLose : Env := mkE Try.prog [(15, cmailTake.fc)] [] 17 [] [] 0
theorem runmailLose : ∀ x, run EmailLose 17 cmailLose x = bmailLose x
  | ((x0, (x1, ())), ()) => by kernel_rfl
theorem SmailLose : Spec Try.prog 17 cmailLose.fc :=
  spec_fn (bs := []) (inl := []) (ls := []) mixed (hcs_cons SmailTake hcs_nil) (by kernel_rfl) (by kernel_rfl) (by decide) (by kernel_rfl) trivial omailLose (fun x => trS_get (omailLose x)) (fun x => (runmailLose x).trans (omailLose_eq x).symm)
end Am
end Go.Proofs.Ytkjpoongkdapoaa
