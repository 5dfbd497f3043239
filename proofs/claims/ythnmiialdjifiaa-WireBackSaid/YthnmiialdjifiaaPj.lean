/-
  The ways.
-/
import Derived.Test.YthnmiialdjifiaaPi
namespace Go.Proofs.Ythnmiialdjifiaa
namespace Am
open Go Go.RowKit
set_option linter.unusedSimpArgs false
set_option linter.unusedVariables false

theorem iquo_nat (x y : Nat) : iquo (x : Int) (y : Int) = ((x / y : Nat) : Int) := by unfold iquo; rw [Int.ofNat_tdiv]
theorem irem_nat (x y : Nat) : irem (x : Int) (y : Int) = ((x % y : Nat) : Int) := by unfold irem; rw [Int.ofNat_tmod]
theorem iwrap_nat {x : Nat} (h : x < 9223372036854775808) : iwrap .i64 (x : Int) = (x : Int) := iwrap_i64 (by omega) (by omega)
end Am
end Go.Proofs.Ythnmiialdjifiaa
