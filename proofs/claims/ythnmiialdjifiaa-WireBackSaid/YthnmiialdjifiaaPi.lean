/-
  What the printed functions on identifiers come to.
-/
import Derived.Test.YthnmiialdjifiaaPx
import Derived.Test.YthnmiialdjifiaaWd
import Derived.Test.YthnmiialdjifiaaNu
namespace Go.Proofs.Ythnmiialdjifiaa
namespace Am
open Go Go.RowKit
set_option linter.unusedSimpArgs false
set_option linter.unusedVariables false

theorem u8i_eq (x : UInt8) : u8i x = (x.toNat : Int) := rfl
theorem iu8_nat {n : Nat} (h : n < 256) : (iu8 (iwrap .u8 (n : Int))).toNat = n := by
  have e : iwrap .u8 (n : Int) = IntKind.wrap .u8 (n : Int) := rfl
  rw [e]
  unfold IntKind.wrap iu8
  simp only [IntKind.bits, IntKind.signed, UInt8.ofInt]
  have h2 : ((n : Int) % 2 ^ 8) = (n : Int) := Int.emod_eq_of_lt (by omega) (by simpa using (by omega : (n : Int) < 256))
  simp
  omega
theorem idget_eq (a : Id) (i : Nat) : idget a i = a.get i := rfl
theorem idset_eq (a : Id) (i : Nat) (v : UInt8) : idset a i v = a.set i v := rfl

end Am
end Go.Proofs.Ythnmiialdjifiaa
