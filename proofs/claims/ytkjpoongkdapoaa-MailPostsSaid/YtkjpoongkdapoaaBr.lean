/-
  Numbers brought into bounds.
-/
import Derived.Test.YtkjpoongkdapoaaWd
namespace Go.Proofs.Ytkjpoongkdapoaa
namespace Am
open Go Go.RowKit

/-- a place that is brought into its bounds -/
theorem brought (x : Int) (n : Nat) (h0 : 0 < n) (hn : n < 4611686018427387904) : ∃ r : Nat, r < n ∧ irem (iwrap .i64 (iadd (irem x (n : Int)) (n : Int))) (n : Int) = (r : Int) := by
  have h1 : -(n : Int) < x.tmod n := by
    have := Int.lt_tmod_of_pos x (b := (n : Int)) (by omega)
    omega
  have h2 : x.tmod n < (n : Int) := Int.tmod_lt_of_pos x (by omega)
  unfold irem iadd
  rw [iwrap_i64 (by omega) (by omega)]
  have h3 : 0 ≤ x.tmod n + (n : Int) := by omega
  have h4 : 0 ≤ (x.tmod n + (n : Int)).tmod n := Int.tmod_nonneg _ h3
  have h5 : (x.tmod n + (n : Int)).tmod n < (n : Int) := Int.tmod_lt_of_pos _ (by omega)
  exact ⟨((x.tmod n + (n : Int)).tmod n).toNat, by omega, by omega⟩

end Am
end Go.Proofs.Ytkjpoongkdapoaa
