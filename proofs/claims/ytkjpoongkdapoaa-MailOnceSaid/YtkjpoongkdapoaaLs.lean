/-
  Beginnings of lists.
-/
import Derived.Test.YtkjpoongkdapoaaLp
namespace Go.Proofs.Ytkjpoongkdapoaa
namespace Am
open Go Go.RowKit
set_option linter.unusedSimpArgs false

theorem imin_len {α : Type} (s : List α) (k : Nat) : imin (dlen s) (k : Int) = ((min s.length k : Nat) : Int) := by rw [imin_eq, dlen_eq]; omega
theorem ile00 : ile 0 0 = true := rfl
theorem ile_min {α : Type} (s : List α) (k : Nat) : ile ((min s.length k : Nat) : Int) (dlen s) = true := by rw [ile_t, dlen_eq]; omega
theorem dsub_min {α : Type} (s : List α) (k : Nat) : dsub s 0 ((min s.length k : Nat) : Int) = s.take k := by
  rw [show ((0 : Int) = ((0 : Nat) : Int)) from rfl, dsub_eq, List.drop_zero, Nat.sub_zero, List.take_eq_take_iff]
  omega
theorem dsub_take {α : Type} (s : List α) (k : Nat) : dsub s 0 (k : Int) = s.take k := by
  rw [show ((0 : Int) = ((0 : Nat) : Int)) from rfl, dsub_eq, List.drop_zero, Nat.sub_zero]
theorem dsub_drop {α : Type} (s : List α) (k : Nat) : dsub s (k : Int) (dlen s) = s.drop k := by
  rw [dlen_eq, dsub_eq]
  exact List.take_of_length_le (by rw [List.length_drop]; omega)
theorem take_getD {α : Type} {l : List α} {d : α} {i : Nat} (h : i < l.length) : l.take (i + 1) = l.take i ++ [l.getD i d] := by
  rw [List.take_add_one]
  simp [h]
theorem fits_of {α β : Type} {xs : List α} {ys : List β} {b : Nat} (h : (xs.length + ys.length) * b ≤ 140737488355328) (h2 : xs.length + ys.length ≤ 4611686018427387903) : fits (dlen xs) (dlen ys) b = true := by
  rw [fits_t, dlen_eq, dlen_eq]
  constructor
  · have : (((xs.length + ys.length) * b : Nat) : Int) ≤ 140737488355328 := by omega
    simpa using this
  · omega

end Am
end Go.Proofs.Ytkjpoongkdapoaa
