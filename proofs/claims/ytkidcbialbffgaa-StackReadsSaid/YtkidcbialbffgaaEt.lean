/-
  Stacks: the bytes of entries and stacks.
-/
import Derived.Test.YtkidcbialbffgaaSj
namespace Go.Proofs.Ytkidcbialbffgaa
namespace Am
open Go Go.RowKit
set_option linter.unusedVariables false
set_option linter.unusedSimpArgs false
set_option maxRecDepth 10000

theorem fitsB {α β : Type} {xs : List α} {ys : List β} (h : xs.length + ys.length ≤ 100000) : fits (dlen xs) (dlen ys) 1 = true := by
  rw [fits_t, dlen_eq, dlen_eq]; omega
theorem fitsB1 {α : Type} {xs : List α} (h : xs.length ≤ 100000) : fits (dlen xs) (1 : Int) 1 = true := by
  rw [fits_t, dlen_eq]; omega
theorem fits1B {α : Type} {xs : List α} (h : xs.length ≤ 100000) : fits (1 : Int) (dlen xs) 1 = true := by
  rw [fits_t, dlen_eq]; omega
theorem shortB {α β : Type} {xs : List α} {ys : List β} (h : xs.length + ys.length ≤ 100000) : short (dlen xs) (dlen ys) = true := by
  unfold short; rw [ile_t, dlen_eq, dlen_eq]; omega
theorem short1B {α : Type} {xs : List α} (h : xs.length ≤ 100000) : short (1 : Int) (dlen xs) = true := by
  unfold short; rw [ile_t, dlen_eq]; omega
theorem shortB1 {α : Type} {xs : List α} (h : xs.length ≤ 100000) : short (dlen xs) (1 : Int) = true := by
  unfold short; rw [ile_t, dlen_eq]; omega
theorem short11 : short (1 : Int) (1 : Int) = true := rfl
/-- an entry's bytes -/
def entB (e : Ent) : List UInt8 := if e.1 = 2 then [2, iu8 (iwrap IntKind.u8 e.2.2.1)] else 1 :: e.2.1.l
def textS (l : List Ent) : List UInt8 := iu8 (iwrap IntKind.u8 (dlen l)) :: l.flatMap entB
theorem entB_len (e : Ent) : (entB e).length ≤ 33 := by
  unfold entB
  split
  · simp
  · simp [e.2.1.h]
theorem flat_len : ∀ (l : List Ent), (l.flatMap entB).length ≤ 33 * l.length
  | [] => by simp
  | e :: l => by
    have h1 := entB_len e
    have h2 := flat_len l
    rw [List.flatMap_cons, List.length_append, List.length_cons]
    omega
theorem textS_len (l : List Ent) : (textS l).length ≤ 33 * l.length + 1 := by
  have := flat_len l
  unfold textS
  rw [List.length_cons]; omega
theorem flat_step {l : List Ent} {k : Nat} (hk : k < l.length) : (l.take (k + 1)).flatMap entB = (l.take k).flatMap entB ++ entB (l.getD k noE) := by
  rw [take_getD (d := noE) hk, List.flatMap_append]
  simp
theorem take_flat_len (l : List Ent) (k : Nat) (h : l.length ≤ 1000) : ((l.take k).flatMap entB).length ≤ 33000 := by
  have h1 := flat_len (l.take k)
  rw [List.length_take] at h1
  omega
theorem kind12 {e : Ent} (h : isE e = true) : e.1 = 1 ∨ e.1 = 2 := by
  unfold isE at h
  simp only [Bool.or_eq_true, Bool.and_eq_true, decide_eq_true_iff] at h
  omega
theorem stackText_eq (l : List Ent) (hl : l.length ≤ 1000) : ostackText ((l, ()), ()) = some (if rightS l = true then (textS l, 0, ()) else ([], 1, ()), ()) := by
  rw [ostackText_eq, bstackText]
  simp only [stackRight_eq l (by omega), bS_some]
  cases hr : rightS l with
  | false => rfl
  | true =>
    have hall : ∀ e ∈ l, isE e = true := by
      unfold rightS at hr
      simp only [Bool.and_eq_true, List.all_eq_true] at hr
      exact hr.2.2
    simp only [cond_true, cond_false, if_true, wstackTextx5_eq]
    generalize hb : iu8 (iwrap IntKind.u8 (dlen l)) = b
    have h := whl_up (g := rstackTextx5) (fun k => ((b :: (l.take k).flatMap entB, l, dlen l, (k : Int), ()), (), ())) (.inl ((b :: l.flatMap entB, ()), (), ())) l.length
      (by simp only [rstackTextx5, bifF (ilt_len' (xs := l) (Nat.le_refl _)), List.take_length])
      (fun k hk => by
        have hE := hall (l.getD k noE) (by simp [hk])
        have hF := take_flat_len l k hl
        simp only [rstackTextx5, bifT (ilt_len hk), bifT ile_nat, entget, inc_nat (show k < 4611686018427387904 by omega), flat_step hk]
        generalize l.getD k noE = e at *
        generalize (l.take k).flatMap entB = F at *
        have hi := e.2.1.h
        refine goT (fitsB1 (by simp; omega)) ?_
        unfold entB
        rcases kind12 hE with h1 | h1
        · simp only [h1, ieq_s, cond_true]
          refine goT (fitsB (by simp [dapp1, hi]; omega)) ?_
          have e1 : iu8 (iwrap IntKind.u8 1) = 1 := rfl
          rw [e1, if_neg (by decide)]
          simp [dapp1]
        · have e0 : ieq 2 1 = false := rfl
          simp only [h1, e0, cond_false]
          refine goT (fitsB1 (by simp [dapp1]; omega)) ?_
          have e1 : iu8 (iwrap IntKind.u8 2) = 2 := rfl
          rw [e1]
          simp [dapp1]) l.length 0 (by omega)
    simp only [List.take_zero, List.flatMap_nil] at h
    rw [show ((0 : Int) = ((0 : Nat) : Int)) from rfl, h]
    simp only [bL_inl, textS, hb]

end Am
end Go.Proofs.Ytkidcbialbffgaa
