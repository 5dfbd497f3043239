/-
  Words about data, and loops over places.
-/
import Derived.Test.YtkjpoongkdapoaaBm24
namespace Go.Proofs.Ytkjpoongkdapoaa
namespace Am
open Go Go.RowKit
set_option linter.unusedSimpArgs false

theorem ilt_t {a b : Int} : ilt a b = true ↔ a < b := by rw [ilt_eq]; simp
theorem ile_t {a b : Int} : ile a b = true ↔ a ≤ b := by rw [ile_eq]; simp
theorem ilt_f {a b : Int} : ilt a b = false ↔ b ≤ a := by rw [ilt_eq]; simp
theorem ile_f {a b : Int} : ile a b = false ↔ b < a := by rw [ile_eq]; simp
theorem ieq_t {a b : Int} : ieq a b = true ↔ a = b := by simp [ieq]
theorem ieq_f {a b : Int} : ieq a b = false ↔ a ≠ b := by simp [ieq]
theorem ideq_t {a b : Id} : ideq a b = true ↔ a = b := by simp [ideq]
theorem ideq_f {a b : Id} : ideq a b = false ↔ a ≠ b := by simp [ideq]
theorem u8eq_t {a b : UInt8} : u8eq a b = true ↔ a = b := by simp [u8eq]
theorem u8eq_f {a b : UInt8} : u8eq a b = false ↔ a ≠ b := by simp [u8eq]
theorem seq_t {a b : List UInt8} : seq a b = true ↔ a = b := by simp [seq]
theorem seq_f {a b : List UInt8} : seq a b = false ↔ a ≠ b := by simp [seq]
theorem fits_t {n m : Int} {b : Nat} : fits n m b = true ↔ (n + m) * b ≤ 140737488355328 ∧ n + m ≤ 4611686018427387903 := by
  unfold fits
  rw [Bool.and_eq_true, ile_t, ile_t]
theorem bifT {α : Type} {c : Bool} {x y : α} (h : c = true) : (bif c then x else y) = x := by rw [h]; rfl
theorem bifF {α : Type} {c : Bool} {x y : α} (h : c = false) : (bif c then x else y) = y := by rw [h]; rfl
theorem bifNot {c : Bool} : (bif c then false else true) = !c := by cases c <;> rfl
theorem bifAnd {c d : Bool} : (bif c then d else false) = (c && d) := by cases c <;> rfl
theorem bifOr {c d : Bool} : (bif c then true else d) = (c || d) := by cases c <;> rfl
theorem bif_if {α : Type} {c : Bool} {x y : α} : (bif c then x else y) = if c = true then x else y := by cases c <;> rfl

theorem iwrap_i64 {x : Int} (h0 : -9223372036854775808 ≤ x) (h1 : x < 9223372036854775808) : iwrap .i64 x = x := by
  have e : iwrap .i64 x = IntKind.wrap .i64 x := rfl
  rw [e]
  unfold IntKind.wrap
  simp [IntKind.bits, IntKind.signed]
  omega
theorem inc_nat {i : Nat} (h : i < 4611686018427387904) : iwrap .i64 (iadd (i : Int) 1) = ((i + 1 : Nat) : Int) := by
  have e : iadd (i : Int) 1 = ((i + 1 : Nat) : Int) := by simp [iadd]
  rw [e, iwrap_i64] <;> omega
theorem dlen_eq {α : Type} (xs : List α) : dlen xs = (xs.length : Int) := rfl
theorem ilt_len {α : Type} {xs : List α} {i : Nat} (h : i < xs.length) : ilt (i : Int) (dlen xs) = true := by rw [ilt_t, dlen_eq]; omega
theorem ilt_len' {α : Type} {xs : List α} {i : Nat} (h : xs.length ≤ i) : ilt (i : Int) (dlen xs) = false := by rw [ilt_f, dlen_eq]; omega
theorem ile_nat {i : Nat} : ile 0 (i : Int) = true := by rw [ile_t]; omega
theorem in_len {α : Type} {xs : List α} {i : Nat} (h : i < xs.length) : (bif ile 0 (i : Int) then ilt (i : Int) (dlen xs) else false) = true := by rw [bifT ile_nat, ilt_len h]
theorem inat_eq (i : Nat) : inat (i : Int) = i := by simp [inat]
theorem dget_eq (t : Ty) (xs : List t.den) (i : Nat) : dget t xs (i : Int) = xs.getD i t.zero := by simp [dget]
theorem dsub_eq {α : Type} (xs : List α) (i j : Nat) : dsub xs (i : Int) (j : Int) = (xs.drop i).take (j - i) := by simp [dsub]
/-- a loop over places: what each round makes of the state, or comes to -/
def goI {σ β : Type} (f : Nat → σ → σ ⊕ β) (fin : σ → β) : Nat → Nat → σ → β
  | 0, _, s => fin s
  | k + 1, i, s => match f i s with
    | .inl s' => goI f fin k (i + 1) s'
    | .inr x => x
theorem whl_goI {S σ β : Type} {g : S → Option (S ⊕ β)} (st : Nat → σ → S) (f : Nat → σ → σ ⊕ β) (fin : σ → β) (len : Nat)
    (hstop : ∀ s, g (st len s) = some (.inr (fin s))) (hstep : ∀ i s, i < len → g (st i s) = some (match f i s with | .inl s' => .inl (st (i + 1) s') | .inr x => .inr x)) :
    ∀ (k i : Nat) (s : σ), i + k = len → whl g (st i s) = some (goI f fin k i s)
  | 0, i, s, h => by
    obtain rfl : i = len := by omega
    exact whl_inr (hstop s)
  | k + 1, i, s, h => by
    have hs := hstep i s (by omega)
    simp only [goI]
    cases hf : f i s with
    | inl s' =>
      rw [hf] at hs
      rw [whl_inl hs]
      exact whl_goI st f fin len hstop hstep k (i + 1) s' (by omega)
    | inr x =>
      rw [hf] at hs
      exact whl_inr hs
def goL {α σ β : Type} (f : α → σ → σ ⊕ β) (fin : σ → β) : List α → σ → β
  | [], s => fin s
  | x :: l, s => match f x s with
    | .inl s' => goL f fin l s'
    | .inr x => x
theorem drop_getD' {α : Type} {xs : List α} {d : α} {i : Nat} (h : i < xs.length) : xs.drop i = xs.getD i d :: xs.drop (i + 1) := by
  rw [List.drop_eq_getElem_cons h]
  simp [h]
theorem goL_goI {α σ β : Type} {d : α} {xs : List α} (f : α → σ → σ ⊕ β) (fin : σ → β) : ∀ (k i : Nat) (s : σ), i + k = xs.length → goI (fun i s => f (xs.getD i d) s) fin k i s = goL f fin (xs.drop i) s
  | 0, i, s, h => by rw [List.drop_of_length_le (by omega)]; rfl
  | k + 1, i, s, h => by
    rw [drop_getD' (d := d) (by omega)]
    simp only [goI, goL]
    cases f (xs.getD i d) s with
    | inl s' => exact goL_goI f fin k (i + 1) s' (by omega)
    | inr x => rfl
/-- a loop over a list: its rounds at a place -/
theorem whl_goL {S σ β : Type} {t : Ty} {xs : List t.den} {g : S → Option (S ⊕ β)} (st : Int → σ → S) (f : t.den → σ → σ ⊕ β) (fin : σ → β) (hl : xs.length ≤ 4611686018427387903)
    (hstop : ∀ i s, ilt i (dlen xs) = false → g (st i s) = some (.inr (fin s)))
    (hstep : ∀ i s, ilt i (dlen xs) = true → ile 0 i = true → g (st i s) = some (match f (dget t xs i) s with | .inl s' => .inl (st (iwrap .i64 (iadd i 1)) s') | .inr x => .inr x)) (s : σ) :
    whl g (st 0 s) = some (goL f fin xs s) := by
  have h0 := goL_goI (d := t.zero) (xs := xs) f fin xs.length 0 s (by omega)
  rw [List.drop_zero] at h0
  rw [← h0]
  refine whl_goI (fun i s => st (i : Int) s) (fun i s => f (xs.getD i t.zero) s) fin xs.length (fun s => hstop _ s (ilt_len' (Nat.le_refl _))) (fun i s hi => ?_) xs.length 0 s (by omega)
  rw [hstep _ s (ilt_len hi) ile_nat, dget_eq, inc_nat (by omega)]

end Am
end Go.Proofs.Ytkjpoongkdapoaa
