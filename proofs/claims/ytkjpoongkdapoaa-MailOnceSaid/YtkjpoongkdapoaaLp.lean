/-
  Loops over places and lists, of the common kinds. No program in sight.
-/
import Derived.Test.YtkjpoongkdapoaaWd
namespace Go.Proofs.Ytkjpoongkdapoaa
namespace Am
open Go Go.RowKit
set_option linter.unusedSimpArgs false

theorem goL_any {α β : Type} (p : α → Bool) (x y : β) : ∀ (l : List α), goL (fun a (_ : Unit) => if p a = true then .inr x else .inl ()) (fun _ => y) l () = if l.any p = true then x else y
  | [] => by simp [goL]
  | a :: l => by
    simp only [goL, List.any_cons]
    have ih := goL_any p x y l
    by_cases h : p a = true
    · simp [h]
    · simp only [Bool.not_eq_true] at h
      simp [h, ih]
theorem goL_fold {α σ β : Type} (f : α → σ → σ) (fin : σ → β) : ∀ (l : List α) (s : σ), goL (fun a s => (.inl (f a s) : σ ⊕ β)) fin l s = fin (l.foldl (fun s a => f a s) s)
  | [], _ => rfl
  | a :: l, s => by simp only [goL, List.foldl_cons]; exact goL_fold f fin l _

def anyN (p : Nat → Bool) : Nat → Nat → Bool
  | 0, _ => false
  | k + 1, i => p i || anyN p k (i + 1)
theorem anyN_iff {p : Nat → Bool} : ∀ {k i : Nat}, anyN p k i = true ↔ ∃ j, i ≤ j ∧ j < i + k ∧ p j = true
  | 0, i => by simp [anyN]; omega
  | k + 1, i => by
    simp only [anyN, Bool.or_eq_true]
    rw [anyN_iff]
    constructor
    · rintro (h | ⟨j, h1, h2, h3⟩)
      · exact ⟨i, by omega, by omega, h⟩
      · exact ⟨j, by omega, by omega, h3⟩
    · rintro ⟨j, h1, h2, h3⟩
      by_cases e : j = i
      · subst e; exact .inl h3
      · exact .inr ⟨j, by omega, by omega, h3⟩
theorem anyN_false {p : Nat → Bool} {k i : Nat} (h : anyN p k i = false) {j : Nat} (h1 : i ≤ j) (h2 : j < i + k) : p j = false := by
  cases hp : p j with
  | false => rfl
  | true =>
    have : anyN p k i = true := anyN_iff.2 ⟨j, h1, h2, hp⟩
    rw [this] at h
    cases h
theorem goI_any {β : Type} (p : Nat → Bool) (x y : β) : ∀ (k i : Nat), goI (fun i (_ : Unit) => if p i = true then .inr x else .inl ()) (fun _ => y) k i () = if anyN p k i = true then x else y
  | 0, i => by simp [goI, anyN]
  | k + 1, i => by
    simp only [goI, anyN]
    have ih := goI_any p x y k (i + 1)
    by_cases h : p i = true
    · simp [h]
    · simp only [Bool.not_eq_true] at h
      simp [h, ih]
theorem goI_find {α β : Type} {d : α} {xs : List α} (p : α → Bool) (g : Nat → β) (y : β) : ∀ (k i : Nat), i + k = xs.length →
    goI (fun i (_ : Unit) => if p (xs.getD i d) = true then .inr (g i) else .inl ()) (fun _ => y) k i () = match (xs.drop i).findIdx? p with | some j => g (i + j) | none => y
  | 0, i, h => by rw [List.drop_of_length_le (by omega)]; rfl
  | k + 1, i, h => by
    rw [drop_getD' (d := d) (by omega)]
    simp only [goI, List.findIdx?_cons]
    have ih := goI_find p g y k (i + 1) (by omega) (d := d) (xs := xs)
    by_cases hp : p (xs.getD i d) = true
    · simp only [hp, if_true, Nat.add_zero]
    · simp only [hp, if_false, Bool.false_eq_true]
      rw [ih]
      cases (xs.drop (i + 1)).findIdx? p with
      | none => rfl
      | some j => simp only [Option.map_some]; rw [show i + (j + 1) = i + 1 + j by omega]
theorem goI_stay {σ β : Type} (fin : σ → β) : ∀ (k i : Nat) (s : σ), goI (fun _ s => (.inl s : σ ⊕ β)) fin k i s = fin s
  | 0, _, _ => rfl
  | k + 1, i, s => by simp only [goI]; exact goI_stay fin k _ _
def foldN {σ : Type} (f : Nat → σ → σ) : Nat → Nat → σ → σ
  | 0, _, s => s
  | k + 1, i, s => foldN f k (i + 1) (f i s)
theorem goI_fold {σ β : Type} (f : Nat → σ → σ) (fin : σ → β) : ∀ (k i : Nat) (s : σ), goI (fun i s => (.inl (f i s) : σ ⊕ β)) fin k i s = fin (foldN f k i s)
  | 0, _, _ => rfl
  | k + 1, i, s => by simp only [goI, foldN]; exact goI_fold f fin k _ _
theorem foldN_inv {σ : Type} {f : Nat → σ → σ} {I : Nat → σ → Prop} (hs : ∀ i s, I i s → I (i + 1) (f i s)) : ∀ (k i : Nat) (s : σ), I i s → I (i + k) (foldN f k i s)
  | 0, _, _, h => h
  | k + 1, i, s, h => by
    simp only [foldN]
    have := foldN_inv hs k (i + 1) _ (hs i s h)
    rwa [show i + 1 + k = i + (k + 1) by omega] at this
/-- a rising place, to its end -/
theorem whl_up {S β : Type} {g : S → Option (S ⊕ β)} (st : Nat → S) (y : β) (len : Nat) (hstop : g (st len) = some (.inr y)) (hstep : ∀ i, i < len → g (st i) = some (.inl (st (i + 1)))) :
    ∀ (k i : Nat), i + k = len → whl g (st i) = some y
  | 0, i, h => by
    obtain rfl : i = len := by omega
    exact whl_inr hstop
  | k + 1, i, h => by
    rw [whl_inl (hstep i (by omega))]
    exact whl_up st y len hstop hstep k (i + 1) (by omega)

end Am
end Go.Proofs.Ytkjpoongkdapoaa
