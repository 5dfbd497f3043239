/-
  Wire: a message's bytes, by the program and by the document.
-/
import Derived.Test.YthnmiialdjifiaaWr
namespace Go.Proofs.Ythnmiialdjifiaa
namespace Am
open Go Go.RowKit
set_option linter.unusedVariables false
set_option linter.unusedSimpArgs false
set_option maxRecDepth 10000

theorem ieq_s (a : Int) : ieq a a = true := ieq_t.2 rfl
theorem ideq_s (a : Id) : ideq a a = true := ideq_t.2 rfl
theorem seq_s (a : List UInt8) : seq a a = true := seq_t.2 rfl
theorem dapp1 {α : Type} (xs ys : List α) : dapp xs ys = xs ++ ys := rfl
theorem sapp1 (xs ys : List UInt8) : sapp xs ys = xs ++ ys := rfl
theorem fitsB {α β : Type} {xs : List α} {ys : List β} (h : xs.length + ys.length ≤ 100000) : fits (dlen xs) (dlen ys) 1 = true := by
  rw [fits_t, dlen_eq, dlen_eq]; omega
theorem fitsB1 {α : Type} {xs : List α} (h : xs.length ≤ 100000) : fits (dlen xs) (1 : Int) 1 = true := by
  rw [fits_t, dlen_eq]; omega
theorem fits1B {α : Type} {xs : List α} (h : xs.length ≤ 100000) : fits (1 : Int) (dlen xs) 1 = true := by
  rw [fits_t, dlen_eq]; omega
theorem shortB {α β : Type} {xs : List α} {ys : List β} (h : xs.length + ys.length ≤ 100000) : short (dlen xs) (dlen ys) = true := by
  unfold short; rw [ile_t, dlen_eq, dlen_eq]; omega
theorem short1B {α : Type} {xs : List α} (h : xs.length ≤ 100000) : short (1 : Int) (dlen xs) = true := by
  unfold short; rw [ile_t, dlen_eq]; omega
theorem shortB1 {α : Type} {xs : List α} (h : xs.length ≤ 100000) : short (dlen xs) (1 : Int) = true := by
  unfold short; rw [ile_t, dlen_eq]; omega
theorem short11 : short (1 : Int) (1 : Int) = true := rfl
theorem goT {α : Type} {c : Bool} {X R : Option α} (h : c = true) (h2 : X = R) : (bif c then X else none) = R := by rw [h]; exact h2

/-- an entry's bytes -/
def entB (e : Ent) : List UInt8 := if e.1 = 2 then [2, iu8 (iwrap IntKind.u8 e.2.2.1)] else 1 :: e.2.1.l
def textS (l : List Ent) : List UInt8 := iu8 (iwrap IntKind.u8 (dlen l)) :: l.flatMap entB
theorem entB_len (e : Ent) : (entB e).length ≤ 33 := by
  unfold entB
  split
  · simp
  · simp [e.2.1.h]
theorem flat_len : ∀ (l : List Ent), (l.flatMap entB).length ≤ 33 * l.length
  | [] => by simp
  | e :: l => by
    have h1 := entB_len e
    have h2 := flat_len l
    rw [List.flatMap_cons, List.length_append, List.length_cons]
    omega
theorem textS_len (l : List Ent) : (textS l).length ≤ 33 * l.length + 1 := by
  have := flat_len l
  unfold textS
  rw [List.length_cons]; omega
theorem flat_step {l : List Ent} {k : Nat} (hk : k < l.length) : (l.take (k + 1)).flatMap entB = (l.take k).flatMap entB ++ entB (l.getD k noE) := by
  rw [take_getD (d := noE) hk, List.flatMap_append]
  simp
theorem take_flat_len (l : List Ent) (k : Nat) (h : l.length ≤ 1000) : ((l.take k).flatMap entB).length ≤ 33000 := by
  have h1 := flat_len (l.take k)
  rw [List.length_take] at h1
  omega
theorem kind12 {e : Ent} (h : isE e = true) : e.1 = 1 ∨ e.1 = 2 := by
  unfold isE at h
  simp only [Bool.or_eq_true, Bool.and_eq_true, decide_eq_true_iff] at h
  omega
theorem stackText_eq (l : List Ent) (hl : l.length ≤ 1000) : ostackText ((l, ()), ()) = some (if rightS l = true then (textS l, 0, ()) else ([], 1, ()), ()) := by
  rw [ostackText_eq, bstackText]
  simp only [stackRight_eq l (by omega), bS_some]
  cases hr : rightS l with
  | false => rfl
  | true =>
    have hall : ∀ e ∈ l, isE e = true := by
      unfold rightS at hr
      simp only [Bool.and_eq_true, List.all_eq_true] at hr
      exact hr.2.2
    simp only [cond_true, cond_false, if_true, wstackTextx5_eq]
    generalize hb : iu8 (iwrap IntKind.u8 (dlen l)) = b
    have h := whl_up (g := rstackTextx5) (fun k => ((b :: (l.take k).flatMap entB, l, dlen l, (k : Int), ()), (), ())) (.inl ((b :: l.flatMap entB, ()), (), ())) l.length
      (by simp only [rstackTextx5, bifF (ilt_len' (xs := l) (Nat.le_refl _)), List.take_length])
      (fun k hk => by
        have hE := hall (l.getD k noE) (by simp [hk])
        have hF := take_flat_len l k hl
        simp only [rstackTextx5, bifT (ilt_len hk), bifT ile_nat, entget, inc_nat (show k < 4611686018427387904 by omega), flat_step hk]
        generalize l.getD k noE = e at *
        generalize (l.take k).flatMap entB = F at *
        have hi := e.2.1.h
        refine goT (fitsB1 (by simp; omega)) ?_
        unfold entB
        rcases kind12 hE with h1 | h1
        · simp only [h1, ieq_s, cond_true]
          refine goT (fitsB (by simp [dapp1, hi]; omega)) ?_
          have e1 : iu8 (iwrap IntKind.u8 1) = 1 := rfl
          rw [e1, if_neg (by decide)]
          simp [dapp1]
        · have e0 : ieq 2 1 = false := rfl
          simp only [h1, e0, cond_false]
          refine goT (fitsB1 (by simp [dapp1]; omega)) ?_
          have e1 : iu8 (iwrap IntKind.u8 2) = 2 := rfl
          rw [e1]
          simp [dapp1]) l.length 0 (by omega)
    simp only [List.take_zero, List.flatMap_nil] at h
    rw [show ((0 : Int) = ((0 : Nat) : Int)) from rfl, h]
    simp only [bL_inl, textS, hb]
/-- eight bytes of a number -/
def num8 (n : Nat) : List UInt8 := (List.range 8).map fun i => UInt8.ofNat (n / 256 ^ i)
theorem iu8_ofNat (n : Nat) : iu8 (iwrap IntKind.u8 (n : Int)) = UInt8.ofNat n := by
  have e : iwrap .u8 (n : Int) = IntKind.wrap .u8 (n : Int) := rfl
  rw [e]
  unfold IntKind.wrap iu8
  simp only [IntKind.bits, IntKind.signed, UInt8.ofInt]
  have : ((n : Int) % 2 ^ 8) = ((n % 256 : Nat) : Int) := by omega
  simp
  apply UInt8.toNat_inj.1
  simp
  omega
theorem num8_len (n : Nat) : (num8 n).length = 8 := by simp [num8]
theorem num8_step (n k : Nat) (hk : k < 8) : (num8 n).take (k + 1) = (num8 n).take k ++ [UInt8.ofNat (n / 256 ^ k)] := by
  rw [take_getD (d := 0) (by rw [num8_len]; exact hk)]
  congr 2
  simp [num8, hk]
theorem ishr_byte (n k : Nat) (hk : k < 8) : ishr (n : Int) (ibits (iwrap IntKind.i64 (imul 8 (k : Int))) IntKind.i64) = ((n / 256 ^ k : Nat) : Int) := by
  have e1 : iwrap IntKind.i64 (imul 8 (k : Int)) = ((8 * k : Nat) : Int) := by
    unfold imul
    rw [iwrap_i64 (by omega) (by omega)]
    omega
  rw [e1]
  have e2 : ibits ((8 * k : Nat) : Int) IntKind.i64 = 8 * k := by
    unfold ibits
    simp only [Int.toNat_natCast]
    have : IntKind.i64.bits = 64 := rfl
    rw [this]; omega
  rw [e2]
  unfold ishr
  have e3 : (2 : Int) ^ (8 * k) = ((256 ^ k : Nat) : Int) := by
    rw [show (256 : Nat) ^ k = 2 ^ (8 * k) by rw [Nat.pow_mul]]
    push_cast
    rfl
  rw [e3, Int.fdiv_eq_ediv_of_nonneg _ (Int.natCast_nonneg _), ← Int.natCast_ediv]
theorem wtext_loop (m : Wm) (x : List UInt8) (hx : x.length ≤ 50000) (n : Nat) (hn : m.2.2.2.2.1 = (n : Int)) : wwireTextx15 (((), x, 0, ()), m, (), ()) = some (.inl (((), x ++ num8 n, ()), m, (), ())) := by
  rw [wwireTextx15_eq]
  have h := whl_up (g := rwireTextx15) (fun k => (((), x ++ (num8 n).take k, (k : Int), ()), m, (), ())) (.inl (((), x ++ num8 n, ()), m, (), ())) 8
    (by
      have e : (num8 n).take 8 = num8 n := by rw [List.take_of_length_le]; rw [num8_len]; omega
      have e8 : ilt ((8 : Nat) : Int) 8 = false := rfl
      simp only [rwireTextx15, e8, cond_false, e])
    (fun k hk => by
      have e8 : ilt (k : Int) 8 = true := ilt_t.2 (by omega)
      have e0 : ile 0 (iwrap IntKind.i64 (imul 8 (k : Int))) = true := by
        unfold imul
        rw [iwrap_i64 (by omega) (by omega)]
        exact ile_t.2 (by omega)
      have hl : ((num8 n).take k).length ≤ 8 := by rw [List.length_take, num8_len]; omega
      simp only [rwireTextx15, e8, e0, cond_true, hn, ishr_byte n k hk, iu8_ofNat, inc_nat (show k < 4611686018427387904 by omega), num8_step n k hk]
      refine goT (fitsB1 (by simp; omega)) ?_
      simp [dapp1]) 8 0 (by omega)
  simpa using h
end Am
end Go.Proofs.Ythnmiialdjifiaa
