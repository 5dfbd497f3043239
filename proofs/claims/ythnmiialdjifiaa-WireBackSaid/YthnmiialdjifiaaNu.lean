/-
  Identifiers as numbers. No program in sight.
-/
import Derived.Test.YthnmiialdjifiaaBm24
namespace Go.Proofs.Ythnmiialdjifiaa
namespace Am
open Go Go.RowKit
set_option linter.unusedSimpArgs false

/-- the number of the last n bytes -/
def Id.low (a : Id) : Nat → Nat
  | 0 => 0
  | n + 1 => (a.get (31 - n)).toNat * 256 ^ n + a.low n
noncomputable def Id.num (a : Id) : Nat := shut (a.low 32)
theorem Id.num_def (a : Id) : a.num = a.low 32 := shut_eq _
/-- the number of the first n bytes -/
def Id.hi (a : Id) : Nat → Nat
  | 0 => 0
  | n + 1 => a.hi n * 256 + (a.get n).toNat

theorem u8_lt (x : UInt8) : x.toNat < 256 := x.toNat_lt
theorem Id.low_lt (a : Id) : ∀ n, a.low n < 256 ^ n
  | 0 => by simp [Id.low]
  | n + 1 => by
    have h := Id.low_lt a n
    have hx := u8_lt (a.get (31 - n))
    simp only [Id.low, Nat.pow_succ]
    have : (a.get (31 - n)).toNat * 256 ^ n ≤ 255 * 256 ^ n := Nat.mul_le_mul_right _ (by omega)
    omega
theorem Id.num_lt (a : Id) : a.num < 2 ^ 256 := by
  have := a.low_lt 32
  have e : (256 : Nat) ^ 32 = 2 ^ 256 := by decide
  rw [Id.num_def]
  omega
theorem Id.split (a : Id) : ∀ n, n ≤ 32 → a.num = a.hi n * 256 ^ (32 - n) + a.low (32 - n)
  | 0, _ => by simp [Id.hi, Id.num_def]
  | n + 1, h => by
    rw [Id.split a n (by omega)]
    have e : 32 - n = (32 - (n + 1)) + 1 := by omega
    rw [e, Id.low, Id.hi, show 31 - (32 - (n + 1)) = n by omega, Nat.pow_succ, Nat.add_mul]
    have : a.hi n * (256 ^ (32 - (n + 1)) * 256) = a.hi n * 256 * 256 ^ (32 - (n + 1)) := by rw [Nat.mul_assoc, Nat.mul_comm 256]
    omega
theorem Id.num_hi (a : Id) : a.num = a.hi 32 := by have := a.split 32 (by omega); simpa [Id.low] using this
theorem Id.hi_div (a : Id) (n : Nat) (h : n ≤ 32) : a.num / 256 ^ (32 - n) = a.hi n := by
  rw [a.split n h, Nat.mul_comm, Nat.mul_add_div (Nat.pow_pos (by omega)), Nat.div_eq_of_lt (a.low_lt _)]
  rfl
theorem Id.get_set (a : Id) (i j : Nat) (v : UInt8) (h : i < 32) : (a.set i v).get j = if j = i then v else a.get j := by
  unfold Id.get Id.set
  simp only [List.getD_eq_getElem?_getD, List.getElem?_set]
  by_cases e : i = j
  · subst e; simp [a.h, h]
  · rw [if_neg e, if_neg (fun x => e x.symm)]
theorem Id.low_set (a : Id) (i : Nat) (v : UInt8) (h : i < 32) : ∀ n, n ≤ 31 - i → (a.set i v).low n = a.low n
  | 0, _ => rfl
  | n + 1, hn => by
    simp only [Id.low]
    rw [Id.low_set a i v h n (by omega), Id.get_set a i _ v h, if_neg (by omega)]
theorem Id.ext_get {a b : Id} (h : ∀ i, i < 32 → a.get i = b.get i) : a = b := by
  apply Id.ext'
  apply List.ext_getElem (by rw [a.h, b.h])
  intro i h1 h2
  have := h i (by rw [a.h] at h1; exact h1)
  unfold Id.get at this
  simpa [List.getD_eq_getElem?_getD, List.getElem?_eq_getElem h1, List.getElem?_eq_getElem h2] using this
theorem Id.hi_get {a b : Id} : ∀ n, a.hi n = b.hi n → ∀ i, i < n → a.get i = b.get i
  | 0, _, i, h => by omega
  | n + 1, e, i, h => by
    simp only [Id.hi] at e
    have h1 := u8_lt (a.get n)
    have h2 := u8_lt (b.get n)
    have e1 : a.hi n = b.hi n := by omega
    by_cases hi : i = n
    · subst hi
      exact UInt8.toNat_inj.1 (by omega)
    · exact Id.hi_get n e1 i (by omega)
theorem Id.num_inj {a b : Id} (h : a.num = b.num) : a = b := Id.ext_get (Id.hi_get 32 (by rw [← a.num_hi, ← b.num_hi, h]))
theorem Id.num_eq {a b : Id} : a.num = b.num ↔ a = b := ⟨Id.num_inj, fun h => by rw [h]⟩
theorem Id.hi_eq_of {a b : Id} : ∀ n, (∀ i, i < n → a.get i = b.get i) → a.hi n = b.hi n
  | 0, _ => rfl
  | n + 1, h => by rw [Id.hi, Id.hi, Id.hi_eq_of n (fun i hi => h i (by omega)), h n (by omega)]
theorem Id.lt_of_hi {a b : Id} {n : Nat} (hn : n ≤ 32) (h : a.hi n < b.hi n) : a.num < b.num := by
  rw [← a.hi_div n hn, ← b.hi_div n hn] at h
  exact Nat.lt_of_not_le fun hle => Nat.not_le_of_lt h (Nat.div_le_div_right hle)
theorem Id.get_zero (i : Nat) : Id.zero.get i = 0 := by
  unfold Id.get Id.zero
  simp only [List.getD_eq_getElem?_getD, List.getElem?_replicate]
  split <;> rfl
theorem Id.low_zero : ∀ n, Id.zero.low n = 0
  | 0 => rfl
  | n + 1 => by rw [Id.low, Id.get_zero, Id.low_zero n]; simp
theorem Id.num_zero : Id.zero.num = 0 := (Id.num_def _).trans (Id.low_zero 32)

/-- a bit, the highest first -/
noncomputable def Id.bit (a : Id) (i : Nat) : Nat := a.num / 2 ^ (255 - i) % 2
theorem Id.bit_eq (a : Id) (i : Nat) (h : i < 256) : a.bit i = (a.get (i / 8)).toNat / 2 ^ (7 - i % 8) % 2 := by
  unfold Id.bit
  have e : 255 - i = 8 * (32 - (i / 8 + 1)) + (7 - i % 8) := by omega
  rw [e, Nat.pow_add, Nat.pow_mul, ← Nat.div_div_eq_div_mul, show (2 ^ 8 : Nat) = 256 by rfl, a.hi_div _ (by omega), Id.hi]
  have : i % 8 < 8 := Nat.mod_lt _ (by omega)
  have h7 : 7 - i % 8 = 0 ∨ 7 - i % 8 = 1 ∨ 7 - i % 8 = 2 ∨ 7 - i % 8 = 3 ∨ 7 - i % 8 = 4 ∨ 7 - i % 8 = 5 ∨ 7 - i % 8 = 6 ∨ 7 - i % 8 = 7 := by omega
  rcases h7 with h | h | h | h | h | h | h | h <;> rw [h] <;> simp <;> omega
theorem Id.top_succ (a : Id) (i : Nat) (h : i < 256) : a.num / 2 ^ (255 - i) = 2 * (a.num / 2 ^ (256 - i)) + a.bit i := by
  unfold Id.bit
  have : a.num / 2 ^ (256 - i) = a.num / 2 ^ (255 - i) / 2 := by
    rw [show 256 - i = (255 - i) + 1 by omega, Nat.pow_succ, Nat.div_div_eq_div_mul]
  rw [this]
  omega
theorem Id.top_eq {a b : Id} : ∀ i, i ≤ 256 → (∀ j, j < i → a.bit j = b.bit j) → a.num / 2 ^ (256 - i) = b.num / 2 ^ (256 - i)
  | 0, _, _ => by rw [Nat.div_eq_of_lt a.num_lt, Nat.div_eq_of_lt b.num_lt]
  | i + 1, h, hj => by
    have h1 := Id.top_eq (a := a) (b := b) i (by omega) (fun j hj' => hj j (by omega))
    rw [show 256 - (i + 1) = 255 - i by omega, a.top_succ i (by omega), b.top_succ i (by omega), h1, hj i (by omega)]
theorem Id.lt_of_bit {a b : Id} {i : Nat} (h : i < 256) (hj : ∀ j, j < i → a.bit j = b.bit j) (hb : a.bit i < b.bit i) : a.num < b.num := by
  have h1 := Id.top_eq (a := a) (b := b) i (by omega) hj
  have h2 : a.num / 2 ^ (255 - i) < b.num / 2 ^ (255 - i) := by rw [a.top_succ i h, b.top_succ i h, h1]; omega
  exact Nat.lt_of_not_le fun hle => Nat.not_le_of_lt h2 (Nat.div_le_div_right hle)
theorem Id.eq_of_bits {a b : Id} (hj : ∀ j, j < 256 → a.bit j = b.bit j) : a = b := by
  have := Id.top_eq (a := a) (b := b) 256 (by omega) hj
  exact Id.num_inj (by simpa using this)

/-- the identifier of a number -/
def ofLow (x : Nat) : Id := ⟨(List.range 32).map fun i => UInt8.ofNat (x / 256 ^ (31 - i) % 256), by simp⟩
theorem ofLow_get (x i : Nat) (h : i < 32) : (ofLow x).get i = UInt8.ofNat (x / 256 ^ (31 - i) % 256) := by
  unfold Id.get ofLow
  simp [List.getD_eq_getElem?_getD, h]
theorem ofLow_low (x : Nat) : ∀ n, n ≤ 32 → (ofLow x).low n = x % 256 ^ n
  | 0, _ => by simp [Id.low, Nat.mod_one]
  | n + 1, h => by
    rw [Id.low, ofLow_low x n (by omega), ofLow_get x _ (by omega), show 31 - (31 - n) = n by omega, Nat.pow_succ]
    have : (UInt8.ofNat (x / 256 ^ n % 256)).toNat = x / 256 ^ n % 256 := by simp
    rw [this, Nat.mod_mul, Nat.mul_comm]
    omega
theorem ofLow_num (x : Nat) (h : x < 2 ^ 256) : (ofLow x).num = x := by
  rw [Id.num_def]
  rw [ofLow_low x 32 (by omega)]
  exact Nat.mod_eq_of_lt (by have e : (256 : Nat) ^ 32 = 2 ^ 256 := by decide
                             omega)

/-- 2^256, as a number that does not unfold -/
noncomputable def rM : Nat := shut (2 ^ 256)
theorem rM_eq : rM = 2 ^ 256 := shut_eq _
theorem pwM : (256 : Nat) ^ 32 = rM := rM_eq.symm ▸ (by decide : (256 : Nat) ^ 32 = 2 ^ 256)
theorem Id.num_ltM (a : Id) : a.num < rM := by rw [rM_eq]; exact a.num_lt
/-- the way from a number to another one, round the ring -/
noncomputable def way (x y : Nat) : Nat := if x ≤ y then y - x else y + rM - x
theorem way_lt {x y : Nat} (hx : x < rM) (hy : y < rM) : way x y < rM := by unfold way; split <;> omega
noncomputable def far (a b : Id) : Id := ofLow (way a.num b.num)
theorem far_num (a b : Id) : (far a b).num = way a.num b.num := ofLow_num _ (by rw [← rM_eq]; exact way_lt a.num_ltM b.num_ltM)

end Am
end Go.Proofs.Ythnmiialdjifiaa
