/-
  Wire: what is written is read; what is read was written; the laws.
-/
import Derived.Test.YthnmiialdjifiaaWy
namespace Go.Proofs.Ythnmiialdjifiaa
namespace Am
open Go Go.RowKit
set_option linter.unusedVariables false
set_option linter.unusedSimpArgs false
set_option maxRecDepth 10000

/- numbers -/
theorem numD_nat (r : List UInt8) : ∀ c, c ≤ 6 → ∃ v : Nat, numD r c = (v : Int) ∧ v < 256 ^ c
  | 0, _ => ⟨0, rfl, by omega⟩
  | c + 1, h => by
    obtain ⟨v, h1, h2⟩ := numD_nat r c (by omega)
    have hb := (r.getD (5 - c) 0).toNat_lt
    have hp : 256 ^ c ≤ 256 ^ 5 := Nat.pow_le_pow_right (by omega) (by omega)
    have e5 : (256 : Nat) ^ 5 = 1099511627776 := rfl
    refine ⟨256 * v + (r.getD (5 - c) 0).toNat, ?_, by rw [Nat.pow_succ]; omega⟩
    simp only [numD, h1]
    have e1 : iwrap IntKind.i64 (imul 256 (v : Int)) = ((256 * v : Nat) : Int) := by
      unfold imul
      rw [iwrap_i64 (by omega) (by omega)]
      omega
    rw [e1, byte_eq]
    unfold iadd
    rw [iwrap_i64 (by omega) (by omega)]
    omega
theorem numD_step (r : List UInt8) (c v : Nat) (hc : c ≤ 5) (hv : numD r c = (v : Int)) (hb : v < 256 ^ c) : numD r (c + 1) = ((256 * v + (r.getD (5 - c) 0).toNat : Nat) : Int) := by
  have hq := (r.getD (5 - c) 0).toNat_lt
  have hp : 256 ^ c ≤ 256 ^ 5 := Nat.pow_le_pow_right (by omega) (by omega)
  have e5 : (256 : Nat) ^ 5 = 1099511627776 := rfl
  simp only [numD, hv]
  have e1 : iwrap IntKind.i64 (imul 256 (v : Int)) = ((256 * v : Nat) : Int) := by
    unfold imul
    rw [iwrap_i64 (by omega) (by omega)]
    omega
  rw [e1, byte_eq]
  unfold iadd
  rw [iwrap_i64 (by omega) (by omega)]
  omega
theorem numD_six (b0 b1 b2 b3 b4 b5 : UInt8) (t : List UInt8) : numD (b0 :: b1 :: b2 :: b3 :: b4 :: b5 :: t) 6 =
    ((b0.toNat + 256 * (b1.toNat + 256 * (b2.toNat + 256 * (b3.toNat + 256 * (b4.toNat + 256 * b5.toNat)))) : Nat) : Int) := by
  have l0 := b0.toNat_lt; have l1 := b1.toNat_lt; have l2 := b2.toNat_lt; have l3 := b3.toNat_lt; have l4 := b4.toNat_lt; have l5 := b5.toNat_lt
  have s1 := numD_step (b0 :: b1 :: b2 :: b3 :: b4 :: b5 :: t) 0 0 (by omega) rfl (by omega)
  have g1 : 256 * 0 + ((b0 :: b1 :: b2 :: b3 :: b4 :: b5 :: t).getD (5 - 0) 0).toNat = b5.toNat := by simp
  rw [g1] at s1
  have s2 := numD_step _ 1 _ (by omega) s1 (by omega)
  have g2 : ((b0 :: b1 :: b2 :: b3 :: b4 :: b5 :: t).getD (5 - 1) 0) = b4 := by simp
  rw [g2] at s2
  have s3 := numD_step _ 2 _ (by omega) s2 (by omega)
  have g3 : ((b0 :: b1 :: b2 :: b3 :: b4 :: b5 :: t).getD (5 - 2) 0) = b3 := by simp
  rw [g3] at s3
  have s4 := numD_step _ 3 _ (by omega) s3 (by omega)
  have g4 : ((b0 :: b1 :: b2 :: b3 :: b4 :: b5 :: t).getD (5 - 3) 0) = b2 := by simp
  rw [g4] at s4
  have s5 := numD_step _ 4 _ (by omega) s4 (by omega)
  have g5 : ((b0 :: b1 :: b2 :: b3 :: b4 :: b5 :: t).getD (5 - 4) 0) = b1 := by simp
  rw [g5] at s5
  have s6 := numD_step _ 5 _ (by omega) s5 (by omega)
  have g6 : ((b0 :: b1 :: b2 :: b3 :: b4 :: b5 :: t).getD (5 - 5) 0) = b0 := by simp
  rw [g6] at s6
  rw [s6]
  congr 1
  omega
theorem num8_list (n : Nat) : num8 n = [UInt8.ofNat (n / 1), UInt8.ofNat (n / 256), UInt8.ofNat (n / 65536), UInt8.ofNat (n / 16777216), UInt8.ofNat (n / 4294967296), UInt8.ofNat (n / 1099511627776), UInt8.ofNat (n / 281474976710656), UInt8.ofNat (n / 72057594037927936)] := rfl
theorem ofNat_nat (n : Nat) : (UInt8.ofNat n).toNat = n % 256 := by simp
theorem numD_num8 (n : Nat) (hn : n ≤ 1099511627776) (x : List UInt8) : numD (num8 n ++ x) 6 = (n : Int) ∧ (num8 n ++ x).getD 7 0 = 0 ∧ (num8 n ++ x).getD 6 0 = 0 := by
  rw [num8_list]
  refine ⟨?_, ?_, ?_⟩
  · simp only [List.cons_append, numD_six, ofNat_nat]
    congr 1
    omega
  · apply UInt8.toNat_inj.1
    simp
    omega
  · apply UInt8.toNat_inj.1
    simp
    omega
theorem num8_numD (r : List UInt8) (hr : 8 ≤ r.length) (h7 : r.getD 7 0 = 0) (h6 : r.getD 6 0 = 0) : num8 (numD r 6).toNat = r.take 8 := by
  obtain ⟨b0, b1, b2, b3, b4, b5, b6, b7, t, rfl⟩ : ∃ b0 b1 b2 b3 b4 b5 b6 b7 t, r = b0 :: b1 :: b2 :: b3 :: b4 :: b5 :: b6 :: b7 :: t := by
    match r, hr with
    | b0 :: b1 :: b2 :: b3 :: b4 :: b5 :: b6 :: b7 :: t, _ => exact ⟨b0, b1, b2, b3, b4, b5, b6, b7, t, rfl⟩
  simp at h6 h7
  subst h6; subst h7
  rw [numD_six, Int.toNat_natCast, num8_list]
  have l0 := b0.toNat_lt; have l1 := b1.toNat_lt; have l2 := b2.toNat_lt; have l3 := b3.toNat_lt; have l4 := b4.toNat_lt; have l5 := b5.toNat_lt
  have key : ∀ (a : Nat) (b : UInt8), a % 256 = b.toNat → UInt8.ofNat a = b := fun a b h => UInt8.toNat_inj.1 ((ofNat_nat a).trans h)
  simp only [List.take_succ_cons, List.take_zero]
  rw [key _ b0 (by omega), key _ b1 (by omega), key _ b2 (by omega), key _ b3 (by omega), key _ b4 (by omega), key _ b5 (by omega), key _ 0 (by simp; omega), key _ 0 (by simp; omega)]
theorem or_step (x c k : Nat) (hk : k ≤ 5) (hx : x < 256 ^ k) (hc : c < 256) : bitsI BinOp.or IntKind.i64 (x : Int) (iwrap IntKind.i64 (ishl (c : Int) (ibits (iwrap IntKind.i64 (imul 8 (k : Int))) IntKind.i64))) = ((x + c * 256 ^ k : Nat) : Int) := by
  have e1 : iwrap IntKind.i64 (imul 8 (k : Int)) = ((8 * k : Nat) : Int) := by
    unfold imul
    rw [iwrap_i64 (by omega) (by omega)]
    omega
  have e2 : ibits ((8 * k : Nat) : Int) IntKind.i64 = 8 * k := by
    unfold ibits
    simp only [Int.toNat_natCast]
    have : IntKind.i64.bits = 64 := rfl
    rw [this]; omega
  have hp : 256 ^ k ≤ 256 ^ 5 := Nat.pow_le_pow_right (by omega) (by omega)
  have e5 : (256 : Nat) ^ 5 = 1099511627776 := rfl
  have hcm : c * 256 ^ k ≤ 255 * 256 ^ 5 := Nat.mul_le_mul (by omega) hp
  have e3 : ishl (c : Int) (8 * k) = ((c * 256 ^ k : Nat) : Int) := by
    unfold ishl
    rw [show (256 : Nat) ^ k = 2 ^ (8 * k) by rw [Nat.pow_mul]]
    push_cast
    rfl
  rw [e1, e2, e3, iwrap_i64 (by omega) (by omega)]
  have e : bitsI BinOp.or IntKind.i64 (x : Int) ((c * 256 ^ k : Nat) : Int) = iwrap IntKind.i64 (((BitVec.ofInt 64 (x : Int) ||| BitVec.ofInt 64 ((c * 256 ^ k : Nat) : Int)).toNat : Nat) : Int) := rfl
  rw [e]
  have hor : (BitVec.ofInt 64 (x : Int) ||| BitVec.ofInt 64 ((c * 256 ^ k : Nat) : Int)).toNat = x + c * 256 ^ k := by
    rw [BitVec.toNat_or]
    have t1 : (BitVec.ofInt 64 (x : Int)).toNat = x := by
      rw [BitVec.toNat_ofInt]
      omega
    have t2 : (BitVec.ofInt 64 ((c * 256 ^ k : Nat) : Int)).toNat = c * 256 ^ k := by
      rw [BitVec.toNat_ofInt]
      omega
    rw [t1, t2]
    have hx2 : x < 2 ^ (8 * k) := by rw [Nat.pow_mul]; exact hx
    have := Nat.shiftLeft_add_eq_or_of_lt hx2 c
    rw [Nat.shiftLeft_eq, Nat.pow_mul] at this
    rw [Nat.or_comm]
    have e256 : (2 : Nat) ^ 8 = 256 := rfl
    rw [e256] at this
    rw [← this]; omega
  rw [hor, iwrap_i64 (by omega) (by omega)]
theorem or_zero (x : Int) (h0 : 0 ≤ x) (h1 : x ≤ 1099511627776 * 256) (y : Nat) : bitsI BinOp.or IntKind.i64 x (iwrap IntKind.i64 (ishl (iwrap IntKind.i64 (u8i 0)) y)) = x := by
  have e0 : iwrap IntKind.i64 (u8i 0) = 0 := rfl
  have e1 : ishl 0 y = 0 := by unfold ishl; simp
  have e2 : iwrap IntKind.i64 0 = 0 := rfl
  rw [e0, e1, e2]
  obtain ⟨n, rfl⟩ : ∃ n : Nat, x = (n : Int) := ⟨x.toNat, by omega⟩
  have e : bitsI BinOp.or IntKind.i64 (n : Int) 0 = iwrap IntKind.i64 (((BitVec.ofInt 64 (n : Int) ||| BitVec.ofInt 64 0).toNat : Nat) : Int) := rfl
  rw [e]
  have hor : (BitVec.ofInt 64 (n : Int) ||| BitVec.ofInt 64 0).toNat = n := by
    rw [BitVec.toNat_or]
    have t1 : (BitVec.ofInt 64 (n : Int)).toNat = n := by
      rw [BitVec.toNat_ofInt]
      omega
    rw [t1]
    simp
  rw [hor, iwrap_i64 (by omega) (by omega)]
theorem numK_eq (n : Nat) (hn : n ≤ 1099511627776) : ∀ k, k ≤ 6 → numK (num8 n) k = ((n % 256 ^ k : Nat) : Int)
  | 0, _ => by simp [numK, Nat.mod_one]
  | k + 1, h => by
    have hg : (num8 n).getD k 0 = UInt8.ofNat (n / 256 ^ k) := by
      simp [num8, show k < 8 by omega]
    simp only [numK, numK_eq n hn k (by omega), hg, byte_eq]
    have hlt : n % 256 ^ k < 256 ^ k := Nat.mod_lt _ (Nat.pow_pos (by omega))
    rw [or_step _ _ k (by omega) hlt (UInt8.toNat_lt _), ofNat_nat]
    congr 1
    rw [Nat.pow_succ, Nat.mod_mul, Nat.mul_comm (256 ^ k)]
theorem numM_num8 (n : Nat) (hn : n ≤ 1099511627776) : numM (num8 n) = (n : Int) := by
  have h6 := numK_eq n hn 6 (by omega)
  have e6 : (256 : Nat) ^ 6 = 281474976710656 := rfl
  rw [e6, Nat.mod_eq_of_lt (by omega)] at h6
  unfold numM
  rw [num8_len]
  have g6 : (num8 n).getD 6 0 = 0 := by
    have := (numD_num8 n hn []).2.2
    simpa using this
  have g7 : (num8 n).getD 7 0 = 0 := by
    have := (numD_num8 n hn []).2.1
    simpa using this
  have h7 : numK (num8 n) 7 = (n : Int) := by
    rw [numK, h6, g6, or_zero _ (by omega) (by omega)]
  rw [numK, h7, g7, or_zero _ (by omega) (by omega)]
end Am
end Go.Proofs.Ythnmiialdjifiaa
