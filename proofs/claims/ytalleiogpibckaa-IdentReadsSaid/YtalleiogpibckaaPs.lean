/-
  A step on the ring.
-/
import Derived.Test.YtalleiogpibckaaPj
namespace Go.Proofs.Ytalleiogpibckaa
namespace Am
open Go Go.RowKit
set_option linter.unusedVariables false

theorem ofLow_self (a : Id) : ofLow a.num = a := Id.num_inj (ofLow_num _ a.num_lt)
theorem rM_pos : 0 < rM := by rw [rM_eq]; exact Nat.pow_pos (by omega)
noncomputable def ofM (x : Nat) : Id := ofLow (x % rM)
theorem ofM_num (x : Nat) : (ofM x).num = x % rM := ofLow_num _ (by rw [← rM_eq]; exact Nat.mod_lt _ rM_pos)
theorem ofM_self (a : Id) : ofM a.num = a := by unfold ofM; rw [Nat.mod_eq_of_lt a.num_ltM, ofLow_self]
theorem ofM_add (x : Nat) : ofM (x + rM) = ofM x := by unfold ofM; rw [Nat.add_mod_right]
theorem ofM_addmul (x m : Nat) : ofM (x + m * rM) = ofM x := by unfold ofM; rw [Nat.add_mul_mod_self_right]
/-- so much farther -/
noncomputable def stp (a : Id) (k : Nat) : Id := ofM (a.num + 2 ^ k)

theorem Id.low_set2 (a : Id) (i : Nat) (v : UInt8) (h : i < 32) : ∀ n, n ≤ 32 → 31 - i < n → (a.set i v).low n + (a.get i).toNat * 256 ^ (31 - i) = a.low n + v.toNat * 256 ^ (31 - i)
  | 0, _, hn => by omega
  | n + 1, hn, hi => by
    simp only [Id.low]
    by_cases e : n = 31 - i
    · subst e
      rw [show 31 - (31 - i) = i by omega, Id.get_set _ _ _ _ h, if_pos rfl, Id.low_set a i v h _ (by omega)]
      omega
    · have := Id.low_set2 a i v h n (by omega) (by omega)
      rw [Id.get_set _ _ _ _ h, if_neg (by omega)]
      omega
theorem Id.num_set (a : Id) (i : Nat) (v : UInt8) (h : i < 32) : (a.set i v).num + (a.get i).toNat * 256 ^ (31 - i) = a.num + v.toNat * 256 ^ (31 - i) := by
  rw [Id.num_def, Id.num_def]
  exact Id.low_set2 a i v h 32 (by omega) (by omega)

theorem iwrap_u8 (n : Nat) : iwrap .u8 (n : Int) = ((n % 256 : Nat) : Int) := by
  have e : iwrap .u8 (n : Int) = IntKind.wrap .u8 (n : Int) := rfl
  rw [e]
  unfold IntKind.wrap
  simp only [IntKind.bits, IntKind.signed]
  have h2 : ((n : Int) % 2 ^ 8) = ((n % 256 : Nat) : Int) := by simp
  simp
theorem iu8_wrap (n : Nat) : (iu8 (iwrap .u8 (n : Int))).toNat = n % 256 := by
  have h := iu8_nat (n := n % 256) (Nat.mod_lt _ (by omega))
  rw [iwrap_u8, show n % 256 % 256 = n % 256 by omega] at h
  rw [iwrap_u8, h]
theorem ishr_nat (x n : Nat) : ishr (x : Int) n = ((x / 2 ^ n : Nat) : Int) := by
  unfold ishr
  rw [show ((2 : Int) ^ n) = ((2 ^ n : Nat) : Int) by simp, Int.ofNat_fdiv]

theorem step_round (a z : Id) {m n : Nat} (hm : m ≤ 255) (hm0 : 0 < m) (hn : n < 32) : ∃ m' a', m' ≤ 255 ∧ a.num + m * 256 ^ (31 - n) = a'.num + m' * 256 ^ (32 - n) ∧
    ridentStepx5 (((), (), (m : Int), (n : Int), ()), a, z, ()) = some (.inl (((), (), (m' : Int), (n : Int) - 1, ()), a', z, ())) := by
  have hx := u8_lt (a.get n)
  have h1 : ilt (n : Int) 32 = true := ilt_t.2 (by omega)
  have h2 : ilt 0 (m : Int) = true := ilt_t.2 (by omega)
  have e1 : iwrap .i64 (u8i (idget a n)) = ((a.get n).toNat : Int) := by rw [u8i_eq, idget_eq, iwrap_nat (by omega)]
  have e2 : iwrap .i64 (iadd ((a.get n).toNat : Int) (m : Int)) = (((a.get n).toNat + m : Nat) : Int) := by
    unfold iadd
    rw [iwrap_i64 (by omega) (by omega)]
    omega
  have e3 : iwrap .i64 (isub (n : Int) 1) = (n : Int) - 1 := by unfold isub; rw [iwrap_i64 (by omega) (by omega)]
  have e8 : ibits 8 .i64 = 8 := by kernel_rfl
  have e9 : ile 0 8 = true := by kernel_rfl
  refine ⟨((a.get n).toNat + m) / 256, a.set n (iu8 (iwrap .u8 (((a.get n).toNat + m : Nat) : Int))), by omega, ?_, ?_⟩
  · have h := Id.num_set a n (iu8 (iwrap .u8 (((a.get n).toNat + m : Nat) : Int))) hn
    rw [iu8_wrap] at h
    rw [show 32 - n = (31 - n) + 1 by omega, Nat.pow_succ]
    generalize 256 ^ (31 - n) = P at *
    have hd : (a.get n).toNat + m = 256 * (((a.get n).toNat + m) / 256) + ((a.get n).toNat + m) % 256 := (Nat.div_add_mod _ _).symm
    have hp := congrArg (· * P) hd
    simp only [Nat.add_mul] at hp
    have h3 : ((a.get n).toNat + m) / 256 * (P * 256) = 256 * (((a.get n).toNat + m) / 256) * P := by rw [Nat.mul_comm P, ← Nat.mul_assoc, Nat.mul_comm _ 256]
    omega
  · simp only [ridentStepx5, inat_eq, bifT ile_nat, bifT h1, bifT h2, bifT e9, e1, e2, e3, e8, ishr_nat]
    rfl

theorem step_loop (z : Id) (n : Nat) : n ≤ 32 → ∀ (m : Nat) (a : Id), m ≤ 255 →
    whl ridentStepx5 (((), (), (m : Int), (n : Int) - 1, ()), a, z, ()) = some (.inl (((), (), ()), ofM (a.num + m * 256 ^ (32 - n)), z, ())) := by
  induction n with
  | zero =>
    intro _ m a hm
    refine whl_inr ?_
    have hc : ile 0 (((0 : Nat) : Int) - 1) = false := ile_f.2 (by omega)
    rw [show 32 - 0 = 32 from rfl, pwM, ofM_addmul, ofM_self]
    simp only [ridentStepx5, bifF hc]
  | succ n ih =>
    intro hn m a hm
    have e0 : ((n + 1 : Nat) : Int) - 1 = (n : Int) := by omega
    rw [e0]
    by_cases h0 : m = 0
    · subst h0
      refine whl_inr ?_
      have hc : ilt 0 ((0 : Nat) : Int) = false := ilt_f.2 (by omega)
      rw [Nat.zero_mul, Nat.add_zero, ofM_self]
      simp only [ridentStepx5, bifT ile_nat, bifF hc]
    · obtain ⟨m', a', hm', he, hr⟩ := step_round a z (m := m) (n := n) hm (by omega) (by omega)
      rw [whl_inl hr, ih (by omega) m' a' hm', ← he, show 31 - n = 32 - (n + 1) by omega]

theorem ibits_nat {n : Nat} (h : n < 64) : ibits (n : Int) .i64 = n := by
  unfold ibits
  have e : IntKind.bits .i64 = 64 := rfl
  rw [e]
  omega
theorem ishl_nat (x n : Nat) : ishl (x : Int) n = ((x * 2 ^ n : Nat) : Int) := by
  unfold ishl
  simp

theorem identStep_eq (a : Id) (k : Nat) (h : k < 256) : oidentStep ((a, (k : Int), ()), ()) = some ((stp a k, 0, ()), ()) := by
  have h8 : (bif ieq 8 0 then false else true) = true := rfl
  have hl : ilt (k : Int) 0 = false := ilt_f.2 (by omega)
  have hg : ile 256 (k : Int) = false := ile_f.2 (by omega)
  have hp : 2 ^ (k % 8) ≤ 128 := by
    have : 2 ^ (k % 8) ≤ 2 ^ 7 := Nat.pow_le_pow_right (by omega) (by omega)
    omega
  have e1 : irem (k : Int) 8 = ((k % 8 : Nat) : Int) := irem_nat k 8
  have e2 : iwrap .i64 (ishl 1 (k % 8)) = ((2 ^ (k % 8) : Nat) : Int) := by
    have : ishl 1 (k % 8) = ((1 * 2 ^ (k % 8) : Nat) : Int) := ishl_nat 1 (k % 8)
    rw [this, Nat.one_mul, iwrap_nat (by omega)]
  have e3 : iwrap .i64 (isub 31 (iwrap .i64 (iquo (k : Int) 8))) = ((32 - k / 8 : Nat) : Int) - 1 := by
    rw [show iquo (k : Int) 8 = ((k / 8 : Nat) : Int) from iquo_nat k 8, iwrap_nat (by omega)]
    unfold isub
    rw [iwrap_i64 (by omega) (by omega)]
    omega
  rw [oidentStep_eq, bidentStep]
  simp only [bifF hl, bifF hg, bifT h8, e1, bifT ile_nat, ibits_nat (show k % 8 < 64 by omega), e2, e3, widentStepx5_eq]
  rw [step_loop Id.zero (32 - k / 8) (by omega) (2 ^ (k % 8)) a (by omega), bL_inl, show 32 - (32 - k / 8) = k / 8 by omega]
  have : 2 ^ (k % 8) * 256 ^ (k / 8) = 2 ^ k := by
    rw [show (256 : Nat) = 2 ^ 8 by rfl, ← Nat.pow_mul, ← Nat.pow_add, show k % 8 + 8 * (k / 8) = k by omega]
  rw [this]
  rfl
theorem identStep_bad (a : Id) (k : Int) (h : k < 0 ∨ 256 ≤ k) : oidentStep ((a, k, ()), ()) = some ((Id.zero, 1, ()), ()) := by
  rw [oidentStep_eq, bidentStep]
  by_cases hl : k < 0
  · simp only [bifT (ilt_t.2 hl)]; rfl
  · have hg : ile 256 k = true := ile_t.2 (by omega)
    simp only [bifF (ilt_f.2 (by omega : (0 : Int) ≤ k)), bifT hg]
    rfl

end Am
end Go.Proofs.Ytalleiogpibckaa
