/-
  The reference's sums.
-/
import Derived.Test.YtalleiogpibckaaPs
import Derived.Test.YtalleiogpibckaaLp
namespace Go.Proofs.Ytalleiogpibckaa
namespace Am
open Go Go.RowKit
set_option linter.unusedVariables false

def pw2 (i : Nat) : UInt8 := UInt8.ofNat (2 ^ i)
theorem pw2_nat {i : Nat} (h : i < 8) : (pw2 i).toNat = 2 ^ i := by
  unfold pw2
  have h2 : 2 ^ i ≤ 2 ^ 7 := Nat.pow_le_pow_right (by omega) (by omega)
  simp
  omega
theorem pw2_step {i : Nat} (h : i < 7) : iu8 (iwrap .u8 (imul (u8i (iu8 2)) (u8i (pw2 i)))) = pw2 (i + 1) := by
  have h2 : 2 ^ i ≤ 2 ^ 6 := Nat.pow_le_pow_right (by omega) (by omega)
  have e : imul (u8i (iu8 2)) (u8i (pw2 i)) = ((2 * 2 ^ i : Nat) : Int) := by
    rw [u8i_eq, u8i_eq, pw2_nat (by omega)]
    have : (iu8 2).toNat = 2 := rfl
    rw [this]
    unfold imul
    omega
  refine UInt8.toNat_inj.1 ?_
  rw [e, iu8_wrap, pw2_nat (by omega), Nat.pow_succ]
  omega
theorem ref01Power_eq (k : Nat) (h : k < 256) : oref01Power (((k : Int), ()), ()) = some ((ofM (2 ^ k), ()), ()) := by
  have h8 : (bif ieq 8 0 then false else true) = true := rfl
  have e1 : irem (k : Int) 8 = ((k % 8 : Nat) : Int) := irem_nat k 8
  have e3 : iwrap .i64 (isub 31 (iwrap .i64 (iquo (k : Int) 8))) = ((31 - k / 8 : Nat) : Int) := by
    rw [show iquo (k : Int) 8 = ((k / 8 : Nat) : Int) from iquo_nat k 8, iwrap_nat (by omega)]
    unfold isub
    rw [iwrap_i64 (by omega) (by omega)]
    omega
  have hl := whl_up (g := rref01Powerx4) (fun i => (((k : Int), (), (), pw2 i, (i : Int), ()), Id.zero, Id.zero, ())) (.inl (((k : Int), (), (), pw2 (k % 8), ()), Id.zero, Id.zero, ())) (k % 8)
    (by
      have hc : ilt ((k % 8 : Nat) : Int) ((k % 8 : Nat) : Int) = false := ilt_f.2 (by omega)
      simp only [rref01Powerx4, bifT h8, e1, bifF hc])
    (fun i hi => by
      have hc : ilt (i : Int) ((k % 8 : Nat) : Int) = true := ilt_t.2 (by omega)
      simp only [rref01Powerx4, bifT h8, e1, bifT hc, pw2_step (show i < 7 by omega), inc_nat (show i < 4611686018427387904 by omega)]) (k % 8) 0 (by omega)
  have hp0 : iu8 1 = pw2 0 := by decide
  have hlt : ilt ((31 - k / 8 : Nat) : Int) 32 = true := ilt_t.2 (by omega)
  rw [oref01Power_eq, bref01Power]
  simp only [wref01Powerx4_eq, hp0]
  have hl' : whl rref01Powerx4 (((k : Int), (), (), pw2 0, 0, ()), Id.zero, Id.zero, ()) = _ := hl
  rw [hl', bL_inl]
  simp only [bifT h8, e3, bifT ile_nat, bifT hlt, inat_eq, idset_eq]
  have hn : (Id.zero.set (31 - k / 8) (pw2 (k % 8))).num = 2 ^ k := by
    have h1 := Id.num_set Id.zero (31 - k / 8) (pw2 (k % 8)) (by omega)
    rw [Id.get_zero, Id.num_zero, show (0 : UInt8).toNat = 0 from rfl, pw2_nat (Nat.mod_lt _ (by omega)), show 31 - (31 - k / 8) = k / 8 by omega] at h1
    have : 2 ^ (k % 8) * 256 ^ (k / 8) = 2 ^ k := by
      rw [show (256 : Nat) = 2 ^ 8 by rfl, ← Nat.pow_mul, ← Nat.pow_add, show k % 8 + 8 * (k / 8) = k by omega]
    rw [this] at h1
    omega
  rw [show Id.zero.set (31 - k / 8) (pw2 (k % 8)) = ofM (2 ^ k) from by
    refine Id.num_inj ?_
    rw [hn, ofM_num, Nat.mod_eq_of_lt]
    rw [rM_eq]
    exact Nat.pow_lt_pow_right (by omega) h]

theorem add_round (a b z out : Id) {l k : Nat} (hl : l ≤ 1) (hk : k < 32) : ∃ l' v, l' ≤ 1 ∧ v.toNat + 256 * l' = (a.get k).toNat + (b.get k).toNat + l ∧
    rref01Addx4 (((), (), (), (), (l : Int), (k : Int), ()), a, b, z, out, ()) = some (.inl (((), (), (), (), (l' : Int), (k : Int) - 1, ()), a, b, z, out.set k v, ())) := by
  have hx := u8_lt (a.get k)
  have hy := u8_lt (b.get k)
  have hk32 : ilt (k : Int) 32 = true := ilt_t.2 (by omega)
  have h256 : (bif ieq 256 0 then false else true) = true := rfl
  have e1 : iwrap .i64 (u8i (idget a k)) = ((a.get k).toNat : Int) := by rw [u8i_eq, idget_eq, iwrap_nat (by omega)]
  have e2 : iwrap .i64 (u8i (idget b k)) = ((b.get k).toNat : Int) := by rw [u8i_eq, idget_eq, iwrap_nat (by omega)]
  have e3 : iwrap .i64 (iadd (iwrap .i64 (iadd ((a.get k).toNat : Int) ((b.get k).toNat : Int))) (l : Int)) = (((a.get k).toNat + (b.get k).toNat + l : Nat) : Int) := by
    have : iadd ((a.get k).toNat : Int) ((b.get k).toNat : Int) = (((a.get k).toNat + (b.get k).toNat : Nat) : Int) := by unfold iadd; omega
    rw [this, iwrap_nat (by omega)]
    have : iadd (((a.get k).toNat + (b.get k).toNat : Nat) : Int) (l : Int) = (((a.get k).toNat + (b.get k).toNat + l : Nat) : Int) := by unfold iadd; omega
    rw [this, iwrap_nat (by omega)]
  have e4 : iwrap .i64 (isub (k : Int) 1) = (k : Int) - 1 := by unfold isub; rw [iwrap_i64 (by omega) (by omega)]
  have e5 : ∀ n : Nat, irem (n : Int) 256 = ((n % 256 : Nat) : Int) := fun n => irem_nat n 256
  have e6 : ∀ n : Nat, n < 1000 → iwrap .i64 (iquo (n : Int) 256) = ((n / 256 : Nat) : Int) := fun n hn => by
    rw [show iquo (n : Int) 256 = ((n / 256 : Nat) : Int) from iquo_nat n 256, iwrap_nat (by omega)]
  refine ⟨((a.get k).toNat + (b.get k).toNat + l) / 256, iu8 (iwrap .u8 ((((a.get k).toNat + (b.get k).toNat + l) % 256 : Nat) : Int)), by omega, ?_, ?_⟩
  · rw [iu8_wrap]; omega
  · simp only [rref01Addx4, inat_eq, bifT ile_nat, bifT hk32, bifT h256, e1, e2, e3, e4, e5, e6 ((a.get k).toNat + (b.get k).toNat + l) (by omega)]
    rfl
theorem add_loop (a b z : Id) (n : Nat) : n ≤ 32 → ∀ (l : Nat) (out : Id), l ≤ 1 → a.low (32 - n) + b.low (32 - n) = out.low (32 - n) + l * 256 ^ (32 - n) →
    whl rref01Addx4 (((), (), (), (), (l : Int), (n : Int) - 1, ()), a, b, z, out, ()) = some (.inl (((), (), ()), z, ofM (a.num + b.num), ())) := by
  induction n with
  | zero =>
    intro _ l out hl hi
    refine whl_inr ?_
    have hc : ile 0 (((0 : Nat) : Int) - 1) = false := ile_f.2 (by omega)
    have : out = ofM (a.num + b.num) := by
      rw [Id.num_def a, Id.num_def b, show (32 : Nat) = 32 - 0 from rfl, hi, show 32 - 0 = 32 from rfl, pwM, ofM_addmul, ← Id.num_def, ofM_self]
    rw [← this]
    simp only [rref01Addx4, bifF hc]
  | succ n ih =>
    intro hn l out hl hi
    obtain ⟨l', v, hl', hv, hr⟩ := add_round a b z out hl (k := n) (by omega)
    have e0 : ((n + 1 : Nat) : Int) - 1 = (n : Int) := by omega
    rw [e0, whl_inl hr]
    refine ih (by omega) l' _ hl' ?_
    have e1 : 32 - n = (32 - (n + 1)) + 1 := by omega
    rw [e1, Id.low, Id.low, Id.low, show 31 - (32 - (n + 1)) = n by omega, Id.get_set _ _ _ _ (by omega), if_pos rfl, Id.low_set _ _ _ (by omega) _ (by omega), Nat.pow_succ]
    generalize 256 ^ (32 - (n + 1)) = P at hi ⊢
    have h2 := congrArg (· * P) hv
    simp only [Nat.add_mul] at h2
    have h3 : l' * (P * 256) = 256 * l' * P := by rw [Nat.mul_comm P, ← Nat.mul_assoc, Nat.mul_comm l']
    omega
theorem ref01Add_eq (a b : Id) : oref01Add ((a, b, ()), ()) = some ((ofM (a.num + b.num), ()), ()) := by
  rw [oref01Add_eq, bref01Add, wref01Addx4_eq]
  have h := add_loop a b Id.zero 32 (by omega) 0 Id.zero (by omega) (by simp [Id.low])
  have e : (((32 : Nat) : Int) - 1) = 31 := rfl
  rw [e] at h
  rw [show ((0 : Int) = ((0 : Nat) : Int)) from rfl, h]
  rfl

/-- what an identifier lacks -/
noncomputable def notI (a : Id) : Id := ofLow (rM - 1 - a.num)
theorem notI_num (a : Id) : (notI a).num = rM - 1 - a.num := ofLow_num _ (by have := rM_pos; rw [← rM_eq]; omega)
theorem not_of {a out : Id} (h : ∀ i, i < 32 → (out.get i).toNat = 255 - (a.get i).toNat) : ∀ n, n ≤ 32 → out.low n + a.low n + 1 = 256 ^ n
  | 0, _ => by simp [Id.low]
  | n + 1, hn => by
    have ih := not_of h n (by omega)
    have h1 := h (31 - n) (by omega)
    have h2 := u8_lt (a.get (31 - n))
    simp only [Id.low, Nat.pow_succ]
    generalize 256 ^ n = P at *
    rw [h1]
    generalize (a.get (31 - n)).toNat = x at *
    have : (255 - x) * P + x * P = 255 * P := by rw [← Nat.add_mul]; congr 1; omega
    omega
theorem ref01Not_eq (a : Id) : oref01Not ((a, ()), ()) = some ((notI a, ()), ()) := by
  have key : ∀ (k i : Nat) (out : Id), i + k = 32 → (∀ j, j < i → (out.get j).toNat = 255 - (a.get j).toNat) → whl rref01Notx3 (((), (), (), (i : Int), ()), a, Id.zero, out, ()) = some (.inl (((), (), ()), Id.zero, notI a, ())) := by
    intro k
    induction k with
    | zero =>
      intro i out hi hj
      obtain rfl : i = 32 := by omega
      refine whl_inr ?_
      have hc : ilt ((32 : Nat) : Int) 32 = false := ilt_f.2 (by omega)
      have : out = notI a := by
        refine Id.num_inj ?_
        have h := not_of hj 32 (by omega)
        rw [← Id.num_def, ← Id.num_def, pwM] at h
        rw [notI_num]
        omega
      rw [← this]
      simp only [rref01Notx3, bifF hc]
    | succ k ih =>
      intro i out hi hj
      have hc : ilt (i : Int) 32 = true := ilt_t.2 (by omega)
      have hx := u8_lt (a.get i)
      have ev : isub (u8i (iu8 255)) (u8i (idget a i)) = ((255 - (a.get i).toNat : Nat) : Int) := by
        rw [u8i_eq, u8i_eq, idget_eq]
        have : (iu8 255).toNat = 255 := rfl
        rw [this]
        unfold isub
        omega
      have hr : rref01Notx3 (((), (), (), (i : Int), ()), a, Id.zero, out, ()) = some (.inl (((), (), (), ((i + 1 : Nat) : Int), ()), a, Id.zero, out.set i (iu8 (iwrap .u8 ((255 - (a.get i).toNat : Nat) : Int))), ())) := by
        simp only [rref01Notx3, bifT hc, bifT ile_nat, inat_eq, ev, inc_nat (show i < 4611686018427387904 by omega)]
        rfl
      rw [whl_inl hr]
      refine ih (i + 1) _ (by omega) fun j hj' => ?_
      rw [Id.get_set _ _ _ _ (by omega)]
      by_cases e : j = i
      · rw [if_pos e, iu8_wrap, e]
        omega
      · rw [if_neg e]
        exact hj j (by omega)
  rw [oref01Not_eq, bref01Not, wref01Notx3_eq]
  have h := key 32 0 Id.zero (by omega) (fun j hj => by omega)
  rw [show ((0 : Int) = ((0 : Nat) : Int)) from rfl, h]
  rfl
theorem ref01Far_eq (a b : Id) : oref01Far ((a, b, ()), ()) = some ((far a b, ()), ()) := by
  have hp := ref01Power_eq 0 (by omega)
  rw [show (((0 : Nat) : Int) = 0) from rfl] at hp
  rw [oref01Far_eq, bref01Far]
  simp only [ref01Not_eq, ref01Add_eq, hp, bS_some]
  have : ofM ((ofM (b.num + (notI a).num)).num + (ofM (2 ^ 0)).num) = far a b := by
    refine Id.num_inj ?_
    have h1 := a.num_ltM
    have h2 := b.num_ltM
    have h0 : 1 < rM := by rw [rM_eq]; exact Nat.one_lt_two_pow (by omega)
    rw [far_num, ofM_num, ofM_num, ofM_num, notI_num, Nat.pow_zero, Nat.mod_eq_of_lt h0]
    unfold way
    rw [Nat.add_mod, Nat.mod_mod, ← Nat.add_mod]
    by_cases h : a.num ≤ b.num
    · rw [if_pos h, show b.num + (rM - 1 - a.num) + 1 = (b.num - a.num) + rM by omega, Nat.add_mod_right, Nat.mod_eq_of_lt (by omega)]
    · rw [if_neg h, show b.num + (rM - 1 - a.num) + 1 = b.num + rM - a.num by omega, Nat.mod_eq_of_lt (by omega)]
  rw [this]

end Am
end Go.Proofs.Ytalleiogpibckaa
