/-
  The ways.
-/
import Derived.Test.YtokamjlhdidefaaPh
namespace Go.Proofs.Ytokamjlhdidefaa
namespace Am
open Go Go.RowKit
set_option linter.unusedSimpArgs false
set_option linter.unusedVariables false

theorem iquo_nat (x y : Nat) : iquo (x : Int) (y : Int) = ((x / y : Nat) : Int) := by unfold iquo; rw [Int.ofNat_tdiv]
theorem irem_nat (x y : Nat) : irem (x : Int) (y : Int) = ((x % y : Nat) : Int) := by unfold irem; rw [Int.ofNat_tmod]
theorem iwrap_nat {x : Nat} (h : x < 9223372036854775808) : iwrap .i64 (x : Int) = (x : Int) := iwrap_i64 (by omega) (by omega)

theorem bit_loop (i : Nat) (m : Nat) : ∀ (c k : Nat), c < 256 → k + m = 7 - i % 8 → whl rref01Bitx3 (((i : Int), (c : Int), (k : Int), ()), ()) = some (.inl ((((c / 2 ^ m : Nat) : Int), ()), ())) := by
  have h8 : (bif ieq 8 0 then false else true) = true := rfl
  have h2 : (bif ieq 2 0 then false else true) = true := rfl
  have e7 : iwrap .i64 (isub 7 (irem (i : Int) 8)) = ((7 - i % 8 : Nat) : Int) := by
    rw [show irem (i : Int) 8 = ((i % 8 : Nat) : Int) from irem_nat i 8]
    unfold isub
    rw [iwrap_i64 (by omega) (by omega)]
    omega
  induction m with
  | zero =>
    intro c k hc hk
    have hf : ilt (k : Int) ((7 - i % 8 : Nat) : Int) = false := ilt_f.2 (by omega)
    refine whl_inr ?_
    simp only [rref01Bitx3, bifT h8, e7, bifF hf, Nat.pow_zero, Nat.div_one]
  | succ m ih =>
    intro c k hc hk
    have ht : ilt (k : Int) ((7 - i % 8 : Nat) : Int) = true := ilt_t.2 (by omega)
    have hr : rref01Bitx3 (((i : Int), (c : Int), (k : Int), ()), ()) = some (.inl (((i : Int), ((c / 2 : Nat) : Int), ((k + 1 : Nat) : Int), ()), ())) := by
      have eq : iwrap .i64 (iquo (c : Int) 2) = ((c / 2 : Nat) : Int) := by
        rw [show iquo (c : Int) 2 = ((c / 2 : Nat) : Int) from iquo_nat c 2, iwrap_nat (by omega)]
      simp only [rref01Bitx3, bifT h8, e7, bifT ht, bifT h2, eq, inc_nat (show k < 4611686018427387904 by omega)]
    rw [whl_inl hr, ih (c / 2) (k + 1) (by omega) (by omega), Nat.div_div_eq_div_mul, Nat.pow_succ, Nat.mul_comm 2]

theorem ref01Bit_eq (a : Id) (i : Nat) (h : i < 256) : oref01Bit ((a, (i : Int), ()), ()) = some ((((a.bit i : Nat) : Int), ()), ()) := by
  have h8 : (bif ieq 8 0 then false else true) = true := rfl
  have h2 : (bif ieq 2 0 then false else true) = true := rfl
  have hx := u8_lt (a.get (i / 8))
  have eq : iwrap .i64 (iquo (i : Int) 8) = ((i / 8 : Nat) : Int) := by
    rw [show iquo (i : Int) 8 = ((i / 8 : Nat) : Int) from iquo_nat i 8, iwrap_nat (by omega)]
  have hin : (bif ile 0 ((i / 8 : Nat) : Int) then ilt ((i / 8 : Nat) : Int) 32 else false) = true := by rw [bifT ile_nat, ilt_t]; omega
  have ew : iwrap .i64 (u8i (a.get (i / 8))) = (((a.get (i / 8)).toNat : Nat) : Int) := by rw [u8i_eq, iwrap_nat (by omega)]
  rw [oref01Bit_eq, bref01Bit]
  simp only [bifT h8, eq, inat_eq, idget_eq, ew, wref01Bitx3_eq]
  have hb := bit_loop i (7 - i % 8) _ 0 hx (by omega)
  rw [show (((0 : Nat) : Int) = (0 : Int)) from rfl] at hb
  rw [bifT hin, hb, bL_inl, bifT h2, a.bit_eq i h]
  simp only []
  rw [show irem ((((a.get (i / 8)).toNat / 2 ^ (7 - i % 8) : Nat)) : Int) 2 = (((a.get (i / 8)).toNat / 2 ^ (7 - i % 8) % 2 : Nat) : Int) from irem_nat _ 2]

theorem refcmp_loop (a b : Id) (k : Nat) : ∀ i : Nat, i + k = 256 → (∀ j, j < i → a.bit j = b.bit j) →
    whl rref01Comparex2 (((), (), (i : Int), ()), a, b, ()) = if a = b then some (.inl ((), ())) else some (.inr (.inl ((cmpN a.num b.num, ()), ()))) := by
  induction k with
  | zero =>
    intro i hi hj
    obtain rfl : i = 256 := by omega
    rw [if_pos (Id.eq_of_bits hj)]
    refine whl_inr ?_
    have hc : ilt ((256 : Nat) : Int) 256 = false := ilt_f.2 (by omega)
    simp only [rref01Comparex2, bifF hc]
  | succ k ih =>
    intro i hi hj
    have hlt : i < 256 := by omega
    have h1 : ilt (i : Int) 256 = true := ilt_t.2 (by omega)
    have hr : rref01Comparex2 (((), (), (i : Int), ()), a, b, ()) = bif ilt ((a.bit i : Nat) : Int) ((b.bit i : Nat) : Int) then some (.inr (.inr (.inl ((-1, ()), ())))) else bif ilt ((b.bit i : Nat) : Int) ((a.bit i : Nat) : Int) then some (.inr (.inr (.inl ((1, ()), ())))) else some (.inl (((), (), ((i + 1 : Nat) : Int), ()), a, b, ())) := by
      simp only [rref01Comparex2, bifT h1, ref01Bit_eq _ i hlt, bS_some, inc_nat (show i < 4611686018427387904 by omega)]
    rcases Nat.lt_trichotomy (a.bit i) (b.bit i) with h | h | h
    · have hl := Id.lt_of_bit hlt hj h
      have hc : ilt ((a.bit i : Nat) : Int) ((b.bit i : Nat) : Int) = true := ilt_t.2 (by omega)
      rw [bifT hc] at hr
      rw [whl_inr hr, if_neg (fun e => by rw [e] at hl; omega)]
      unfold cmpN
      rw [if_pos hl]
    · have hc : ilt ((a.bit i : Nat) : Int) ((b.bit i : Nat) : Int) = false := ilt_f.2 (by omega)
      have hc2 : ilt ((b.bit i : Nat) : Int) ((a.bit i : Nat) : Int) = false := ilt_f.2 (by omega)
      rw [bifF hc, bifF hc2] at hr
      rw [whl_inl hr]
      refine ih (i + 1) (by omega) fun j hj' => ?_
      by_cases e : j = i
      · subst e; exact h
      · exact hj j (by omega)
    · have hl := Id.lt_of_bit hlt (fun j hj' => (hj j hj').symm) h
      have hc : ilt ((a.bit i : Nat) : Int) ((b.bit i : Nat) : Int) = false := ilt_f.2 (by omega)
      have hc2 : ilt ((b.bit i : Nat) : Int) ((a.bit i : Nat) : Int) = true := ilt_t.2 (by omega)
      rw [bifF hc, bifT hc2] at hr
      rw [whl_inr hr, if_neg (fun e => by rw [e] at hl; omega)]
      unfold cmpN
      rw [if_neg (by omega), if_pos hl]

theorem ref01Compare_eq (a b : Id) : oref01Compare ((a, b, ()), ()) = some ((cmpN a.num b.num, ()), ()) := by
  rw [oref01Compare_eq, bref01Compare, wref01Comparex2_eq]
  have h := refcmp_loop a b 256 0 (by omega) (fun j hj => by omega)
  rw [show ((0 : Int) = ((0 : Nat) : Int)) from rfl, h]
  by_cases e : a = b
  · rw [if_pos e]
    subst e
    have : cmpN a.num a.num = 0 := cmpN_eq.2 rfl
    rw [this]
    rfl
  · rw [if_neg e]
    rfl

theorem ref01In_eq (x a b : Id) : oref01In ((x, a, b, ()), ()) = some ((within x a b, ()), ()) := by
  rw [oref01In_eq, bref01In]
  simp only [ref01Compare_eq, bS_some]
  unfold within
  by_cases e : a = b
  · rw [bifT (ideq_t.2 e)]; simp [e]
  · rw [bifF (ideq_f.2 e)]
    have hne : a.num ≠ b.num := fun h => e (Id.num_inj h)
    have h1 := a.num_ltM
    have h2 := b.num_ltM
    have h3 := x.num_ltM
    have c1 : ilt (cmpN a.num b.num) 0 = decide (a.num < b.num) := by rw [Bool.eq_iff_iff, ilt_t, decide_eq_true_iff, cmpN_lt]
    have c2 : ilt (cmpN a.num x.num) 0 = decide (a.num < x.num) := by rw [Bool.eq_iff_iff, ilt_t, decide_eq_true_iff, cmpN_lt]
    have c3 : ile (cmpN x.num b.num) 0 = decide (x.num ≤ b.num) := by rw [Bool.eq_iff_iff, ile_t, decide_eq_true_iff, cmpN_le]
    rw [c1, c2, c3]
    generalize a.num = A at *
    generalize b.num = B at *
    generalize x.num = Y at *
    have key : (decide (A < B) && (decide (A < Y) && decide (Y ≤ B)) || !decide (A < B) && (decide (A < Y) || decide (Y ≤ B))) = (decide (way A Y ≠ 0) && decide (way A Y ≤ way A B)) := by
      rw [Bool.eq_iff_iff]
      simp only [Bool.or_eq_true, Bool.and_eq_true, decide_eq_true_iff, Bool.not_eq_true', decide_eq_false_iff_not]
      unfold way
      split <;> split <;> omega
    simp only [e, decide_false, Bool.false_or]
    rw [← key]
    by_cases hAB : A < B <;> by_cases hAY : A < Y <;> simp [hAB, hAY]

noncomputable def between (x self id : Id) : Bool := !decide (x = self) && (!decide (x = id) && within x self id)
theorem ref08Between_eq (x self id : Id) : oref08Between ((x, self, id, ()), ()) = some ((between x self id, ()), ()) := by
  rw [oref08Between_eq, bref08Between]
  simp only [ref01In_eq, bS_some, ideq_dec]
  unfold between
  cases decide (x = self) <;> cases decide (x = id) <;> rfl

end Am
end Go.Proofs.Ytokamjlhdidefaa
