/-
  The laws of identifiers: bits in common.
-/
import Derived.Test.YtgdgiihaakcmpaaPj
import Derived.Test.YtgdgiihaakcmpaaLs
namespace Go.Proofs.Ytgdgiihaakcmpaa
namespace Am
open Go Go.RowKit
set_option linter.unusedVariables false

/-- so many bits in common, and no more -/
def IsCom (a b : Id) (n : Nat) : Prop := n ≤ 256 ∧ (∀ j, j < n → a.bit j = b.bit j) ∧ (n < 256 → a.bit n ≠ b.bit n)
theorem IsCom.uniq {a b : Id} {n m : Nat} (h : IsCom a b n) (h' : IsCom a b m) : n = m := by
  rcases Nat.lt_trichotomy n m with hl | hl | hl
  · exact absurd (h'.2.1 n hl) (h.2.2 (by have := h'.1; omega))
  · exact hl
  · exact absurd (h.2.1 m hl) (h'.2.2 (by have := h.1; omega))
theorem IsCom.symm {a b : Id} {n : Nat} (h : IsCom a b n) : IsCom b a n := ⟨h.1, fun j hj => (h.2.1 j hj).symm, fun hn e => h.2.2 hn e.symm⟩
theorem IsCom.self_iff {a b : Id} {n : Nat} (h : IsCom a b n) : n = 256 ↔ a = b := by
  constructor
  · intro e; subst e; exact Id.eq_of_bits h.2.1
  · intro e; subst e
    have := h.1
    rcases Nat.lt_or_ge n 256 with hl | hl
    · exact absurd rfl (h.2.2 hl)
    · omega

theorem iwrap_u8 (n : Nat) : iwrap .u8 (n : Int) = ((n % 256 : Nat) : Int) := by
  have e : iwrap .u8 (n : Int) = IntKind.wrap .u8 (n : Int) := rfl
  rw [e]
  unfold IntKind.wrap
  simp only [IntKind.bits, IntKind.signed]
  have h2 : ((n : Int) % 2 ^ 8) = ((n % 256 : Nat) : Int) := by simp
  simp
theorem iu8_wrap (n : Nat) : (iu8 (iwrap .u8 (n : Int))).toNat = n % 256 := by
  have h := iu8_nat (n := n % 256) (Nat.mod_lt _ (by omega))
  rw [iwrap_u8, show n % 256 % 256 = n % 256 by omega] at h
  rw [iwrap_u8, h]
theorem bits_above : ∀ n : Fin 256, ∀ k : Fin 8, Lib.bitLen n.val ≤ k.val → n.val / 2 ^ k.val % 2 = 0 := by decide +kernel
theorem bits_top : ∀ n : Fin 256, 0 < Lib.bitLen n.val → n.val / 2 ^ (Lib.bitLen n.val - 1) % 2 = 1 := by decide +kernel
theorem testBit_div (x i : Nat) : x.testBit i = decide (x / 2 ^ i % 2 = 1) := Nat.testBit_eq_decide_div_mod_eq
theorem xor_bit (x y i : Nat) : (x ^^^ y) / 2 ^ i % 2 = 0 ↔ x / 2 ^ i % 2 = y / 2 ^ i % 2 := by
  have h : (x ^^^ y).testBit i = (x.testBit i ^^ y.testBit i) := Nat.testBit_xor ..
  rw [testBit_div, testBit_div, testBit_div] at h
  have a1 : (x ^^^ y) / 2 ^ i % 2 < 2 := Nat.mod_lt _ (by omega)
  have a2 : x / 2 ^ i % 2 < 2 := Nat.mod_lt _ (by omega)
  have a3 : y / 2 ^ i % 2 < 2 := Nat.mod_lt _ (by omega)
  generalize (x ^^^ y) / 2 ^ i % 2 = p at *
  generalize x / 2 ^ i % 2 = q at *
  generalize y / 2 ^ i % 2 = r at *
  have hp : p = 0 ∨ p = 1 := by omega
  have hq : q = 0 ∨ q = 1 := by omega
  have hr : r = 0 ∨ r = 1 := by omega
  rcases hp with rfl | rfl <;> rcases hq with rfl | rfl <;> rcases hr with rfl | rfl <;> simp at h ⊢
theorem xor_lt (x y : UInt8) : x.toNat ^^^ y.toNat < 256 := Nat.xor_lt_two_pow (n := 8) (u8_lt x) (u8_lt y)
theorem xor_u8 (x y : UInt8) : (iu8 (bitsI BinOp.xor IntKind.u8 (u8i x) (u8i y))).toNat = x.toNat ^^^ y.toNat := by
  have e : bitsI BinOp.xor IntKind.u8 (u8i x) (u8i y) = iwrap .u8 (((BitVec.ofInt 8 (u8i x) ^^^ BitVec.ofInt 8 (u8i y)).toNat : Nat) : Int) := rfl
  rw [e, iu8_wrap, BitVec.toNat_xor, BitVec.toNat_ofInt, BitVec.toNat_ofInt, u8i_eq, u8i_eq]
  have h1 := u8_lt x
  have h2 := u8_lt y
  have h3 := xor_lt x y
  have e1 : ((x.toNat : Int) % ((2 ^ 8 : Nat) : Int)).toNat = x.toNat := by omega
  have e2 : ((y.toNat : Int) % ((2 ^ 8 : Nat) : Int)).toNat = y.toNat := by omega
  rw [e1, e2]
  omega

theorem lz_byte (x y : UInt8) : Lib.bitLen (x.toNat ^^^ y.toNat) ≤ 8 ∧ (∀ j, j < 8 - Lib.bitLen (x.toNat ^^^ y.toNat) → x.toNat / 2 ^ (7 - j) % 2 = y.toNat / 2 ^ (7 - j) % 2) ∧
    (0 < Lib.bitLen (x.toNat ^^^ y.toNat) → x.toNat / 2 ^ (Lib.bitLen (x.toNat ^^^ y.toNat) - 1) % 2 ≠ y.toNat / 2 ^ (Lib.bitLen (x.toNat ^^^ y.toNat) - 1) % 2) := by
  have hz := xor_lt x y
  have h1 : Lib.bitLen (x.toNat ^^^ y.toNat) ≤ 8 := Lib.bitLen_le8 ⟨_, hz⟩
  refine ⟨h1, fun j hj => ?_, fun h0 => ?_⟩
  · exact (xor_bit _ _ _).1 (bits_above ⟨_, hz⟩ ⟨7 - j, by omega⟩ (by simp only; omega))
  · have := bits_top ⟨_, hz⟩ h0
    simp only at this
    intro e
    have := (xor_bit _ _ _).2 e
    omega

theorem common_loop (a b : Id) (k : Nat) : ∀ i : Nat, i + k = 32 → (∀ j, j < 8 * i → a.bit j = b.bit j) →
    ∃ n, IsCom a b n ∧ whl ridentCommonx3 (((), (), ((8 * i : Nat) : Int), (i : Int), ()), a, b, ()) = some (.inl ((((n : Nat) : Int), ()), ())) := by
  induction k with
  | zero =>
    intro i hi hj
    obtain rfl : i = 32 := by omega
    refine ⟨256, ⟨Nat.le_refl _, hj, fun h => by omega⟩, ?_⟩
    refine whl_inr ?_
    have hc : ilt ((32 : Nat) : Int) 32 = false := ilt_f.2 (by omega)
    simp only [ridentCommonx3, bifF hc]
  | succ k ih =>
    intro i hi hj
    have hlt : i < 32 := by omega
    have h1 : ilt (i : Int) 32 = true := ilt_t.2 (by omega)
    obtain ⟨l1, l2, l3⟩ := lz_byte (a.get i) (b.get i)
    have ex := xor_u8 (a.get i) (b.get i)
    generalize hL : Lib.bitLen ((a.get i).toNat ^^^ (b.get i).toNat) = L at *
    have hlz : omath_bitsLeadingZeros8 ((iu8 (bitsI BinOp.xor IntKind.u8 (u8i (a.get i)) (u8i (b.get i))), ()), ()) = some ((((8 - L : Nat) : Int), ()), ()) := by
      unfold omath_bitsLeadingZeros8
      simp only [ex, hL]
      have e : (8 - (L : Int)) = ((8 - L : Nat) : Int) := by omega
      rw [e]
    have hb : ∀ j, j < 8 → a.bit (8 * i + j) = (a.get i).toNat / 2 ^ (7 - j) % 2 := fun j hj => by
      rw [a.bit_eq _ (by omega), show (8 * i + j) / 8 = i by omega, show (8 * i + j) % 8 = j by omega]
    have hb2 : ∀ j, j < 8 → b.bit (8 * i + j) = (b.get i).toNat / 2 ^ (7 - j) % 2 := fun j hj => by
      rw [b.bit_eq _ (by omega), show (8 * i + j) / 8 = i by omega, show (8 * i + j) % 8 = j by omega]
    have hadd : iwrap .i64 (iadd ((8 * i : Nat) : Int) ((8 - L : Nat) : Int)) = ((8 * i + (8 - L) : Nat) : Int) := by
      unfold iadd
      rw [iwrap_i64 (by omega) (by omega)]
      omega
    have hsame : ∀ j, j < 8 * i + (8 - L) → a.bit j = b.bit j := fun j hj' => by
      by_cases hjj : j < 8 * i
      · exact hj j hjj
      · obtain ⟨d, rfl⟩ : ∃ d, j = 8 * i + d := ⟨j - 8 * i, by omega⟩
        rw [hb d (by omega), hb2 d (by omega)]
        exact l2 d (by omega)
    by_cases h0 : L = 0
    · have hr : ridentCommonx3 (((), (), ((8 * i : Nat) : Int), (i : Int), ()), a, b, ()) = some (.inl (((), (), ((8 * (i + 1) : Nat) : Int), ((i + 1 : Nat) : Int), ()), a, b, ())) := by
        have hc : ilt ((8 - L : Nat) : Int) 8 = false := ilt_f.2 (by omega)
        simp only [ridentCommonx3, bifT h1, bifT ile_nat, inat_eq, idget_eq, hlz, bS_some, bifF hc, hadd, inc_nat (show i < 4611686018427387904 by omega)]
        subst h0
        rfl
      obtain ⟨n, hn, hw⟩ := ih (i + 1) (by omega) (fun j hj' => hsame j (by omega))
      exact ⟨n, hn, by rw [whl_inl hr, hw]⟩
    · refine ⟨8 * i + (8 - L), ⟨by omega, hsame, fun _ => ?_⟩, ?_⟩
      · rw [hb (8 - L) (by omega), hb2 (8 - L) (by omega)]
        have := l3 (by omega)
        rwa [show 7 - (8 - L) = L - 1 by omega]
      · refine whl_inr ?_
        have hc : ilt ((8 - L : Nat) : Int) 8 = true := ilt_t.2 (by omega)
        simp only [ridentCommonx3, bifT h1, bifT ile_nat, inat_eq, idget_eq, hlz, bS_some, bifT hc, hadd]
theorem identCommon_eq (a b : Id) : ∃ n, IsCom a b n ∧ oidentCommon ((a, b, ()), ()) = some ((((n : Nat) : Int), ()), ()) := by
  obtain ⟨n, hn, h⟩ := common_loop a b 32 0 (by omega) (fun j hj => by omega)
  refine ⟨n, hn, ?_⟩
  rw [oidentCommon_eq, bidentCommon]
  simp only [widentCommonx3_eq]
  rw [show (((8 * 0 : Nat) : Int)) = 0 from rfl] at h
  rw [h]
  rfl

theorem refcommon_loop (a b : Id) (k : Nat) : ∀ i : Nat, i + k = 256 → (∀ j, j < i → a.bit j = b.bit j) →
    ∃ n, IsCom a b n ∧ whl rref01Commonx2 (((), (), (i : Int), ()), a, b, ()) = some (.inl ((((n : Nat) : Int), ()), ())) := by
  induction k with
  | zero =>
    intro i hi hj
    obtain rfl : i = 256 := by omega
    refine ⟨256, ⟨Nat.le_refl _, hj, fun h => by omega⟩, ?_⟩
    refine whl_inr ?_
    have hc : ilt ((256 : Nat) : Int) 256 = false := ilt_f.2 (by omega)
    simp only [rref01Commonx2, bifF hc]
  | succ k ih =>
    intro i hi hj
    have h1 : ilt (i : Int) 256 = true := ilt_t.2 (by omega)
    by_cases e : a.bit i = b.bit i
    · have hr : rref01Commonx2 (((), (), (i : Int), ()), a, b, ()) = some (.inl (((), (), ((i + 1 : Nat) : Int), ()), a, b, ())) := by
        have hc : ieq ((a.bit i : Nat) : Int) ((b.bit i : Nat) : Int) = true := ieq_t.2 (by rw [e])
        simp only [rref01Commonx2, bifT h1, ref01Bit_eq _ i (by omega : i < 256), bS_some, bifT hc, inc_nat (show i < 4611686018427387904 by omega)]
      obtain ⟨n, hn, hw⟩ := ih (i + 1) (by omega) (fun j hj' => by
        by_cases ej : j = i
        · subst ej; exact e
        · exact hj j (by omega))
      exact ⟨n, hn, by rw [whl_inl hr, hw]⟩
    · refine ⟨i, ⟨by omega, hj, fun _ => e⟩, ?_⟩
      refine whl_inr ?_
      have hc : ieq ((a.bit i : Nat) : Int) ((b.bit i : Nat) : Int) = false := ieq_f.2 (by omega)
      simp only [rref01Commonx2, bifT h1, ref01Bit_eq _ i (by omega : i < 256), bS_some, bifF hc]
theorem ref01Common_eq (a b : Id) : ∃ n, IsCom a b n ∧ oref01Common ((a, b, ()), ()) = some ((((n : Nat) : Int), ()), ()) := by
  obtain ⟨n, hn, h⟩ := refcommon_loop a b 256 0 (by omega) (fun j hj => by omega)
  refine ⟨n, hn, ?_⟩
  rw [oref01Common_eq, bref01Common]
  simp only [wref01Commonx2_eq]
  rw [show (((0 : Nat) : Int)) = 0 from rfl] at h
  rw [h]
  rfl

end Am
end Go.Proofs.Ytgdgiihaakcmpaa
