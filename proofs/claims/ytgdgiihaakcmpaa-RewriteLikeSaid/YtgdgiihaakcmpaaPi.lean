/-
  What the printed functions on identifiers come to.
-/
import Derived.Test.YtgdgiihaakcmpaaPx
import Derived.Test.YtgdgiihaakcmpaaWd
import Derived.Test.YtgdgiihaakcmpaaNu
namespace Go.Proofs.Ytgdgiihaakcmpaa
namespace Am
open Go Go.RowKit
set_option linter.unusedVariables false

theorem u8i_eq (x : UInt8) : u8i x = (x.toNat : Int) := rfl
theorem iu8_nat {n : Nat} (h : n < 256) : (iu8 (iwrap .u8 (n : Int))).toNat = n := by
  have e : iwrap .u8 (n : Int) = IntKind.wrap .u8 (n : Int) := rfl
  rw [e]
  unfold IntKind.wrap iu8
  simp only [IntKind.bits, IntKind.signed, UInt8.ofInt]
  have h2 : ((n : Int) % 2 ^ 8) = (n : Int) := Int.emod_eq_of_lt (by omega) (by simpa using (by omega : (n : Int) < 256))
  simp
  omega
theorem idget_eq (a : Id) (i : Nat) : idget a i = a.get i := rfl
theorem idset_eq (a : Id) (i : Nat) (v : UInt8) : idset a i v = a.set i v := rfl

/-- how two numbers stand -/
def cmpN (x y : Nat) : Int := if x < y then -1 else if y < x then 1 else 0
theorem cmpN_lt {x y : Nat} : cmpN x y < 0 ↔ x < y := by unfold cmpN; split <;> (try split) <;> omega
theorem cmpN_le {x y : Nat} : cmpN x y ≤ 0 ↔ x ≤ y := by unfold cmpN; split <;> (try split) <;> omega
theorem cmpN_gt {x y : Nat} : 0 < cmpN x y ↔ y < x := by unfold cmpN; split <;> (try split) <;> omega
theorem cmpN_ge {x y : Nat} : 0 ≤ cmpN x y ↔ y ≤ x := by unfold cmpN; split <;> (try split) <;> omega
theorem cmpN_eq {x y : Nat} : cmpN x y = 0 ↔ x = y := by unfold cmpN; split <;> (try split) <;> omega

theorem cmpIsNaN_eq (x : UInt8) : ocmpIsNaN ((x, ()), ()) = some ((false, ()), ()) := by
  rw [ocmpIsNaN_eq, bcmpIsNaN]
  simp [u8eq]
theorem cmpCompare_eq (x y : UInt8) : ocmpCompare ((x, y, ()), ()) = some ((cmpN x.toNat y.toNat, ()), ()) := by
  rw [ocmpCompare_eq, bcmpCompare]
  simp only [cmpIsNaN_eq, bS_some, cond_false, u8i_eq]
  unfold cmpN
  by_cases h : x.toNat < y.toNat
  · rw [bifT (ilt_t.2 (by omega)), if_pos h]
  · rw [bifF (ilt_f.2 (by omega)), if_neg h]
    by_cases h' : y.toNat < x.toNat
    · rw [bifT (ilt_t.2 (by omega)), if_pos h']
    · rw [bifF (ilt_f.2 (by omega)), if_neg h']

theorem Id.cmp_of {a b : Id} {i : Nat} (hi : i < 32) (hj : ∀ j, j < i → a.get j = b.get j) (hne : a.get i ≠ b.get i) : cmpN (a.get i).toNat (b.get i).toNat = cmpN a.num b.num := by
  have h0 := Id.hi_eq_of i hj
  rcases Nat.lt_trichotomy (a.get i).toNat (b.get i).toNat with h | h | h
  · have h1 : a.num < b.num := Id.lt_of_hi (n := i + 1) (by omega) (by simp only [Id.hi]; omega)
    unfold cmpN
    rw [if_pos h, if_pos h1]
  · exact absurd (UInt8.toNat_inj.1 h) hne
  · have h1 : b.num < a.num := Id.lt_of_hi (n := i + 1) (by omega) (by simp only [Id.hi]; omega)
    unfold cmpN
    rw [if_neg (by omega), if_pos h, if_neg (by omega), if_pos h1]

theorem cmp_loop (a b : Id) (k : Nat) : ∀ i : Nat, i + k = 32 → (∀ j, j < i → a.get j = b.get j) →
    whl rslicesComparex2 ((a.l, b.l, a.l, 32, (i : Int), ()), ()) = if a = b then some (.inr (.inl ((a.l, b.l, ()), ()))) else some (.inl ((cmpN a.num b.num, ()), ())) := by
  induction k with
  | zero =>
    intro i hi hj
    obtain rfl : i = 32 := by omega
    rw [if_pos (Id.ext_get hj)]
    refine whl_inr ?_
    have hc : ilt ((32 : Nat) : Int) 32 = false := ilt_f.2 (by omega)
    simp only [rslicesComparex2, bifF hc]
  | succ k ih =>
    intro i hi hj
    have hlt : i < 32 := by omega
    have h1 : ilt (i : Int) 32 = true := ilt_t.2 (by omega)
    have h2 : ilt (i : Int) (dlen a.l) = true := ilt_len (by rw [a.h]; omega)
    have h3 : ilt (i : Int) (dlen b.l) = true := ilt_len (by rw [b.h]; omega)
    have h4 : ile (dlen b.l) (i : Int) = false := by rw [ile_f, dlen_eq, b.h]; omega
    have ea : dget .u8 a.l (i : Int) = a.get i := dget_eq .u8 a.l i
    have eb : dget .u8 b.l (i : Int) = b.get i := dget_eq .u8 b.l i
    have hr : rslicesComparex2 ((a.l, b.l, a.l, 32, (i : Int), ()), ()) = bif ieq (cmpN (a.get i).toNat (b.get i).toNat) 0 then some (.inl ((a.l, b.l, a.l, 32, ((i + 1 : Nat) : Int), ()), ())) else some (.inr (.inl ((cmpN (a.get i).toNat (b.get i).toNat, ()), ()))) := by
      simp only [rslicesComparex2, bifT h1, bifT ile_nat, bifT h2, bifF h4, bifT h3, ea, eb, cmpCompare_eq, bS_some, inc_nat (show i < 4611686018427387904 by omega)]
      cases ieq (cmpN (a.get i).toNat (b.get i).toNat) 0 <;> rfl
    by_cases he : a.get i = b.get i
    · have : ieq (cmpN (a.get i).toNat (b.get i).toNat) 0 = true := ieq_t.2 (cmpN_eq.2 (by rw [he]))
      rw [bifT this] at hr
      rw [whl_inl hr]
      refine ih (i + 1) (by omega) fun j hj' => ?_
      by_cases e : j = i
      · subst e; exact he
      · exact hj j (by omega)
    · have : ieq (cmpN (a.get i).toNat (b.get i).toNat) 0 = false := ieq_f.2 (fun h => he (UInt8.toNat_inj.1 (cmpN_eq.1 h)))
      rw [bifF this] at hr
      rw [whl_inr hr, if_neg (fun h => he (by rw [h])), Id.cmp_of hlt hj he]

theorem identCompare_eq (a b : Id) : oidentCompare ((a, b, ()), ()) = some ((cmpN a.num b.num, ()), ()) := by
  rw [oidentCompare_eq, bidentCompare, oslicesCompare_eq, bslicesCompare, wslicesComparex2_eq]
  have h := cmp_loop a b 32 0 (by omega) (fun j hj => by omega)
  have ed : dlen a.l = 32 := by rw [dlen_eq, a.h]; rfl
  have ed2 : dlen b.l = 32 := by rw [dlen_eq, b.h]; rfl
  rw [ed, show ((0 : Int) = ((0 : Nat) : Int)) from rfl, h]
  by_cases e : a = b
  · rw [if_pos e]
    subst e
    have : cmpN a.num a.num = 0 := cmpN_eq.2 rfl
    simp only [bL_inr, bL_inl, ed, this]
    rfl
  · rw [if_neg e]
    rfl

end Am
end Go.Proofs.Ytgdgiihaakcmpaa
