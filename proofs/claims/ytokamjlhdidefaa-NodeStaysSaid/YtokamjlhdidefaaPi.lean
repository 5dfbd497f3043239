/-
  What the printed functions on identifiers come to.
-/
import Derived.Test.YtokamjlhdidefaaPx
import Derived.Test.YtokamjlhdidefaaWd
import Derived.Test.YtokamjlhdidefaaNu
namespace Go.Proofs.Ytokamjlhdidefaa
namespace Am
open Go Go.RowKit
set_option linter.unusedSimpArgs false
set_option linter.unusedVariables false

theorem u8i_eq (x : UInt8) : u8i x = (x.toNat : Int) := rfl
theorem iu8_nat {n : Nat} (h : n < 256) : (iu8 (iwrap .u8 (n : Int))).toNat = n := by
  have e : iwrap .u8 (n : Int) = IntKind.wrap .u8 (n : Int) := rfl
  rw [e]
  unfold IntKind.wrap iu8
  simp only [IntKind.bits, IntKind.signed, UInt8.ofInt]
  have h2 : ((n : Int) % 2 ^ 8) = (n : Int) := Int.emod_eq_of_lt (by omega) (by simpa using (by omega : (n : Int) < 256))
  simp
  omega
theorem idget_eq (a : Id) (i : Nat) : idget a i = a.get i := rfl
theorem idset_eq (a : Id) (i : Nat) (v : UInt8) : idset a i v = a.set i v := rfl

theorem far_round (a b z out : Id) {l k : Nat} (hl : l ≤ 1) (hk : k < 32) : ∃ l' v, l' ≤ 1 ∧ v.toNat + (a.get k).toNat + l = (b.get k).toNat + 256 * l' ∧
    ridentFarx4 (((), (), (), (), (l : Int), (k : Int), ()), a, b, z, out, ()) = some (.inl (((), (), (), (), (l' : Int), (k : Int) - 1, ()), a, b, z, out.set k v, ())) := by
  have hx := u8_lt (a.get k)
  have hy := u8_lt (b.get k)
  have h0 : (bif ile 0 (k : Int) then ilt (k : Int) 32 else false) = true := by rw [bifT ile_nat, ilt_t]; omega
  have hw : ∀ x : Int, -1000 ≤ x → x ≤ 1000 → iwrap .i64 x = x := fun x h1 h2 => iwrap_i64 (by omega) (by omega)
  have e1 : iwrap .i64 (u8i (idget b k)) = ((b.get k).toNat : Int) := by rw [u8i_eq, idget_eq, hw _ (by omega) (by omega)]
  have e2 : iwrap .i64 (u8i (idget a k)) = ((a.get k).toNat : Int) := by rw [u8i_eq, idget_eq, hw _ (by omega) (by omega)]
  have e3 : iwrap .i64 (isub (iwrap .i64 (isub (iwrap .i64 (u8i (idget b k))) (iwrap .i64 (u8i (idget a k))))) (l : Int)) = ((b.get k).toNat : Int) - (a.get k).toNat - l := by
    have e5 : iwrap .i64 (isub ((b.get k).toNat : Int) ((a.get k).toNat : Int)) = ((b.get k).toNat : Int) - (a.get k).toNat := by unfold isub; exact hw _ (by omega) (by omega)
    rw [e1, e2, e5]
    unfold isub
    exact hw _ (by omega) (by omega)
  have e4 : iwrap .i64 (isub (k : Int) 1) = (k : Int) - 1 := by rw [hw _ (by unfold isub; omega) (by unfold isub; omega)]; rfl
  have hk32 : ilt (k : Int) 32 = true := ilt_t.2 (by omega)
  simp only [ridentFarx4, inat_eq, bifT ile_nat, bifT hk32, e3, e4]
  by_cases hn : ((b.get k).toNat : Int) - (a.get k).toNat - l < 0
  · refine ⟨1, iu8 (iwrap .u8 (((b.get k).toNat + 256 - (a.get k).toNat - l : Nat) : Int)), by omega, ?_, ?_⟩
    · rw [iu8_nat (by omega)]; omega
    · rw [bifT (ilt_t.2 hn)]
      have e5 : iwrap .i64 (iadd (((b.get k).toNat : Int) - (a.get k).toNat - l) 256) = (((b.get k).toNat + 256 - (a.get k).toNat - l : Nat) : Int) := by
        rw [hw _ (by unfold iadd; omega) (by unfold iadd; omega)]; unfold iadd; omega
      rw [e5]; rfl
  · refine ⟨0, iu8 (iwrap .u8 (((b.get k).toNat - (a.get k).toNat - l : Nat) : Int)), by omega, ?_, ?_⟩
    · rw [iu8_nat (by omega)]; omega
    · have hc : ilt (((b.get k).toNat : Int) - (a.get k).toNat - l) 0 = false := ilt_f.2 (by omega)
      rw [bifF hc]
      have e5 : ((b.get k).toNat : Int) - (a.get k).toNat - l = (((b.get k).toNat - (a.get k).toNat - l : Nat) : Int) := by omega
      rw [e5]; rfl

theorem far_end {a b out : Id} {l : Nat} (hl : l ≤ 1) (hi : b.num + l * 256 ^ 32 = a.num + out.num) : out = far a b := by
  refine Id.num_inj ?_
  rw [far_num]
  have h1 := a.num_ltM
  have h2 := b.num_ltM
  have h3 := out.num_ltM
  rw [pwM] at hi
  unfold way
  rcases Nat.le_one_iff_eq_zero_or_eq_one.1 hl with rfl | rfl <;> split <;> omega
theorem far_step {a b out : Id} {n l l' : Nat} {v : UInt8} (hn : n < 32) (hi : b.low (31 - n) + l * 256 ^ (31 - n) = a.low (31 - n) + out.low (31 - n)) (hv : v.toNat + (a.get n).toNat + l = (b.get n).toNat + 256 * l') :
    b.low (32 - n) + l' * 256 ^ (32 - n) = a.low (32 - n) + (out.set n v).low (32 - n) := by
  have e1 : 32 - n = (31 - n) + 1 := by omega
  rw [e1, Id.low, Id.low, Id.low, show 31 - (31 - n) = n by omega, Id.get_set _ _ _ _ (by omega), if_pos rfl, Id.low_set _ _ _ (by omega) _ (by omega), Nat.pow_succ]
  generalize 256 ^ (31 - n) = P at hi ⊢
  have h2 := congrArg (· * P) hv
  simp only [Nat.add_mul] at h2
  have h3 : l' * (P * 256) = 256 * l' * P := by rw [Nat.mul_comm P, ← Nat.mul_assoc, Nat.mul_comm l']
  omega
theorem far_loop (a b z : Id) (n : Nat) : n ≤ 32 → ∀ (l : Nat) (out : Id), l ≤ 1 → b.low (32 - n) + l * 256 ^ (32 - n) = a.low (32 - n) + out.low (32 - n) →
    whl ridentFarx4 (((), (), (), (), (l : Int), (n : Int) - 1, ()), a, b, z, out, ()) = some (.inl (((), (), ()), z, far a b, ())) := by
  induction n with
  | zero =>
    intro _ l out hl hi
    refine whl_inr ?_
    have hc : ile 0 (((0 : Nat) : Int) - 1) = false := ile_f.2 (by omega)
    rw [far_end (out := out) hl (by simpa [Id.num_def] using hi)]
    simp only [ridentFarx4, bifF hc]
  | succ n ih =>
    intro hn l out hl hi
    obtain ⟨l', v, hl', hv, hr⟩ := far_round a b z out hl (k := n) (by omega)
    have e0 : ((n + 1 : Nat) : Int) - 1 = (n : Int) := by omega
    rw [e0, whl_inl hr]
    exact ih (by omega) l' _ hl' (far_step (by omega) (by rw [show 31 - n = 32 - (n + 1) by omega]; exact hi) hv)

theorem identFar_eq (a b : Id) : oidentFar ((a, b, ()), ()) = some ((far a b, ()), ()) := by
  rw [oidentFar_eq, bidentFar, widentFarx4_eq]
  have h := far_loop a b Id.zero 32 (by omega) 0 Id.zero (by omega) (by simp [Id.low])
  have e : (((32 : Nat) : Int) - 1) = 31 := rfl
  rw [e] at h
  rw [show ((0 : Int) = ((0 : Nat) : Int)) from rfl, h]
  rfl

/-- how two numbers stand -/
def cmpN (x y : Nat) : Int := if x < y then -1 else if y < x then 1 else 0
theorem cmpN_lt {x y : Nat} : cmpN x y < 0 ↔ x < y := by unfold cmpN; split <;> (try split) <;> omega
theorem cmpN_le {x y : Nat} : cmpN x y ≤ 0 ↔ x ≤ y := by unfold cmpN; split <;> (try split) <;> omega
theorem cmpN_gt {x y : Nat} : 0 < cmpN x y ↔ y < x := by unfold cmpN; split <;> (try split) <;> omega
theorem cmpN_ge {x y : Nat} : 0 ≤ cmpN x y ↔ y ≤ x := by unfold cmpN; split <;> (try split) <;> omega
theorem cmpN_eq {x y : Nat} : cmpN x y = 0 ↔ x = y := by unfold cmpN; split <;> (try split) <;> omega

theorem cmpIsNaN_eq (x : UInt8) : ocmpIsNaN ((x, ()), ()) = some ((false, ()), ()) := by
  rw [ocmpIsNaN_eq, bcmpIsNaN]
  simp [u8eq]
theorem cmpCompare_eq (x y : UInt8) : ocmpCompare ((x, y, ()), ()) = some ((cmpN x.toNat y.toNat, ()), ()) := by
  rw [ocmpCompare_eq, bcmpCompare]
  simp only [cmpIsNaN_eq, bS_some, cond_false, u8i_eq]
  unfold cmpN
  by_cases h : x.toNat < y.toNat
  · rw [bifT (ilt_t.2 (by omega)), if_pos h]
  · rw [bifF (ilt_f.2 (by omega)), if_neg h]
    by_cases h' : y.toNat < x.toNat
    · rw [bifT (ilt_t.2 (by omega)), if_pos h']
    · rw [bifF (ilt_f.2 (by omega)), if_neg h']

theorem Id.cmp_of {a b : Id} {i : Nat} (hi : i < 32) (hj : ∀ j, j < i → a.get j = b.get j) (hne : a.get i ≠ b.get i) : cmpN (a.get i).toNat (b.get i).toNat = cmpN a.num b.num := by
  have h0 := Id.hi_eq_of i hj
  rcases Nat.lt_trichotomy (a.get i).toNat (b.get i).toNat with h | h | h
  · have h1 : a.num < b.num := Id.lt_of_hi (n := i + 1) (by omega) (by simp only [Id.hi]; omega)
    unfold cmpN
    rw [if_pos h, if_pos h1]
  · exact absurd (UInt8.toNat_inj.1 h) hne
  · have h1 : b.num < a.num := Id.lt_of_hi (n := i + 1) (by omega) (by simp only [Id.hi]; omega)
    unfold cmpN
    rw [if_neg (by omega), if_pos h, if_neg (by omega), if_pos h1]

theorem cmp_loop (a b : Id) (k : Nat) : ∀ i : Nat, i + k = 32 → (∀ j, j < i → a.get j = b.get j) →
    whl rslicesComparex2 ((a.l, b.l, a.l, 32, (i : Int), ()), ()) = if a = b then some (.inr (.inl ((a.l, b.l, ()), ()))) else some (.inl ((cmpN a.num b.num, ()), ())) := by
  induction k with
  | zero =>
    intro i hi hj
    obtain rfl : i = 32 := by omega
    rw [if_pos (Id.ext_get hj)]
    refine whl_inr ?_
    have hc : ilt ((32 : Nat) : Int) 32 = false := ilt_f.2 (by omega)
    simp only [rslicesComparex2, bifF hc]
  | succ k ih =>
    intro i hi hj
    have hlt : i < 32 := by omega
    have h1 : ilt (i : Int) 32 = true := ilt_t.2 (by omega)
    have h2 : ilt (i : Int) (dlen a.l) = true := ilt_len (by rw [a.h]; omega)
    have h3 : ilt (i : Int) (dlen b.l) = true := ilt_len (by rw [b.h]; omega)
    have h4 : ile (dlen b.l) (i : Int) = false := by rw [ile_f, dlen_eq, b.h]; omega
    have ea : dget .u8 a.l (i : Int) = a.get i := dget_eq .u8 a.l i
    have eb : dget .u8 b.l (i : Int) = b.get i := dget_eq .u8 b.l i
    have hr : rslicesComparex2 ((a.l, b.l, a.l, 32, (i : Int), ()), ()) = bif ieq (cmpN (a.get i).toNat (b.get i).toNat) 0 then some (.inl ((a.l, b.l, a.l, 32, ((i + 1 : Nat) : Int), ()), ())) else some (.inr (.inl ((cmpN (a.get i).toNat (b.get i).toNat, ()), ()))) := by
      simp only [rslicesComparex2, bifT h1, bifT ile_nat, bifT h2, bifF h4, bifT h3, ea, eb, cmpCompare_eq, bS_some, inc_nat (show i < 4611686018427387904 by omega)]
      cases ieq (cmpN (a.get i).toNat (b.get i).toNat) 0 <;> rfl
    by_cases he : a.get i = b.get i
    · have : ieq (cmpN (a.get i).toNat (b.get i).toNat) 0 = true := ieq_t.2 (cmpN_eq.2 (by rw [he]))
      rw [bifT this] at hr
      rw [whl_inl hr]
      refine ih (i + 1) (by omega) fun j hj' => ?_
      by_cases e : j = i
      · subst e; exact he
      · exact hj j (by omega)
    · have : ieq (cmpN (a.get i).toNat (b.get i).toNat) 0 = false := ieq_f.2 (fun h => he (UInt8.toNat_inj.1 (cmpN_eq.1 h)))
      rw [bifF this] at hr
      rw [whl_inr hr, if_neg (fun h => he (by rw [h])), Id.cmp_of hlt hj he]

theorem identCompare_eq (a b : Id) : oidentCompare ((a, b, ()), ()) = some ((cmpN a.num b.num, ()), ()) := by
  rw [oidentCompare_eq, bidentCompare, oslicesCompare_eq, bslicesCompare, wslicesComparex2_eq]
  have h := cmp_loop a b 32 0 (by omega) (fun j hj => by omega)
  have ed : dlen a.l = 32 := by rw [dlen_eq, a.h]; rfl
  have ed2 : dlen b.l = 32 := by rw [dlen_eq, b.h]; rfl
  rw [ed, show ((0 : Int) = ((0 : Nat) : Int)) from rfl, h]
  by_cases e : a = b
  · rw [if_pos e]
    subst e
    have : cmpN a.num a.num = 0 := cmpN_eq.2 rfl
    simp only [bL_inr, bL_inl, ed, this]
    rfl
  · rw [if_neg e]
    rfl

end Am
end Go.Proofs.Ytokamjlhdidefaa
