/-
  The laws of identifiers: ways, rounds, three, steps.
-/
import Derived.Test.YtalleiogpibckaaAd
namespace Go.Proofs.Ytalleiogpibckaa
namespace Am
open Go Go.RowKit
set_option linter.unusedVariables false

theorem way_step (x d : Nat) (hx : x < rM) (hd : d < rM) : way x ((x + d) % rM) = d := by
  unfold way
  rcases Nat.lt_or_ge (x + d) rM with h | h
  · rw [Nat.mod_eq_of_lt h]
    split <;> omega
  · rw [Nat.mod_eq_sub_mod h, Nat.mod_eq_of_lt (by omega)]
    split <;> omega
theorem pow_ltM {k : Nat} (h : k < 256) : 2 ^ k < rM := by
  rw [rM_eq]
  exact Nat.pow_lt_pow_right (by omega) h
theorem low_one (v : UInt8) : ∀ n, n < 32 → (Id.zero.set 31 v).low (n + 1) = v.toNat
  | 0, _ => by simp only [Id.low]; rw [Id.get_set _ _ _ _ (by omega)]; simp
  | n + 1, h => by
    rw [Id.low, low_one v n (by omega), Id.get_set _ _ _ _ (by omega), if_neg (by omega), Id.get_zero]
    simp
theorem num_one (n : Nat) (h : n < 256) : (idset Id.zero 31 (iu8 (n : Int))).num = n := by
  rw [idset_eq, Id.num_def, low_one _ 31 (by omega)]
  unfold iu8
  simp only [UInt8.ofInt]
  have h2 : ((n : Int) % 2 ^ 8) = (n : Int) := Int.emod_eq_of_lt (by omega) (by simpa using (by omega : (n : Int) < 256))
  rw [h2]
  simp
  omega

theorem identText_eq (a : Id) : oidentText ((a, ()), ()) = some ((textL a, ()), ()) := rfl
theorem alive1 : olaw01Alive ((), ()) = some ((true, ()), ()) := by
  rw [olaw01Alive_eq, blaw01Alive]
  have n8 := num_one 8 (by omega)
  have n7 := num_one 7 (by omega)
  have n9 := num_one 9 (by omega)
  rw [show (((8 : Nat) : Int)) = 8 from rfl] at n8
  rw [show (((7 : Nat) : Int)) = 7 from rfl] at n7
  rw [show (((9 : Nat) : Int)) = 9 from rfl] at n9
  have h := identStep_eq Id.zero 3 (by omega)
  rw [show (((3 : Nat) : Int)) = 3 from rfl] at h
  have hs : stp Id.zero 3 = idset Id.zero 31 (iu8 8) := by
    refine Id.num_inj ?_
    unfold stp
    have := pow_ltM (k := 3) (by omega)
    rw [ofM_num, n8, Id.num_zero, Nat.zero_add, Nat.mod_eq_of_lt this]
  rw [hs] at h
  simp only [h, bS_some]
  have e1 : idget (idset Id.zero 31 (iu8 8)) (inat 31) = iu8 8 := by
    rw [show inat 31 = 31 from rfl, idget_eq, idset_eq, Id.get_set _ _ _ _ (by omega), if_pos rfl]
  have e2 : u8eq (iu8 8) (iu8 8) = true := u8eq_t.2 rfl
  have e3 : ieq 0 0 = true := rfl
  have e4 : (bif ile 0 31 then ilt 31 32 else false) = true := rfl
  rw [bifT e3, bifT e4, e1, bifT e2]
  generalize idset Id.zero 31 (iu8 8) = i8 at *
  generalize idset Id.zero 31 (iu8 7) = i7 at *
  generalize idset Id.zero 31 (iu8 9) = i9 at *
  have hw : within i8 i7 i9 = true := by
    unfold within
    have w1 : way 7 8 = 1 := rfl
    have w2 : way 7 9 = 2 := rfl
    rw [n8, n7, n9, w1, w2]
    simp
  simp only [identIn_eq, bS_some, hw, cond_true, identText_eq, dlen_eq, textL_len]
  rfl

theorem ieq_self (a : Int) : ieq a a = true := ieq_t.2 rfl
theorem ideq_self (a : Id) : ideq a a = true := ideq_t.2 rfl

theorem ways (a b : Id) (k : Int) : olaw01IdentWays ((a, b, k, ()), ()) = some ((true, ()), ()) := by
  rw [olaw01IdentWays_eq, blaw01IdentWays]
  by_cases hk : k < 0 ∨ 256 ≤ k
  · simp only [identStep_bad a k hk, bS_some, identCompare_eq, ref01Compare_eq, identFar_eq, ref01Far_eq, alive1, ieq_self, ideq_self, cond_true, cond_false]
    rcases hk with h | h
    · rw [ilt_t.2 h]; rfl
    · rw [ilt_f.2 (show (0 : Int) ≤ k by omega), ilt_t.2 (show (255 : Int) < k by omega)]; rfl
  · obtain ⟨n, rfl⟩ : ∃ n : Nat, k = n := ⟨k.toNat, by omega⟩
    have hn : n < 256 := by omega
    simp only [identStep_eq a n hn, bS_some, identCompare_eq, ref01Compare_eq, identFar_eq, ref01Far_eq, alive1, ieq_self, ideq_self, cond_true, cond_false]
    rw [ilt_f.2 (show (0 : Int) ≤ n by omega), ilt_f.2 (show (n : Int) ≤ 255 by omega)]
    simp only [ref01Power_eq n hn, bS_some, cond_true, cond_false, ref01Add_eq]
    have : stp a n = ofM (a.num + (ofM (2 ^ n)).num) := by
      unfold stp
      rw [ofM_num, Nat.mod_eq_of_lt (pow_ltM hn)]
    rw [this, ideq_self]

/-- ways add up -/
theorem way_add {x y z : Nat} (hx : x < rM) (hy : y < rM) (hz : z < rM) : (way x y + way y z) % rM = way x z := by
  have key : way x y + way y z = way x z ∨ way x y + way y z = way x z + rM := by
    unfold way
    split <;> split <;> split <;> omega
  have := way_lt hx hz
  rcases key with h | h
  · rw [h, Nat.mod_eq_of_lt this]
  · rw [h, Nat.add_mod_right, Nat.mod_eq_of_lt this]
theorem way_self (x : Nat) : way x x = 0 := by unfold way; rw [if_pos (Nat.le_refl _)]; omega
theorem way_zero {x y : Nat} (hx : x < rM) (hy : y < rM) : way x y = 0 ↔ x = y := by unfold way; split <;> omega
theorem add_way {x y : Nat} (hx : x < rM) (hy : y < rM) : (x + way x y) % rM = y := by
  have key : x + way x y = y ∨ x + way x y = y + rM := by unfold way; split <;> omega
  rcases key with h | h
  · rw [h, Nat.mod_eq_of_lt hy]
  · rw [h, Nat.add_mod_right, Nat.mod_eq_of_lt hy]

theorem far_add (a b c : Id) : ofM ((far a b).num + (far b c).num) = far a c := by
  refine Id.num_inj ?_
  rw [ofM_num, far_num, far_num, far_num, way_add a.num_ltM b.num_ltM c.num_ltM]
theorem far_self (a : Id) : far a a = Id.zero := by
  refine Id.num_inj ?_
  rw [far_num, way_self, Id.num_zero]
theorem far_zero (a b : Id) : far a b = Id.zero ↔ a = b := by
  rw [← Id.num_eq, far_num, Id.num_zero, way_zero a.num_ltM b.num_ltM, Id.num_eq]

theorem rounds (a b c : Id) : olaw01IdentRounds ((a, b, c, ()), ()) = some ((true, ()), ()) := by
  rw [olaw01IdentRounds_eq, blaw01IdentRounds]
  simp only [identFar_eq, bS_some, ref01Add_eq, alive1, far_add, far_self, ideq_self, cond_true, cond_false]
  have h1 : ofM (a.num + (far a b).num) = b := by
    refine Id.num_inj ?_
    rw [ofM_num, far_num, add_way a.num_ltM b.num_ltM]
  rw [h1, ideq_self, cond_true]
  have h2 : ideq (far a b) Id.zero = ideq a b := by
    rw [Bool.eq_iff_iff, ideq_t, ideq_t, far_zero]
  rw [h2]
  simp [beq]

theorem within_eq {x a b : Id} (h : a ≠ b) : within x a b = (decide (way a.num x.num ≠ 0) && decide (way a.num x.num ≤ way a.num b.num)) := by
  unfold within
  simp [h]
theorem beq_t {a b : Bool} : beq a b = true ↔ a = b := by simp [beq]
theorem three (x a b : Id) : olaw01IdentThree ((x, a, b, ()), ()) = some ((true, ()), ()) := by
  rw [olaw01IdentThree_eq, blaw01IdentThree]
  simp only [alive1, identIn_eq, bS_some, cond_true, cond_false]
  by_cases hab : a = b
  · subst hab
    have : within x a a = true := by simp [within]
    rw [ideq_self, cond_true, this]
  · rw [ideq_f.2 hab, cond_false]
    have hN : a.num ≠ b.num := fun h => hab (Id.num_inj h)
    have hx := x.num_ltM
    have ha := a.num_ltM
    have hb := b.num_ltM
    have h1 : within x b a = !within x a b := by
      rw [within_eq hab, within_eq (Ne.symm hab), Bool.eq_iff_iff]
      simp only [Bool.and_eq_true, decide_eq_true_iff, Bool.not_eq_true', Bool.and_eq_false_iff, decide_eq_false_iff_not]
      unfold way
      split <;> split <;> split <;> split <;> omega
    have h2 : beq (within x a b) (within x b a) = false := by
      rw [h1]
      cases within x a b <;> rfl
    rw [h2, cond_false]
    by_cases hxa : x = a
    · subst hxa
      have hw : within x x b = false := by
        rw [within_eq hab, way_self]; rfl
      rw [ideq_self, ideq_f.2 hab, hw]
      rfl
    · rw [ideq_f.2 hxa]
      have hA : x.num ≠ a.num := fun h => hxa (Id.num_inj h)
      by_cases hxb : x = b
      · subst hxb
        have hw : within x a x = true := by
          rw [within_eq hab]
          have : way a.num x.num ≠ 0 := fun h => hN ((way_zero ha hx).1 h)
          simp [this]
        rw [ideq_self, hw]
        rfl
      · rw [ideq_f.2 hxb]
        have hB : x.num ≠ b.num := fun h => hxb (Id.num_inj h)
        have e1 : within x a b = within b x a := by
          rw [within_eq hab, within_eq hxa, Bool.eq_iff_iff]
          simp only [Bool.and_eq_true, decide_eq_true_iff]
          unfold way
          split <;> split <;> split <;> split <;> omega
        have e2 : within x a b = within a b x := by
          rw [within_eq hab, within_eq (Ne.symm hxb), Bool.eq_iff_iff]
          simp only [Bool.and_eq_true, decide_eq_true_iff]
          unfold way
          split <;> split <;> split <;> split <;> omega
        rw [beq_t.2 e1, beq_t.2 e2]
        rfl

/-- brought into bounds -/
theorem irem_bound (k : Int) : ∃ n : Nat, n < 255 ∧ irem (iwrap .i64 (iadd (irem k 255) 255)) 255 = (n : Int) := by
  unfold iadd irem
  have h1 : (k.tmod 255) < 255 := Int.tmod_lt_of_pos _ (by decide)
  have h2 : -255 < (k.tmod 255) := Int.lt_tmod_of_pos _ (by decide)
  rw [iwrap_i64 (by omega) (by omega)]
  refine ⟨((k.tmod 255 + 255).tmod 255).toNat, ?_, ?_⟩
  · have := Int.tmod_lt_of_pos (k.tmod 255 + 255) (show (0 : Int) < 255 by decide)
    omega
  · have := Int.tmod_nonneg (a := k.tmod 255 + 255) 255 (by omega)
    omega

theorem stp_twice (a : Id) (k : Nat) : stp (stp a k) k = stp a (k + 1) := by
  refine Id.num_inj ?_
  unfold stp
  rw [ofM_num, ofM_num, ofM_num, Nat.mod_add_mod, Nat.pow_succ]
  congr 1
  omega
theorem stp_comm (a : Id) (j k : Nat) : stp (stp a k) j = stp (stp a j) k := by
  refine Id.num_inj ?_
  unfold stp
  rw [ofM_num, ofM_num, ofM_num, ofM_num, Nat.mod_add_mod, Nat.mod_add_mod]
  congr 1
  omega
theorem far_stp (a : Id) {k : Nat} (h : k < 256) : far a (stp a k) = ofM (2 ^ k) := by
  refine Id.num_inj ?_
  unfold stp
  rw [far_num, ofM_num, ofM_num, way_step _ _ a.num_ltM (pow_ltM h), Nat.mod_eq_of_lt (pow_ltM h)]

theorem steps (a : Id) (j k : Int) : olaw01IdentSteps ((a, j, k, ()), ()) = some ((true, ()), ()) := by
  rw [olaw01IdentSteps_eq, blaw01IdentSteps]
  obtain ⟨n, hn, ek⟩ := irem_bound k
  obtain ⟨m, hm, ej⟩ := irem_bound j
  have e0 : (bif ieq 255 0 then false else true) = true := rfl
  rw [ek, ej]
  have e1 : iwrap .i64 (iadd (n : Int) 1) = ((n + 1 : Nat) : Int) := inc_nat (by omega)
  simp only [e0, cond_true, e1, identStep_eq _ n (show n < 256 by omega), identStep_eq _ m (show m < 256 by omega), identStep_eq _ (n + 1) (show n + 1 < 256 by omega), bS_some, ieq_self, cond_false, alive1,
    stp_twice, stp_comm a m n, ideq_self, identFar_eq, far_stp a (show n < 256 by omega), ref01Power_eq n (show n < 256 by omega)]

end Am
end Go.Proofs.Ytalleiogpibckaa
