/-
  Fingers' goals.
-/
import Derived.Test.YtkpojikfadeeeaaRg
import Derived.Test.YtkpojikfadeeeaaPl
import Derived.Test.YtkpojikfadeeeaaBr
namespace Go.Proofs.Ytkpojikfadeeeaa
namespace Am
open Go Go.RowKit
set_option linter.unusedVariables false

theorem way_step {x d : Nat} (hx : x < rM) (hd : d < rM) : way x ((x + d) % rM) = d := by
  unfold way
  rcases Nat.lt_or_ge (x + d) rM with h | h
  · rw [Nat.mod_eq_of_lt h]
    split <;> omega
  · rw [Nat.mod_eq_sub_mod h, Nat.mod_eq_of_lt (by omega)]
    split <;> omega
theorem pow_ltM {k : Nat} (h : k < 256) : 2 ^ k < rM := by
  rw [rM_eq]
  exact Nat.pow_lt_pow_right (by omega) h
theorem far_stp (a : Id) {k : Nat} (h : k < 256) : far a (stp a k) = stp Id.zero k := by
  refine Id.num_inj ?_
  unfold stp
  rw [far_num, ofM_num, ofM_num, way_step a.num_ltM (pow_ltM h), Id.num_zero, Nat.zero_add, Nat.mod_eq_of_lt (pow_ltM h)]

theorem fingerGoal_eq (m : Mem') (k : Nat) (h : k < 16) : ofingerGoal ((m, (k : Int), ()), ()) = some ((stp m.2.1 (240 + k), 0, ()), ()) := by
  have h1 : ilt (k : Int) 0 = false := ilt_f.2 (by omega)
  have h2 : ile 16 (k : Int) = false := ile_f.2 (by omega)
  have h3 : iwrap .i64 (iadd 240 (k : Int)) = ((240 + k : Nat) : Int) := by
    unfold iadd
    rw [iwrap_i64 (by omega) (by omega)]
    omega
  obtain ⟨mn, mi, ⟨⟩⟩ := m
  rw [ofingerGoal_eq, bfingerGoal]
  simp only [h1, h2, h3, identStep_eq mi (240 + k) (by omega), bS_some]
  rfl
theorem fingerIdeal1_eq (m : Mem') (no : Int) : ofingerIdeal_1 ((m, no, ()), ()) = some ((decide (m.1 = no), ()), ()) := by
  rw [ofingerIdeal_1_eq, bfingerIdeal_1]
  rfl
theorem idxN_eq (l : List Mem') (no : Int) (hl : l.length ≤ 4611686018427387903) : oslicesIndexFuncb ((l, ((), no, ()), ()), ()) = some ((match l.findIdx? (fun m => decide (m.1 = no)) with | some i => (i : Int) | none => -1, ()), ()) := by
  rw [oslicesIndexFuncb_eq, bslicesIndexFuncb]
  simp only [wslicesIndexFuncbx2_eq]
  have h := whl_goI (g := rslicesIndexFuncbx2) (fun i (_ : Unit) => ((l, ((), no, ()), dlen l, (i : Int), ()), ())) (fun i (_ : Unit) => if decide ((l.getD i noM).1 = no) = true then .inr (.inr (.inl (((i : Int), ()), ()))) else .inl ()) (fun _ => .inl ((), ())) l.length
    (fun s => by simp only [rslicesIndexFuncbx2, bifF (ilt_len' (xs := l) (Nat.le_refl _))])
    (fun i s hi => by
      have e : dget ((Ty.int IntKind.i64).pair (Ty.id.pair Ty.unit)) l (i : Int) = l.getD i noM := dget_eq memT l i
      simp only [rslicesIndexFuncbx2, bifT (ilt_len hi), bifT ile_nat, e, fingerIdeal1_eq, bS_some, inc_nat (show i < 4611686018427387904 by omega)]
      generalize l.getD i noM = y
      by_cases hh : y.1 = no <;> simp [hh]) l.length 0 () (by omega)
  have h := h.trans (congrArg some (goI_find (d := noM) (xs := l) (fun m => decide (m.1 = no)) (fun i => Sum.inr (Sum.inl (((i : Int), ()), ()))) (Sum.inl ((), ())) l.length 0 (by omega)))
  rw [show ((0 : Int) = ((0 : Nat) : Int)) from rfl, h]
  rw [List.drop_zero]
  cases l.findIdx? (fun m => decide (m.1 = no)) with
  | none => rfl
  | some j => simp only [Nat.zero_add]; rfl

noncomputable def idealM (l : List Mem') (id : Id) (k : Nat) : Mem' := ownerM l (stp id (240 + k))
theorem fingerIdeal_at (l : List Mem') (no : Int) (at' : Nat) (hl : l.length ≤ 4611686018427387903) (hr : rightB l = true) (ha : at' < l.length) (hidx : l.findIdx? (fun m => decide (m.1 = no)) = some at') :
    ofingerIdeal ((l, no, ()), ()) = some (((List.range 16).map (idealM l (l.getD at' noM).2.1), 0, ()), ()) := by
  rw [ofingerIdeal_eq, bfingerIdeal]
  have h0 : ilt ((at' : Nat) : Int) 0 = false := ilt_f.2 (by omega)
  simp only [ringRight_eq l hl, bS_some, hr, idxN_eq l _ hl, hidx, h0, wfingerIdealx8_eq]
  have h := whl_up (g := rfingerIdealx8) (fun k => ((l, (at' : Int), (List.range k).map (idealM l (l.getD at' noM).2.1), (k : Int), ()), (), ())) (.inl (((List.range 16).map (idealM l (l.getD at' noM).2.1), ()), ())) 16
    (by
      have : ilt ((16 : Nat) : Int) 16 = false := ilt_f.2 (by omega)
      simp only [rfingerIdealx8, bifF this])
    (fun k hk => by
      have h1 : ilt (k : Int) 16 = true := ilt_t.2 (by omega)
      have e : dget ((Ty.int IntKind.i64).pair (Ty.id.pair Ty.unit)) l (at' : Int) = l.getD at' noM := dget_eq memT l at'
      have hf : fits (dlen ((List.range k).map (idealM l (l.getD at' noM).2.1))) (dlen [idealM l (l.getD at' noM).2.1 k]) 40 = true := by
        rw [fits_t, dlen_eq, dlen_eq]
        simp
        omega
      have ho : oringOwner ((l, stp (l.getD at' noM).2.1 (240 + k), ()), ()) = some ((idealM l (l.getD at' noM).2.1 k, 0, ()), ()) := ringOwner_eq l _ hl hr (by omega)
      simp only [rfingerIdealx8, bifT h1, bifT ile_nat, bifT (ilt_len ha), e, fingerGoal_eq _ k hk, bS_some, ho, hf, inc_nat (show k < 4611686018427387904 by omega), dapp, List.range_succ, List.map_append, List.map_cons, List.map_nil]
      rfl) 16 0 (by omega)
  rw [show ((0 : Int) = ((0 : Nat) : Int)) from rfl]
  simp only [List.range_zero, List.map_nil] at h
  rw [h]
  rfl

theorem fingerIdeal_eq (l : List Mem') (at' : Nat) (hl : l.length ≤ 4611686018427387903) (hr : rightB l = true) (ha : at' < l.length) :
    ofingerIdeal ((l, (l.getD at' noM).1, ()), ()) = some (((List.range 16).map (idealM l (l.getD at' noM).2.1), 0, ()), ()) := by
  have hP := rightB_P hr
  have hidx : l.findIdx? (fun m => decide (m.1 = (l.getD at' noM).1)) = some at' := by
    rw [List.findIdx?_eq_some_iff_getElem]
    refine ⟨ha, ?_, fun j hj => ?_⟩
    · simp [ha]
    · simp only [Bool.not_eq_true, decide_eq_false_iff_not]
      intro e
      have hj' : j < l.length := by omega
      have := hP.one j at' hj' ha (.inl (by simpa [hj'] using e))
      omega
  exact fingerIdeal_at l _ at' hl hr ha hidx

theorem goals_loop (l : List Mem') (id : Id) (all : List Mem') (k : Nat) (hl : l.length ≤ 4611686018427387903) (hr : rightB l = true) (h0 : 0 < l.length) (hk : k < all.length) (hall : all.getD k noM = ownerM l id) :
    whl rlaw08FingerGoalsx11 ((l, (k : Int), (), all, l, dlen l, 0, ()), id, ()) = some (.inl ((l, (k : Int), (), all, ()), id, ())) := by
  have hP := rightB_P hr
  obtain ⟨⟨jo, hjo, eo⟩, hmin⟩ := owner_inv (l := l) (id := id) h0
  refine whl_up (g := rlaw08FingerGoalsx11) (fun i => ((l, (k : Int), (), all, l, dlen l, (i : Int), ()), id, ())) _ l.length
    (by simp only [rlaw08FingerGoalsx11, bifF (ilt_len' (xs := l) (Nat.le_refl _))])
    (fun i hi => ?_) l.length 0 (by omega)
  have e : dget ((Ty.int IntKind.i64).pair (Ty.id.pair Ty.unit)) l (i : Int) = l.getD i noM := dget_eq memT l i
  have e2 : dget ((Ty.int IntKind.i64).pair (Ty.id.pair Ty.unit)) all (k : Int) = ownerM l id := (dget_eq memT all k).trans hall
  have hne : ((l.getD i noM).1 = (ownerM l id).1 ∧ (l.getD i noM).2.1 = (ownerM l id).2.1) ∨ (l.getD i noM).2.1 = id ∨ within (l.getD i noM).2.1 id (ownerM l id).2.1 = false ∨ id = (ownerM l id).2.1 := by
    by_cases hid : id = (ownerM l id).2.1
    · exact .inr (.inr (.inr hid))
    · cases hw : within (l.getD i noM).2.1 id (ownerM l id).2.1 with
      | false => exact .inr (.inr (.inl rfl))
      | true =>
        left
        unfold within at hw
        simp only [hid, decide_false, Bool.false_or, Bool.and_eq_true, decide_eq_true_iff] at hw
        have hm := hmin i hi
        have heq := way_inj id.num_ltM (l.getD i noM).2.1.num_ltM (ownerM l id).2.1.num_ltM (by omega)
        have hii := Id.num_inj heq
        have : i = jo := hP.one i jo hi hjo (.inr (by rw [← eo]; exact hii))
        subst this
        rw [eo]
        exact ⟨rfl, rfl⟩
  have hin : ∀ a b : Mem', oidentIn ((a.2.1, id, b.snd), ()) = some ((within a.2.1 id b.2.1, ()), ()) := fun a b => by
    obtain ⟨bn, bi, ⟨⟩⟩ := b
    exact identIn_eq _ _ _
  simp only [rlaw08FingerGoalsx11, bifT (ilt_len hi), bifT ile_nat, bifT (ilt_len hk), e, e2, hin, bS_some, inc_nat (show i < 4611686018427387904 by omega), ieq_dec, ideq_dec]
  generalize ownerM l id = o at *
  generalize l.getD i noM = m at *
  rcases hne with ⟨h1, h2⟩ | h1 | h1 | h1
  · simp [h1, h2]
  · simp [h1]
  · simp [h1]
  · simp [h1]

theorem goals (l : List Mem') (x1 x2 : Int) : olaw08FingerGoals ((l, x1, x2, ()), ()) = some ((true, ()), ()) := by
  have hl : (l.take 18).length ≤ 4611686018427387903 := by rw [List.length_take]; omega
  rw [olaw08FingerGoals_eq, blaw08FingerGoals, few_eq, bS_some]
  generalize l.take 18 = k at *
  simp only [ringRight_eq k hl, bS_some, alive8]
  cases hr : rightB k with
  | false => simp
  | true =>
    by_cases h0 : 0 < k.length
    · have hd : ieq (dlen k) 0 = false := ieq_f.2 (by rw [dlen_eq]; omega)
      obtain ⟨a, ha, ea⟩ := brought x1 k.length h0 (by omega)
      obtain ⟨j, hj, ej⟩ := brought x2 16 (by omega) (by omega)
      have ej' : irem (iwrap .i64 (iadd (irem x2 16) 16)) 16 = (j : Int) := ej
      have e16 : ieq 16 0 = false := rfl
      have eg : dget ((Ty.int IntKind.i64).pair (Ty.id.pair Ty.unit)) k (a : Int) = k.getD a noM := dget_eq memT k a
      have e240 : iwrap .i64 (iadd 240 (j : Int)) = ((240 + j : Nat) : Int) := by
        unfold iadd
        rw [iwrap_i64 (by omega) (by omega)]
        omega
      have el : dlen ((List.range 16).map (idealM k (k.getD a noM).2.1)) = 16 := by rw [dlen_eq]; simp
      have eall : ((List.range 16).map (idealM k (k.getD a noM).2.1)).getD j noM = ownerM k (stp (k.getD a noM).2.1 (240 + j)) := by
        simp [hj, idealM]
      have eg2 : dget ((Ty.int IntKind.i64).pair (Ty.id.pair Ty.unit)) ((List.range 16).map (idealM k (k.getD a noM).2.1)) (j : Int) = ownerM k (stp (k.getD a noM).2.1 (240 + j)) := (dget_eq memT _ j).trans eall
      have hloop := goals_loop k (stp (k.getD a noM).2.1 (240 + j)) ((List.range 16).map (idealM k (k.getD a noM).2.1)) j hl hr h0 (by simpa using hj) eall
      have hlt : ilt (a : Int) (dlen k) = true := ilt_len ha
      have hlt2 : ilt (j : Int) 16 = true := ilt_t.2 (by omega)
      have i00 : ieq 0 0 = true := rfl
      have i16 : ieq 16 16 = true := rfl
      rw [← dlen_eq] at ea
      simp only [hd, ea, ej', e16, ile_nat, hlt, eg, fingerGoal_eq _ j hj, e240, identStep_eq Id.zero (240 + j) (by omega), fingerIdeal_eq k a hl hr ha, bS_some, i00, el, i16, identFar_eq, far_stp (k.getD a noM).2.1 (show 240 + j < 256 by omega),
        wlaw08FingerGoalsx11_eq, hloop, bL_inl, ringOwner_eq k _ hl hr h0, eg2, hlt2, cond_true, cond_false, ieq_dec, ideq_dec, decide_true]
    · have hd : ieq (dlen k) 0 = true := ieq_t.2 (by rw [dlen_eq]; omega)
      simp [hd]

end Am
end Go.Proofs.Ytkpojikfadeeeaa
