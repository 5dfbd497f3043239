/-
  Nodes: what is dropped, what is pointed to.
-/
import Derived.Test.YtokamjlhdidefaaNa
namespace Go.Proofs.Ytokamjlhdidefaa
namespace Am
open Go Go.RowKit
set_option linter.unusedVariables false
set_option linter.unusedSimpArgs false
set_option maxRecDepth 10000

theorem ieq_s (a : Int) : ieq a a = true := ieq_t.2 rfl
theorem dapp1 {α : Type} (xs ys : List α) : dapp xs ys = xs ++ ys := rfl
theorem fits1n {α : Type} {xs : List α} {b : Nat} (h : xs.length ≤ 1000) (hb : b ≤ 1000) : fits (dlen xs) (1 : Int) b = true := by
  rw [fits_t, dlen_eq]
  refine ⟨?_, by omega⟩
  have h1 : ((xs.length : Int) + 1) * b ≤ 1001 * 1000 := Int.mul_le_mul (by omega) (by omega) (by omega) (by omega)
  omega
theorem isB_some (b : Bool) : isB (some b) = true := rfl
theorem getB_some (b : Bool) : getB (some b) = b := rfl
/- is a number among them? -/
def hasI (l : List Int) (x : Int) : Bool := l.any fun y => decide (x = y)
theorem contains_eq (l : List Int) (x : Int) (hl : l.length ≤ 1000) : oslicesContains ((l, x, ()), ()) = some ((hasI l x, ()), ()) := by
  rw [oslicesContains_eq, bslicesContains]
  simp only [oslicesIndex_eq, bslicesIndex, wslicesIndexx2_eq]
  have hg : ∀ i : Nat, dget (Ty.int IntKind.i64) l (i : Int) = l.getD i 0 := fun i => dget_eq (Ty.int IntKind.i64) l i
  have h := whl_goI (g := rslicesIndexx2) (fun i (_ : Unit) => ((l, x, dlen l, (i : Int), ()), ())) (fun i (_ : Unit) => if (fun y => decide (x = y)) (l.getD i 0) = true then .inr (.inl (((i : Int), ()), ())) else .inl ()) (fun _ => .inr (.inl ((), ()))) l.length
    (fun s => by simp only [rslicesIndexx2, bifF (ilt_len' (xs := l) (Nat.le_refl _))])
    (fun i s hi => by
      simp only [rslicesIndexx2, bifT (ilt_len hi), bifT ile_nat, hg, ieqd, inc_nat (show i < 4611686018427387904 by omega)]
      generalize l.getD i 0 = y
      by_cases hb : x = y <;> simp [hb]) l.length 0 () (by omega)
  have h := h.trans (congrArg some (goI_find (d := (0 : Int)) (xs := l) (fun y => decide (x = y)) (fun i => Sum.inl (((i : Int), ()), ())) (Sum.inr (Sum.inl ((), ()))) l.length 0 (by omega)))
  rw [show ((0 : Int) = ((0 : Nat) : Int)) from rfl, h]
  rw [List.drop_zero]
  unfold hasI
  cases hf : l.findIdx? (fun y => decide (x = y)) with
  | none =>
    have : l.any (fun y => decide (x = y)) = false := by
      rw [List.any_eq_false]
      intro y hy
      have := List.findIdx?_eq_none_iff.1 hf y hy
      simpa using this
    rw [this]; rfl
  | some j =>
    have : l.any (fun y => decide (x = y)) = true := by
      rw [List.any_eq_true]
      obtain ⟨hj, hp, _⟩ := List.findIdx?_eq_some_iff_getElem.1 hf
      exact ⟨_, List.getElem_mem hj, hp⟩
    rw [this]
    simp only [Nat.zero_add]
    show some ((ile 0 (j : Int), ()), ()) = _
    rw [ile_nat]
/-- is it gone? -/
def goneB (self : Int) (nos : List Int) (m : Mem') : Bool := !decide (m.1 = self) && hasI nos m.1
theorem clone_eq (l : List Mem') (hl : l.length ≤ 1000) : oslicesClone ((l, ()), ()) = some (((0, (l.length : Int)), ()), (l, ())) := by
  show oClone _ _ = _
  unfold oClone
  rw [if_pos (show List.length _ ≤ 1073741824 from Nat.le_trans hl (by omega))]
theorem idxF_loop (l : List Mem') (n : Node') (nos : List Int) (hl : l.length ≤ 1000) (hn : nos.length ≤ 1000) :
    whl rslicesIndexFuncbx2 (((0, (l.length : Int)), ((), (), (), ()), (l.length : Int), 0, ()), l, n, nos, ()) =
      some (match l.findIdx? (goneB n.1.1 nos) with | some i => .inr (.inl (((i : Int), ()), l, n, nos, ())) | none => .inl ((), l, n, nos, ())) := by
  have h := whl_goI (g := rslicesIndexFuncbx2) (fun i (_ : Unit) => (((0, (l.length : Int)), ((), (), (), ()), (l.length : Int), (i : Int), ()), l, n, nos, ())) (fun i (_ : Unit) => if goneB n.1.1 nos (l.getD i noM) = true then .inr (.inr (.inl (((i : Int), ()), l, n, nos, ()))) else .inl ()) (fun _ => .inl ((), l, n, nos, ())) l.length
    (fun s => by
      have e : ilt (l.length : Int) (l.length : Int) = false := ilt_f.2 (Int.le_refl _)
      simp only [rslicesIndexFuncbx2, e, cond_false])
    (fun i s hi => by
      have e1 : ilt (i : Int) (l.length : Int) = true := ilt_t.2 (by omega)
      have e2 : isub (l.length : Int) 0 = (l.length : Int) := by unfold isub; omega
      have e3 : iadd 0 (i : Int) = (i : Int) := by unfold iadd; omega
      simp only [rslicesIndexFuncbx2, e1, e2, e3, ile_nat, cond_true, memget, contains_eq _ _ hn, bS_some, ieqd, inc_nat (show i < 4611686018427387904 by omega)]
      generalize l.getD i noM = v
      unfold goneB
      by_cases h1 : v.1 = n.1.1
      · simp [h1]
      · cases h2 : hasI nos v.1 <;> simp [h1]) l.length 0 () (by omega)
  have h := h.trans (congrArg some (goI_find (d := noM) (xs := l) (goneB n.1.1 nos) (fun i => Sum.inr (Sum.inl (((i : Int), ()), l, n, nos, ()))) (Sum.inl ((), l, n, nos, ())) l.length 0 (by omega)))
  rw [List.drop_zero] at h
  have h : whl rslicesIndexFuncbx2 (((0, (l.length : Int)), ((), (), (), ()), (l.length : Int), 0, ()), l, n, nos, ()) = _ := h
  rw [h]
  cases l.findIdx? (goneB n.1.1 nos) with
  | none => rfl
  | some j => simp only [Nat.zero_add]
theorem del_loop (l : List Mem') (n : Node') (nos : List Int) (hl : l.length ≤ 1000) (hn : nos.length ≤ 1000) : ∀ (k j i : Nat) (arr : List Mem'), j + k = l.length → i ≤ j → arr.length = l.length → arr.take i = (l.take j).filter (fun m => !goneB n.1.1 nos m) → arr.drop j = l.drop j →
    ∃ (i' : Nat) (arr' : List Mem'), whl rslicesDeleteFuncx5 (((0, (l.length : Int)), ((), (), (), ()), (i : Int), (j : Int), ()), arr, n, nos, ()) = some (.inl (((0, (l.length : Int)), (i' : Int), ()), arr', n, nos, ())) ∧ i' ≤ l.length ∧ arr'.length = l.length ∧ arr'.take i' = l.filter (fun m => !goneB n.1.1 nos m)
  | 0, j, i, arr, hj, hi, ha, ht, hd => by
    refine ⟨i, arr, whl_inr ?_, by omega, ha, ?_⟩
    · have e2 : isub (l.length : Int) 0 = (l.length : Int) := by unfold isub; omega
      have e : ilt (j : Int) (l.length : Int) = false := ilt_f.2 (by omega)
      simp only [rslicesDeleteFuncx5, e2, e, cond_false]
    · rw [ht, List.take_of_length_le (by omega)]
  | k + 1, j, i, arr, hj, hi, ha, ht, hd => by
    have hjl : j < l.length := by omega
    have e2 : isub (l.length : Int) 0 = (l.length : Int) := by unfold isub; omega
    have e1 : ilt (j : Int) (l.length : Int) = true := ilt_t.2 (by omega)
    have ei : ilt (i : Int) (l.length : Int) = true := ilt_t.2 (by omega)
    have e3 : ∀ x : Nat, iadd 0 (x : Int) = (x : Int) := fun x => by unfold iadd; omega
    have hg : arr.getD j noM = l.getD j noM := by
      have h1 := drop_getD' (xs := arr) (d := noM) (i := j) (by omega)
      have h2 := drop_getD' (xs := l) (d := noM) hjl
      rw [hd, h2] at h1
      exact (List.cons.inj h1).1.symm
    have hd1 : arr.drop (j + 1) = l.drop (j + 1) := by
      have h1 := drop_getD' (xs := arr) (d := noM) (i := j) (by omega)
      have h2 := drop_getD' (xs := l) (d := noM) hjl
      rw [hd, h2] at h1
      exact (List.cons.inj h1).2.symm
    have hset : ∀ v : Mem', dset ((Ty.int IntKind.i64).pair (Ty.id.pair Ty.unit)) arr (i : Int) v = arr.set i v := fun v => by unfold dset; rw [Int.toNat_natCast]
    cases hgo : goneB n.1.1 nos (l.getD j noM) with
    | true =>
      have hf : (l.take (j + 1)).filter (fun m => !goneB n.1.1 nos m) = (l.take j).filter (fun m => !goneB n.1.1 nos m) := by
        rw [take_getD (d := noM) hjl, List.filter_append, List.filter_cons_of_neg (by show ¬ ((!goneB n.1.1 nos (l.getD j noM)) = true); rw [hgo]; decide)]
        simp
      obtain ⟨i', arr', h1, h2⟩ := del_loop l n nos hl hn k (j + 1) i arr (by omega) (by omega) ha (by rw [ht, hf]) hd1
      refine ⟨i', arr', ?_, h2⟩
      rw [← h1]
      refine whl_inl ?_
      unfold goneB at hgo
      simp only [Bool.and_eq_true, Bool.not_eq_true', decide_eq_false_iff_not] at hgo
      simp only [rslicesDeleteFuncx5, e1, e2, e3, ile_nat, cond_true, cond_false, memget, hg, contains_eq _ _ hn, bS_some, ieqd, hgo.1, hgo.2, decide_false, inc_nat (show j < 4611686018427387904 by omega)]
    | false =>
      have hf : (l.take (j + 1)).filter (fun m => !goneB n.1.1 nos m) = (l.take j).filter (fun m => !goneB n.1.1 nos m) ++ [l.getD j noM] := by
        rw [take_getD (d := noM) hjl, List.filter_append, List.filter_cons_of_pos (by show (!goneB n.1.1 nos (l.getD j noM)) = true; rw [hgo]; rfl)]
        simp
      have htk : (arr.set i (l.getD j noM)).take (i + 1) = arr.take i ++ [l.getD j noM] := by
        rw [take_getD (d := noM) (show i < (arr.set i (l.getD j noM)).length by rw [List.length_set]; omega)]
        rw [List.take_set_of_le (by omega)]
        congr 2
        have : i < arr.length := by omega
        simp [this]
      obtain ⟨i', arr', h1, h2⟩ := del_loop l n nos hl hn k (j + 1) (i + 1) (arr.set i (l.getD j noM)) (by omega) (by omega) (by rw [List.length_set]; exact ha) (by rw [htk, ht, hf]) (by rw [List.drop_set_of_lt (by omega)]; exact hd1)
      refine ⟨i', arr', ?_, h2⟩
      rw [← h1]
      refine whl_inl ?_
      unfold goneB at hgo
      simp only [rslicesDeleteFuncx5, e1, e2, e3, ei, ile_nat, cond_true, cond_false, memget, hg, contains_eq _ _ hn, bS_some, ieqd, hset, inc_nat (show j < 4611686018427387904 by omega), inc_nat (show i < 4611686018427387904 by omega)]
      by_cases h1 : (l.getD j noM).1 = n.1.1
      · simp only [h1, decide_true, cond_true, cond_false]
      · rw [decide_eq_false h1] at hgo ⊢
        simp only [Bool.not_false, Bool.true_and] at hgo
        simp only [hgo, cond_true, cond_false]
theorem del_eq (l : List Mem') (n : Node') (nos : List Int) (hl : l.length ≤ 1000) (hn : nos.length ≤ 1000) :
    oslicesDeleteFunc (((0, (l.length : Int)), ((), (), (), ()), ()), l, n, nos, ()) = some ((l.filter (fun m => !goneB n.1.1 nos m), ()), (), n, nos, ()) := by
  rw [oslicesDeleteFunc_eq, bslicesDeleteFunc]
  have e2 : isub (l.length : Int) 0 = (l.length : Int) := by unfold isub; omega
  simp only [oslicesIndexFuncb_eq, bslicesIndexFuncb, wslicesIndexFuncbx2_eq, e2, idxF_loop l n nos hl hn]
  cases hf : l.findIdx? (goneB n.1.1 nos) with
  | none =>
    have hfl : l.filter (fun m => !goneB n.1.1 nos m) = l := List.filter_eq_self.2 fun x hx => by
      have := List.findIdx?_eq_none_iff.1 hf x hx
      simp only [this]; rfl
    have em : ieq (-1) (-1) = true := rfl
    have ds : dsub l 0 (l.length : Int) = l := by rw [show (0 : Int) = ((0 : Nat) : Int) from rfl, dsub_eq]; simp
    simp only [bL_inl, bS_some, em, cond_true, ds, hfl]
  | some i =>
    obtain ⟨hi, hp, hlt⟩ := List.findIdx?_eq_some_iff_getElem.1 hf
    have em : ieq (i : Int) (-1) = false := ieq_f.2 (by omega)
    have hpre : l.take i = (l.take (i + 1)).filter (fun m => !goneB n.1.1 nos m) := by
      rw [take_getD (d := noM) hi, List.filter_append]
      have h1 : (l.take i).filter (fun m => !goneB n.1.1 nos m) = l.take i := List.filter_eq_self.2 fun x hx => by
        obtain ⟨j, hj, rfl⟩ := List.getElem_of_mem hx
        rw [List.length_take] at hj
        have := hlt j (by omega)
        simp only [List.getElem_take, this]
        simp
      have h2 : l.getD i noM = l[i] := by simp [hi]
      rw [h1, h2, List.filter_cons_of_neg (by simp [hp])]
      simp
    obtain ⟨i', arr', h1, h2, h3, h4⟩ := del_loop l n nos hl hn (l.length - (i + 1)) (i + 1) i l (by omega) (by omega) rfl hpre rfl
    have q1 : ile 0 (i' : Int) = true := ile_nat
    have q2 : ile (i' : Int) (l.length : Int) = true := ile_t.2 (by omega)
    have q3 : ile (l.length : Int) (l.length : Int) = true := ile_t.2 (Int.le_refl _)
    have q4 : ile 0 0 = true := rfl
    have a0 : iadd 0 0 = 0 := rfl
    have a1 : iadd 0 (i' : Int) = (i' : Int) := by unfold iadd; omega
    have a2 : iadd 0 (l.length : Int) = (l.length : Int) := by unfold iadd; omega
    have hsub : dsub (dclear ((Ty.int IntKind.i64).pair (Ty.id.pair Ty.unit)) arr' (i' : Int) (l.length : Int)) 0 (i' : Int) = l.filter (fun m => !goneB n.1.1 nos m) := by
      rw [show (0 : Int) = ((0 : Nat) : Int) from rfl, dsub_eq]
      unfold dclear
      rw [Int.toNat_natCast, Int.toNat_natCast, List.drop_zero, Nat.sub_zero, List.append_assoc, ← h4]
      have hl' : (arr'.take i').length = i' := by rw [List.length_take]; omega
      rw [List.take_append_of_le_length (by omega), List.take_of_length_le (by omega)]
    simp only [bL_inr, bL_inl, bS_some, em, cond_false, inc_nat (show i < 4611686018427387904 by omega), wslicesDeleteFuncx5_eq, h1, e2, q1, q2, q3, q4, cond_true, a0, a1, a2, hsub]

end Am
end Go.Proofs.Ytokamjlhdidefaa
