/-
  Nodes: the law NodeStays.
-/
import Derived.Test.YtokamjlhdidefaaNk
namespace Go.Proofs.Ytokamjlhdidefaa
namespace Am
open Go Go.RowKit
set_option linter.unusedVariables false
set_option linter.unusedSimpArgs false
set_option maxRecDepth 10000

theorem between_in {x self id : Id} (h : between x self id = true) : within x self id = true := by
  unfold between at h
  simp only [Bool.and_eq_true] at h
  exact h.2.2
theorem way_nearer {x self id : Id} (hne : id ≠ self) (h : between x self id = true) : way x.num id.num < way self.num id.num := by
  have h1 := self.num_ltM
  have h2 := x.num_ltM
  have h3 := id.num_ltM
  have hw := between_in h
  have e1 : self.num ≠ id.num := fun e => hne (Id.num_inj e).symm
  unfold within at hw
  simp only [Ne.symm hne, decide_false, Bool.false_or, Bool.and_eq_true, decide_eq_true_iff] at hw
  obtain ⟨b1, b2⟩ := hw
  unfold way at b1 b2 ⊢
  by_cases c1 : self.num ≤ x.num <;> by_cases c2 : self.num ≤ id.num <;> by_cases c3 : x.num ≤ id.num <;>
    simp only [c1, c2, c3, if_true, if_false] at b1 b2 ⊢ <;> omega
theorem closest_between (self id : Id) (l : List Mem') (h0 : (closest self id l).2 = 0) : between (closest self id l).1.2.1 self id = true := by
  have key : ∀ (l : List Mem') (s : Mem' × Int), (s.2 = 0 → between s.1.2.1 self id = true) → (l.foldl (upd self id) s).2 = 0 → between (l.foldl (upd self id) s).1.2.1 self id = true := by
    intro l
    induction l with
    | nil => intro s h1 h2; exact h1 h2
    | cons m l ih =>
      intro s h1 h2
      rw [List.foldl_cons] at h2 ⊢
      refine ih _ ?_ h2
      unfold upd
      cases hb : between m.2.1 self id with
      | false => exact h1
      | true =>
        rw [if_pos rfl]
        split
        · split
          · exact fun _ => hb
          · exact h1
        · exact fun _ => hb
  exact key l _ (fun h => by cases h) h0

theorem ideq_self9 (a : Id) : ideq a a = true := by unfold ideq; simp
theorem nodeget (l : List Node') (i : Nat) : dget (((Ty.int IntKind.i64).pair (Ty.id.pair Ty.unit)).pair (((Ty.int IntKind.i64).pair (Ty.id.pair Ty.unit)).pair ((Ty.sl ((Ty.int IntKind.i64).pair (Ty.id.pair Ty.unit))).pair ((Ty.sl ((Ty.int IntKind.i64).pair (Ty.id.pair Ty.unit))).pair Ty.unit)))) l (i : Int) = l.getD i zeroN := dget_eq (memT.pair (memT.pair ((Ty.sl memT).pair ((Ty.sl memT).pair Ty.unit)))) l i
theorem intget (l : List Int) (i : Nat) : dget (Ty.int IntKind.i64) l (i : Int) = l.getD i 0 := dget_eq (Ty.int IntKind.i64) l i

/-- none has itself among those that follow it, unless it is alone -/
theorem inner9 (e f g h : Int) (L : List Node') (i : Int) (n x : Node') (id : Id) (hx : rightN x = true) (hs : x.1 = n.1) :
    wlaw09NodeStaysx15 (((), (), e, f, g, h, (), L, 4, i, x.2.2.1, dlen x.2.2.1, 0, ()), n, id, x, (), ()) = some (.inr (.inl (((), (), e, f, g, h, L, 4, i, ()), n, id, (), ()))) := by
  rw [wlaw09NodeStaysx15_eq]
  have k := right_iff.1 hx
  have h4 := k.four
  exact whl_up (g := rlaw09NodeStaysx15) (fun j => (((), (), e, f, g, h, (), L, 4, i, x.2.2.1, dlen x.2.2.1, (j : Int), ()), n, id, x, (), ())) _ x.2.2.1.length
    (by simp only [rlaw09NodeStaysx15, bifF (ilt_len' (xs := x.2.2.1) (Nat.le_refl _))])
    (fun j hj => by
      simp only [rlaw09NodeStaysx15, bifT (ilt_len hj), bifT ile_nat, memget, ieqd, inc_nat (show j < 4611686018427387904 by omega)]
      have hl1 : ilt 1 (dlen x.2.2.1) = decide (1 < x.2.2.1.length) := by rw [dlen_eq, ilt_eq]; congr 1; rw [eq_iff_iff]; omega
      by_cases hy : (x.2.2.1.getD j noM).1 = n.1.1
      · have hone : x.2.2.1.length = 1 := by
          rcases k.succ with hk | hk
          · rw [hk]; rfl
          · exfalso
            have hg : x.2.2.1.getD j noM = x.2.2.1[j] := by simp [hj]
            rw [hg] at hy
            exact (hk.1 _ (List.getElem_mem hj)).2 (by rw [hy, hs])
        simp only [hy, decide_true, cond_true, hl1, hone, Nat.lt_irrefl, decide_false, isB_some, getB_some, cond_false]
      · simp only [hy, decide_false, cond_false, isB_some, getB_some, cond_true]) x.2.2.1.length 0 (by omega)
theorem outer9 (e f g h : Int) (a b c d n : Node') (id : Id) (hgood : ∀ i, i < 4 → [e, f, g, h].getD i 0 = 0 → rightN ([a, b, c, d].getD i zeroN) = true ∧ ([a, b, c, d].getD i zeroN).1 = n.1) :
    wlaw09NodeStaysx9 (((), (), e, f, g, h, [a, b, c, d], 4, 0, ()), n, id, (), ()) = some (.inr (.inl (((), (), ()), n, id, ()))) := by
  rw [wlaw09NodeStaysx9_eq]
  exact whl_up (g := rlaw09NodeStaysx9) (fun j => (((), (), e, f, g, h, [a, b, c, d], 4, (j : Int), ()), n, id, (), ())) _ 4
    (by
      have e1 : ilt ((4 : Nat) : Int) 4 = false := rfl
      simp only [rlaw09NodeStaysx9, e1, cond_false])
    (fun j hj => by
      have e1 : ilt (j : Int) 4 = true := ilt_t.2 (by omega)
      have e2 : ilt (j : Int) (dlen [a, b, c, d]) = true := ilt_t.2 (by rw [dlen_eq]; show (j : Int) < ((4 : Nat) : Int); omega)
      have hg := hgood j hj
      simp only [rlaw09NodeStaysx9, e1, e2, bifT ile_nat, cond_true, nodeget, intget, ieqd, inc_nat (show j < 4611686018427387904 by omega)]
      generalize [a, b, c, d].getD j zeroN = x at *
      generalize [e, f, g, h].getD j 0 = y at *
      by_cases hy : y = 0
      · obtain ⟨h1, h2⟩ := hg hy
        have hl := right_len h1
        simp only [hy, decide_true, cond_true, cond_false, nodeRight_eq x (by omega) (by omega), refRight_eq x (by omega) (by omega), isS_some, getS_some, h1, memEq', h2, memB_self, isB_some, getB_some, inner9 e f g h [a, b, c, d] (j : Int) n x id h1 h2, bL_inr, bL_inl, decide_eq_true_eq, ideq_self9, inc_nat (show j < 4611686018427387904 by omega)]
      · simp only [hy, decide_false, cond_true, cond_false]) 4 0 (by omega)

theorem stays9 (n0 s0 : Node') (m : Mem') (nos0 : List Int) (id : Id) : olaw09NodeStays ((n0, s0, m, nos0, id, ()), ()) = some ((true, ()), ()) := by
  rw [olaw09NodeStays_eq, blaw09NodeStays]
  have e20 : (20 : Int) = ((20 : Nat) : Int) := rfl
  obtain ⟨h1, h2⟩ := fewN_len n0
  obtain ⟨h3, h4⟩ := fewN_len s0
  simp only [fewN_eq, bS_some]
  generalize fewN n0 = n at *
  generalize fewN s0 = s at *
  rw [wlaw09NodeStaysx1000002_eq]
  simp only [rlaw09NodeStaysx1000002, nodeRight_eq n (by omega) (by omega), alive9, bS_some]
  cases hr : rightN n with
  | false => rfl
  | true =>
    have hn : (nos0.take 20).length ≤ 20 := by rw [List.length_take]; omega
    have a1 := nodeNotify_eq n m (by omega) (by omega)
    have a2 := nodeFollow_eq n s (by omega) (by omega) (by omega) (by omega)
    have a3 := nodeDrop_eq n (nos0.take 20) (by omega) (by omega) (by omega)
    have a4 := nodePoint_eq n m (by omega) (by omega)
    have a5 := nodeNext_eq n id (by omega) (by omega)
    have hg : ∀ i, i < 4 → [(notifyN n m).2.1, (followN n s).2.1, (dropN n (nos0.take 20)).2.1, (pointN n m).2.1].getD i 0 = 0 →
        rightN ([(notifyN n m).1, (followN n s).1, (dropN n (nos0.take 20)).1, (pointN n m).1].getD i zeroN) = true ∧ ([(notifyN n m).1, (followN n s).1, (dropN n (nos0.take 20)).1, (pointN n m).1].getD i zeroN).1 = n.1 := by
      intro i hi
      match i, hi with
      | 0, _ =>
        show (notifyN n m).2.1 = 0 → rightN (notifyN n m).1 = true ∧ (notifyN n m).1.1 = n.1
        rw [notifyN_of]
        split
        · rename_i hc
          exact fun _ => ⟨notify_right hr hc.2, notify_self n m⟩
        · intro h; cases h
      | 1, _ =>
        show (followN n s).2.1 = 0 → rightN (followN n s).1 = true ∧ (followN n s).1.1 = n.1
        unfold followN
        split
        · rename_i hc
          exact fun _ => ⟨follow_right hr hc.2, rfl⟩
        · intro h; cases h
      | 2, _ =>
        show (dropN n (nos0.take 20)).2.1 = 0 → rightN (dropN n (nos0.take 20)).1 = true ∧ (dropN n (nos0.take 20)).1.1 = n.1
        unfold dropN
        rw [if_pos hr]
        exact fun _ => ⟨drop_right hr, rfl⟩
      | 3, _ =>
        show (pointN n m).2.1 = 0 → rightN (pointN n m).1 = true ∧ (pointN n m).1.1 = n.1
        intro h
        rw [(pointN_of h).2.2.2.1]
        exact point_right h
    have ho := outer9 (notifyN n m).2.1 (followN n s).2.1 (dropN n (nos0.take 20)).2.1 (pointN n m).2.1 (notifyN n m).1 (followN n s).1 (dropN n (nos0.take 20)).1 (pointN n m).1 n id hg
    simp only [e20, imin_len, ile00, ile_nat, ile_min, dsub_min, cond_true, cond_false, a1, a2, a3, bS_some, wlaw09NodeStaysx1000007_eq, rlaw09NodeStaysx1000007, a4, ho, bL_inr, bL_inl, a5]
    have hs1 := (right_may hr).1
    have hlt : ilt 0 (dlen n.2.2.1) = true := ilt_t.2 (by rw [dlen_eq]; omega)
    have eg : dget ((Ty.int IntKind.i64).pair (Ty.id.pair Ty.unit)) n.2.2.1 0 = n.2.2.1.getD 0 noM := memget n.2.2.1 0
    unfold nextN
    rw [hr, if_pos rfl]
    simp only [hlt, eg, cond_true, cond_false, memEq']
    by_cases hw : within id n.1.2.1 (n.2.2.1.getD 0 noM).2.1 = true
    · simp only [hw, if_true, ieq_s, alive9, isS_some, getS_some, isB_some, getB_some, cond_true, cond_false, bL_inl, bS_some]
    · rw [if_neg hw]
      by_cases hc : (closest n.1.2.1 id (n.2.2.2.1 ++ n.2.2.1)).2 = 0
      · rw [if_pos hc]
        have hb := closest_between _ _ _ hc
        generalize (closest n.1.2.1 id (n.2.2.2.1 ++ n.2.2.1)).1 = y at *
        by_cases hid : id = n.1.2.1
        · cases hy : memB y (n.2.2.1.getD 0 noM) <;> simp only [hy, hid, ideq_self9, ieq_s, alive9, isS_some, getS_some, isB_some, getB_some, cond_true, cond_false, bL_inl, bS_some]
        · have hid2 : ideq id n.1.2.1 = false := by unfold ideq; simp [hid]
          have hlt2 := way_nearer hid hb
          have c : ilt (cmpN (way y.2.1.num id.num) (way n.1.2.1.num id.num)) 0 = true := by rw [ilt_t, cmpN_lt]; exact hlt2
          cases hy : memB y (n.2.2.1.getD 0 noM) <;> simp only [hy, hid2, ieq_s, alive9, isS_some, getS_some, isB_some, getB_some, cond_true, cond_false, bL_inl, bS_some, identFar_eq, identCompare_eq, far_num, c]
      · rw [if_neg hc]
        simp only [memB_self, ieq_s, alive9, isS_some, getS_some, isB_some, getB_some, cond_true, cond_false, bL_inl, bS_some]

end Am
end Go.Proofs.Ytokamjlhdidefaa
