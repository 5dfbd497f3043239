/-
  Nodes: what is dropped, by the document; what is pointed to; the law NodeForgets.
-/
import Derived.Test.YtokamjlhdidefaaNf
namespace Go.Proofs.Ytokamjlhdidefaa
namespace Am
open Go Go.RowKit
set_option linter.unusedVariables false
set_option linter.unusedSimpArgs false
set_option maxRecDepth 10000

theorem gone_any (self : Int) (nos : List Int) (m : Mem') : nos.any (fun no => decide (no = m.1) && !decide (no = self)) = goneB self nos m := by
  unfold goneB hasI
  rw [Bool.eq_iff_iff]
  simp only [List.any_eq_true, Bool.and_eq_true, Bool.not_eq_true', decide_eq_true_iff, decide_eq_false_iff_not]
  constructor
  · rintro ⟨x, h1, h2, h3⟩
    exact ⟨by rw [← h2]; exact h3, x, h1, h2.symm⟩
  · rintro ⟨h1, x, h2, h3⟩
    exact ⟨x, h2, h3.symm, by rw [← h3]; exact h1⟩
theorem with7 (nos : List Int) (self : Int) (out l : List Mem') (ln i : Int) (m : Mem') (hn : nos.length ≤ 1000) :
    wref09Withoutx7 ((nos, self, out, (), false, l, ln, i, nos, dlen nos, 0, ()), (), m, ()) = some (.inl ((nos, self, out, (), goneB self nos m, l, ln, i, ()), (), m, ())) := by
  rw [wref09Withoutx7_eq, ← gone_any]
  have hg : ∀ i : Nat, dget (Ty.int IntKind.i64) nos (i : Int) = nos.getD i 0 := fun i => dget_eq (Ty.int IntKind.i64) nos i
  have h := whl_up (g := rref09Withoutx7) (fun k => ((nos, self, out, (), (nos.take k).any (fun no => decide (no = m.1) && !decide (no = self)), l, ln, i, nos, dlen nos, (k : Int), ()), (), m, ())) (.inl ((nos, self, out, (), nos.any (fun no => decide (no = m.1) && !decide (no = self)), l, ln, i, ()), (), m, ())) nos.length
    (by simp only [rref09Withoutx7, bifF (ilt_len' (xs := nos) (Nat.le_refl _)), List.take_length])
    (fun k hk => by
      simp only [rref09Withoutx7, bifT (ilt_len hk), bifT ile_nat, hg, ieqd, inc_nat (show k < 4611686018427387904 by omega), take_getD (d := (0 : Int)) hk, List.any_append, List.any_cons, List.any_nil]
      generalize nos.getD k 0 = y
      cases (nos.take k).any (fun no => decide (no = m.1) && !decide (no = self)) with
      | true => simp
      | false =>
        by_cases h1 : y = m.1
        · simp [h1]
        · simp [h1]) nos.length 0 (by omega)
  simpa using h
theorem without_eq (l : List Mem') (nos : List Int) (self : Int) (hl : l.length ≤ 900) (hn : nos.length ≤ 1000) : oref09Without ((l, nos, self, ()), ()) = some ((l.filter (fun m => !goneB self nos m), ()), (), ()) := by
  rw [oref09Without_eq, bref09Without]
  simp only [wref09Withoutx3_eq]
  have h := whl_up (g := rref09Withoutx3) (fun k => ((nos, self, (l.take k).filter (fun m => !goneB self nos m), l, dlen l, (k : Int), ()), (), ())) (.inl ((l.filter (fun m => !goneB self nos m), ()), (), ())) l.length
    (by simp only [rref09Withoutx3, bifF (ilt_len' (xs := l) (Nat.le_refl _)), List.take_length])
    (fun k hk => by
      have hf : ((l.take k).filter (fun m => !goneB self nos m)).length ≤ 1000 := by
        have := List.length_filter_le (fun m => !goneB self nos m) (l.take k)
        rw [List.length_take] at this
        omega
      simp only [rref09Withoutx3, bifT (ilt_len hk), bifT ile_nat, memget, with7 _ _ _ _ _ _ _ hn, bL_inl, inc_nat (show k < 4611686018427387904 by omega), fits1n hf (show 40 ≤ 1000 by omega), take_getD (d := noM) hk, List.filter_append]
      generalize l.getD k noM = v
      cases hg : goneB self nos v
      · simp [hg, dapp1]
      · simp [hg]) l.length 0 (by omega)
  have h : whl rref09Withoutx3 ((nos, self, [], l, dlen l, 0, ()), (), ()) = _ := h
  rw [h]
  rfl
def zeroN : Node' := (noM, noM, [], [], ())
/-- without so many -/
def succD (n : Node') (nos : List Int) : List Mem' := if (n.2.2.1.filter (fun m => !goneB n.1.1 nos m)).length = 0 then [n.1] else n.2.2.1.filter (fun m => !goneB n.1.1 nos m)
def predD (n : Node') (nos : List Int) : Mem' := if (!memB n.2.1 noneM && goneB n.1.1 nos n.2.1) = true then noneM else n.2.1
def dropD (n : Node') (nos : List Int) : Node' := (n.1, predD n nos, succD n nos, n.2.2.2.1.filter (fun m => !goneB n.1.1 nos m), ())
def dropN (n : Node') (nos : List Int) : Node' × Int × Unit := if rightN n = true then (dropD n nos, 0, ()) else (zeroN, 1, ())
theorem len0e {α : Type} (l : List α) : ieq (dlen l) 0 = decide (l.length = 0) := by rw [ieqd, dlen_eq]; congr 1; rw [eq_iff_iff]; omega
theorem memB_none (m : Mem') : (bif ieq m.1 (-1) then bif ideq m.2.1 Id.zero then true else false else false) = memB m noneM := memEq' m noneM
theorem nodeDrop_eq (n : Node') (nos : List Int) (h1 : n.2.2.1.length ≤ 900) (h2 : n.2.2.2.1.length ≤ 900) (hn : nos.length ≤ 1000) : onodeDrop ((n, nos, ()), ()) = some (dropN n nos, ()) := by
  obtain ⟨self, pred, succs, fingers, ⟨⟩⟩ := n
  simp only at h1 h2
  rw [onodeDrop_eq, bnodeDrop]
  simp only [nodeRight_eq (self, pred, succs, fingers, ()) (by simp only; omega) (by simp only; omega), bS_some]
  unfold dropN
  cases hr : rightN (self, pred, succs, fingers, ()) with
  | false => rfl
  | true =>
    have c1 := clone_eq succs (by omega)
    have c2 := clone_eq fingers (by omega)
    have d1 := del_eq succs (self, pred, succs, fingers, ()) nos (by omega) hn
    have d2 := del_eq fingers (self, pred, succs.filter (fun m => !goneB self.1 nos m), fingers, ()) nos (by omega) hn
    simp only at d1 d2
    simp only [cond_true, cond_false, if_true, c1, bS_some, d1, c2, d2, len0e, nodeNone_eq, contains_eq _ _ hn, isS_some, getS_some]
    unfold dropD predD succD
    simp only
    rw [show ((bif ieq pred.1 noneM.1 then bif ideq pred.2.1 noneM.2.1 then true else false else false)) = memB pred noneM from memEq' pred noneM]
    have hg : isB (bif bif ieq pred.1 self.1 then false else true then some (hasI nos pred.1) else some false) = true ∧ getB (bif bif ieq pred.1 self.1 then false else true then some (hasI nos pred.1) else some false) = goneB self.1 nos pred := by
      unfold goneB
      rw [ieqd]
      by_cases h : pred.1 = self.1 <;> simp [h, isB, getB]
    rw [hg.1, hg.2]
    generalize memB pred noneM = c1
    generalize goneB self.1 nos pred = c2
    by_cases h0 : (succs.filter (fun m => !goneB self.1 nos m)).length = 0
    · simp only [h0, decide_true, cond_true, if_true]
      cases c1 <;> cases c2 <;> rfl
    · simp only [h0, decide_false, cond_true, cond_false, if_false]
      cases c1 <;> cases c2 <;> rfl
theorem refDrop_eq (n : Node') (nos : List Int) (h1 : n.2.2.1.length ≤ 900) (h2 : n.2.2.2.1.length ≤ 900) (hn : nos.length ≤ 1000) : oref09Drop ((n, nos, ()), ()) = some ((dropD n nos, ()), ()) := by
  obtain ⟨self, pred, succs, fingers, ⟨⟩⟩ := n
  simp only at h1 h2
  rw [oref09Drop_eq, bref09Drop]
  have hf : (succs.filter (fun m => !goneB self.1 nos m)).length ≤ 1000 := by
    have := List.length_filter_le (fun m => !goneB self.1 nos m) succs
    omega
  have hp : [pred].filter (fun m => !goneB self.1 nos m) = if goneB self.1 nos pred = true then [] else [pred] := by
    cases h : goneB self.1 nos pred <;> simp [h]
  simp only [without_eq succs nos self.1 h1 hn, without_eq fingers nos self.1 h2 hn, without_eq [pred] nos self.1 (by simp) hn, bS_some, len0e, refNone_eq, fits1n hf (show 40 ≤ 1000 by omega), hp, cond_true]
  unfold dropD predD succD
  simp only
  generalize memB pred noneM = c1
  generalize goneB self.1 nos pred = c2
  by_cases h0 : (succs.filter (fun m => !goneB self.1 nos m)).length = 0
  · have h00 : succs.filter (fun m => !goneB self.1 nos m) = [] := List.length_eq_zero_iff.1 h0
    simp only [h0, h00, decide_true, cond_true, if_true]
    cases c1 <;> cases c2 <;> rfl
  · simp only [h0, decide_false, cond_true, cond_false, if_false]
    cases c1 <;> cases c2 <;> rfl
def pointN (n : Node') (m : Mem') : Node' × Int × Unit :=
  if rightN n = true ∧ mayB m = true ∧ m.1 ≠ n.1.1 then (if n.2.2.2.1.any (fun x => decide (x.1 = m.1)) = true then (n, 0, ()) else if n.2.2.2.1.length = 16 then (zeroN, 8, ()) else ((n.1, n.2.1, n.2.2.1, n.2.2.2.1 ++ [m], ()), 0, ())) else (zeroN, 1, ())
theorem clip_eq (l : List Mem') : oslicesClip ((l, ()), ()) = some ((l, ()), (), ()) := by
  rw [oslicesClip_eq, bslicesClip]
  simp only [ieq_s, cond_true]
theorem nodePoint_eq (n : Node') (m : Mem') (h1 : n.2.2.1.length ≤ 900) (h2 : n.2.2.2.1.length ≤ 900) : onodePoint ((n, m, ()), ()) = some (pointN n m, ()) := by
  rw [onodePoint_eq, bnodePoint]
  simp only [nodeRight_eq n (by omega) (by omega), nodeMay_eq, bS_some]
  unfold pointN
  cases hr : rightN n with
  | false => rfl
  | true =>
    cases hm : mayB m with
    | false => rfl
    | true =>
      simp only [cond_true, cond_false, ieqd]
      by_cases h3 : m.1 = n.1.1
      · rw [if_neg (fun h => h.2.2 h3)]
        simp only [h3, decide_true, cond_true]
        rfl
      · rw [if_pos ⟨trivial, trivial, h3⟩]
        simp only [h3, decide_false, cond_false, onodeOf_eq, bnodeOf, bS_some]
        rw [contN_eq n.2.2.2.1 m.1 (by omega)]
        simp only [bS_some]
        cases ha : n.2.2.2.1.any (fun x => decide (x.1 = m.1)) with
        | true => rfl
        | false =>
          have e16 : decide (dlen n.2.2.2.1 = 16) = decide (n.2.2.2.1.length = 16) := by rw [dlen_eq]; congr 1; rw [eq_iff_iff]; omega
          simp only [cond_false, Bool.false_eq_true, if_false, e16]
          by_cases h4 : n.2.2.2.1.length = 16
          · simp only [h4, decide_true, cond_true, if_true]
            rfl
          · simp only [h4, decide_false, cond_false, if_false]
            rw [show n.2.2.2 = (n.2.2.2.1, ()) from rfl, clip_eq]
            simp only [bS_some, fits1n (show n.2.2.2.1.length ≤ 1000 by omega) (show 40 ≤ 1000 by omega), cond_true]
            rfl
theorem find_any (l : List Mem') (no : Int) (hno : 0 ≤ no) (hl : l.length ≤ 1000) : ∃ r : Mem', oref07Find ((l, no, ()), ()) = some ((r, ()), ()) ∧ ilt r.1 0 = !l.any (fun x => decide (x.1 = no)) := by
  have h := whl_goI (g := rref07Findx2) (fun i (_ : Unit) => ((no, (), l, dlen l, (i : Int), ()), (0, Id.zero, ()), ())) (fun i (_ : Unit) => if (fun x : Mem' => decide (x.1 = no)) (l.getD i noM) = true then .inr (.inl (((), ()), l.getD i noM, ())) else .inl ()) (fun _ => .inr (.inl (((), ()), (0, Id.zero, ()), ()))) l.length
    (fun s => by simp only [rref07Findx2, bifF (ilt_len' (xs := l) (Nat.le_refl _))])
    (fun i s hi => by
      simp only [rref07Findx2, bifT (ilt_len hi), bifT ile_nat, memget, ieqd, inc_nat (show i < 4611686018427387904 by omega)]
      generalize l.getD i noM = y
      by_cases hb : y.1 = no <;> simp [hb]) l.length 0 () (by omega)
  have h := h.trans (congrArg some (goI_find (d := noM) (xs := l) (fun x : Mem' => decide (x.1 = no)) (fun i => Sum.inl (((), ()), l.getD i noM, ())) (Sum.inr (Sum.inl (((), ()), (0, Id.zero, ()), ()))) l.length 0 (by omega)))
  rw [List.drop_zero] at h
  have h : whl rref07Findx2 ((no, (), l, dlen l, 0, ()), (0, Id.zero, ()), ()) = _ := h
  rw [oref07Find_eq, bref07Find]
  simp only [wref07Findx2_eq, h]
  cases hf : l.findIdx? (fun x : Mem' => decide (x.1 = no)) with
  | none =>
    have : l.any (fun x => decide (x.1 = no)) = false := by
      rw [List.any_eq_false]
      intro y hy
      have := List.findIdx?_eq_none_iff.1 hf y hy
      simpa using this
    rw [this]
    exact ⟨(-1, Id.zero, ()), rfl, rfl⟩
  | some j =>
    obtain ⟨hj, hp, _⟩ := List.findIdx?_eq_some_iff_getElem.1 hf
    have : l.any (fun x => decide (x.1 = no)) = true := by
      rw [List.any_eq_true]
      exact ⟨_, List.getElem_mem hj, hp⟩
    rw [this]
    have hg : l.getD j noM = l[j] := by simp [hj]
    refine ⟨l.getD (0 + j) noM, rfl, ?_⟩
    rw [Nat.zero_add, hg, decide_eq_true_iff.1 hp]
    exact ilt_f.2 hno
theorem like_s (a : Node') (h1 : a.2.2.1.length ≤ 4611686018427387903) (h2 : a.2.2.2.1.length ≤ 4611686018427387903) : oref09Like ((a, a, ()), ()) = some ((true, ()), ()) := by rw [refLike_eq a a h1 h2, likeN_self]
theorem zero_like : oref09Like ((zeroN, ((0, Id.zero, ()), (0, Id.zero, ()), [], [], ()), ()), ()) = some ((true, ()), ()) := like_s zeroN (by simp [zeroN]) (by simp [zeroN])
theorem fewN_len (n : Node') : (fewN n).2.2.1.length ≤ 6 ∧ (fewN n).2.2.2.1.length ≤ 18 := by
  constructor
  · show (n.2.2.1.take 6).length ≤ 6
    rw [List.length_take]; omega
  · show (n.2.2.2.1.take 18).length ≤ 18
    rw [List.length_take]; omega
theorem dropD_len (n : Node') (nos : List Int) (h : n.2.2.1.length ≤ 900) (h2 : n.2.2.2.1.length ≤ 900) : (dropD n nos).2.2.1.length ≤ 900 ∧ (dropD n nos).2.2.2.1.length ≤ 900 := by
  have a := List.length_filter_le (fun m => !goneB n.1.1 nos m) n.2.2.1
  have b := List.length_filter_le (fun m => !goneB n.1.1 nos m) n.2.2.2.1
  constructor
  · show (succD n nos).length ≤ 900
    unfold succD
    split
    · simp
    · omega
  · show (n.2.2.2.1.filter (fun m => !goneB n.1.1 nos m)).length ≤ 900
    omega
theorem forgets9 (n0 : Node') (nos0 : List Int) (m : Mem') : olaw09NodeForgets ((n0, nos0, m, ()), ()) = some ((true, ()), ()) := by
  rw [olaw09NodeForgets_eq, blaw09NodeForgets]
  have e20 : (20 : Int) = ((20 : Nat) : Int) := rfl
  obtain ⟨h1, h2⟩ := fewN_len n0
  have hn : (nos0.take 20).length ≤ 20 := by rw [List.length_take]; omega
  simp only [e20, imin_len, ile00, ile_nat, ile_min, dsub_min, cond_true, fewN_eq, bS_some]
  generalize nos0.take 20 = nos at *
  generalize fewN n0 = n at *
  obtain ⟨self, pred, succs, fingers, ⟨⟩⟩ := n
  simp only at h1 h2
  obtain ⟨g1, g2⟩ := dropD_len (self, pred, succs, fingers, ()) nos (by simp only; omega) (by simp only; omega)
  have hL := like_s (dropD (self, pred, succs, fingers, ()) nos) (by omega) (by omega)
  simp only [nodeDrop_eq (self, pred, succs, fingers, ()) nos (by simp only; omega) (by simp only; omega) (by omega), nodePoint_eq (self, pred, succs, fingers, ()) m (by simp only; omega) (by simp only; omega), alive9, refRight_eq (self, pred, succs, fingers, ()) (by simp only; omega) (by simp only; omega), bS_some, refDrop_eq (self, pred, succs, fingers, ()) nos (by simp only; omega) (by simp only; omega) (by omega), lawMay_eq, isS_some, getS_some, cond_true, cond_false]
  unfold dropN pointN
  cases hr : rightN (self, pred, succs, fingers, ()) with
  | false =>
    simp only [Bool.false_eq_true, false_and, if_false, ieq_s, zero_like, isS_some, getS_some, isB_some, getB_some, cond_true, cond_false]
  | true =>
    simp only [true_and, if_true, ieq_s, cond_true, cond_false, hL, bS_some]
    cases hm : mayB m with
    | false =>
      simp only [Bool.false_eq_true, false_and, if_false, ieq_s, zero_like, isS_some, getS_some, isB_some, getB_some, cond_true, cond_false]
    | true =>
      have hno : 0 ≤ m.1 := by
        unfold mayB at hm
        simp only [Bool.and_eq_true, decide_eq_true_iff] at hm
        exact hm.1
      simp only [true_and, cond_true, cond_false, isB_some, getB_some, ieqd]
      by_cases h3 : m.1 = self.1
      · simp only [h3, ne_eq, not_true, if_false, decide_true, cond_true, zero_like, isS_some, getS_some, isB_some, getB_some]
      · obtain ⟨r, q1, q2⟩ := find_any fingers m.1 hno (by omega)
        simp only [h3, ne_eq, not_false_eq_true, if_true, decide_false, cond_false, q1, bS_some, q2]
        cases ha : fingers.any (fun x => decide (x.1 = m.1)) with
        | true =>
          have hs := like_s (self, pred, succs, fingers, ()) (by simp only; omega) (by simp only; omega)
          simp only [Bool.not_true, if_true, cond_false, hs, isS_some, getS_some, isB_some, getB_some, decide_true, cond_true]
        | false =>
          have e16 : decide (dlen fingers = 16) = decide (fingers.length = 16) := by rw [dlen_eq]; congr 1; rw [eq_iff_iff]; omega
          simp only [Bool.not_false, Bool.false_eq_true, if_false, cond_true, e16]
          by_cases h4 : fingers.length = 16
          · simp only [h4, if_true, decide_true, cond_true, zero_like, isS_some, getS_some, isB_some, getB_some]
          · have hs := like_s (self, pred, succs, fingers ++ [m], ()) (by simp only; omega) (by simp; omega)
            have f0 : fits 0 (dlen fingers) 40 = true := by
              have := fits_of (xs := ([] : List Mem')) (ys := fingers) (b := 40) (by simp; omega) (by simp; omega)
              exact this
            have d0 : dapp [] fingers = fingers := rfl
            simp only [h4, if_false, decide_false, cond_false, f0, d0, fits1n (show fingers.length ≤ 1000 by omega) (show 40 ≤ 1000 by omega), dapp1, hs, isS_some, getS_some, isB_some, getB_some, decide_true, cond_true]

end Am
end Go.Proofs.Ytokamjlhdidefaa
