/-
  Nodes: what stays; what is done twice; the laws NodeTwice, NodeStays.
-/
import Derived.Test.YtokamjlhdidefaaNh
namespace Go.Proofs.Ytokamjlhdidefaa
namespace Am
open Go Go.RowKit
set_option linter.unusedVariables false
set_option linter.unusedSimpArgs false
set_option maxRecDepth 10000

/-- those that may be, none of a number, each of another one -/
def U (l : List Mem') (no : Int) : Prop := (∀ x ∈ l, mayB x = true ∧ x.1 ≠ no) ∧ l.Pairwise (fun x y => x.1 ≠ y.1)
theorem unlike_iff {l : List Mem'} {no : Int} : unlikeB l no = true ↔ U l no := by
  have hb : ∀ j, j < l.length → (badU l no j = false ↔ (mayB (l.getD j noM) = true ∧ (l.getD j noM).1 ≠ no) ∧ ∀ i, i < j → (l.getD i noM).1 ≠ (l.getD j noM).1) := by
    intro j hj
    unfold badU
    simp only [Bool.or_eq_false_iff, Bool.not_eq_false', decide_eq_false_iff_not]
    constructor
    · rintro ⟨h1, h2, h3⟩
      refine ⟨⟨h1, h2⟩, fun i hi he => ?_⟩
      rw [List.any_eq_false] at h3
      have hm : l.getD i noM ∈ l.take j := by
        have : l.getD i noM = (l.take j)[i]'(by rw [List.length_take]; omega) := by
          have hil : i < l.length := by omega
          simp [hil]
        rw [this]
        exact List.getElem_mem _
      exact h3 _ hm (decide_eq_true he)
    · rintro ⟨⟨h1, h2⟩, h3⟩
      refine ⟨h1, h2, ?_⟩
      rw [List.any_eq_false]
      intro x hx hd
      obtain ⟨i, hi, rfl⟩ := List.getElem_of_mem hx
      rw [List.length_take] at hi
      refine h3 i (by omega) ?_
      have hil : i < l.length := by omega
      have : l.getD i noM = (l.take j)[i]'(by rw [List.length_take]; omega) := by simp [hil]
      rw [this]
      exact decide_eq_true_iff.1 hd
  unfold unlikeB
  rw [Bool.not_eq_true']
  have hg : ∀ j (hj : j < l.length), l.getD j noM = l[j] := fun j hj => by simp [hj]
  constructor
  · intro h
    have h' : ∀ j, j < l.length → badU l no j = false := fun j hj => anyN_false h (by omega) (by omega)
    refine ⟨fun x hx => ?_, List.pairwise_iff_getElem.2 fun i j hi hj hij => ?_⟩
    · obtain ⟨j, hj, rfl⟩ := List.getElem_of_mem hx
      have := ((hb j hj).1 (h' j hj)).1
      rw [hg j hj] at this
      exact this
    · have := ((hb j hj).1 (h' j hj)).2 i hij
      rw [hg j hj, hg i hi] at this
      exact this
  · rintro ⟨h1, h2⟩
    cases hc : anyN (badU l no) l.length 0 with
    | false => rfl
    | true =>
      exfalso
      obtain ⟨j, _, hj, hbad⟩ := anyN_iff.1 hc
      have hj : j < l.length := by omega
      have : badU l no j = false := (hb j hj).2 ⟨by rw [hg j hj]; exact h1 _ (List.getElem_mem hj), fun i hi => by
        rw [hg j hj, hg i (by omega)]
        exact List.pairwise_iff_getElem.1 h2 i j (by omega) hj hi⟩
      rw [this] at hbad
      cases hbad
theorem U.sub {l k : List Mem'} {no : Int} (h : U l no) (hs : List.Sublist k l) : U k no := ⟨fun x hx => h.1 x (hs.subset hx), h.2.sublist hs⟩
theorem U.nil (no : Int) : U [] no := ⟨fun x hx => (List.not_mem_nil hx).elim, List.Pairwise.nil⟩
theorem hasN_iff {l : List Mem'} {no : Int} : hasN l no = true ↔ ∃ x ∈ l, x.1 = no := by
  unfold hasN
  simp [List.any_eq_true]
theorem U.app {l : List Mem'} {no : Int} (h : U l no) {m : Mem'} (hm : mayB m = true) (h1 : m.1 ≠ no) (h2 : hasN l m.1 = false) : U (l ++ [m]) no := by
  refine ⟨fun x hx => ?_, ?_⟩
  · rcases List.mem_append.1 hx with hx | hx
    · exact h.1 x hx
    · rw [List.mem_singleton] at hx
      subst hx
      exact ⟨hm, h1⟩
  · rw [List.pairwise_append]
    refine ⟨h.2, List.pairwise_singleton _ _, fun x hx y hy he => ?_⟩
    rw [List.mem_singleton] at hy
    subst hy
    rw [hasN_iff.2 ⟨x, hx, he⟩] at h2
    cases h2
theorem ded_U (no : Int) : ∀ (r c : List Mem'), (∀ x ∈ r, mayB x = true) → U c no → U (ded no c r) no
  | [], c, _, h => h
  | m :: r, c, hr, h => by
    simp only [ded]
    by_cases h1 : m.1 = no
    · rw [if_pos h1]; exact h
    · rw [if_neg h1]
      cases h2 : hasN c m.1 with
      | true => exact ded_U no r c (fun x hx => hr x (List.mem_cons_of_mem _ hx)) h
      | false => exact ded_U no r (c ++ [m]) (fun x hx => hr x (List.mem_cons_of_mem _ hx)) (h.app (hr m List.mem_cons_self) h1 h2)

/-- which nodes may be -/
structure Rt (n : Node') : Prop where
  self : mayB n.1 = true
  pred : n.2.1 = noneM ∨ (mayB n.2.1 = true ∧ n.2.1.1 ≠ n.1.1)
  one : 1 ≤ n.2.2.1.length
  four : n.2.2.1.length ≤ 4
  succ : n.2.2.1 = [n.1] ∨ U n.2.2.1 n.1.1
  few : n.2.2.2.1.length ≤ 16
  fing : U n.2.2.2.1 n.1.1
theorem right_iff {n : Node'} : rightN n = true ↔ Rt n := by
  unfold rightN predB succsB
  simp only [Bool.and_eq_true, Bool.or_eq_true, decide_eq_true_iff, memB_iff, sameL_iff, unlike_iff, Bool.not_eq_true', decide_eq_false_iff_not]
  constructor
  · rintro ⟨h1, h2, ⟨h3, h4, h5⟩, h6, h7⟩
    exact ⟨h1, h2, h3, h4, h5, h6, h7⟩
  · rintro ⟨h1, h2, h3, h4, h5, h6, h7⟩
    exact ⟨h1, h2, ⟨h3, h4, h5⟩, h6, h7⟩

theorem notify_right {n : Node'} {m : Mem'} (h : rightN n = true) (hm : mayB m = true) : rightN (notifyD n m) = true := by
  unfold notifyD
  split
  · exact h
  · rename_i h1
    split
    · exact rightN_pred n m hm (fun e => h1 (.inl e)) (rightN_bare n h)
    · exact h
theorem notify_self (n : Node') (m : Mem') : (notifyD n m).1 = n.1 := by
  unfold notifyD
  split
  · rfl
  · split <;> rfl
theorem notify_twice (n : Node') (m : Mem') : notifyD (notifyD n m) m = notifyD n m := by
  by_cases h1 : m.1 = n.1.1 ∨ m.2.1 = n.1.2.1
  · have : notifyD n m = n := by unfold notifyD; rw [if_pos h1]
    rw [this, this]
  · by_cases h2 : memB n.2.1 noneM = true ∨ within m.2.1 n.2.1.2.1 n.1.2.1 = true
    · have : notifyD n m = (n.1, m, n.2.2) := by unfold notifyD; rw [if_neg h1, if_pos h2]
      rw [this]
      unfold notifyD
      split
      · rfl
      · split <;> rfl
    · have : notifyD n m = n := by unfold notifyD; rw [if_neg h1, if_neg h2]
      rw [this, this]

theorem follow_right {n s : Node'} (hn : rightN n = true) (hs : rightN s = true) : rightN (followD n s) = true := by
  have h := right_iff.1 hn
  have k := right_iff.1 hs
  have hall := (right_may hs).2
  obtain ⟨g1, g2⟩ := succF_len n (followsL n s)
  refine right_iff.2 ⟨h.self, h.pred, g1, g2, ?_, h.few, h.fing⟩
  show succF n (followsL n s) = [n.1] ∨ U (succF n (followsL n s)) n.1.1
  unfold succF
  split
  · exact .inl rfl
  · refine .inr (U.sub (ded_U n.1.1 _ [] ?_ (U.nil _)) (List.take_sublist _ _))
    have hsl : ∀ x ∈ s.1 :: s.2.2.1, mayB x = true := fun x hx => by
      rcases List.mem_cons.1 hx with rfl | hx
      · exact k.self
      · exact hall x (by simp [hx])
    intro x hx
    cases ha : aheadB' n s with
    | false =>
      rw [ha] at hx
      exact hsl x hx
    | true =>
      rw [ha, if_pos rfl] at hx
      rcases List.mem_cons.1 hx with rfl | hx
      · rcases k.pred with hp | hp
        · unfold aheadB' at ha
          rw [hp, memB_self] at ha
          cases ha
        · exact hp.1
      · exact hsl x hx
theorem gone_self (self : Mem') (nos : List Int) : goneB self.1 nos self = false := by
  unfold goneB
  simp
theorem filter_one (self : Mem') (nos : List Int) : [self].filter (fun m => !goneB self.1 nos m) = [self] := by
  rw [List.filter_cons_of_pos (by rw [gone_self]; rfl)]
  rfl
theorem drop_right {n : Node'} {nos : List Int} (hn : rightN n = true) : rightN (dropD n nos) = true := by
  have h := right_iff.1 hn
  have f1 := List.length_filter_le (fun m => !goneB n.1.1 nos m) n.2.2.1
  have f2 := List.length_filter_le (fun m => !goneB n.1.1 nos m) n.2.2.2.1
  have hx := h.four
  have hy := h.few
  refine right_iff.2 ⟨h.self, ?_, ?_, ?_, ?_, ?_, h.fing.sub List.filter_sublist⟩
  · show predD n nos = noneM ∨ (mayB (predD n nos) = true ∧ (predD n nos).1 ≠ n.1.1)
    unfold predD
    split
    · exact .inl rfl
    · exact h.pred
  · show 1 ≤ (succD n nos).length
    unfold succD
    split
    · simp
    · omega
  · show (succD n nos).length ≤ 4
    unfold succD
    split
    · simp
    · omega
  · show succD n nos = [n.1] ∨ U (succD n nos) n.1.1
    unfold succD
    split
    · exact .inl rfl
    · rcases h.succ with hs | hs
      · left; rw [hs]; exact filter_one n.1 nos
      · exact .inr (hs.sub List.filter_sublist)
  · show (n.2.2.2.1.filter (fun m => !goneB n.1.1 nos m)).length ≤ 16
    omega
theorem filter_twice (p : Mem' → Bool) (l : List Mem') : (l.filter p).filter p = l.filter p := by
  rw [List.filter_filter]
  congr 1
  funext x
  simp
theorem drop_twice (n : Node') (nos : List Int) : dropD (dropD n nos) nos = dropD n nos := by
  have hp : predD (dropD n nos) nos = predD n nos := by
    show (if (!memB (predD n nos) noneM && goneB n.1.1 nos (predD n nos)) = true then noneM else predD n nos) = predD n nos
    by_cases hc : (!memB n.2.1 noneM && goneB n.1.1 nos n.2.1) = true
    · have : predD n nos = noneM := by unfold predD; rw [if_pos hc]
      rw [this, memB_self]
      rfl
    · have : predD n nos = n.2.1 := by unfold predD; rw [if_neg hc]
      rw [this, if_neg hc]
  have hs : succD (dropD n nos) nos = succD n nos := by
    show (if ((succD n nos).filter (fun m => !goneB n.1.1 nos m)).length = 0 then [n.1] else (succD n nos).filter (fun m => !goneB n.1.1 nos m)) = succD n nos
    have : (succD n nos).filter (fun m => !goneB n.1.1 nos m) = succD n nos := by
      unfold succD
      split
      · exact filter_one n.1 nos
      · exact filter_twice _ _
    rw [this]
    have h1 : (succD n nos).length ≠ 0 := by
      unfold succD
      split
      · simp
      · assumption
    rw [if_neg h1]
  show ((dropD n nos).1, predD (dropD n nos) nos, succD (dropD n nos) nos, (n.2.2.2.1.filter (fun m => !goneB n.1.1 nos m)).filter (fun m => !goneB n.1.1 nos m), ()) = dropD n nos
  rw [hp, hs, filter_twice]
  rfl
def pointD (n : Node') (m : Mem') : Node' := if hasN n.2.2.2.1 m.1 = true then n else (n.1, n.2.1, n.2.2.1, n.2.2.2.1 ++ [m], ())
theorem pointN_of {n : Node'} {m : Mem'} (h : (pointN n m).2.1 = 0) : rightN n = true ∧ mayB m = true ∧ m.1 ≠ n.1.1 ∧ (pointN n m).1 = pointD n m ∧ (hasN n.2.2.2.1 m.1 = true ∨ n.2.2.2.1.length ≠ 16) := by
  unfold pointN at h ⊢
  split at h
  · rename_i hc
    rw [if_pos hc]
    refine ⟨hc.1, hc.2.1, hc.2.2, ?_⟩
    unfold pointD hasN
    split at h
    · rename_i h2
      rw [if_pos h2, if_pos h2]
      exact ⟨rfl, .inl h2⟩
    · rename_i h2
      rw [if_neg h2, if_neg h2]
      split at h
      · cases h
      · rename_i h3
        rw [if_neg h3]
        exact ⟨rfl, .inr h3⟩
  · cases h
theorem point_right {n : Node'} {m : Mem'} (h : (pointN n m).2.1 = 0) : rightN (pointD n m) = true ∧ (pointD n m).1 = n.1 := by
  obtain ⟨h1, h2, h3, _, h5⟩ := pointN_of h
  unfold pointD
  cases hh : hasN n.2.2.2.1 m.1 with
  | true => exact ⟨h1, rfl⟩
  | false =>
    have k := right_iff.1 h1
    have h5 := h5.resolve_left (by rw [hh]; decide)
    have hf := k.few
    exact ⟨right_iff.2 ⟨k.self, k.pred, k.one, k.four, k.succ, by show (n.2.2.2.1 ++ [m]).length ≤ 16; rw [List.length_append, List.length_singleton]; omega, k.fing.app h2 h3 hh⟩, rfl⟩
theorem point_twice {n : Node'} {m : Mem'} (h : (pointN n m).2.1 = 0) : pointN (pointD n m) m = (pointD n m, 0, ()) := by
  obtain ⟨h1, h2, h3, _, _⟩ := pointN_of h
  obtain ⟨g1, g2⟩ := point_right h
  have hh : hasN (pointD n m).2.2.2.1 m.1 = true := by
    unfold pointD
    cases hh : hasN n.2.2.2.1 m.1 with
    | true => exact hh
    | false =>
      show hasN (n.2.2.2.1 ++ [m]) m.1 = true
      rw [hasN_app]
      simp
  unfold pointN
  unfold hasN at hh
  rw [if_pos ⟨g1, h2, by rw [g2]; exact h3⟩, if_pos hh]
theorem pointD_len {n : Node'} (m : Mem') : (pointD n m).2.2.1.length = n.2.2.1.length ∧ (pointD n m).2.2.2.1.length ≤ n.2.2.2.1.length + 1 := by
  unfold pointD
  split
  · exact ⟨rfl, by omega⟩
  · exact ⟨rfl, by show (n.2.2.2.1 ++ [m]).length ≤ _; rw [List.length_append, List.length_singleton]; omega⟩
theorem right_len {n : Node'} (h : rightN n = true) : n.2.2.1.length ≤ 4 ∧ n.2.2.2.1.length ≤ 16 := ⟨(right_iff.1 h).four, (right_iff.1 h).few⟩
theorem zero_wrong : rightN zeroN = false := by decide
theorem notify_zero (m : Mem') : notifyN zeroN m = (zeroN, 1, ()) := by rw [notifyN_of, if_neg (by rw [zero_wrong]; simp)]
theorem follow_zero (s : Node') : followN zeroN s = (zeroN, 1, ()) := by unfold followN; rw [if_neg (by rw [zero_wrong]; simp)]
theorem drop_zero (nos : List Int) : dropN zeroN nos = (zeroN, 1, ()) := by unfold dropN; rw [if_neg (by rw [zero_wrong]; simp)]
theorem point_zero (m : Mem') : pointN zeroN m = (zeroN, 1, ()) := by unfold pointN; rw [if_neg (by rw [zero_wrong]; simp)]
theorem point_cases (n : Node') (m : Mem') : pointN n m = (pointD n m, 0, ()) ∧ (pointN n m).2.1 = 0 ∨ pointN n m = (zeroN, 1, ()) ∨ pointN n m = (zeroN, 8, ()) := by
  by_cases h : (pointN n m).2.1 = 0
  · left
    refine ⟨?_, h⟩
    have h4 := (pointN_of h).2.2.2.1
    generalize pointN n m = q at *
    obtain ⟨a, b, ⟨⟩⟩ := q
    simp only at h h4
    rw [h, h4]
  · unfold pointN at h ⊢
    split
    · rename_i hc
      rw [if_pos hc] at h
      split
      · rename_i h2; rw [if_pos h2] at h; exact absurd rfl h
      · rename_i h2
        rw [if_neg h2] at h
        split
        · exact .inr (.inr rfl)
        · rename_i h3; rw [if_neg h3] at h; exact absurd rfl h
    · exact .inr (.inl rfl)

theorem twice9 (n0 s0 : Node') (m : Mem') (nos0 : List Int) : olaw09NodeTwice ((n0, s0, m, nos0, ()), ()) = some ((true, ()), ()) := by
  rw [olaw09NodeTwice_eq, blaw09NodeTwice]
  have e20 : (20 : Int) = ((20 : Nat) : Int) := rfl
  obtain ⟨h1, h2⟩ := fewN_len n0
  obtain ⟨h3, h4⟩ := fewN_len s0
  have hn : (nos0.take 20).length ≤ 20 := by rw [List.length_take]; omega
  simp only [e20, imin_len, ile00, ile_nat, ile_min, dsub_min, cond_true, fewN_eq, bS_some]
  generalize nos0.take 20 = nos at *
  generalize fewN n0 = n at *
  generalize fewN s0 = s at *
  have zl1 : zeroN.2.2.1.length ≤ 900 := by decide
  have zl2 : zeroN.2.2.2.1.length ≤ 900 := by decide
  have a1 := nodeNotify_eq n m (by omega) (by omega)
  have a2 := nodeFollow_eq n s (by omega) (by omega) (by omega) (by omega)
  have a3 := nodeDrop_eq n nos (by omega) (by omega) (by omega)
  have a4 := nodePoint_eq n m (by omega) (by omega)
  have z1 := nodeNotify_eq zeroN m (by omega) (by omega)
  have z2 := nodeFollow_eq zeroN s (by omega) (by omega) (by omega) (by omega)
  have z3 := nodeDrop_eq zeroN nos (by omega) (by omega) (by omega)
  have z4 := nodePoint_eq zeroN m (by omega) (by omega)
  rw [notify_zero] at z1
  rw [follow_zero] at z2
  rw [drop_zero] at z3
  rw [point_zero] at z4
  have n10 : ieq 1 0 = false := rfl
  have n80 : ieq 8 0 = false := rfl
  rw [wlaw09NodeTwicex1000002_eq]
  cases hr : rightN n with
  | false =>
    have b1 : notifyN n m = (zeroN, 1, ()) := by rw [notifyN_of, if_neg (by rw [hr]; simp)]
    have b2 : followN n s = (zeroN, 1, ()) := by unfold followN; rw [if_neg (by rw [hr]; simp)]
    have b3 : dropN n nos = (zeroN, 1, ()) := by unfold dropN; rw [if_neg (by rw [hr]; simp)]
    have b4 : pointN n m = (zeroN, 1, ()) := by unfold pointN; rw [if_neg (by rw [hr]; simp)]
    rw [b1] at a1
    rw [b2] at a2
    rw [b3] at a3
    rw [b4] at a4
    simp only [rlaw09NodeTwicex1000002, a1, a2, a3, a4, z1, z2, z3, z4, bS_some, n10, alive9, isS_some, getS_some, isB_some, getB_some, cond_true, cond_false, bL_inl]
  | true =>
    have rd := drop_right (nos := nos) hr
    have b3 : dropN n nos = (dropD n nos, 0, ()) := by unfold dropN; rw [if_pos hr]
    have c3 : dropN (dropD n nos) nos = (dropD n nos, 0, ()) := by unfold dropN; rw [if_pos rd, drop_twice]
    have l3 := right_len rd
    have d3 := nodeDrop_eq (dropD n nos) nos (by omega) (by omega) (by omega)
    rw [c3] at d3
    rw [b3] at a3
    have k3 := like_s (dropD n nos) (by omega) (by omega)
    have F1 : ∃ v : Node' × Int × Unit, ∃ w : Node' × Int × Unit, onodeNotify ((n, m, ()), ()) = some (v, ()) ∧ onodeNotify ((v.1, m, ()), ()) = some (w, ()) ∧ ((v.2.1 = 0 ∧ w = v ∧ oref09Like ((v.1, v.1, ()), ()) = some ((true, ()), ())) ∨ v.2.1 = 1 ∧ True) := by
      cases hm : mayB m with
      | false =>
        have b1 : notifyN n m = (zeroN, 1, ()) := by rw [notifyN_of, if_neg (by rw [hm]; simp)]
        rw [b1] at a1
        exact ⟨_, _, a1, z1, .inr ⟨rfl, trivial⟩⟩
      | true =>
        have b1 : notifyN n m = (notifyD n m, 0, ()) := by rw [notifyN_of, if_pos ⟨hr, hm⟩]
        have rn := notify_right hr hm
        have ln := right_len rn
        have c1 : notifyN (notifyD n m) m = (notifyD n m, 0, ()) := by rw [notifyN_of, if_pos ⟨rn, hm⟩, notify_twice]
        have d1 := nodeNotify_eq (notifyD n m) m (by omega) (by omega)
        rw [c1] at d1
        rw [b1] at a1
        exact ⟨_, _, a1, d1, .inl ⟨rfl, rfl, like_s (notifyD n m) (by omega) (by omega)⟩⟩
    have F2 : ∃ v : Node' × Int × Unit, ∃ w : Node' × Int × Unit, onodeFollow ((n, s, ()), ()) = some (v, ()) ∧ onodeFollow ((v.1, s, ()), ()) = some (w, ()) ∧ ((v.2.1 = 0 ∧ w = v ∧ oref09Like ((v.1, v.1, ()), ()) = some ((true, ()), ())) ∨ v.2.1 = 1 ∧ True) := by
      cases hs : rightN s with
      | false =>
        have b1 : followN n s = (zeroN, 1, ()) := by unfold followN; rw [if_neg (by rw [hs]; simp)]
        rw [b1] at a2
        exact ⟨_, _, a2, z2, .inr ⟨rfl, trivial⟩⟩
      | true =>
        have b1 : followN n s = (followD n s, 0, ()) := by unfold followN; rw [if_pos ⟨hr, hs⟩]
        have rn := follow_right hr hs
        have ln := right_len rn
        have c1 : followN (followD n s) s = (followD n s, 0, ()) := by unfold followN; rw [if_pos ⟨rn, hs⟩]; rfl
        have d1 := nodeFollow_eq (followD n s) s (by omega) (by omega) (by omega) (by omega)
        rw [c1] at d1
        rw [b1] at a2
        exact ⟨_, _, a2, d1, .inl ⟨rfl, rfl, like_s (followD n s) (by omega) (by omega)⟩⟩
    have F4 : ∃ v : Node' × Int × Unit, ∃ w : Node' × Int × Unit, onodePoint ((n, m, ()), ()) = some (v, ()) ∧ onodePoint ((v.1, m, ()), ()) = some (w, ()) ∧ ((v.2.1 = 0 ∧ w = v ∧ oref09Like ((v.1, v.1, ()), ()) = some ((true, ()), ())) ∨ ieq v.2.1 0 = false ∧ True) := by
      rcases point_cases n m with ⟨b1, b0⟩ | b1 | b1
      · have rn := (point_right b0).1
        have ln := right_len rn
        have d1 := nodePoint_eq (pointD n m) m (by omega) (by omega)
        rw [point_twice b0] at d1
        rw [b1] at a4
        exact ⟨_, _, a4, d1, .inl ⟨rfl, rfl, like_s (pointD n m) (by omega) (by omega)⟩⟩
      · rw [b1] at a4
        exact ⟨_, _, a4, z4, .inr ⟨rfl, trivial⟩⟩
      · rw [b1] at a4
        exact ⟨_, _, a4, z4, .inr ⟨rfl, trivial⟩⟩
    obtain ⟨v1, w1, e1, e1', f1⟩ := F1
    obtain ⟨v2, w2, e2, e2', f2⟩ := F2
    obtain ⟨v4, w4, e4, e4', f4⟩ := F4
    simp only [rlaw09NodeTwicex1000002, e1, e2, a3, e4, bS_some, e1', e2', d3, e4', alive9, isS_some, getS_some]
    rcases f1 with ⟨f1, rfl, g1⟩ | ⟨f1, g1⟩ <;> rcases f2 with ⟨f2, rfl, g2⟩ | ⟨f2, g2⟩ <;> rcases f4 with ⟨f4, rfl, g4⟩ | ⟨f4, g4⟩ <;>
      simp only [f1, f2, f4, ieq_s, n10, g1, g2, g4, k3, isS_some, getS_some, isB_some, getB_some, cond_true, cond_false, bL_inl]

end Am
end Go.Proofs.Ytokamjlhdidefaa
