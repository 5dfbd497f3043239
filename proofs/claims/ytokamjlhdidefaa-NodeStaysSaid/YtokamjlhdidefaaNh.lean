/-
  Nodes: what follows, by the document; the law NodeHears.
-/
import Derived.Test.YtokamjlhdidefaaNg
namespace Go.Proofs.Ytokamjlhdidefaa
namespace Am
open Go Go.RowKit
set_option linter.unusedVariables false
set_option linter.unusedSimpArgs false
set_option maxRecDepth 10000

def hasN (l : List Mem') (no : Int) : Bool := l.any fun m => decide (m.1 = no)
/-- up to the first one of a number, each number once -/
def ded (no : Int) : List Mem' → List Mem' → List Mem'
  | c, [] => c
  | c, m :: r => if m.1 = no then c else if hasN c m.1 = true then ded no c r else ded no (c ++ [m]) r
theorem hasN_app (c : List Mem') (m : Mem') (v : Int) : hasN (c ++ [m]) v = (hasN c v || decide (m.1 = v)) := by
  unfold hasN
  rw [List.any_append]
  simp
theorem ded_twice (no : Int) (x : Mem') (r : List Mem') : ded no [] (x :: x :: r) = ded no [] (x :: r) := by
  simp only [ded]
  by_cases h : x.1 = no
  · simp [h]
  · have : hasN ([] ++ [x]) x.1 = true := by rw [hasN_app]; simp
    have h0 : hasN [] x.1 = false := rfl
    simp only [h, if_false, h0, this, Bool.false_eq_true, if_true]
theorem drop_get {l : List Mem'} {i : Nat} (h : i < l.length) : l.drop i = l.getD i noM :: l.drop (i + 1) := drop_getD' (d := noM) h
theorem has_take {l : List Mem'} {i : Nat} (h : i < l.length) (v : Int) : hasN (l.take (i + 1)) v = (hasN (l.take i) v || decide ((l.getD i noM).1 = v)) := by
  rw [take_getD (d := noM) h, hasN_app]

theorem upTo_loop (l : List Mem') (no : Int) (hl : l.length ≤ 1000) : ∀ (k i : Nat) (c : List Mem'), i + k = l.length → c.length ≤ i → (∀ v, hasN c v = hasN (l.take i) v) →
    ∃ b : Bool, whl (rslicesAppendSeqy3ix1 ((), ())) (((), l, no, l, dlen l, (i : Int), ()), c, (), (), ()) = some (if b then .inl ((), ded no c (l.drop i), (), (), ()) else .inr (.inl ((), ded no c (l.drop i), (), (), ())))
  | 0, i, c, hi, hc, hv => by
    refine ⟨false, whl_inr ?_⟩
    have e : l.drop i = [] := List.drop_of_length_le (by omega)
    simp only [rslicesAppendSeqy3ix1, bifF (ilt_len' (xs := l) (show l.length ≤ i by omega)), e, ded]
    rfl
  | k + 1, i, c, hi, hc, hv => by
    have hil : i < l.length := by omega
    have hd : dsub l 0 (i : Int) = l.take i := dsub_take l i
    have hle : ile (i : Int) (dlen l) = true := by rw [dlen_eq]; exact ile_t.2 (by omega)
    have i00 : ile 0 0 = true := rfl
    rw [drop_get hil]
    simp only [ded]
    by_cases h1 : (l.getD i noM).1 = no
    · refine ⟨true, whl_inr ?_⟩
      simp only [rslicesAppendSeqy3ix1, bifT (ilt_len hil), bifT ile_nat, memget, ieqd, h1, decide_true, cond_true, cond_false, Bool.not_true, if_true]
    · rw [if_neg h1]
      have hcon : ∀ x, oslicesContainsFunc ((l.take i, ((), x, ()), ()), ()) = some ((hasN (l.take i) x, ()), ()) := fun x => contN_eq _ x (by rw [List.length_take]; omega)
      cases h2 : hasN c (l.getD i noM).1 with
      | true =>
        obtain ⟨b, hb⟩ := upTo_loop l no hl k (i + 1) c (by omega) (by omega) (fun v => by
          rw [has_take hil, ← hv]
          by_cases hvv : (l.getD i noM).1 = v
          · rw [← hvv, h2]; rfl
          · rw [decide_eq_false hvv, Bool.or_false])
        refine ⟨b, ?_⟩
        rw [if_pos (show true = true from rfl), ← hb]
        refine whl_inl ?_
        rw [hv] at h2
        simp only [rslicesAppendSeqy3ix1, bifT (ilt_len hil), bifT ile_nat, memget, ieqd, h1, decide_false, cond_true, cond_false, Bool.not_false, i00, ile_nat, hle, onodeOf_eq, bnodeOf, bS_some, hd, hcon, h2, inc_nat (show i < 4611686018427387904 by omega)]
      | false =>
        obtain ⟨b, hb⟩ := upTo_loop l no hl k (i + 1) (c ++ [l.getD i noM]) (by omega) (by simp; omega) (fun v => by rw [has_take hil, hasN_app, hv])
        refine ⟨b, ?_⟩
        rw [if_neg Bool.false_ne_true, ← hb]
        refine whl_inl ?_
        rw [hv] at h2
        simp only [rslicesAppendSeqy3ix1, bifT (ilt_len hil), bifT ile_nat, memget, ieqd, h1, decide_false, cond_true, cond_false, Bool.not_false, i00, ile_nat, hle, onodeOf_eq, bnodeOf, bS_some, hd, hcon, h2, inc_nat (show i < 4611686018427387904 by omega),
          oYslicesAppendSeqy3_eq, bYslicesAppendSeqy3, fits1n (show c.length ≤ 1000 by omega) (show 40 ≤ 1000 by omega), dapp1]
theorem collect_eq (l : List Mem') (no : Int) (hl : l.length ≤ 1000) : oslicesCollect ((((), l, no, ()), ()), ()) = some ((ded no [] l, ()), ()) := by
  obtain ⟨b, hb⟩ := upTo_loop l no hl l.length 0 [] (by omega) (Nat.le_refl _) (fun v => rfl)
  rw [List.drop_zero] at hb
  have hb : whl (rslicesAppendSeqy3ix1 ((), ())) (((), l, no, l, dlen l, 0, ()), [], (), (), ()) = _ := hb
  rw [oslicesCollect_eq, bslicesCollect]
  simp only [oslicesAppendSeq_eq, bslicesAppendSeq, oIslicesAppendSeqy3_eq, bIslicesAppendSeqy3, wslicesAppendSeqy3ix1_eq, hb]
  cases b <;> rfl

theorem ref_loop9 (l : List Mem') (n : Node') (hl : l.length ≤ 1000) (hm : ∀ x ∈ l, 0 ≤ x.1) : ∀ (k i : Nat) (c : List Mem'), i + k = l.length →
    whl rref09Followx9 (((), (), c.take 4, l, dlen l, (i : Int), ()), n, ((0, Id.zero, ()), (0, Id.zero, ()), (), (), ()), (), (), ()) = some (.inl (((), (), (ded n.1.1 c (l.drop i)).take 4, ()), n, ((0, Id.zero, ()), (0, Id.zero, ()), (), (), ()), (), ()))
  | 0, i, c, hi => by
    refine whl_inr ?_
    have e : l.drop i = [] := List.drop_of_length_le (by omega)
    simp only [rref09Followx9, bifF (ilt_len' (xs := l) (show l.length ≤ i by omega)), e, ded]
  | k + 1, i, c, hi => by
    have hil : i < l.length := by omega
    have hx : 0 ≤ (l.getD i noM).1 := by
      have h2 : l.getD i noM = l[i] := by simp [hil]
      rw [h2]; exact hm _ (List.getElem_mem hil)
    rw [drop_get hil]
    simp only [ded]
    by_cases h1 : (l.getD i noM).1 = n.1.1
    · refine whl_inr ?_
      simp only [rref09Followx9, bifT (ilt_len hil), bifT ile_nat, memget, ieqd, h1, decide_true, cond_true, if_true]
    · rw [if_neg h1]
      obtain ⟨r, q1, q2⟩ := find_any (c.take 4) (l.getD i noM).1 hx (by rw [List.length_take]; omega)
      have e4 : ilt (dlen (c.take 4)) 4 = decide (c.length < 4) := by
        rw [dlen_eq, List.length_take, ilt_eq]; congr 1; rw [eq_iff_iff]; omega
      have ih := ref_loop9 l n hl hm k (i + 1)
      have base : ∀ z : Bool, (bif z then (none : Option Bool) else none) = none := fun z => by cases z <;> rfl
      by_cases h4 : c.length < 4
      · have ht : c.take 4 = c := List.take_of_length_le (by omega)
        rw [ht] at q1 q2 e4
        cases h2 : hasN c (l.getD i noM).1 with
        | true =>
          have q3 : ilt r.1 0 = false := by rw [q2]; exact congrArg (!·) h2
          rw [if_pos (show true = true from rfl), ← ih c (by omega)]
          refine whl_inl ?_
          simp only [rref09Followx9, bifT (ilt_len hil), bifT ile_nat, memget, ieqd, h1, decide_false, cond_false, ht, q1, bS_some, q3, inc_nat (show i < 4611686018427387904 by omega)]
        | false =>
          have q3 : ilt r.1 0 = true := by rw [q2]; exact congrArg (!·) h2
          have ht2 : (c ++ [l.getD i noM]).take 4 = c ++ [l.getD i noM] := List.take_of_length_le (by simp; omega)
          rw [if_neg Bool.false_ne_true, ← ih (c ++ [l.getD i noM]) (by omega)]
          refine whl_inl ?_
          simp only [rref09Followx9, bifT (ilt_len hil), bifT ile_nat, memget, ieqd, h1, decide_false, cond_false, cond_true, ht, ht2, q1, bS_some, q3, e4, h4, decide_true, fits1n (show c.length ≤ 1000 by omega) (show 40 ≤ 1000 by omega), dapp1, inc_nat (show i < 4611686018427387904 by omega)]
      · have hc : ∀ d : List Mem', (∃ t, d = c ++ t) → d.take 4 = c.take 4 := by
          rintro d ⟨t, rfl⟩
          rw [List.take_append_of_le_length (by omega)]
        have stay : rref09Followx9 (((), (), c.take 4, l, dlen l, (i : Int), ()), n, ((0, Id.zero, ()), (0, Id.zero, ()), (), (), ()), (), (), ()) = some (.inl (((), (), c.take 4, l, dlen l, ((i + 1 : Nat) : Int), ()), n, ((0, Id.zero, ()), (0, Id.zero, ()), (), (), ()), (), (), ())) := by
          simp only [rref09Followx9, bifT (ilt_len hil), bifT ile_nat, memget, ieqd, h1, decide_false, cond_false, q1, bS_some, e4, h4, inc_nat (show i < 4611686018427387904 by omega)]
          cases ilt r.1 0 <;> rfl
        cases h2 : hasN c (l.getD i noM).1 with
        | true =>
          rw [if_pos (show true = true from rfl), ← ih c (by omega)]
          exact whl_inl stay
        | false =>
          rw [if_neg Bool.false_ne_true, ← ih (c ++ [l.getD i noM]) (by omega), hc (c ++ [l.getD i noM]) ⟨_, rfl⟩]
          exact whl_inl stay

/-- one ahead of the one that follows -/
noncomputable def aheadB' (n s : Node') : Bool := !memB s.2.1 noneM && (!decide (s.2.1.1 = n.1.1) && between s.2.1.2.1 n.1.2.1 s.1.2.1)
noncomputable def followsL (n s : Node') : List Mem' := ded n.1.1 [] (if aheadB' n s = true then s.2.1 :: s.1 :: s.2.2.1 else s.1 :: s.2.2.1)
def succF (n : Node') (l : List Mem') : List Mem' := if l.length = 0 then [n.1] else l.take 4
noncomputable def followD (n s : Node') : Node' := (n.1, n.2.1, succF n (followsL n s), n.2.2.2)
noncomputable def followN (n s : Node') : Node' × Int × Unit := if rightN n = true ∧ rightN s = true then (followD n s, 0, ()) else (zeroN, 1, ())
theorem dsub_min4 (l : List Mem') : dsub l 0 (imin (dlen l) 4) = l.take 4 := by
  rw [show (4 : Int) = ((4 : Nat) : Int) from rfl, imin_len]
  exact dsub_min l 4
theorem ded_len (no : Int) : ∀ (r c : List Mem'), (ded no c r).length ≤ c.length + r.length
  | [], c => by simp [ded]
  | m :: r, c => by
    simp only [ded]
    split
    · omega
    · split
      · have := ded_len no r c
        rw [List.length_cons]; omega
      · have := ded_len no r (c ++ [m])
        rw [List.length_append, List.length_singleton] at this
        rw [List.length_cons]; omega
theorem follow7 (n : Node') (l : List Mem') (h : l.length ≤ 1000) : wnodeFollowx1000007 (((), (), l, ()), n, ((0, Id.zero, ()), (0, Id.zero, ()), (), (), ()), ()) = some (.inl (((), 0, ()), (n.1, n.2.1, succF n l, n.2.2.2), ())) := by
  rw [wnodeFollowx1000007_eq]
  have e4 : (4 : Int) = ((4 : Nat) : Int) := rfl
  have i1 : ile 0 (imin (dlen l) 4) = true := by rw [e4, imin_len]; exact ile_nat
  have i2 : ile (imin (dlen l) 4) (dlen l) = true := by rw [e4, imin_len]; exact ile_min l 4
  have i00 : ile 0 0 = true := rfl
  simp only [rnodeFollowx1000007, i00, i1, i2, cond_true, len0e, dsub_min4]
  unfold succF
  by_cases h0 : l.length = 0
  · simp only [h0, decide_true, cond_true, if_true]
  · simp only [h0, decide_false, cond_false, if_false]
theorem follow6 (n s : Node') (x : Mem') (h : s.2.2.1.length ≤ 900) : wnodeFollowx1000006 (((), (), (), (), ()), n, s, ((0, Id.zero, ()), (0, Id.zero, ()), (), (), ()), x, ()) = some (.inl (((), 0, ()), (n.1, n.2.1, succF n (ded n.1.1 [] (x :: s.1 :: s.2.2.1)), n.2.2.2), ())) := by
  rw [wnodeFollowx1000006_eq]
  have hlen : (ded n.1.1 [] ([x, s.1] ++ s.2.2.1)).length ≤ 1000 := by
    have := ded_len n.1.1 ([x, s.1] ++ s.2.2.1) []
    simp at this ⊢; omega
  simp only [rnodeFollowx1000006, concat_eq [x, s.1] s.2.2.1 (by simp; omega), bS_some, onodeUpTo_eq, bnodeUpTo, collect_eq ([x, s.1] ++ s.2.2.1) n.1.1 (by simp; omega), follow7 n _ hlen, bL_inl]
  rfl
theorem follow4 (n s : Node') (h : s.2.2.1.length ≤ 900) : wnodeFollowx1000004 (((), (), (), (), (), ()), n, s, ((0, Id.zero, ()), (0, Id.zero, ()), (), (), ()), s.1, s.2.1, ()) = some (.inl (((), 0, ()), followD n s, ())) := by
  rw [wnodeFollowx1000004_eq]
  have hb : (bif isS (onodeNone ((), ())) then bif (bif bif ieq s.2.1.1 (getS (onodeNone ((), ()))).1.1.1 then bif ideq s.2.1.2.1 (getS (onodeNone ((), ()))).1.1.2.1 then true else false else false then false else true) then bif (bif ieq s.2.1.1 n.1.1 then false else true) then bif (bif ideq s.2.1.2.1 n.1.2.1 then false else true) then bif (bif ideq s.2.1.2.1 s.1.2.1 then false else true) then bif isS (oidentIn ((s.2.1.2.1, n.1.2.1, s.1.2), ())) then some (getS (oidentIn ((s.2.1.2.1, n.1.2.1, s.1.2), ()))).1.1 else none else some false else some false else some false else some false else none) = some (aheadB' n s) := by
    simp only [nodeNone_eq, isS_some, getS_some, cond_true, memEq', identIn_m]
    unfold aheadB' between
    rw [ieqd]
    cases memB s.2.1 noneM <;> by_cases h1 : s.2.1.1 = n.1.1 <;> by_cases h2 : s.2.1.2.1 = n.1.2.1 <;> by_cases h3 : s.2.1.2.1 = s.1.2.1 <;> simp [h1, h2, h3, ideq]
  simp only [rnodeFollowx1000004]
  rw [hb]
  simp only [isB_some, getB_some, cond_true, follow6 n s _ h, bL_inl]
  unfold followD followsL
  cases aheadB' n s with
  | true => rfl
  | false => simp only [cond_false, Bool.false_eq_true, if_false, ded_twice]
theorem nodeFollow_eq (n s : Node') (h1 : n.2.2.1.length ≤ 900) (h2 : n.2.2.2.1.length ≤ 900) (h3 : s.2.2.1.length ≤ 900) (h4 : s.2.2.2.1.length ≤ 900) : onodeFollow ((n, s, ()), ()) = some (followN n s, ()) := by
  rw [onodeFollow_eq, bnodeFollow]
  simp only [nodeRight_eq n (by omega) (by omega), nodeRight_eq s (by omega) (by omega), isS_some, getS_some, cond_true]
  unfold followN
  cases rightN n with
  | false => rfl
  | true =>
    cases rightN s with
    | false => rfl
    | true =>
      simp only [Bool.not_true, cond_false, isB_some, getB_some, cond_true, follow4 n s h3, bL_inl]
      rfl
theorem refBetween_m (x a : Id) (m : Mem') : oref08Between ((x, a, m.snd), ()) = some ((between x a m.2.1, ()), ()) := ref08Between_eq x a m.2.1
theorem ref9_out (n : Node') (l : List Mem') (hl : l.length ≤ 1000) (hm : ∀ x ∈ l, 0 ≤ x.1) : whl rref09Followx9 (((), (), [], l, dlen l, 0, ()), n, ((0, Id.zero, ()), (0, Id.zero, ()), (), (), ()), (), (), ()) = some (.inl (((), (), (ded n.1.1 [] l).take 4, ()), n, ((0, Id.zero, ()), (0, Id.zero, ()), (), (), ()), (), ())) := ref_loop9 l n hl hm l.length 0 [] (by omega)
theorem tail9 (n : Node') (l : List Mem') : (bif ieq (dlen (l.take 4)) 0 then bif fits (dlen (l.take 4)) ((1 : Int)) 40 then some (((n.1, n.2.1, dapp (l.take 4) [n.1], n.2.2.2), ()), ()) else none else some (((n.1, n.2.1, l.take 4, n.2.2.2), ()), ())) = some (((n.1, n.2.1, succF n l, n.2.2.2), ()), ()) := by
  rw [len0e, fits1n (show (l.take 4).length ≤ 1000 by rw [List.length_take]; omega) (show 40 ≤ 1000 by omega), dapp1]
  unfold succF
  by_cases h : l.length = 0
  · have : l = [] := List.length_eq_zero_iff.1 h
    subst this
    rfl
  · have h2 : (l.take 4).length ≠ 0 := by rw [List.length_take]; omega
    simp only [h, h2, decide_false, cond_false, if_false]
theorem refFollow_eq (n s : Node') (h3 : s.2.2.1.length ≤ 900) (hs : rightN s = true) : oref09Follow ((n, s, ()), ()) = some ((followD n s, ()), ()) := by
  have hall := (right_may hs).2
  have hself : mayB s.1 = true := by
    unfold rightN at hs
    simp only [Bool.and_eq_true] at hs
    exact hs.1
  have pos : ∀ {m : Mem'}, mayB m = true → 0 ≤ m.1 := by
    intro m h
    unfold mayB at h
    simp only [Bool.and_eq_true, decide_eq_true_iff] at h
    exact h.1
  have hp : memB s.2.1 noneM = false → 0 ≤ s.2.1.1 := by
    intro h
    unfold rightN at hs
    simp only [Bool.and_eq_true] at hs
    have := hs.2.1
    unfold predB at this
    rw [h] at this
    simp only [Bool.false_or, Bool.and_eq_true] at this
    exact pos this.1
  have hsl : ∀ x ∈ s.1 :: s.2.2.1, 0 ≤ x.1 := fun x hx => by
    rcases List.mem_cons.1 hx with rfl | hx
    · exact pos hself
    · exact pos (hall x (by simp [hx]))
  have f0 : fits 0 (1 : Int) 40 = true := rfl
  have fA : ∀ k : List Mem', k.length ≤ 10 → fits (dlen k) (dlen s.2.2.1) 40 = true := fun k hk => fits_of (by omega) (by omega)
  have d1 : ∀ x : Mem', dapp [] [x] = [x] := fun x => rfl
  have d2 : ∀ x y : Mem', dapp [x] [y] = [x, y] := fun x y => rfl
  have d3 : ∀ (x : Mem') (l : List Mem'), dapp [x] l = x :: l := fun x l => rfl
  have d4 : ∀ (x y : Mem') (l : List Mem'), dapp [x, y] l = x :: y :: l := fun x y l => rfl
  rw [oref09Follow_eq, bref09Follow]
  simp only [refNone_eq, bS_some, refBetween_m, f0, cond_true, d1, d2, d3, d4, fA [s.1] (by simp), fA [s.2.1, s.1] (by simp), fits1n (show [s.2.1].length ≤ 1000 by simp) (show 40 ≤ 1000 by omega), wref09Followx9_eq, ref9_out n (s.1 :: s.2.2.1) (by simp; omega) hsl, bL_inl, tail9]
  unfold followD followsL aheadB'
  rw [ieqd]
  cases hn : memB s.2.1 noneM with
  | true => rfl
  | false =>
    by_cases h1 : s.2.1.1 = n.1.1
    · simp only [h1, decide_true, Bool.not_true, Bool.not_false, cond_true, cond_false, Bool.false_and, Bool.and_false, Bool.false_eq_true, if_false]
    · cases hb : between s.2.1.2.1 n.1.2.1 s.1.2.1 with
      | false => simp only [h1, decide_false, Bool.not_false, cond_true, cond_false, Bool.and_false, Bool.false_eq_true, if_false]
      | true =>
        have := ref9_out n (s.2.1 :: s.1 :: s.2.2.1) (by simp; omega) (fun x hx => by
          rcases List.mem_cons.1 hx with rfl | hx
          · exact hp hn
          · exact hsl x hx)
        simp only [h1, decide_false, Bool.not_false, cond_true, cond_false, Bool.and_self, if_true, this, bL_inl, tail9]
theorem refNotify_eq (n : Node') (m : Mem') : oref09Notify ((n, m, ()), ()) = some (((if m.1 = n.1.1 ∨ m.2.1 = n.1.2.1 then n else if memB n.2.1 noneM = true ∨ within m.2.1 n.2.1.2.1 n.1.2.1 = true then (n.1, m, n.2.2) else n), ()), ()) := by
  rw [oref09Notify_eq, bref09Notify]
  simp only [refNone_eq, bS_some, refIn_m, ieqd]
  by_cases h1 : m.1 = n.1.1
  · simp [h1]
  · by_cases h2 : m.2.1 = n.1.2.1
    · simp [h1, h2, ideq]
    · cases memB n.2.1 noneM <;> cases within m.2.1 n.2.1.2.1 n.1.2.1 <;> simp [h1, h2, ideq]

noncomputable def notifyD (n : Node') (m : Mem') : Node' := if m.1 = n.1.1 ∨ m.2.1 = n.1.2.1 then n else if memB n.2.1 noneM = true ∨ within m.2.1 n.2.1.2.1 n.1.2.1 = true then (n.1, m, n.2.2) else n
theorem notifyD_rest (n : Node') (m : Mem') : (notifyD n m).2.2 = n.2.2 := by
  unfold notifyD
  split
  · rfl
  · split <;> rfl
theorem succF_len (n : Node') (l : List Mem') : 1 ≤ (succF n l).length ∧ (succF n l).length ≤ 4 := by
  unfold succF
  split
  · simp
  · rw [List.length_take]; omega
theorem notifyN_of (n : Node') (m : Mem') : notifyN n m = if rightN n = true ∧ mayB m = true then (notifyD n m, 0, ()) else (zeroN, 1, ()) := by
  unfold notifyN
  cases rightN n <;> cases mayB m <;> rfl
theorem hears9 (n0 s0 : Node') (m : Mem') : olaw09NodeHears ((n0, s0, m, ()), ()) = some ((true, ()), ()) := by
  rw [olaw09NodeHears_eq, blaw09NodeHears]
  obtain ⟨h1, h2⟩ := fewN_len n0
  obtain ⟨h3, h4⟩ := fewN_len s0
  simp only [fewN_eq, bS_some]
  generalize fewN n0 = n at *
  generalize fewN s0 = s at *
  have k1 := nodeNotify_eq n m (by omega) (by omega)
  have k2 := nodeFollow_eq n s (by omega) (by omega) (by omega) (by omega)
  have k3 := refRight_eq n (by omega) (by omega)
  have k4 := refRight_eq s (by omega) (by omega)
  have k5 : oref09Notify ((n, m, ()), ()) = some ((notifyD n m, ()), ()) := refNotify_eq n m
  rw [notifyN_of] at k1
  unfold followN at k2
  have hr := notifyD_rest n m
  have l1 := like_s (notifyD n m) (by rw [hr]; omega) (by rw [hr]; omega)
  have l2 := like_s (followD n s) (by have := (succF_len n (followsL n s)).2; show (succF n (followsL n s)).length ≤ _; omega) (by show n.2.2.2.1.length ≤ _; omega)
  simp only [wlaw09NodeHearsx1000002_eq, rlaw09NodeHearsx1000002, k1, k2, k3, k4, k5, bS_some, alive9, lawMay_eq, cond_true, cond_false]
  cases hn : rightN n with
  | false =>
    simp only [Bool.false_eq_true, false_and, if_false, ieq_s, zero_like, isS_some, getS_some, isB_some, getB_some, cond_true, cond_false, bL_inl]
  | true =>
    cases hm : mayB m with
    | false =>
      cases hs : rightN s with
      | false => simp only [Bool.false_eq_true, and_false, if_false, ieq_s, zero_like, isS_some, getS_some, isB_some, getB_some, cond_true, cond_false, bL_inl, bS_some]
      | true => simp only [Bool.false_eq_true, and_false, and_self, if_false, if_true, ieq_s, zero_like, isS_some, getS_some, isB_some, getB_some, cond_true, cond_false, bL_inl, bS_some, refFollow_eq n s (by omega) hs, l2]
    | true =>
      cases hs : rightN s with
      | false => simp only [Bool.false_eq_true, and_false, and_self, if_false, if_true, ieq_s, zero_like, isS_some, getS_some, isB_some, getB_some, cond_true, cond_false, bL_inl, bS_some, l1]
      | true => simp only [and_self, if_true, ieq_s, zero_like, isS_some, getS_some, isB_some, getB_some, cond_true, cond_false, bL_inl, bS_some, l1, refFollow_eq n s (by omega) hs, l2]

end Am
end Go.Proofs.Ytokamjlhdidefaa
