/-
  Tables: table.Match, and the document's.
-/
import Derived.Test.YtgdgiihaakcmpaaTb
namespace Go.Proofs.Ytgdgiihaakcmpaa
namespace Am
open Go Go.RowKit
set_option linter.unusedVariables false

theorem com_ex (a b : Id) : ∃ n, IsCom a b n := by obtain ⟨n, hn, _⟩ := identCommon_eq a b; exact ⟨n, hn⟩
noncomputable def com (a b : Id) : Nat := Classical.choose (com_ex a b)
theorem com_is (a b : Id) : IsCom a b (com a b) := Classical.choose_spec (com_ex a b)
theorem com_le (a b : Id) : com a b ≤ 256 := (com_is a b).1
theorem identCommon_com (a b : Id) : oidentCommon ((a, b, ()), ()) = some ((((com a b : Nat) : Int), ()), ()) := by
  obtain ⟨n, hn, h⟩ := identCommon_eq a b
  rw [h, hn.uniq (com_is a b)]
theorem ref01Common_com (a b : Id) : oref01Common ((a, b, ()), ()) = some ((((com a b : Nat) : Int), ()), ()) := by
  obtain ⟨n, hn, h⟩ := ref01Common_eq a b
  rw [h, hn.uniq (com_is a b)]

/-- the likest one so far -/
noncomputable def likeT (id : Id) (x : Trg) (s : Int × Id) : Int × Id := if s.1 < (com x.1 id : Int) then ((com x.1 id : Int), x.1) else s
noncomputable def pickT (id : Id) (t : List Trg) : Int × Id := t.foldl (fun s x => likeT id x s) (127, Id.zero)
/-- the triggers of an identifier -/
noncomputable def ofT (t : List Trg) (i : Id) : List Trg := t.filter (fun x => decide (x.1 = i))
noncomputable def matchT (id : Id) (t : List Trg) : List Trg × Int := if (pickT id t).1 < 128 then ([], 6) else (ofT t (pickT id t).2, 0)

theorem dapp1 {α : Type} (xs ys : List α) : dapp xs ys = xs ++ ys := rfl
theorem fits1 {α : Type} (xs : List α) (b : Nat) (h : (xs.length + 1) * b ≤ 140737488355328) (h2 : xs.length + 1 ≤ 4611686018427387903) : fits (dlen xs) (1 : Int) b = true := by
  have := fits_of (xs := xs) (ys := [()]) (b := b) (by simpa using h) (by simpa using h2)
  exact this
theorem ofT_snoc (t : List Trg) (x : Trg) (i : Id) : ofT (t ++ [x]) i = if x.1 = i then ofT t i ++ [x] else ofT t i := by
  unfold ofT
  rw [List.filter_append]
  by_cases h : x.1 = i <;> simp [h]
def notT (t : List Trg) (i : Id) : List Trg := t.filter (fun x => !decide (x.1 = i))
theorem notT_snoc (t : List Trg) (x : Trg) (i : Id) : notT (t ++ [x]) i = if x.1 = i then notT t i else notT t i ++ [x] := by
  unfold notT
  rw [List.filter_append]
  by_cases h : x.1 = i <;> simp [h]
theorem tableMatch1_eq (x : Trg) (i : Id) : otableMatch_1 ((x, i, ()), ()) = some ((decide (x.1 = i), ()), ()) := by
  rw [otableMatch_1_eq, btableMatch_1]; rfl
theorem parted_eq (t : List Trg) (i : Id) (hl : t.length ≤ 1000) : otableParted ((t, ((), (i, ())), ()), ()) = some ((ofT t i, notT t i, ()), ()) := by
  rw [otableParted_eq, btableParted]
  simp only [wtablePartedx2_eq]
  have h := whl_up (g := rtablePartedx2) (fun k => ((((), (i, ())), ofT (t.take k) i, notT (t.take k) i, t, dlen t, (k : Int), ()), (), (), ())) (.inl ((ofT t i, notT t i, ()), ())) t.length
    (by
      simp only [rtablePartedx2, bifF (ilt_len' (xs := t) (Nat.le_refl _)), List.take_length])
    (fun k hk => by
      have l1 : (ofT (t.take k) i).length ≤ 1000 := by
        refine Nat.le_trans (List.length_filter_le _ _) ?_
        rw [List.length_take]; omega
      have l2 : (notT (t.take k) i).length ≤ 1000 := by
        refine Nat.le_trans (List.length_filter_le _ _) ?_
        rw [List.length_take]; omega
      simp only [rtablePartedx2, bifT (ilt_len hk), bifT ile_nat, trgget, tableMatch1_eq, bS_some, fits1 (ofT (t.take k) i) 88 (by omega) (by omega), fits1 (notT (t.take k) i) 88 (by omega) (by omega), cond_true, inc_nat (show k < 4611686018427387904 by omega), dapp1]
      rw [take_getD (d := noT) hk, ofT_snoc, notT_snoc]
      by_cases h : (t.getD k noT).1 = i
      · simp only [h, decide_true, cond_true, if_true]
      · simp only [h, decide_false, cond_false, if_false]) t.length 0 (by omega)
  have h : whl rtablePartedx2 ((((), i, ()), [], [], t, dlen t, 0, ()), (), (), ()) = _ := h
  rw [h]; rfl
theorem tableMatch_eq (t : List Trg) (id : Id) (hl : t.length ≤ 1000) (hr : rightT t = true) : otableMatch ((t, id, ()), ()) = some (((matchT id t).1, (matchT id t).2, ()), ()) := by
  rw [otableMatch_eq, btableMatch]
  simp only [tableRight_eq t (by omega), hr, bS_some, cond_true, cond_false, wtableMatchx5_eq]
  have h := whl_goL (g := rtableMatchx5) (t := trgT) (xs := t) (fun i (s : Int × Id) => ((t, (), s.1, (), t, dlen t, i, ()), id, s.2, ())) (fun x s => .inl (likeT id x s)) (fun s => .inl ((t, s.1, (), ()), s.2, ())) (by omega)
    (fun i s hi => by simp only [rtableMatchx5, bifF hi])
    (fun i s hi h0 => by
      simp only [rtableMatchx5, bifT hi, bifT h0, identCommon_com, bS_some, likeT]
      simp only [ilt_eq]
      by_cases hc : s.1 < (com (dget trgT t i).1 id : Int)
      · simp only [hc, decide_true, cond_true, if_true]
      · simp only [hc, decide_false, cond_false, if_false]) (127, Id.zero)
  rw [goL_fold (likeT id) (fun s => Sum.inl ((t, s.1, (), ()), s.2, ()))] at h
  have h : whl rtableMatchx5 ((t, (), 127, (), t, dlen t, 0, ()), id, Id.zero, ()) = some (.inl ((t, (pickT id t).1, (), ()), (pickT id t).2, ())) := h
  rw [h]
  simp only [bL_inl, ilt_eq, matchT]
  by_cases hp : (pickT id t).1 < 128
  · simp only [hp, decide_true, cond_true, if_true]
  · simp only [hp, decide_false, cond_false, if_false, parted_eq t _ hl, bS_some]

/-- those that have just n bits in common, of the first one's identifier -/
noncomputable def outN (id : Id) (n : Int) (l : List Trg) : List Trg := match l.find? (fun x => decide ((com x.1 id : Int) = n)) with | none => [] | some f => ofT l f.1
theorem find_snoc {α : Type} (p : α → Bool) (l : List α) (x : α) : (l ++ [x]).find? p = match l.find? p with | some y => some y | none => if p x = true then some x else none := by
  rw [List.find?_append]
  cases l.find? p with
  | some y => rfl
  | none => by_cases h : p x = true <;> simp [h]
theorem ofT_nil_of {id : Id} {n : Int} {l : List Trg} (h : l.find? (fun x => decide ((com x.1 id : Int) = n)) = none) {x : Trg} (hx : (com x.1 id : Int) = n) : ofT l x.1 = [] := by
  rw [List.find?_eq_none] at h
  unfold ofT
  rw [List.filter_eq_nil_iff]
  intro y hy e
  have := h y hy
  simp only [decide_eq_true_iff] at this e
  rw [e] at this
  exact this hx
theorem ofT_ne {l : List Trg} {f : Trg} (h : f ∈ l) : ofT l f.1 ≠ [] := by
  intro e
  unfold ofT at e
  rw [List.filter_eq_nil_iff] at e
  exact e f h (by simp)
theorem ofT_all {l : List Trg} {i : Id} : ∀ y ∈ ofT l i, y.1 = i := by
  intro y hy
  unfold ofT at hy
  simpa using (List.mem_filter.1 hy).2
theorem outN_snoc (id : Id) (n : Int) (l : List Trg) (x : Trg) : outN id n (l ++ [x]) = if (com x.1 id : Int) = n ∧ (outN id n l = [] ∨ ((outN id n l).getD 0 noT).1 = x.1) then outN id n l ++ [x] else outN id n l := by
  unfold outN
  rw [find_snoc]
  cases hf : l.find? (fun x => decide ((com x.1 id : Int) = n)) with
  | none =>
    simp only
    by_cases hx : (com x.1 id : Int) = n
    · simp only [hx, decide_true, if_true, true_and, true_or]
      rw [ofT_snoc, if_pos rfl, ofT_nil_of hf hx]
    · simp [hx]
  | some f =>
    simp only
    have hm := List.mem_of_find?_eq_some hf
    have hp := List.find?_some hf
    simp only [decide_eq_true_iff] at hp
    have hne := ofT_ne hm
    have h0 : ((ofT l f.1).getD 0 noT).1 = f.1 := by
      cases hc : ofT l f.1 with
      | nil => exact absurd hc hne
      | cons a r =>
        have := ofT_all (l := l) (i := f.1) a (by rw [hc]; simp)
        simpa using this
    rw [ofT_snoc, h0]
    by_cases hx : x.1 = f.1
    · rw [if_pos hx, if_pos ⟨by rw [hx]; exact hp, .inr hx.symm⟩]
    · rw [if_neg hx, if_neg (by rintro ⟨_, h | h⟩; exact hne h; exact hx h.symm)]
theorem inner_eq (t : List Trg) (id : Id) (n : Int) (hl : t.length ≤ 1000) : whl rref12Matchx6 ((t, (), [], n, t, dlen t, 0, ()), id, (), ()) = some (.inl ((t, (), outN id n t, n, ()), id, (), ())) := by
  refine whl_up (g := rref12Matchx6) (fun k => ((t, (), outN id n (t.take k), n, t, dlen t, (k : Int), ()), id, (), ())) (.inl ((t, (), outN id n t, n, ()), id, (), ())) t.length
    (by simp only [rref12Matchx6, bifF (ilt_len' (xs := t) (Nat.le_refl _)), List.take_length])
    (fun k hk => ?_) t.length 0 (by omega)
  have l1 : (outN id n (t.take k)).length ≤ 1000 := by
    unfold outN
    split
    · simp
    · refine Nat.le_trans (List.length_filter_le _ _) ?_
      rw [List.length_take]; omega
  rw [take_getD (d := noT) hk, outN_snoc]
  generalize hO : outN id n (t.take k) = O at *
  have g0 : dget (Ty.id.pair (((Ty.int IntKind.i64).pair (Ty.id.pair ((Ty.int IntKind.i64).pair Ty.unit))).pair ((Ty.int IntKind.i64).pair Ty.unit))) O 0 = O.getD 0 noT := trgget O 0
  simp only [rref12Matchx6, bifT (ilt_len hk), bifT ile_nat, trgget, ref01Common_com, bS_some, fits1 O 88 (by omega) (by omega), cond_true, inc_nat (show k < 4611686018427387904 by omega), dapp1, g0, ieq_d, ideq_d, bifNot]
  by_cases hx : (com (t.getD k noT).1 id : Int) = n
  · simp only [hx, decide_true, cond_true, true_and]
    cases O with
    | nil => rfl
    | cons a r =>
      have e1 : decide (dlen (a :: r) = 0) = false := decide_eq_false (by rw [dlen_eq, List.length_cons]; omega)
      have e2 : (bif ile 0 0 then ilt 0 (dlen (a :: r)) else false) = true := by
        rw [ile00, cond_true, ilt_t, dlen_eq, List.length_cons]; omega
      simp only [e1, Bool.not_false, cond_true, e2]
      by_cases h2 : ((a :: r).getD 0 noT).1 = (t.getD k noT).1
      · simp only [h2, decide_true, cond_true, or_true, if_true]
      · simp only [h2, decide_false, cond_false, or_false]
        rw [if_neg (by simp)]
  · simp only [hx, decide_false, cond_false, false_and, if_false]
theorem pick_inv (id : Id) (t : List Trg) : ((pickT id t).1 = 127 ∧ ∀ x ∈ t, (com x.1 id : Int) ≤ 127) ∨ (128 ≤ (pickT id t).1 ∧ (pickT id t).1 ≤ 256 ∧ (∀ x ∈ t, (com x.1 id : Int) ≤ (pickT id t).1) ∧ ∃ f, t.find? (fun x => decide ((com x.1 id : Int) = (pickT id t).1)) = some f ∧ f.1 = (pickT id t).2) := by
  have key : ∀ (r : List Trg), ((pickT id r.reverse).1 = 127 ∧ ∀ x ∈ r.reverse, (com x.1 id : Int) ≤ 127) ∨ (128 ≤ (pickT id r.reverse).1 ∧ (pickT id r.reverse).1 ≤ 256 ∧ (∀ x ∈ r.reverse, (com x.1 id : Int) ≤ (pickT id r.reverse).1) ∧ ∃ f, r.reverse.find? (fun x => decide ((com x.1 id : Int) = (pickT id r.reverse).1)) = some f ∧ f.1 = (pickT id r.reverse).2) := by
    intro r
    induction r with
    | nil => left; exact ⟨rfl, by simp⟩
    | cons x r ih =>
      rw [List.reverse_cons]
      generalize r.reverse = l at *
      have hstep : pickT id (l ++ [x]) = likeT id x (pickT id l) := by
        unfold pickT; rw [List.foldl_append]; rfl
      rw [hstep]
      unfold likeT
      have hc := com_le x.1 id
      by_cases hlt : (pickT id l).1 < (com x.1 id : Int)
      · rw [if_pos hlt]
        have hall : ∀ y ∈ l, (com y.1 id : Int) ≤ (pickT id l).1 := by
          rcases ih with ⟨h1, h2⟩ | ⟨_, _, h2, _⟩
          · rw [h1]; exact h2
          · exact h2
        have hge : 127 ≤ (pickT id l).1 := by
          rcases ih with ⟨h1, _⟩ | ⟨h1, _⟩ <;> omega
        right
        refine ⟨by simp only; omega, by simp only; omega, ?_, x, ?_, rfl⟩
        · intro y hy
          rcases List.mem_append.1 hy with hy | hy
          · have := hall y hy; simp only; omega
          · simp only [List.mem_singleton] at hy; subst hy; simp
        · rw [find_snoc]
          have hn : l.find? (fun y => decide ((com y.1 id : Int) = (com x.1 id : Int))) = none := by
            rw [List.find?_eq_none]
            intro y hy
            have := hall y hy
            simp only [decide_eq_true_iff]; omega
          rw [hn]; simp
      · rw [if_neg hlt]
        rcases ih with ⟨h1, h2⟩ | ⟨h1, h1', h2, f, h3, h4⟩
        · left
          refine ⟨h1, fun y hy => ?_⟩
          rcases List.mem_append.1 hy with hy | hy
          · exact h2 y hy
          · simp only [List.mem_singleton] at hy; subst hy; omega
        · right
          refine ⟨h1, h1', fun y hy => ?_, f, ?_, h4⟩
          · rcases List.mem_append.1 hy with hy | hy
            · exact h2 y hy
            · simp only [List.mem_singleton] at hy; subst hy; omega
          · rw [find_snoc, h3]
  have := key t.reverse
  rwa [List.reverse_reverse] at this
theorem outN_none {id : Id} {n : Int} {t : List Trg} (h : ∀ x ∈ t, (com x.1 id : Int) ≠ n) : outN id n t = [] := by
  unfold outN
  have : t.find? (fun x => decide ((com x.1 id : Int) = n)) = none := by
    rw [List.find?_eq_none]; intro y hy; simp [h y hy]
  rw [this]
theorem outer_step (t : List Trg) (id : Id) (n : Nat) (hn : 128 ≤ n) (hn2 : n ≤ 256) (hl : t.length ≤ 1000) : rref12Matchx3 ((t, (), [], (n : Int), ()), id, (), ()) = if outN id n t = [] then some (.inl ((t, (), [], ((n - 1 : Nat) : Int), ()), id, (), ())) else some (.inr (.inr (.inl ((outN id n t, ()), (), ())))) := by
  have h1 : ile 128 (n : Int) = true := ile_t.2 (by omega)
  simp only [rref12Matchx3, h1, cond_true, wref12Matchx6_eq, inner_eq t id n hl, bL_inl, dec_nat (show 0 < n by omega) (show n < 4611686018427387904 by omega)]
  cases hO : outN id n t with
  | nil => rfl
  | cons a r =>
    have e2 : ilt 0 (dlen (a :: r)) = true := by rw [ilt_t, dlen_eq, List.length_cons]; omega
    rw [e2, if_neg (by simp)]
    rfl
theorem ref12Match_eq (t : List Trg) (id : Id) (hl : t.length ≤ 1000) : oref12Match ((t, id, ()), ()) = some (((matchT id t).1, ()), ()) := by
  rw [oref12Match_eq, bref12Match]
  simp only [wref12Matchx3_eq]
  have key : ∀ (m n : Nat), n = 127 + m → n ≤ 256 → (∀ x ∈ t, (com x.1 id : Int) ≤ n) →
      whl rref12Matchx3 ((t, (), [], (n : Int), ()), id, (), ()) = some (if (matchT id t).1 = [] then .inl (([], ()), (), ()) else .inr (.inl (((matchT id t).1, ()), (), ()))) := by
    intro m
    induction m with
    | zero =>
      intro n hn _ hall
      obtain rfl : n = 127 := by omega
      have hp : (pickT id t).1 < 128 := by
        rcases pick_inv id t with ⟨h, _⟩ | ⟨h, _, _, f, h3, _⟩
        · omega
        · have := hall f (List.mem_of_find?_eq_some h3)
          have h4 := List.find?_some h3
          simp only [decide_eq_true_iff] at h4
          omega
      have hm : (matchT id t).1 = [] := by unfold matchT; rw [if_pos hp]
      rw [hm, if_pos rfl]
      exact whl_inr rfl
    | succ m ih =>
      intro n hn hn2 hall
      have hs := outer_step t id n (by omega) hn2 hl
      by_cases hO : outN id n t = []
      · rw [if_pos hO] at hs
        rw [whl_inl hs]
        refine ih (n - 1) (by omega) (by omega) (fun x hx => ?_)
        have h1 := hall x hx
        have h2 : (com x.1 id : Int) ≠ n := by
          intro e
          have : t.find? (fun x => decide ((com x.1 id : Int) = n)) ≠ none := by
            intro h0
            rw [List.find?_eq_none] at h0
            exact h0 x hx (by simp [e])
          unfold outN at hO
          split at hO
          · rename_i hf; exact this hf
          · rename_i f hf; exact ofT_ne (List.mem_of_find?_eq_some hf) hO
        omega
      · rw [if_neg hO] at hs
        rw [whl_inr hs]
        have hpn : (pickT id t).1 = n := by
          unfold outN at hO
          split at hO
          · exact absurd rfl hO
          · rename_i f hf
            have hm := List.mem_of_find?_eq_some hf
            have hc := List.find?_some hf
            simp only [decide_eq_true_iff] at hc
            rcases pick_inv id t with ⟨_, h2⟩ | ⟨h1, h1', h2, g, h3, h4⟩
            · have := h2 f hm; omega
            · have a1 := h2 f hm
              have a2 := hall g (List.mem_of_find?_eq_some h3)
              have a3 := List.find?_some h3
              simp only [decide_eq_true_iff] at a3
              omega
        have hmm : (matchT id t).1 = outN id n t := by
          unfold matchT
          rw [if_neg (by omega)]
          rcases pick_inv id t with ⟨h1, _⟩ | ⟨_, _, _, g, h3, h4⟩
          · omega
          · unfold outN
            rw [hpn] at h3
            rw [h3]
            show ofT t (pickT id t).2 = ofT t g.1
            rw [h4]
        rw [hmm, if_neg hO]
  have h := key 129 256 rfl (by omega) (fun x hx => by have := com_le x.1 id; omega)
  have h : whl rref12Matchx3 ((t, (), [], 256, ()), id, (), ()) = _ := h
  rw [h]
  by_cases hm : (matchT id t).1 = []
  · rw [if_pos hm, hm]; rfl
  · rw [if_neg hm]; rfl
theorem matchT_none {id : Id} {t : List Trg} : (matchT id t).2 = 0 ∨ (matchT id t).2 = 6 := by
  unfold matchT; split <;> simp
theorem matchT_ok {id : Id} {t : List Trg} : (matchT id t).1 = [] ↔ (matchT id t).2 = 6 := by
  unfold matchT
  split
  · simp
  · rename_i h
    constructor
    · intro e
      rcases pick_inv id t with ⟨h1, _⟩ | ⟨_, _, _, g, h3, h4⟩
      · omega
      · exact absurd e (by rw [← h4]; exact ofT_ne (List.mem_of_find?_eq_some h3))
    · intro e; simp at e
theorem matchT_sub {id : Id} {t : List Trg} {x : Trg} (h : x ∈ (matchT id t).1) : x ∈ t := by
  unfold matchT at h
  split at h
  · simp at h
  · exact (List.mem_filter.1 h).1
theorem matchT_len {id : Id} {t : List Trg} : (matchT id t).1.length ≤ t.length := by
  unfold matchT
  split
  · simp
  · exact List.length_filter_le _ _

end Am
end Go.Proofs.Ytgdgiihaakcmpaa
