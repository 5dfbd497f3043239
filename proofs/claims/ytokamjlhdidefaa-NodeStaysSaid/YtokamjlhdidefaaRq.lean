/-
  Nodes: the document's answers, and whom a node asks next.
-/
import Derived.Test.YtokamjlhdidefaaRo
import Derived.Test.YtokamjlhdidefaaPk
namespace Go.Proofs.Ytokamjlhdidefaa
namespace Am
open Go Go.RowKit
set_option linter.unusedSimpArgs false
set_option linter.unusedVariables false

theorem refMay_eq (m : Mem') : oref09May ((m, ()), ()) = some ((mayB m, ()), ()) := by
  rw [oref09May_eq, bref09May]
  have e : ile m.1 15 = decide (m.1 < 16) := by rw [ile_eq]; congr 1; rw [eq_iff_iff]; omega
  unfold mayB
  rw [e]
  simp only [ile_eq]
  cases decide (0 ≤ m.1) <;> rfl
theorem refNone_eq (m : Mem') : oref09None ((m, ()), ()) = some ((memB m noneM, ()), ()) := by
  rw [oref09None_eq, bref09None]
  unfold memB
  rw [ieqd, ideq_dec]
  have : decide (m.1 = noneM.1) = decide (m.1 = -1) := rfl
  rw [this]
  cases decide (m.1 = -1) <;> rfl
theorem runl_inner (l : List Mem') (no : Int) (i : Nat) (m : Mem') (k : List Mem') (hk : k.length ≤ 4611686018427387903) :
    whl rref09Unlikex7 ((l, no, (), l, dlen l, (i : Int), k, dlen k, 0, ()), m, ()) = some (if k.any (fun x => decide (x.1 = m.1)) = true then .inl ((false, ()), ()) else .inr (.inl ((l, no, l, dlen l, (i : Int), ()), ()))) := by
  have h := whl_goL (t := memT) (xs := k) (g := rref09Unlikex7) (fun j (_ : Unit) => ((l, no, (), l, dlen l, (i : Int), k, dlen k, j, ()), m, ())) (fun x _ => if decide (x.1 = m.1) = true then .inr (.inl ((false, ()), ())) else .inl ()) (fun _ => .inr (.inl ((l, no, l, dlen l, (i : Int), ()), ()))) hk
    (fun j s hj => by simp only [rref09Unlikex7, bifF hj])
    (fun j s hj h0 => by
      simp only [rref09Unlikex7, bifT hj, h0, cond_true]
      have em : (dget memT k j) = dget ((Ty.int IntKind.i64).pair (Ty.id.pair Ty.unit)) k j := rfl
      rw [em]
      generalize dget ((Ty.int IntKind.i64).pair (Ty.id.pair Ty.unit)) k j = y
      rw [ieqd]
      by_cases hh : y.1 = m.1 <;> simp [hh]) ()
  exact h.trans (congrArg some (goL_any (fun x : Mem' => decide (x.1 = m.1)) _ _ k))
theorem refUnlike_eq (l : List Mem') (no : Int) (hl : l.length ≤ 4611686018427387903) : oref09Unlike ((l, no, ()), ()) = some ((unlikeB l no, ()), ()) := by
  rw [oref09Unlike_eq, bref09Unlike]
  have h := whl_goI (g := rref09Unlikex2) (fun i (_ : Unit) => ((l, no, l, dlen l, (i : Int), ()), ())) (fun i (_ : Unit) => if badU l no i = true then .inr (.inr (.inl ((false, ()), ()))) else .inl ()) (fun _ => .inl ((), ())) l.length
    (fun s => by simp only [rref09Unlikex2, bifF (ilt_len' (xs := l) (Nat.le_refl _))])
    (fun i s hi => by
      have e3 : ile (i : Int) (dlen l) = true := ile_t.2 (by rw [dlen_eq]; omega)
      simp only [rref09Unlikex2, bifT (ilt_len hi), bifT ile_nat, bifT ile00, bifT e3, memget, refMay_eq, bS_some, dsub_take, wref09Unlikex7_eq, runl_inner l no i (l.getD i noM) (l.take i) (by rw [List.length_take]; omega), ieqd]
      unfold badU
      generalize (l.take i).any (fun m => decide (m.1 = (l.getD i noM).1)) = A
      generalize l.getD i noM = y
      cases mayB y <;> cases decide (y.1 = no) <;> cases A <;> simp [bL_inl, bL_inr, inc_nat (show i < 4611686018427387904 by omega)]) l.length 0 () (by omega)
  rw [goI_any] at h
  have h' : whl rref09Unlikex2 ((l, no, l, dlen l, 0, ()), ()) = _ := h
  simp only [wref09Unlikex2_eq, h']
  unfold unlikeB
  cases anyN (badU l no) l.length 0 <;> rfl
theorem same_one (l : List Mem') (s : Mem') : sameL l [s] = (decide (l.length = 1) && memB (l.getD 0 noM) s) := by
  match l with
  | [] => rfl
  | [a] => simp [sameL]
  | a :: b :: l => simp [sameL]
theorem refRight_eq (n : Node') (h1 : n.2.2.1.length ≤ 4611686018427387903) (h2 : n.2.2.2.1.length ≤ 4611686018427387903) : oref09Right ((n, ()), ()) = some ((rightN n, ()), ()) := by
  obtain ⟨self, pred, succs, fingers, ⟨⟩⟩ := n
  simp only at h1 h2
  rw [oref09Right_eq, bref09Right]
  have e1 : ilt (dlen succs) 1 = !decide (1 ≤ succs.length) := by
    rw [ilt_eq, dlen_eq, ← decide_not]; congr 1; rw [eq_iff_iff]; omega
  have e4 : ilt 4 (dlen succs) = !decide (succs.length ≤ 4) := by
    rw [ilt_eq, dlen_eq, ← decide_not]; congr 1; rw [eq_iff_iff]; omega
  have e16 : ilt 16 (dlen fingers) = !decide (fingers.length ≤ 16) := by
    rw [ilt_eq, dlen_eq, ← decide_not]; congr 1; rw [eq_iff_iff]; omega
  have el1 : ieq (dlen succs) 1 = decide (succs.length = 1) := by rw [ieqd, dlen_eq]; congr 1; rw [eq_iff_iff]; omega
  have eg : dget ((Ty.int IntKind.i64).pair (Ty.id.pair Ty.unit)) succs 0 = succs.getD 0 noM := memget succs 0
  have hlt : 1 ≤ succs.length → ilt 0 (dlen succs) = true := fun h => ilt_t.2 (by rw [dlen_eq]; omega)
  simp only [refNone_eq, bS_some, refMay_eq, refUnlike_eq succs self.1 h1, refUnlike_eq fingers self.1 h2, e1, e4, e16, el1, eg, memEq', ile00, cond_true]
  simp only [ieqd]
  unfold rightN predB succsB
  simp only [same_one]
  by_cases hs : 1 ≤ succs.length
  · rw [hlt hs]
    generalize memB pred noneM = a1
    generalize mayB pred = a2
    generalize memB (succs.getD 0 noM) self = a3
    generalize decide (1 ≤ succs.length) = a4
    generalize decide (succs.length ≤ 4) = a5
    generalize unlikeB succs self.1 = a6
    generalize mayB self = a7
    generalize decide (pred.1 = self.1) = a8
    generalize decide (fingers.length ≤ 16) = a9
    generalize unlikeB fingers self.1 = a10
    generalize decide (succs.length = 1) = a11
    cases a1 <;> cases a2 <;> cases a7 <;> cases a4 <;> simp only [cond_true, cond_false] <;> cases a5 <;> cases a6 <;> cases a3 <;> cases a8 <;> cases a9 <;> cases a10 <;> cases a11 <;> rfl
  · have hf : decide (1 ≤ succs.length) = false := decide_eq_false hs
    rw [hf]
    generalize memB pred noneM = a1
    generalize mayB pred = a2
    generalize mayB self = a7
    generalize decide (pred.1 = self.1) = a8
    cases a1 <;> cases a2 <;> cases a7 <;> cases a8 <;> simp

theorem refSame_eq (l k : List Mem') (hl : l.length ≤ 4611686018427387903) : oref07Same ((l, k, ()), ()) = some ((sameL l k, ()), ()) := by
  rw [oref07Same_eq, bref07Same]
  have hd : ieq (dlen l) (dlen k) = decide (l.length = k.length) := by rw [ieqd, dlen_eq, dlen_eq]; congr 1; rw [eq_iff_iff]; omega
  rw [hd]
  by_cases he : l.length = k.length
  · have h := whl_goI (g := rref07Samex4) (fun i (_ : Unit) => ((l, k, dlen l, (i : Int), ()), ())) (fun i (_ : Unit) => if (!memB (l.getD i noM) (k.getD i noM)) = true then .inr (.inl ((false, ()), ())) else .inl ()) (fun _ => .inr (.inl ((), ()))) l.length
      (fun s => by simp only [rref07Samex4, bifF (ilt_len' (xs := l) (Nat.le_refl _))])
      (fun i s hi => by
        have hi' : i < k.length := by omega
        simp only [rref07Samex4, bifT (ilt_len hi), bifT (ilt_len hi'), bifT ile_nat, memget, memEq', inc_nat (show i < 4611686018427387904 by omega)]
        cases memB (l.getD i noM) (k.getD i noM) <;> simp) l.length 0 () (by omega)
    rw [goI_any (fun i => !memB (l.getD i noM) (k.getD i noM))] at h
    have h' : whl rref07Samex4 ((l, k, dlen l, 0, ()), ()) = _ := h
    have hdt : decide (l.length = k.length) = true := decide_eq_true he
    simp only [hdt, cond_true, cond_false, wref07Samex4_eq, h', ← same_any he]
    cases anyN (fun i => !memB (l.getD i noM) (k.getD i noM)) l.length 0 <;> rfl
  · have : sameL l k = false := by
      cases hs : sameL l k with
      | false => rfl
      | true => exact absurd (by rw [sameL_iff.1 hs]) he
    simp only [he, decide_false, cond_true, cond_false, this]
def likeN (a b : Node') : Bool := memB a.1 b.1 && (memB a.2.1 b.2.1 && (sameL a.2.2.1 b.2.2.1 && sameL a.2.2.2.1 b.2.2.2.1))
theorem refLike_eq (a b : Node') (h1 : a.2.2.1.length ≤ 4611686018427387903) (h2 : a.2.2.2.1.length ≤ 4611686018427387903) : oref09Like ((a, b, ()), ()) = some ((likeN a b, ()), ()) := by
  obtain ⟨a1, ap, asu, af, ⟨⟩⟩ := a
  obtain ⟨b1, bp, bsu, bf, ⟨⟩⟩ := b
  simp only at h1 h2
  rw [oref09Like_eq, bref09Like]
  simp only [memEq', refSame_eq asu bsu h1, refSame_eq af bf h2, bS_some]
  unfold likeN
  simp only
  cases memB a1 b1 <;> cases memB ap bp <;> cases sameL asu bsu <;> rfl

theorem concat3_loop (l k : List Mem') (h : l.length + k.length ≤ 1000) : whl rslicesConcatx3 (([l, k], 0, [l, k], dlen [l, k], 0, ()), ()) = some (.inl (([l, k], ((l.length + k.length : Nat) : Int), ()), ())) := by
  have e2 : dlen [l, k] = 2 := rfl
  have g0 : dget ((Ty.int IntKind.i64).pair (Ty.id.pair Ty.unit)).sl [l, k] 0 = l := rfl
  have g1 : dget ((Ty.int IntKind.i64).pair (Ty.id.pair Ty.unit)).sl [l, k] 1 = k := rfl
  have i0 : iwrap .i64 (iadd 0 1) = 1 := inc_nat (i := 0) (by omega)
  have i1 : iwrap .i64 (iadd 1 1) = 2 := inc_nat (i := 1) (by omega)
  have s0 : iwrap .i64 (iadd 0 (dlen l)) = (l.length : Int) := by rw [dlen_eq]; unfold iadd; rw [iwrap_i64 (by omega) (by omega)]; omega
  have s1 : iwrap .i64 (iadd (l.length : Int) (dlen k)) = ((l.length + k.length : Nat) : Int) := by rw [dlen_eq]; unfold iadd; rw [iwrap_i64 (by omega) (by omega)]; omega
  have n0 : ilt (l.length : Int) 0 = false := ilt_f.2 (by omega)
  have n1 : ilt ((l.length + k.length : Nat) : Int) 0 = false := ilt_f.2 (by omega)
  have c0 : ilt 0 2 = true := rfl
  have c1 : ilt 1 2 = true := rfl
  have c2 : ilt 2 2 = false := rfl
  have d1 : ile 0 1 = true := rfl
  have r0 : rslicesConcatx3 (([l, k], 0, [l, k], 2, 0, ()), ()) = some (.inl (([l, k], (l.length : Int), [l, k], 2, 1, ()), ())) := by
    simp only [rslicesConcatx3, c0, ile00, e2, cond_true, g0, s0, n0, cond_false, i0]
  have r1 : rslicesConcatx3 (([l, k], (l.length : Int), [l, k], 2, 1, ()), ()) = some (.inl (([l, k], ((l.length + k.length : Nat) : Int), [l, k], 2, 2, ()), ())) := by
    simp only [rslicesConcatx3, c1, d1, e2, cond_true, g1, s1, n1, cond_false, i1]
  have r2 : rslicesConcatx3 (([l, k], ((l.length + k.length : Nat) : Int), [l, k], 2, 2, ()), ()) = some (.inr (.inl (([l, k], ((l.length + k.length : Nat) : Int), ()), ()))) := by
    simp only [rslicesConcatx3, c2, cond_false]
  rw [e2, whl_inl r0, whl_inl r1, whl_inr r2]
theorem concat11_loop (l k : List Mem') (h : l.length + k.length ≤ 1000) : whl rslicesConcatx11 (([], [l, k], dlen [l, k], 0, ()), (), ()) = some (.inl ((l ++ k, ()), (), ())) := by
  have e2 : dlen [l, k] = 2 := rfl
  have g0 : dget ((Ty.int IntKind.i64).pair (Ty.id.pair Ty.unit)).sl [l, k] 0 = l := rfl
  have g1 : dget ((Ty.int IntKind.i64).pair (Ty.id.pair Ty.unit)).sl [l, k] 1 = k := rfl
  have i0 : iwrap .i64 (iadd 0 1) = 1 := inc_nat (i := 0) (by omega)
  have i1 : iwrap .i64 (iadd 1 1) = 2 := inc_nat (i := 1) (by omega)
  have f0 : fits (dlen ([] : List Mem')) (dlen l) 40 = true := fits_of (by simp; omega) (by simp; omega)
  have f1 : fits (dlen l) (dlen k) 40 = true := fits_of (by omega) (by omega)
  have c0 : ilt 0 2 = true := rfl
  have c1 : ilt 1 2 = true := rfl
  have c2 : ilt 2 2 = false := rfl
  have d1 : ile 0 1 = true := rfl
  have r0 : rslicesConcatx11 (([], [l, k], 2, 0, ()), (), ()) = some (.inl ((l, [l, k], 2, 1, ()), (), ())) := by
    simp only [rslicesConcatx11, c0, ile00, e2, cond_true, g0, f0, i0]
    rfl
  have r1 : rslicesConcatx11 ((l, [l, k], 2, 1, ()), (), ()) = some (.inl ((l ++ k, [l, k], 2, 2, ()), (), ())) := by
    simp only [rslicesConcatx11, c1, d1, e2, cond_true, g1, f1, i1]
    rfl
  have r2 : rslicesConcatx11 ((l ++ k, [l, k], 2, 2, ()), (), ()) = some (.inr (.inl ((l ++ k, ()), (), ()))) := by
    simp only [rslicesConcatx11, c2, cond_false]
  rw [e2, whl_inl r0, whl_inl r1, whl_inr r2]
theorem concat_eq (l k : List Mem') (h : l.length + k.length ≤ 1000) : oslicesConcat (([l, k], ()), ()) = some ((l ++ k, ()), ()) := by
  rw [oslicesConcat_eq, bslicesConcat]
  have n1 : ilt ((l.length + k.length : Nat) : Int) 0 = false := ilt_f.2 (by omega)
  have hs0 : iwrap .i64 (isub 0 0) = 0 := by unfold isub; rw [iwrap_i64 (by omega) (by omega)]; rfl
  have hs1 : iwrap .i64 (isub ((l.length + k.length : Nat) : Int) 0) = ((l.length + k.length : Nat) : Int) := by unfold isub; rw [iwrap_i64 (by omega) (by omega)]; omega
  have i00 : ieq 0 0 = true := rfl
  simp only [wslicesConcatx3_eq, concat3_loop l k h, bL_inl, n1, cond_false, hs0, hs1, i00, cond_true, wslicesConcatx11_eq, concat11_loop l k h]
  by_cases h0 : l.length + k.length = 0
  · have : ilt 0 ((l.length + k.length : Nat) : Int) = false := ilt_f.2 (by omega)
    simp only [this, cond_false]
  · have e1 : ilt 0 ((l.length + k.length : Nat) : Int) = true := ilt_t.2 (by omega)
    have e2 : ile 1 ((l.length + k.length : Nat) : Int) = true := ile_t.2 (by omega)
    have e3 : fits ((l.length + k.length : Nat) : Int) 0 40 = true := by
      rw [fits_t]
      constructor <;> omega
    simp only [e1, e2, e3, cond_true]

/- the one that is chosen is one of them -/
theorem fold_mem (self id : Id) : ∀ (l : List Mem') (s : Mem' × Int), (l.foldl (upd self id) s).1 = s.1 ∨ (l.foldl (upd self id) s).1 ∈ l
  | [], s => .inl rfl
  | m :: l, s => by
    rw [List.foldl_cons]
    have hu : (upd self id s m).1 = s.1 ∨ (upd self id s m).1 = m := by
      unfold upd
      split
      · split
        · split
          · exact .inr rfl
          · exact .inl rfl
        · exact .inr rfl
      · exact .inl rfl
    rcases fold_mem self id l (upd self id s m) with h | h
    · rcases hu with hu | hu
      · exact .inl (h.trans hu)
      · exact .inr (by rw [h, hu]; exact List.mem_cons_self)
    · exact .inr (List.mem_cons_of_mem _ h)
theorem closest_in (self id : Id) (l : List Mem') (h0 : (closest self id l).2 = 0) : (closest self id l).1 ∈ l := by
  have key : ∀ (l : List Mem') (s : Mem' × Int), s.2 = 6 → (l.foldl (upd self id) s).2 = 0 → (l.foldl (upd self id) s).1 ∈ l := by
    intro l
    induction l with
    | nil => intro s h1 h2; rw [List.foldl_nil, h1] at h2; cases h2
    | cons m l ih =>
      intro s h1 h2
      rw [List.foldl_cons] at h2 ⊢
      cases hb : between m.2.1 self id with
      | false =>
        have hu : upd self id s m = s := by unfold upd; rw [hb]; rfl
        rw [hu] at h2 ⊢
        exact List.mem_cons_of_mem _ (ih s h1 h2)
      | true =>
        have hu : upd self id s m = (m, 0) := by
          unfold upd
          rw [hb, if_pos rfl, if_neg (by rw [h1]; decide)]
        rw [hu]
        rcases fold_mem self id l (m, 0) with h | h
        · rw [h]; exact List.mem_cons_self
        · exact List.mem_cons_of_mem _ h
  exact key l _ rfl h0
theorem unlike_may {l : List Mem'} {no : Int} (h : unlikeB l no = true) : ∀ x ∈ l, mayB x = true := by
  intro x hx
  obtain ⟨i, hi, rfl⟩ := List.getElem_of_mem hx
  unfold unlikeB at h
  have hb : anyN (badU l no) l.length 0 = false := by simpa using h
  have := anyN_false hb (j := i) (by omega) (by omega)
  unfold badU at this
  simp only [Bool.or_eq_false_iff, Bool.not_eq_false'] at this
  simpa [hi] using this.1
theorem right_may {n : Node'} (h : rightN n = true) : 1 ≤ n.2.2.1.length ∧ ∀ x ∈ n.2.2.2.1 ++ n.2.2.1, mayB x = true := by
  unfold rightN succsB at h
  simp only [Bool.and_eq_true, decide_eq_true_iff, Bool.or_eq_true] at h
  obtain ⟨h1, _, ⟨h2, _, h3⟩, _, h4⟩ := h
  refine ⟨h2, fun x hx => ?_⟩
  rcases List.mem_append.1 hx with hx | hx
  · exact unlike_may h4 x hx
  · rcases h3 with h3 | h3
    · rw [sameL_iff.1 h3, List.mem_singleton] at hx
      rw [hx]
      exact h1
    · exact unlike_may h3 x hx

end Am
end Go.Proofs.Ytokamjlhdidefaa
