/-
  What becomes of a packet: rewrite.Step, and the document's.
-/
import Derived.Test.YtgdgiihaakcmpaaTm
namespace Go.Proofs.Ytgdgiihaakcmpaa
namespace Am
open Go Go.RowKit
set_option linter.unusedVariables false

abbrev Pk := List Ent × (Int × (List UInt8 × Unit))
abbrev Ot := Int × (Int × (Pk × (Trg × (Int × Unit))))
def noP : Pk := ([], 0, [], ())
def noO : Ot := (0, 0, noP, noT, 0, ())
abbrev outT : Ty := ((Ty.int IntKind.i64).pair ((Ty.int IntKind.i64).pair ((((Ty.int IntKind.i64).pair (Ty.id.pair ((Ty.int IntKind.i64).pair Ty.unit))).sl.pair ((Ty.int IntKind.i64).pair (Ty.str.pair Ty.unit))).pair ((Ty.id.pair (((Ty.int IntKind.i64).pair (Ty.id.pair ((Ty.int IntKind.i64).pair Ty.unit))).pair ((Ty.int IntKind.i64).pair Ty.unit))).pair ((Ty.int IntKind.i64).pair Ty.unit)))))
theorem outget (l : List Ot) (i : Nat) : dget ((Ty.int IntKind.i64).pair ((Ty.int IntKind.i64).pair ((((Ty.int IntKind.i64).pair (Ty.id.pair ((Ty.int IntKind.i64).pair Ty.unit))).sl.pair ((Ty.int IntKind.i64).pair (Ty.str.pair Ty.unit))).pair ((Ty.id.pair (((Ty.int IntKind.i64).pair (Ty.id.pair ((Ty.int IntKind.i64).pair Ty.unit))).pair ((Ty.int IntKind.i64).pair Ty.unit))).pair ((Ty.int IntKind.i64).pair Ty.unit))))) l (i : Int) = l.getD i noO := dget_eq outT l i
def rightP (p : Pk) : Bool := rightS p.1 && (decide (0 ≤ p.2.1) && (decide (p.2.1 ≤ 64) && decide (p.2.2.1.length ≤ 64)))
theorem ile64 (l : List UInt8) : ile (dlen l) 64 = decide (l.length ≤ 64) := by rw [ile_eq, dlen_eq, Bool.eq_iff_iff]; simp only [decide_eq_true_iff]; omega
theorem rewriteRight_eq (p : Pk) (hl : p.1.length ≤ 4611686018427387903) : orewriteRight ((p, ()), ()) = some ((rightP p, ()), ()) := by
  rw [orewriteRight_eq, brewriteRight]
  simp only [stackRight_eq p.1 hl, bS_some, ile64, rightP]
  simp only [ile_eq]
  cases rightS p.1 <;> cases decide (0 ≤ p.2.1) <;> cases decide (p.2.1 ≤ 64) <;> rfl
theorem ref13Right_eq (p : Pk) (hl : p.1.length ≤ 4611686018427387903) : oref13Right ((p, ()), ()) = some ((rightP p, ()), ()) := by
  rw [oref13Right_eq, bref13Right]
  simp only [ref04Right_eq p.1 hl, bS_some, ile64, rightP]
  simp only [ile_eq]
  cases rightS p.1 <;> cases decide (0 ≤ p.2.1) <;> cases decide (p.2.1 ≤ 64) <;> rfl
def sameP (p q : Pk) : Bool := decide (p.1 = q.1) && (decide (p.2.1 = q.2.1) && decide (p.2.2.1 = q.2.2.1))
theorem rewriteSame_eq (p q : Pk) (hl : p.1.length ≤ 4611686018427387903) : orewriteSame ((p, q, ()), ()) = some ((sameP p q, ()), ()) := by
  rw [orewriteSame_eq, brewriteSame]
  simp only [stackSame_eq p.1 q.1 hl, bS_some, ieq_d, seq_d, sameP]
  cases decide (p.1 = q.1) <;> cases decide (p.2.1 = q.2.1) <;> rfl
theorem ref13Same_eq (p q : Pk) (hl : p.1.length ≤ 4611686018427387903) : oref13Same ((p, q, ()), ()) = some ((sameP p q, ()), ()) := by
  rw [oref13Same_eq, bref13Same]
  simp only [ref04Same_eq p.1 q.1 hl, bS_some, ieq_d, seq_d, sameP]
  cases decide (p.1 = q.1) <;> cases decide (p.2.1 = q.2.1) <;> rfl
theorem sameP_self (p : Pk) : sameP p p = true := by simp [sameP]

theorem wadd {x y : Nat} (h : x + y < 4611686018427387904) : iwrap .i64 (iadd (x : Int) (y : Int)) = ((x + y : Nat) : Int) := by
  have e : iadd (x : Int) (y : Int) = ((x + y : Nat) : Int) := by simp [iadd]
  rw [e, iwrap_i64] <;> omega
theorem concat2 (a b : List Ent) (h : a.length + b.length ≤ 4) : oslicesConcat (([a, b], ()), ()) = some ((a ++ b, ()), ()) := by
  rw [oslicesConcat_eq, bslicesConcat]
  simp only [wslicesConcatx3_eq, wslicesConcatx11_eq]
  have d0 : dget ((Ty.int IntKind.i64).pair (Ty.id.pair ((Ty.int IntKind.i64).pair Ty.unit))).sl [a, b] 0 = a := rfl
  have d1 : dget ((Ty.int IntKind.i64).pair (Ty.id.pair ((Ty.int IntKind.i64).pair Ty.unit))).sl [a, b] 1 = b := rfl
  have dl : dlen [a, b] = 2 := rfl
  have e1 : ilt 0 2 = true := rfl
  have e2 : ile 0 0 = true := rfl
  have e3 : ilt 1 2 = true := rfl
  have e4 : ile 0 1 = true := rfl
  have e5 : ilt 2 2 = false := rfl
  have w0 : iwrap IntKind.i64 (iadd 0 1) = 1 := rfl
  have w1 : iwrap IntKind.i64 (iadd 1 1) = 2 := rfl
  have s0 : iwrap IntKind.i64 (iadd 0 (dlen a)) = ((a.length : Nat) : Int) := by
    have := wadd (x := 0) (y := a.length) (by omega)
    rw [Nat.zero_add] at this
    exact this
  have s1 : iwrap IntKind.i64 (iadd ((a.length : Nat) : Int) (dlen b)) = ((a.length + b.length : Nat) : Int) := wadd (by omega)
  have n0 : ilt ((a.length : Nat) : Int) 0 = false := ilt_f.2 (by omega)
  have n1 : ilt ((a.length + b.length : Nat) : Int) 0 = false := ilt_f.2 (by omega)
  have r0 : rslicesConcatx3 (([a, b], 0, [a, b], 2, 0, ()), ()) = some (.inl (([a, b], ((a.length : Nat) : Int), [a, b], 2, 1, ()), ())) := by
    simp only [rslicesConcatx3, e1, e2, dl, cond_true, d0, s0, n0, cond_false, w0]
  have r1 : rslicesConcatx3 (([a, b], ((a.length : Nat) : Int), [a, b], 2, 1, ()), ()) = some (.inl (([a, b], ((a.length + b.length : Nat) : Int), [a, b], 2, 2, ()), ())) := by
    simp only [rslicesConcatx3, e3, e4, dl, cond_true, d1, s1, n1, cond_false, w1]
  have r2 : rslicesConcatx3 (([a, b], ((a.length + b.length : Nat) : Int), [a, b], 2, 2, ()), ()) = some (.inr (.inl (([a, b], ((a.length + b.length : Nat) : Int), ()), ()))) := by
    simp only [rslicesConcatx3, e5, cond_false]
  have f0 : fits (dlen ([] : List Ent)) (dlen a) 48 = true := fits_of (by simp; omega) (by simp; omega)
  have f1 : fits (dlen a) (dlen b) 48 = true := fits_of (by omega) (by omega)
  have q0 : rslicesConcatx11 (([], [a, b], 2, 0, ()), (), ()) = some (.inl ((a, [a, b], 2, 1, ()), (), ())) := by
    simp only [rslicesConcatx11, e1, e2, dl, cond_true, d0, f0, w0]; rfl
  have q1 : rslicesConcatx11 ((a, [a, b], 2, 1, ()), (), ()) = some (.inl ((a ++ b, [a, b], 2, 2, ()), (), ())) := by
    simp only [rslicesConcatx11, e3, e4, dl, cond_true, d1, f1, w1]; rfl
  have q2 : rslicesConcatx11 ((a ++ b, [a, b], 2, 2, ()), (), ()) = some (.inr (.inl ((a ++ b, ()), (), ()))) := by
    simp only [rslicesConcatx11, e5, cond_false]
  rw [dl, whl_inl r0, whl_inl r1, whl_inr r2]
  simp only [bL_inl, n1, cond_false, dl]
  rw [whl_inl q0, whl_inl q1, whl_inr q2]
  simp only [bL_inl]
  have z : iwrap IntKind.i64 (isub 0 0) = 0 := rfl
  have z1 : iwrap IntKind.i64 (isub ((a.length + b.length : Nat) : Int) 0) = ((a.length + b.length : Nat) : Int) := by
    have e : isub ((a.length + b.length : Nat) : Int) 0 = ((a.length + b.length : Nat) : Int) := by simp [isub]
    rw [e, iwrap_i64] <;> omega
  have z2 : ieq 0 0 = true := rfl
  simp only [z, z1, z2, cond_true]
  by_cases hp : 0 < a.length + b.length
  · have h1 : ile 1 ((a.length + b.length : Nat) : Int) = true := ile_t.2 (by omega)
    have h2 : fits ((a.length + b.length : Nat) : Int) 0 48 = true := by rw [fits_t]; omega
    simp only [h1, h2, cond_true]
    cases ilt 0 ((a.length + b.length : Nat) : Int) <;> rfl
  · have h1 : ilt 0 ((a.length + b.length : Nat) : Int) = false := ilt_f.2 (by omega)
    simp only [h1, cond_false]
theorem stackPush_eq (l f : List Ent) (hl : l.all isE = true) (hf : f.all isE = true) (h4 : l.length + f.length ≤ 4) : ostackPush ((l, f, ()), ()) = some ((f ++ l, 0, ()), ()) := by
  rw [ostackPush_eq, bstackPush]
  have h1 : ilt 4 (iwrap IntKind.i64 (iadd (dlen l) (dlen f))) = false := by
    rw [dlen_eq, dlen_eq, wadd (by omega), ilt_f]; omega
  simp only [stackAll_eq l (by omega), stackAll_eq f (by omega), hl, hf, bS_some, cond_true, cond_false, h1, concat2 f l (by omega)]

/-- a packet that goes on -/
def onP (p : Pk) (x : Trg) (f : List Ent) : Ot := (2, 0, (f ++ p.1.drop 1, p.2.1 - 1, p.2.2), x, 0, ())
theorem rightS_len {l : List Ent} (h : rightS l = true) : 1 ≤ l.length ∧ l.length ≤ 4 ∧ l.all isE = true := by
  unfold rightS at h
  simpa [and_assoc] using h
theorem rightP_of {p : Pk} (h : rightP p = true) : rightS p.1 = true ∧ 0 ≤ p.2.1 ∧ p.2.1 ≤ 64 ∧ p.2.2.1.length ≤ 64 := by
  unfold rightP at h
  simpa [and_assoc] using h
theorem all_drop {l : List Ent} (h : l.all isE = true) (n : Nat) : (l.drop n).all isE = true := by
  rw [List.all_eq_true] at h ⊢
  exact fun x hx => h x (List.mem_of_mem_drop hx)
theorem wsub1 {n : Int} (h0 : 0 ≤ n) (h1 : n ≤ 64) : iwrap .i64 (isub n 1) = n - 1 := by
  unfold isub; rw [iwrap_i64] <;> omega
theorem rng1 (l : List Ent) (h : 1 ≤ l.length) : (bif bif ile 0 1 then ile 1 (dlen l) else false then ile (dlen l) (dlen l) else false) = true := by
  have e1 : ile 0 1 = true := rfl
  have e2 : ile 1 (dlen l) = true := by rw [ile_t, dlen_eq]; omega
  have e3 : ile (dlen l) (dlen l) = true := ile_t.2 (Int.le_refl _)
  simp only [e1, e2, e3, cond_true]
theorem sub1 (l : List Ent) : dsub l 1 (dlen l) = l.drop 1 := dsub_drop l 1
theorem rewriteOn_eq (p : Pk) (x : Trg) (f : List Ent) (hr : rightP p = true) (hf : f.all isE = true) (hl : f.length ≤ 1) : orewriteOn ((p, x, f, ()), ()) = some ((onP p x f, ()), ()) := by
  obtain ⟨h1, h2, h3, _⟩ := rightP_of hr
  obtain ⟨l1, l2, l3⟩ := rightS_len h1
  rw [orewriteOn_eq, brewriteOn]
  simp only [rng1 p.1 l1, cond_true, sub1]
  rw [stackPush_eq (p.1.drop 1) f (all_drop l3 1) hf (by rw [List.length_drop]; omega)]
  simp only [bS_some, wsub1 h2 h3]
  rfl
theorem ref13On_eq (p : Pk) (x : Trg) (f : List Ent) (hr : rightP p = true) (hl : f.length ≤ 1) : oref13On ((p, x, f, ()), ()) = some ((onP p x f, ()), ()) := by
  obtain ⟨h1, h2, h3, _⟩ := rightP_of hr
  obtain ⟨l1, l2, l3⟩ := rightS_len h1
  rw [oref13On_eq, bref13On]
  have f0 : fits 0 (dlen f) 48 = true := fits_of (xs := ([] : List Ent)) (ys := f) (by simp; omega) (by simp; omega)
  have f1 : fits (dlen (dapp [] f)) (dlen (p.1.drop 1)) 48 = true := by
    refine fits_of ?_ ?_
    · rw [dapp1, List.length_append, List.length_drop]; simp; omega
    · rw [dapp1, List.length_append, List.length_drop]; simp; omega
  simp only [f0, cond_true, rng1 p.1 l1, sub1, f1, wsub1 h2 h3]
  rfl

def first (p : Pk) : Ent := p.1.getD 0 noE
def deadO (n : Int) : Ot := (3, 0, noP, noT, n, ())
noncomputable def stepM (t : List Trg) (p : Pk) : List Ot :=
  if (first p).1 = 2 then [(1, (first p).2.2.1, p, noT, 0, ())]
  else if p.2.1 = 0 then [deadO 9]
  else if (matchT (first p).2.1 t).2 = 0 then (matchT (first p).2.1 t).1.map (fun x => onP p x [x.2.1])
  else if 1 < p.1.length then [onP p noT []]
  else [deadO 6]
theorem rewriteDead_eq (n : Int) : orewriteDead ((n, ()), ()) = some (([deadO n], ()), ()) := by rw [orewriteDead_eq, brewriteDead]; rfl
theorem ent0 (l : List Ent) : dget ((Ty.int IntKind.i64).pair (Ty.id.pair ((Ty.int IntKind.i64).pair Ty.unit))) l 0 = l.getD 0 noE := entget l 0
theorem in0 {α : Type} (l : List α) (h : 1 ≤ l.length) : (bif ile 0 0 then ilt 0 (dlen l) else false) = true := by
  have e1 : ile 0 0 = true := rfl
  have e2 : ilt 0 (dlen l) = true := by rw [ilt_t, dlen_eq]; omega
  simp only [e1, e2, cond_true]
theorem may_is {x : Trg} (h : mayT x = true) : isE x.2.1 = true := by
  unfold mayT at h
  simp only [Bool.and_eq_true] at h
  exact h.1
theorem step_loop (p : Pk) (l : List Trg) (hr : rightP p = true) (hm : ∀ x ∈ l, isE x.2.1 = true) (hl : l.length ≤ 1000) :
    whl rrewriteStepx15 (((), [], l, dlen l, 0, ()), p, (), ()) = some (.inl ((l.map (fun x => onP p x [x.2.1]), ()), ())) := by
  refine whl_up (g := rrewriteStepx15) (fun k => (((), (l.take k).map (fun x => onP p x [x.2.1]), l, dlen l, (k : Int), ()), p, (), ())) (.inl ((l.map (fun x => onP p x [x.2.1]), ()), ())) l.length
    (by simp only [rrewriteStepx15, bifF (ilt_len' (xs := l) (Nat.le_refl _)), List.take_length])
    (fun k hk => ?_) l.length 0 (by omega)
  have hmem : l.getD k noT ∈ l := by simp [hk]
  have he := hm _ hmem
  rw [take_getD (d := noT) hk]
  simp only [rrewriteStepx15, bifT (ilt_len hk), bifT ile_nat, trgget, inc_nat (show k < 4611686018427387904 by omega)]
  rw [rewriteOn_eq p (l.getD k noT) [(l.getD k noT).2.1] hr (by simp only [List.all_cons, he, List.all_nil, Bool.and_self]) (by simp)]
  simp only [bS_some]
  rw [fits1 _ 160 (by rw [List.length_map, List.length_take]; omega) (by rw [List.length_map, List.length_take]; omega)]
  simp only [cond_true, dapp1, List.map_append, List.map_cons, List.map_nil]
theorem refstep_loop (p : Pk) (l : List Trg) (hr : rightP p = true) (hl : l.length ≤ 1000) :
    whl rref13Stepx10 (((), [], l, dlen l, 0, ()), p, (), ()) = some (.inl (((), l.map (fun x => onP p x [x.2.1]), ()), p, (), ())) := by
  refine whl_up (g := rref13Stepx10) (fun k => (((), (l.take k).map (fun x => onP p x [x.2.1]), l, dlen l, (k : Int), ()), p, (), ())) (.inl (((), l.map (fun x => onP p x [x.2.1]), ()), p, (), ())) l.length
    (by simp only [rref13Stepx10, bifF (ilt_len' (xs := l) (Nat.le_refl _)), List.take_length])
    (fun k hk => ?_) l.length 0 (by omega)
  rw [take_getD (d := noT) hk]
  simp only [rref13Stepx10, bifT (ilt_len hk), bifT ile_nat, trgget, inc_nat (show k < 4611686018427387904 by omega)]
  rw [ref13On_eq p (l.getD k noT) [(l.getD k noT).2.1] hr (by simp)]
  simp only [bS_some]
  rw [fits1 _ 160 (by rw [List.length_map, List.length_take]; omega) (by rw [List.length_map, List.length_take]; omega)]
  simp only [cond_true, dapp1, List.map_append, List.map_cons, List.map_nil]
theorem rewriteStep_eq (t : List Trg) (p : Pk) (hl : t.length ≤ 1000) (hp : p.1.length ≤ 1000) :
    orewriteStep ((t, p, ()), ()) = some (if rightP p = true ∧ rightT t = true then (stepM t p, 0, ()) else ([], 1, ()), ()) := by
  rw [orewriteStep_eq, brewriteStep]
  simp only [rewriteRight_eq p (by omega), tableRight_eq t (by omega), bS_some]
  cases hr : rightP p with
  | false => rfl
  | true =>
    cases ht : rightT t with
    | false => rfl
    | true =>
      obtain ⟨h1, h2, h3, _⟩ := rightP_of hr
      obtain ⟨l1, l2, l3⟩ := rightS_len h1
      simp only [cond_true, cond_false, in0 p.1 l1, ent0, tableMatch_eq t _ hl ht, bS_some, and_self, if_true, ieq_d, bifNot]
      unfold stepM first
      generalize hf : p.1.getD 0 noE = fe
      by_cases k2 : fe.1 = 2
      · simp only [k2, decide_true, cond_true, if_true]; rfl
      · simp only [k2, decide_false, cond_false, if_false]
        by_cases h0 : p.2.1 = 0
        · simp only [h0, decide_true, cond_true, if_true, rewriteDead_eq, bS_some]
        · simp only [h0, decide_false, cond_false, if_false]
          by_cases hm : (matchT fe.2.1 t).2 = 0
          · have hloop := step_loop p (matchT fe.2.1 t).1 hr (fun x hx => may_is (rightT_may ht (matchT_sub hx))) (Nat.le_trans matchT_len hl)
            simp only [hm, decide_true, Bool.not_true, cond_false, wrewriteStepx15_eq, if_true, hloop, bL_inl]
          · simp only [hm, decide_false, Bool.not_false, cond_true, if_false, rewriteDead_eq, bS_some]
            by_cases h1l : 1 < p.1.length
            · have e1 : ilt 1 (dlen p.1) = true := by rw [ilt_t, dlen_eq]; omega
              have h : orewriteOn ((p, (Id.zero, (0, Id.zero, 0, ()), 0, ()), [], ()), ()) = some ((onP p noT [], ()), ()) := rewriteOn_eq p noT [] hr rfl (by simp)
              simp only [e1, cond_true, h, bS_some, h1l, if_true]
            · have e1 : ilt 1 (dlen p.1) = false := by rw [ilt_f, dlen_eq]; omega
              simp only [e1, cond_false, h1l, if_false]
theorem ref13Step_eq (t : List Trg) (p : Pk) (hl : t.length ≤ 1000) (hr : rightP p = true) : oref13Step ((t, p, ()), ()) = some ((stepM t p, ()), ()) := by
  obtain ⟨h1, h2, h3, _⟩ := rightP_of hr
  obtain ⟨l1, l2, l3⟩ := rightS_len h1
  rw [oref13Step_eq, bref13Step]
  have f0 : fits 0 (1 : Int) 160 = true := rfl
  simp only [in0 p.1 l1, ent0, cond_true, f0, ieq_d, ref12Match_eq t _ hl, bS_some]
  unfold stepM first
  generalize hf : p.1.getD 0 noE = fe
  by_cases k2 : fe.1 = 2
  · simp only [k2, decide_true, cond_true, if_true]; rfl
  · simp only [k2, decide_false, cond_false, if_false]
    by_cases h0 : p.2.1 = 0
    · simp only [h0, decide_true, cond_true, if_true]; rfl
    · simp only [h0, decide_false, cond_false, if_false]
      have hloop := refstep_loop p (matchT fe.2.1 t).1 hr (Nat.le_trans matchT_len hl)
      simp only [wref13Stepx10_eq, hloop, bL_inl]
      have hmap : ∀ (l : List Trg), decide (dlen (l.map (fun x => onP p x [x.2.1])) = 0) = decide (l = []) := by
        intro l; cases l with
        | nil => rfl
        | cons a r => rw [dlen_eq, List.length_map, List.length_cons]; simp; omega
      rw [hmap]
      by_cases hm : (matchT fe.2.1 t).2 = 0
      · have hne : (matchT fe.2.1 t).1 ≠ [] := fun e => by have := matchT_ok.1 e; omega
        simp only [hne, decide_false, cond_false, hm, if_true]
      · have h6 : (matchT fe.2.1 t).2 = 6 := by rcases matchT_none (id := fe.2.1) (t := t) with h | h <;> omega
        have he : (matchT fe.2.1 t).1 = [] := matchT_ok.2 h6
        simp only [he, decide_true, cond_true, hm, if_false, List.map_nil]
        by_cases h1l : 1 < p.1.length
        · have e1 : ilt 1 (dlen p.1) = true := by rw [ilt_t, dlen_eq]; omega
          have h : oref13On ((p, (Id.zero, (0, Id.zero, 0, ()), 0, ()), [], ()), ()) = some ((onP p noT [], ()), ()) := ref13On_eq p noT [] hr (by simp)
          simp only [e1, cond_true, h, bS_some, h1l, if_true]
          rfl
        · have e1 : ilt 1 (dlen p.1) = false := by rw [ilt_f, dlen_eq]; omega
          simp only [e1, cond_false, h1l, if_false]
          rfl
theorem few_eq (t : List Trg) : olaw13Few ((t, ()), ()) = some ((t.take 34, ()), ()) := by
  rw [olaw13Few_eq, blaw13Few]
  have h := imin_len t 34
  have h : imin (dlen t) 34 = _ := h
  have e : ile 0 ((min t.length 34 : Nat) : Int) = true := ile_nat
  simp only [h, ile00, e, ile_min, dsub_min, cond_true]
def cutP (p : Pk) : Pk := (p.1.take 6, p.2.1, p.2.2.1.take 70, ())
theorem cut_eq (p : Pk) : olaw13Cut ((p, ()), ()) = some ((cutP p, ()), ()) := by
  rw [olaw13Cut_eq, blaw13Cut]
  have h : imin (dlen p.1) 6 = _ := imin_len p.1 6
  have h2 : imin (dlen p.2.2.1) 70 = _ := imin_len p.2.2.1 70
  have e : ∀ n : Nat, ile 0 (n : Int) = true := fun n => ile_nat
  simp only [h, h2, ile00, e, ile_min, dsub_min, cond_true]
  rfl
theorem alive13 : olaw13Alive ((), ()) = some ((true, ()), ()) := by
  rw [olaw13Alive_eq, blaw13Alive]
  have h : orewriteStep (([], ([(2, Id.zero, 3, ())], 0, [120], ()), ()), ()) = some (if rightP ([(2, Id.zero, 3, ())], 0, [120], ()) = true ∧ rightT [] = true then (stepM [] ([(2, Id.zero, 3, ())], 0, [120], ()), 0, ()) else ([], 1, ()), ()) := rewriteStep_eq [] ([(2, Id.zero, 3, ())], 0, [120], ()) (by simp) (by simp)
  rw [h]
  have r1 : rightP ([(2, Id.zero, 3, ())], 0, [120], ()) = true := by simp [rightP, rightS, isE]
  have r2 : rightT [] = true := by simp [rightT, anyN]
  rw [if_pos ⟨r1, r2⟩]
  have hs : stepM [] ([(2, Id.zero, 3, ())], 0, [120], ()) = [(1, 3, ([(2, Id.zero, 3, ())], 0, [120], ()), noT, 0, ())] := by
    unfold stepM first; simp
  rw [hs]
  rfl

end Am
end Go.Proofs.Ytgdgiihaakcmpaa
