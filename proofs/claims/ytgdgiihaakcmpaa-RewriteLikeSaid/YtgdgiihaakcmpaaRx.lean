/-
  The laws of packets.
-/
import Derived.Test.YtgdgiihaakcmpaaRw
namespace Go.Proofs.Ytgdgiihaakcmpaa
namespace Am
open Go Go.RowKit
set_option linter.unusedVariables false

theorem ieq_s (a : Int) : ieq a a = true := ieq_t.2 rfl
theorem ideq_s (a : Id) : ideq a a = true := ideq_t.2 rfl
theorem seq_s (a : List UInt8) : seq a a = true := seq_t.2 rfl
theorem beq_s (a : Bool) : beq a a = true := by simp [beq]
theorem onP_len {p : Pk} {x : Trg} {f : List Ent} (h : rightP p = true) (hf : f.length ≤ 1) : (onP p x f).2.2.1.1.length ≤ 1000 := by
  obtain ⟨h1, _⟩ := rightP_of h
  obtain ⟨_, l2, _⟩ := rightS_len h1
  show (f ++ p.1.drop 1).length ≤ 1000
  rw [List.length_append, List.length_drop]; omega
theorem step_lens {t : List Trg} {p : Pk} (hr : rightP p = true) : ∀ o ∈ stepM t p, o.2.2.1.1.length ≤ 1000 := by
  intro o ho
  obtain ⟨h1, _⟩ := rightP_of hr
  obtain ⟨_, l2, _⟩ := rightS_len h1
  unfold stepM at ho
  split at ho
  · simp only [List.mem_singleton] at ho; subst ho; show p.1.length ≤ 1000; omega
  · split at ho
    · simp only [List.mem_singleton] at ho; subst ho; show ([] : List Ent).length ≤ 1000; simp
    · split at ho
      · obtain ⟨x, _, rfl⟩ := List.mem_map.1 ho
        exact onP_len hr (by simp)
      · split at ho
        · simp only [List.mem_singleton] at ho; subst ho; exact onP_len hr (by simp)
        · simp only [List.mem_singleton] at ho; subst ho; show ([] : List Ent).length ≤ 1000; simp
theorem step_len {t : List Trg} {p : Pk} : 1 ≤ (stepM t p).length ∧ (stepM t p).length ≤ max t.length 1 := by
  unfold stepM
  split
  · simp; omega
  · split
    · simp; omega
    · split
      · rename_i h
        have hne : (matchT (first p).2.1 t).1 ≠ [] := fun e => by have := matchT_ok.1 e; omega
        have := matchT_len (id := (first p).2.1) (t := t)
        have : 0 < (matchT (first p).2.1 t).1.length := List.length_pos_iff.2 hne
        rw [List.length_map]; omega
      · split <;> (simp; omega)
theorem mem_getD {α : Type} {l : List α} {d : α} {i : Nat} (h : i < l.length) : l.getD i d ∈ l := by simp [h]
theorem like_self (l : List Ot) (hl : l.length ≤ 1000) (hs : ∀ o ∈ l, o.2.2.1.1.length ≤ 1000) : oref13Like ((l, l, ()), ()) = some ((true, ()), ()) := by
  rw [oref13Like_eq, bref13Like]
  simp only [ieq_s, cond_true, cond_false, wref13Likex4_eq]
  have h := whl_up (g := rref13Likex4) (fun k => ((l, l, dlen l, (k : Int), ()), ())) (.inr (.inl ((), ()))) l.length
    (by simp only [rref13Likex4, bifF (ilt_len' (xs := l) (Nat.le_refl _))])
    (fun k hk => by
      have hv := hs _ (mem_getD (d := noO) hk)
      simp only [rref13Likex4, bifT (ilt_len hk), bifT ile_nat, inc_nat (show k < 4611686018427387904 by omega), outget, ieq_s, ideq_s, cond_true, cond_false]
      rw [ref13Same_eq _ _ (by omega)]
      simp only [bS_some, sameP_self, cond_true, cond_false]) l.length 0 (by omega)
  have h : whl rref13Likex4 ((l, l, dlen l, 0, ()), ()) = _ := h
  rw [h]; rfl
theorem cut_len (p : Pk) : (cutP p).1.length ≤ 6 := by show (p.1.take 6).length ≤ 6; rw [List.length_take]; omega
theorem take34 (t : List Trg) : (t.take 34).length ≤ 34 := by rw [List.length_take]; omega
theorem steps13 (t : List Trg) (p q : Pk) : olaw13RewriteSteps ((t, p, q, ()), ()) = some ((true, ()), ()) := by
  rw [olaw13RewriteSteps_eq, blaw13RewriteSteps]
  have ht := take34 t
  have hp := cut_len p
  simp only [few_eq, cut_eq, bS_some]
  generalize t.take 34 = t at *
  generalize cutP p = p at *
  generalize cutP q = q at *
  simp only [rewriteStep_eq t p (by omega) (by omega), rewriteRight_eq p (by omega), ref13Right_eq p (by omega), rewriteSame_eq p _ (by omega), ref13Same_eq p _ (by omega), sameP_self, alive13, ref12Right_eq t (by omega), bS_some, beq_s, cond_true, cond_false]
  cases hr : rightP p with
  | false => rfl
  | true =>
    cases hT : rightT t with
    | false => rfl
    | true =>
      obtain ⟨s1, s2⟩ := step_len (t := t) (p := p)
      simp only [cond_true, cond_false, and_self, if_true, ieq_s, ref13Step_eq t p (by omega) hr, bS_some, like_self (stepM t p) (by omega) (step_lens hr)]

/-- those that go on -/
theorem step_on {t : List Trg} {p : Pk} (hr : rightP p = true) (ht : rightT t = true) : ∀ o ∈ stepM t p, (o.1 ≠ 2 ∧ (stepM t p).length = 1) ∨ (0 < p.2.1 ∧ ∃ x f, o = onP p x f ∧ f.length ≤ 1 ∧ f.all isE = true ∧ 1 ≤ (f ++ p.1.drop 1).length) := by
  obtain ⟨h1, h2, h3, _⟩ := rightP_of hr
  obtain ⟨l1, l2, l3⟩ := rightS_len h1
  intro o ho
  by_cases k2 : (first p).1 = 2
  · left
    have e : stepM t p = [(1, (first p).2.2.1, p, noT, 0, ())] := by unfold stepM; rw [if_pos k2]
    rw [e] at ho ⊢
    simp only [List.mem_singleton] at ho; subst ho; exact ⟨by intro e; exact absurd e (by simp [deadO]), rfl⟩
  · by_cases h0 : p.2.1 = 0
    · left
      have e : stepM t p = [deadO 9] := by unfold stepM; rw [if_neg k2, if_pos h0]
      rw [e] at ho ⊢
      simp only [List.mem_singleton] at ho; subst ho; exact ⟨by intro e; exact absurd e (by simp [deadO]), rfl⟩
    · by_cases hm : (matchT (first p).2.1 t).2 = 0
      · right
        have e : stepM t p = (matchT (first p).2.1 t).1.map (fun x => onP p x [x.2.1]) := by unfold stepM; rw [if_neg k2, if_neg h0, if_pos hm]
        rw [e] at ho
        obtain ⟨x, hx, rfl⟩ := List.mem_map.1 ho
        refine ⟨by omega, x, _, rfl, by simp, ?_, by simp⟩
        simp only [List.all_cons, may_is (rightT_may ht (matchT_sub hx)), List.all_nil, Bool.and_self]
      · by_cases h1l : 1 < p.1.length
        · right
          have e : stepM t p = [onP p noT []] := by unfold stepM; rw [if_neg k2, if_neg h0, if_neg hm, if_pos h1l]
          rw [e] at ho
          simp only [List.mem_singleton] at ho; subst ho
          exact ⟨by omega, noT, [], rfl, by simp, rfl, by rw [List.nil_append, List.length_drop]; omega⟩
        · left
          have e : stepM t p = [deadO 6] := by unfold stepM; rw [if_neg k2, if_neg h0, if_neg hm, if_neg h1l]
          rw [e] at ho ⊢
          simp only [List.mem_singleton] at ho; subst ho; exact ⟨by intro e; exact absurd e (by simp [deadO]), rfl⟩
theorem onP_right {p : Pk} {x : Trg} {f : List Ent} (hr : rightP p = true) (h0 : 0 < p.2.1) (hf : f.length ≤ 1) (ha : f.all isE = true) (h1 : 1 ≤ (f ++ p.1.drop 1).length) : rightP (onP p x f).2.2.1 = true := by
  obtain ⟨a1, a2, a3, a4⟩ := rightP_of hr
  obtain ⟨l1, l2, l3⟩ := rightS_len a1
  show rightP (f ++ p.1.drop 1, p.2.1 - 1, p.2.2) = true
  unfold rightP rightS
  have hlen : (f ++ p.1.drop 1).length ≤ 4 := by rw [List.length_append, List.length_drop]; omega
  have hall : (f ++ p.1.drop 1).all isE = true := by rw [List.all_append, ha, all_drop l3 1]; rfl
  have e1 : 0 ≤ p.2.1 - 1 := by omega
  have e2 : p.2.1 - 1 ≤ 64 := by omega
  simp only [h1, hlen, hall, e1, e2, a4, decide_true, Bool.and_self]
theorem wsubn {a b : Nat} (h : b ≤ a) (ha : a < 4611686018427387904) : iwrap .i64 (isub (a : Int) (b : Int)) = ((a - b : Nat) : Int) := by
  have e : isub (a : Int) (b : Int) = ((a - b : Nat) : Int) := by simp only [isub]; omega
  rw [e, iwrap_i64] <;> omega
theorem wsubl {α : Type} (l : List α) (h : 1 ≤ l.length) (h2 : l.length ≤ 1000) : iwrap .i64 (isub (dlen l) 1) = ((l.length - 1 : Nat) : Int) := by
  have := wsubn (a := l.length) (b := 1) h (by omega)
  exact this
theorem keep_in (p : Pk) (o : Ot) (t : List Trg) (L : List Ot) (i : Int) (x : Trg) (f : List Ent) (hr : rightP p = true) (ho : o = onP p x f) (hf : f.length ≤ 1) (h1 : 1 ≤ (f ++ p.1.drop 1).length) :
    whl rlaw13RewriteKeepsx15 ((t, (), L, (), dlen o.2.2.1.1, L, dlen L, i, iwrap IntKind.i64 (isub (dlen o.2.2.1.1) 1), 0, ()), p, o, ()) = some (.inr (.inl ((t, (), L, L, dlen L, i, ()), p, ()))) := by
  obtain ⟨a1, a2, a3, a4⟩ := rightP_of hr
  obtain ⟨l1, l2, l3⟩ := rightS_len a1
  have hs : o.2.2.1.1 = f ++ p.1.drop 1 := by rw [ho]; rfl
  have hd := h1
  rw [List.length_append, List.length_drop] at hd
  have hdl : o.2.2.1.1.length = f.length + (p.1.length - 1) := by rw [hs, List.length_append, List.length_drop]
  rw [wsubl o.2.2.1.1 (by omega) (by omega)]
  refine whl_up (g := rlaw13RewriteKeepsx15) (fun k => ((t, (), L, (), dlen o.2.2.1.1, L, dlen L, i, ((o.2.2.1.1.length - 1 : Nat) : Int), (k : Int), ()), p, o, ())) (.inr (.inl ((t, (), L, L, dlen L, i, ()), p, ()))) (o.2.2.1.1.length - 1)
    (by
      have : ilt ((o.2.2.1.1.length - 1 : Nat) : Int) ((o.2.2.1.1.length - 1 : Nat) : Int) = false := ilt_f.2 (Int.le_refl _)
      simp only [rlaw13RewriteKeepsx15, this, cond_false])
    (fun k hk => ?_) (o.2.2.1.1.length - 1) 0 (by omega)
  have c1 : ilt (k : Int) ((o.2.2.1.1.length - 1 : Nat) : Int) = true := ilt_t.2 (by omega)
  have c2 : iwrap .i64 (isub ((o.2.2.1.1.length - 1 : Nat) : Int) (k : Int)) = ((o.2.2.1.1.length - 1 - k : Nat) : Int) := wsubn (by omega) (by omega)
  have c3 : iwrap .i64 (isub ((p.1.length - 1 : Nat) : Int) (k : Int)) = ((p.1.length - 1 - k : Nat) : Int) := wsubn (by omega) (by omega)
  have heq : o.2.2.1.1.getD (o.2.2.1.1.length - 1 - k) noE = p.1.getD (p.1.length - 1 - k) noE := by
    rw [hdl, hs, List.getD_eq_getElem?_getD, List.getD_eq_getElem?_getD, List.getElem?_append_right (show f.length ≤ f.length + (p.1.length - 1) - 1 - k by omega), List.getElem?_drop]
    congr 2
    omega
  simp only [rlaw13RewriteKeepsx15, c1, cond_true, wsubl o.2.2.1.1 (by omega) (by omega), wsubl p.1 (by omega) (by omega), c2, c3, ile_nat, ilt_len (show o.2.2.1.1.length - 1 - k < o.2.2.1.1.length by omega), ilt_len (show p.1.length - 1 - k < p.1.length by omega), entget, heq, ieq_s, ideq_s, cond_false, inc_nat (show k < 4611686018427387904 by omega)]
theorem keeps13 (t : List Trg) (p : Pk) : olaw13RewriteKeeps ((t, p, ()), ()) = some ((true, ()), ()) := by
  rw [olaw13RewriteKeeps_eq, blaw13RewriteKeeps]
  have ht := take34 t
  have hp := cut_len p
  simp only [few_eq, cut_eq, bS_some]
  generalize t.take 34 = t at *
  generalize cutP p = p at *
  simp only [rewriteStep_eq t p (by omega) (by omega), rewriteRight_eq p (by omega), tableRight_eq t (by omega), alive13, bS_some, cond_true, cond_false]
  cases hr : rightP p with
  | false => rfl
  | true =>
    cases hT : rightT t with
    | false => rfl
    | true =>
      obtain ⟨s1, s2⟩ := step_len (t := t) (p := p)
      obtain ⟨a1, a2, a3, a4⟩ := rightP_of hr
      obtain ⟨l1, l2, l3⟩ := rightS_len a1
      have hon := step_on (t := t) hr hT
      simp only [cond_true, cond_false, and_self, if_true, ieq_s, wlaw13RewriteKeepsx6_eq]
      generalize stepM t p = L at *
      have hloop := whl_up (g := rlaw13RewriteKeepsx6) (fun k => ((t, (), L, L, dlen L, (k : Int), ()), p, ())) (.inr (.inl ((t, L, ()), ()))) L.length
        (by simp only [rlaw13RewriteKeepsx6, bifF (ilt_len' (xs := L) (Nat.le_refl _))])
        (fun k hk => by
          have ho := hon _ (mem_getD (d := noO) hk)
          simp only [rlaw13RewriteKeepsx6, bifT (ilt_len hk), bifT ile_nat, outget, inc_nat (show k < 4611686018427387904 by omega)]
          generalize L.getD k noO = o at *
          rcases ho with ⟨hk2, hL1⟩ | ⟨hpos, x, f, hof, hf, hfa, hf1⟩
          · have e1 : ieq o.fst 2 = false := ieq_f.2 hk2
            have e2 : ieq (dlen L) 1 = true := ieq_t.2 (by rw [dlen_eq, hL1]; rfl)
            simp only [e1, e2, cond_true, cond_false]
          · have e1 : ieq o.fst 2 = true := by rw [hof]; rfl
            have hrp : rightP o.2.2.1 = true := by rw [hof]; exact onP_right hr hpos hf hfa hf1
            have hsl : o.2.2.1.1.length = f.length + (p.1.length - 1) := by rw [hof]; show (f ++ p.1.drop 1).length = _; rw [List.length_append, List.length_drop]
            have hdat : o.2.2.1.2.2.1 = p.2.2.1 := by rw [hof]; rfl
            have hhop : o.2.2.1.2.1 = p.2.1 - 1 := by rw [hof]; rfl
            have e3 : ilt (dlen p.1) (dlen o.2.2.1.1) = false := ilt_f.2 (by rw [dlen_eq, dlen_eq, hsl]; omega)
            have e4 : ilt (dlen o.2.2.1.1) ((p.1.length - 1 : Nat) : Int) = false := ilt_f.2 (by rw [dlen_eq, hsl]; omega)
            simp only [e1, cond_true, cond_false, rewriteRight_eq o.2.2.1 (by omega), hrp, bS_some, hdat, seq_s, hhop, wsub1 a2 a3, ieq_s, e3, wsubl p.1 l1 (by omega), e4, wlaw13RewriteKeepsx15_eq, keep_in p o t L (k : Int) x f hr hof hf hf1, bL_inr, bL_inl, inc_nat (show k < 4611686018427387904 by omega)]) L.length 0 (by omega)
      have hloop : whl rlaw13RewriteKeepsx6 ((t, (), L, L, dlen L, 0, ()), p, ()) = _ := hloop
      have e1 : ile 1 (dlen L) = true := ile_t.2 (by rw [dlen_eq]; omega)
      have e2 : ile (dlen L) (imax (dlen t) 1) = true := by
        rw [ile_t, imax_eq, dlen_eq, dlen_eq]
        split <;> omega
      rw [hloop]
      simp only [bL_inr, bL_inl, e1, e2, cond_true]

end Am
end Go.Proofs.Ytgdgiihaakcmpaa
