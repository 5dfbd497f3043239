/-
  Wire: the document's way to read a message.
-/
import Derived.Test.YthnmiialdjifiaaWv
namespace Go.Proofs.Ythnmiialdjifiaa
namespace Am
open Go Go.RowKit
set_option linter.unusedVariables false
set_option linter.unusedSimpArgs false
set_option maxRecDepth 10000

/- its head -/
def hdS (f : Fl) (r : List UInt8) (k : Int) (i : Id) : Option (Wm × List UInt8) :=
  if f.2.1 = true then (if (readS r).2.2 = 0 ∧ (readS r).1.length = 1 then some ((k, i, (readS r).1.getD 0 noE, [], 0, [], [], ()), r.drop (readS r).2.1) else none)
  else if f.2.2.1 = true then (if (readS r).2.2 = 0 then some ((k, i, noE, (readS r).1, 0, [], [], ()), r.drop (readS r).2.1) else none)
  else some ((k, i, noE, [], 0, [], [], ()), r)
def hd : List UInt8 → Option (Wm × List UInt8)
  | [] => none
  | b :: t => if (fl (b.toNat : Int)).1 = false ∧ (fl (b.toNat : Int)).2.2.1 = false then none
    else if (fl (b.toNat : Int)).1 = true then (if t.length < 32 then none else hdS (fl (b.toNat : Int)) (t.drop 32) (b.toNat : Int) (Id.zero.over (t.take 32)))
    else hdS (fl (b.toNat : Int)) t (b.toNat : Int) Id.zero
def hdR (o : Option (Wm × List UInt8)) : Option (((Wm × List UInt8 × Bool × Unit) × Unit) × Unit) := some (((match o with
  | some x => (x.1, x.2, true, ())
  | none => ((0, Id.zero, noE, [], 0, [], [], ()), [], false, ())), ()), ())

theorem idLoop (t : List UInt8) (k : Int) (ht : 32 ≤ t.length) : wref05Headx8 (((), (), 0, ()), ((0, Id.zero, noE, (), 0, [], [], ()), [], false, ()), ((k, Id.zero, noE, (), 0, [], [], ()), t, true, ()), ()) =
    some (.inl (((), (), ()), ((0, Id.zero, noE, (), 0, [], [], ()), [], false, ()), ((k, Id.zero.over (t.take 32), noE, (), 0, [], [], ()), t, true, ()), ())) := by
  rw [wref05Headx8_eq]
  have h := whl_up (g := rref05Headx8) (fun j => (((), (), (j : Int), ()), ((0, Id.zero, noE, (), 0, [], [], ()), [], false, ()), ((k, Id.zero.over (t.take j), noE, (), 0, [], [], ()), t, true, ()), ()))
    (.inl (((), (), ()), ((0, Id.zero, noE, (), 0, [], [], ()), [], false, ()), ((k, Id.zero.over (t.take 32), noE, (), 0, [], [], ()), t, true, ()), ())) 32
    (by
      have c0 : ilt ((32 : Nat) : Int) 32 = false := rfl
      simp only [rref05Headx8, c0, cond_false])
    (fun j hj => by
      have c0 : ilt (j : Int) 32 = true := ilt_t.2 (by omega)
      have c1 : ilt (j : Int) (dlen t) = true := ilt_len (by omega)
      have es : sget t (j : Int) = t.getD j 0 := by unfold sget; simp
      have ei : inat (j : Int) = j := by unfold inat; simp
      simp only [rref05Headx8, c0, c1, ile_nat, es, ei, cond_true, over_step t j hj ht, inc_nat (show j < 4611686018427387904 by omega)]) 32 0 (by omega)
  rw [show Id.zero.over (t.take 0) = Id.zero from Id.ext' (by rw [over_l _ _ (by simp)]; simp)] at h
  exact h

theorem subEnd (r : List UInt8) (n : Nat) (h : n ≤ r.length) : dsub r (n : Int) (dlen r) = r.drop n := by
  rw [dlen_eq, dsub_eq, List.take_of_length_le]
  rw [List.length_drop]; omega
theorem ref05Head_eq (s : List UInt8) (hs : s.length ≤ 1000) : oref05Head ((s, ()), ()) = hdR (hd s) := by
  rw [oref05Head_eq, bref05Head]
  obtain ⟨i1, i2, i3, i4, i5, i6⟩ := iu8s
  have hn : ((0, Id.zero, 0, ()) : Ent) = noE := rfl
  cases s with
  | nil => rfl
  | cons b t =>
    have ht : t.length ≤ 999 := by simp at hs; omega
    have e0 : ieq (dlen (b :: t)) 0 = false := ieq_f.2 (by rw [dlen_eq]; simp; omega)
    have e1 : (bif ile 0 0 then ilt 0 (dlen (b :: t)) else false) = true := by
      rw [bifT (show ile 0 0 = true from rfl)]
      exact ilt_t.2 (by rw [dlen_eq, List.length_cons]; omega)
    have e2 : sget (b :: t) 0 = b := rfl
    have e3 : iwrap IntKind.i64 (u8i b) = (b.toNat : Int) := byte_eq b
    have e4 : dsub (b :: t) 1 (dlen (b :: t)) = t := by
      rw [show (1 : Int) = ((1 : Nat) : Int) from rfl, subEnd _ _ (by simp)]; rfl
    have e5 : (bif (bif ile 0 1 then ile 1 (dlen (b :: t)) else false) then ile (dlen (b :: t)) (dlen (b :: t)) else false) = true := by
      rw [bifT (show ile 0 1 = true from rfl), bifT (ile_t.2 (by rw [dlen_eq]; simp; omega))]
      exact ile_t.2 (Int.le_refl _)
    have d0 : ∀ l : List Ent, dget ((Ty.int IntKind.i64).pair (Ty.id.pair ((Ty.int IntKind.i64).pair Ty.unit))) l 0 = l.getD 0 noE := fun l => entget l 0
    simp only [e0, e1, e2, e3, e4, e5, i1, i2, i3, hasI, hasT, hasS, bS_some, cond_true, cond_false, hd, hn]
    -- what comes behind the identifier
    have rest : ∀ (r : List UInt8) (k : Int) (i : Id) (f1 f2 : Bool), (fl k).2.1 = f1 → (fl k).2.2.1 = f2 → r.length ≤ 999 → True := fun _ _ _ _ _ _ _ _ => trivial
    generalize hk : (b.toNat : Int) = k
    generalize hf : fl k = f
    obtain ⟨f1, f2, f3, f4, f5, f6, ⟨⟩⟩ := f
    simp only
    cases f1 with
    | true =>
      simp only [cond_true, cond_false, Bool.true_eq_false, false_and, if_false, if_true]
      by_cases h32 : t.length < 32
      · have c : ilt (dlen t) 32 = true := ilt_t.2 (by rw [dlen_eq]; omega)
        simp only [c, cond_true, if_pos h32]; rfl
      · have c : ilt (dlen t) 32 = false := ilt_f.2 (by rw [dlen_eq]; omega)
        have e6 : dsub t 32 (dlen t) = t.drop 32 := by rw [show (32 : Int) = ((32 : Nat) : Int) from rfl, subEnd _ _ (by omega)]
        have e7 : (bif (bif ile 0 32 then ile 32 (dlen t) else false) then ile (dlen t) (dlen t) else false) = true := by
          rw [bifT (show ile 0 32 = true from rfl), bifT (ile_t.2 (by rw [dlen_eq]; omega))]
          exact ile_t.2 (Int.le_refl _)
        simp only [c, cond_false, if_neg h32, idLoop t k (by omega), bL_inl, e6, e7, cond_true, hasT, hasS, hf, bS_some, hdS]
        generalize hr : t.drop 32 = r
        have hr9 : r.length ≤ 999 := by rw [← hr, List.length_drop]; omega
        simp only [ref04Read_eq r (by omega), bS_some, d0]
        by_cases h0 : (readS r).2.2 = 0
        · obtain ⟨g1, g2, g3⟩ := readS_back r h0
          have g4 := (rightS_facts g1).1
          have cu : (bif (bif ile 0 ((readS r).2.1 : Int) then ile ((readS r).2.1 : Int) (dlen r) else false) then ile (dlen r) (dlen r) else false) = true := by
            rw [bifT ile_nat, bifT (ile_t.2 (by rw [dlen_eq]; omega))]
            exact ile_t.2 (Int.le_refl _)
          have c0 : (bif ile 0 0 then ilt 0 (dlen (readS r).1) else false) = true := by
            rw [bifT (show ile 0 0 = true from rfl)]
            exact ilt_t.2 (by rw [dlen_eq]; omega)
          have el : ieq (dlen (readS r).1) 1 = decide ((readS r).1.length = 1) := by
            rw [ieq_d, dlen_eq]; congr 1; rw [eq_iff_iff]; omega
          simp only [h0, ieq_s, cu, c0, el, subEnd r _ g3, cond_true, cond_false, true_and]
          cases f2 <;> cases f3 <;> by_cases hl : (readS r).1.length = 1 <;> simp [hl, hdR, noE]
        · simp only [ieq_f.2 h0, h0, cond_true, cond_false, false_and, if_false]
          cases f2 <;> cases f3 <;> simp [hdR, noE]
    | false =>
      simp only [cond_true, cond_false, Bool.true_eq_false, true_and, if_false, if_true, Bool.false_eq_true]
      cases f3 with
      | false => simp [hdR, noE]
      | true =>
        simp only [cond_true, cond_false, Bool.true_eq_false, if_false, hasT, hasS, hf, bS_some, hdS]
        simp only [ref04Read_eq t (by omega), bS_some, d0]
        by_cases h0 : (readS t).2.2 = 0
        · obtain ⟨g1, g2, g3⟩ := readS_back t h0
          have g4 := (rightS_facts g1).1
          have cu : (bif (bif ile 0 ((readS t).2.1 : Int) then ile ((readS t).2.1 : Int) (dlen t) else false) then ile (dlen t) (dlen t) else false) = true := by
            rw [bifT ile_nat, bifT (ile_t.2 (by rw [dlen_eq]; omega))]
            exact ile_t.2 (Int.le_refl _)
          have c0 : (bif ile 0 0 then ilt 0 (dlen (readS t).1) else false) = true := by
            rw [bifT (show ile 0 0 = true from rfl)]
            exact ilt_t.2 (by rw [dlen_eq]; omega)
          have el : ieq (dlen (readS t).1) 1 = decide ((readS t).1.length = 1) := by
            rw [ieq_d, dlen_eq]; congr 1; rw [eq_iff_iff]; omega
          simp only [h0, ieq_s, cu, c0, el, subEnd t _ g3, cond_true, cond_false, true_and]
          cases f2 <;> by_cases hl : (readS t).1.length = 1 <;> simp [hl, hdR, noE]
        · simp only [ieq_f.2 h0, h0, cond_true, cond_false, false_and, if_false]
          cases f2 <;> simp [hdR, noE]
end Am
end Go.Proofs.Ythnmiialdjifiaa
