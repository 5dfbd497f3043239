/-
  The laws of packets: uses, and likeness.
-/
import Derived.Test.YtgdgiihaakcmpaaRx
namespace Go.Proofs.Ytgdgiihaakcmpaa
namespace Am
open Go Go.RowKit
set_option linter.unusedVariables false

theorem map_getD {α β : Type} (g : α → β) (l : List α) (i : Nat) (d : α) (e : β) (h : i < l.length) : (l.map g).getD i e = g (l.getD i d) := by
  simp [h]
theorem uses_loop (p q : Pk) (m : List Trg) : whl rlaw13RewriteUsesx16 ((m.map (fun x => onP p x [x.2.1]), m.map (fun x => onP q x [x.2.1]), m, dlen m, 0, ()), ()) = some (.inr (.inl ((), ()))) ∨ 1000 < m.length := by
  rcases Nat.lt_or_ge 1000 m.length with hl | hl
  · exact .inr hl
  left
  refine whl_up (g := rlaw13RewriteUsesx16) (fun k => ((m.map (fun x => onP p x [x.2.1]), m.map (fun x => onP q x [x.2.1]), m, dlen m, (k : Int), ()), ())) (.inr (.inl ((), ()))) m.length
    (by simp only [rlaw13RewriteUsesx16, bifF (ilt_len' (xs := m) (Nat.le_refl _))])
    (fun k hk => ?_) m.length 0 (by omega)
  have h1 : ilt (k : Int) (dlen (m.map (fun x => onP p x [x.2.1]))) = true := ilt_len (by rw [List.length_map]; exact hk)
  have h2 : ilt (k : Int) (dlen (m.map (fun x => onP q x [x.2.1]))) = true := ilt_len (by rw [List.length_map]; exact hk)
  have g1 : (m.map (fun x => onP p x [x.2.1])).getD k noO = onP p (m.getD k noT) [(m.getD k noT).2.1] := map_getD _ _ _ _ _ hk
  have g2 : (m.map (fun x => onP q x [x.2.1])).getD k noO = onP q (m.getD k noT) [(m.getD k noT).2.1] := map_getD _ _ _ _ _ hk
  simp only [rlaw13RewriteUsesx16, ilt_len hk, h1, h2, ile_nat, cond_true, trgget, outget, g1, g2, inc_nat (show k < 4611686018427387904 by omega)]
  generalize m.getD k noT = x
  have e1 : ieq (dlen (onP p x [x.2.1]).2.2.1.1) 0 = false := ieq_f.2 (by
    show ((([x.2.1] ++ p.1.drop 1).length : Nat) : Int) ≠ 0
    simp; omega)
  have e2 : (bif ile 0 0 then ilt 0 (dlen (onP p x [x.2.1]).2.2.1.1) else false) = true := in0 _ (by
    show 1 ≤ ([x.2.1] ++ p.1.drop 1).length
    simp)
  have e3 : dget ((Ty.int IntKind.i64).pair (Ty.id.pair ((Ty.int IntKind.i64).pair Ty.unit))) (onP p x [x.2.1]).2.2.1.1 0 = x.2.1 := by
    rw [ent0]; rfl
  have b1 : (onP p x [x.2.1]).2.2.2.1 = x := rfl
  have b2 : (onP q x [x.2.1]).2.2.2.1 = x := rfl
  simp only [e1, e2, e3, b1, b2, ieq_s, ideq_s, cond_true, cond_false]
theorem uses13 (t : List Trg) (p : Pk) : olaw13RewriteUses ((t, p, ()), ()) = some ((true, ()), ()) := by
  rw [olaw13RewriteUses_eq, blaw13RewriteUses]
  have ht := take34 t
  have hp := cut_len p
  simp only [few_eq, cut_eq, bS_some]
  generalize t.take 34 = t at *
  generalize cutP p = p at *
  simp only [rewriteStep_eq t p (by omega) (by omega), alive13, bS_some]
  cases hr : rightP p with
  | false => rfl
  | true =>
    cases hT : rightT t with
    | false => rfl
    | true =>
      obtain ⟨a1, a2, a3, a4⟩ := rightP_of hr
      obtain ⟨l1, l2, l3⟩ := rightS_len a1
      simp only [and_self, if_true, ieq_s, cond_true, cond_false, in0 p.1 l1, ent0]
      by_cases h0 : p.2.1 = 0
      · have e0 : ieq p.2.1 0 = true := ieq_t.2 h0
        simp only [e0, cond_true, cond_false]
      · have e0 : ieq p.2.1 0 = false := ieq_f.2 h0
        simp only [e0, cond_true, cond_false]
        by_cases hk : (p.1.getD 0 noE).1 = 1
        · have ek : ieq (p.1.getD 0 noE).1 1 = true := ieq_t.2 hk
          have rg : (bif bif ile 0 0 then ile 0 1 else false then ile 1 (dlen p.1) else false) = true := by
            have e1 : ile 0 0 = true := rfl
            have e2 : ile 0 1 = true := rfl
            have e3 : ile 1 (dlen p.1) = true := by rw [ile_t, dlen_eq]; omega
            simp only [e1, e2, e3, cond_true]
          have hd : dsub p.1 0 1 = p.1.take 1 := dsub_take p.1 1
          have hq1 : (p.1.take 1).length = 1 := by rw [List.length_take]; omega
          have hrq : rightP (p.1.take 1, p.2) = true := by
            unfold rightP rightS
            have hall : (p.1.take 1).all isE = true := by
              rw [List.all_eq_true] at l3 ⊢
              exact fun x hx => l3 x (List.mem_of_mem_take hx)
            simp only [hq1, hall, a2, a3, a4, decide_true, Bool.and_self, Nat.le_refl, show 1 ≤ 4 by omega]
          have hfq : first (p.1.take 1, p.2) = first p := by
            unfold first
            show (p.1.take 1).getD 0 noE = p.1.getD 0 noE
            rw [List.getD_eq_getElem?_getD, List.getD_eq_getElem?_getD, List.getElem?_take_of_lt (by omega)]
          have hff : p.1.getD 0 noE = first p := rfl
          have h2 : ¬ (first p).1 = 2 := by rw [← hff, hk]; omega
          have h2q : ¬ (first (p.1.take 1, p.2)).1 = 2 := by rw [hfq]; exact h2
          simp only [ek, cond_true, cond_false, tableMatch_eq t _ (by omega) hT, bS_some, rg, hd, rewriteStep_eq t (p.1.take 1, p.2) (by omega) (by show (p.1.take 1).length ≤ 1000; omega), hrq, hT, and_self, if_true, ieq_s]
          by_cases hm : (matchT (first p).2.1 t).2 = 0
          · have s1 : stepM t p = (matchT (first p).2.1 t).1.map (fun x => onP p x [x.2.1]) := by
              unfold stepM; rw [if_neg h2, if_neg h0, if_pos hm]
            have s2 : stepM t (p.1.take 1, p.2) = (matchT (first p).2.1 t).1.map (fun x => onP (p.1.take 1, p.2) x [x.2.1]) := by
              unfold stepM; rw [if_neg h2q, if_neg (show ¬ p.2.1 = 0 from h0), hfq, if_pos hm]
            have hlen := matchT_len (id := (first p).2.1) (t := t)
            rw [hff, s1, s2, hm]
            generalize (matchT (first p).2.1 t).1 = m at *
            have q1 : ieq (dlen (m.map (fun x => onP p x [x.2.1]))) (dlen m) = true := ieq_t.2 (by rw [dlen_eq, dlen_eq, List.length_map])
            have q2 : ieq (dlen (m.map (fun x => onP (p.1.take 1, p.2) x [x.2.1]))) (dlen m) = true := ieq_t.2 (by rw [dlen_eq, dlen_eq, List.length_map])
            have hloop := (uses_loop p (p.1.take 1, p.2) m).resolve_right (by omega)
            simp only [ieq_s, cond_true, cond_false, q1, q2, wlaw13RewriteUsesx16_eq, hloop, bL_inr, bL_inl]
          · have hm6 : ieq (matchT (first p).2.1 t).2 0 = false := ieq_f.2 hm
            have s2 : stepM t (p.1.take 1, p.2) = [deadO 6] := by
              unfold stepM; rw [if_neg h2q, if_neg (show ¬ p.2.1 = 0 from h0), hfq, if_neg hm, if_neg (show ¬ 1 < (p.1.take 1).length by omega)]
            rw [hff, s2, hm6]
            by_cases h1l : 1 < p.1.length
            · have s1 : stepM t p = [onP p noT []] := by unfold stepM; rw [if_neg h2, if_neg h0, if_neg hm, if_pos h1l]
              rw [s1]
              have n1 : ideq Id.zero Id.zero = true := ideq_s _
              rfl
            · have s1 : stepM t p = [deadO 6] := by unfold stepM; rw [if_neg h2, if_neg h0, if_neg hm, if_neg h1l]
              rw [s1]
              rfl
        · have ek : ieq (p.1.getD 0 noE).1 1 = false := ieq_f.2 hk
          simp only [ek, cond_true, cond_false]

/-- what becomes of two packets that are alike -/
def Rel13 (p q : Pk) (o o' : Ot) : Prop := (∃ h, o = (1, h, p, noT, 0, ()) ∧ o' = (1, h, q, noT, 0, ())) ∨ (∃ n, o = deadO n ∧ o' = deadO n) ∨ (∃ x f, o = onP p x f ∧ o' = onP q x f)
theorem rel_step (t : List Trg) (p q : Pk) (h1 : q.1 = p.1) (h0 : q.2.1 = 0 ↔ p.2.1 = 0) : (stepM t q).length = (stepM t p).length ∧ ∀ i, i < (stepM t p).length → Rel13 p q ((stepM t p).getD i noO) ((stepM t q).getD i noO) := by
  have hf : first q = first p := by unfold first; rw [h1]
  by_cases k2 : (first p).1 = 2
  · have s1 : stepM t p = [(1, (first p).2.2.1, p, noT, 0, ())] := by unfold stepM; rw [if_pos k2]
    have s2 : stepM t q = [(1, (first p).2.2.1, q, noT, 0, ())] := by unfold stepM; rw [hf, if_pos k2]
    rw [s1, s2]
    refine ⟨rfl, fun i hi => ?_⟩
    obtain rfl : i = 0 := by simpa using hi
    exact .inl ⟨_, rfl, rfl⟩
  · by_cases hh : p.2.1 = 0
    · have s1 : stepM t p = [deadO 9] := by unfold stepM; rw [if_neg k2, if_pos hh]
      have s2 : stepM t q = [deadO 9] := by unfold stepM; rw [hf, if_neg k2, if_pos (h0.2 hh)]
      rw [s1, s2]
      refine ⟨rfl, fun i hi => ?_⟩
      obtain rfl : i = 0 := by simpa using hi
      exact .inr (.inl ⟨_, rfl, rfl⟩)
    · have hh' : ¬ q.2.1 = 0 := fun e => hh (h0.1 e)
      by_cases hm : (matchT (first p).2.1 t).2 = 0
      · have s1 : stepM t p = (matchT (first p).2.1 t).1.map (fun x => onP p x [x.2.1]) := by unfold stepM; rw [if_neg k2, if_neg hh, if_pos hm]
        have s2 : stepM t q = (matchT (first p).2.1 t).1.map (fun x => onP q x [x.2.1]) := by unfold stepM; rw [hf, if_neg k2, if_neg hh', if_pos hm]
        rw [s1, s2]
        refine ⟨by rw [List.length_map, List.length_map], fun i hi => ?_⟩
        rw [List.length_map] at hi
        rw [map_getD _ _ _ noT _ hi, map_getD _ _ _ noT _ hi]
        exact .inr (.inr ⟨_, _, rfl, rfl⟩)
      · by_cases h1l : 1 < p.1.length
        · have s1 : stepM t p = [onP p noT []] := by unfold stepM; rw [if_neg k2, if_neg hh, if_neg hm, if_pos h1l]
          have s2 : stepM t q = [onP q noT []] := by unfold stepM; rw [hf, if_neg k2, if_neg hh', if_neg hm, h1, if_pos h1l]
          rw [s1, s2]
          refine ⟨rfl, fun i hi => ?_⟩
          obtain rfl : i = 0 := by simpa using hi
          exact .inr (.inr ⟨_, _, rfl, rfl⟩)
        · have s1 : stepM t p = [deadO 6] := by unfold stepM; rw [if_neg k2, if_neg hh, if_neg hm, if_neg h1l]
          have s2 : stepM t q = [deadO 6] := by unfold stepM; rw [hf, if_neg k2, if_neg hh', if_neg hm, h1, if_neg h1l]
          rw [s1, s2]
          refine ⟨rfl, fun i hi => ?_⟩
          obtain rfl : i = 0 := by simpa using hi
          exact .inr (.inl ⟨_, rfl, rfl⟩)
theorem like_loop (p q : Pk) (L M : List Ot) (d : List UInt8) (hd : q.2.2.1 = d) (h1 : q.1 = p.1) (hl : L.length ≤ 1000) (hM : M.length = L.length) (hR : ∀ i, i < L.length → Rel13 p q (L.getD i noO) (M.getD i noO)) :
    whl rlaw13RewriteLikex14 ((d, (), (), M, L, dlen L, 0, ()), p, q, ()) = some (.inr (.inl ((), ()))) := by
  refine whl_up (g := rlaw13RewriteLikex14) (fun k => ((d, (), (), M, L, dlen L, (k : Int), ()), p, q, ())) (.inr (.inl ((), ()))) L.length
    (by simp only [rlaw13RewriteLikex14, bifF (ilt_len' (xs := L) (Nat.le_refl _))])
    (fun k hk => ?_) L.length 0 (by omega)
  have hr := hR k hk
  simp only [rlaw13RewriteLikex14, ilt_len hk, ilt_len (show k < M.length by omega), ile_nat, cond_true, outget, inc_nat (show k < 4611686018427387904 by omega)]
  generalize L.getD k noO = o at *
  generalize M.getD k noO = o' at *
  rcases hr with ⟨h, rfl, rfl⟩ | ⟨n, rfl, rfl⟩ | ⟨x, f, rfl, rfl⟩
  · have e3 : ieq 1 3 = false := rfl
    simp only [h1, hd, ieq_s, ideq_s, seq_s, e3, cond_true, cond_false]
  · have e3 : ieq (deadO n).1 3 = true := rfl
    simp only [ieq_s, ideq_s, e3, cond_true, cond_false]
  · have b1 : (onP p x f).1 = 2 := rfl
    have b2 : (onP q x f).1 = 2 := rfl
    have b3 : (onP p x f).2.1 = 0 := rfl
    have b4 : (onP q x f).2.1 = 0 := rfl
    have b5 : (onP p x f).2.2.2.1 = x := rfl
    have b6 : (onP q x f).2.2.2.1 = x := rfl
    have b7 : (onP p x f).2.2.2.2.1 = 0 := rfl
    have b8 : (onP q x f).2.2.2.2.1 = 0 := rfl
    have b9 : (onP p x f).2.2.1.1 = f ++ p.1.drop 1 := rfl
    have ba : (onP q x f).2.2.1.1 = f ++ p.1.drop 1 := by rw [← h1]; rfl
    have bb : (onP q x f).2.2.1.2.2.1 = d := hd
    have bc : (onP p x f).2.2.1.2.1 = p.2.1 - 1 := rfl
    have bd : (onP q x f).2.2.1.2.1 = q.2.1 - 1 := rfl
    have be : isub (q.2.1 - 1) (p.2.1 - 1) = isub q.2.1 p.2.1 := by simp only [isub]; omega
    have e3 : ieq 2 3 = false := rfl
    simp only [b1, b2, b3, b4, b5, b6, b7, b8, b9, ba, bb, bc, bd, be, ieq_s, ideq_s, seq_s, e3, cond_true, cond_false]
theorem rem65 (x : Int) : ∃ m : Nat, m ≤ 64 ∧ irem (iwrap IntKind.i64 (iadd (irem x 65) 65)) 65 = (m : Int) := by
  have h1 : -65 < Int.tmod x 65 ∧ Int.tmod x 65 < 65 := by
    have a := Int.tmod_lt_of_pos x (show (0 : Int) < 65 by omega)
    have b := Int.lt_tmod_of_pos x (show (0 : Int) < 65 by omega)
    omega
  have e1 : iwrap IntKind.i64 (iadd (irem x 65) 65) = Int.tmod x 65 + 65 := by
    show iwrap IntKind.i64 (Int.tmod x 65 + 65) = _
    rw [iwrap_i64] <;> omega
  rw [e1]
  obtain ⟨n, hn⟩ : ∃ n : Nat, Int.tmod x 65 + 65 = n := ⟨(Int.tmod x 65 + 65).toNat, by omega⟩
  rw [hn]
  refine ⟨n % 65, by omega, ?_⟩
  have := irem_nat n 65
  exact this
theorem like13 (t : List Trg) (p : Pk) (data : List UInt8) (more : Int) : olaw13RewriteLike ((t, p, data, more, ()), ()) = some ((true, ()), ()) := by
  rw [olaw13RewriteLike_eq, blaw13RewriteLike]
  have ht := take34 t
  have hp := cut_len p
  have hi : imin (dlen data) 64 = _ := imin_len data 64
  have e : ∀ n : Nat, ile 0 (n : Int) = true := fun n => ile_nat
  simp only [few_eq, cut_eq, bS_some, hi, ile00, e, ile_min, dsub_min, cond_true]
  generalize t.take 34 = t at *
  generalize cutP p = p at *
  obtain ⟨m, hm, hmr⟩ := rem65 more
  have hdl : (data.take 64).length ≤ 64 := by rw [List.length_take]; omega
  generalize data.take 64 = d at *
  have e65 : ieq 65 0 = false := rfl
  simp only [rewriteStep_eq t p (by omega) (by omega), alive13, bS_some, hmr, e65, cond_true, cond_false]
  cases hr : rightP p with
  | false => rfl
  | true =>
    cases hT : rightT t with
    | false => rfl
    | true =>
      obtain ⟨a1, a2, a3, a4⟩ := rightP_of hr
      obtain ⟨l1, l2, l3⟩ := rightS_len a1
      have hw : iwrap IntKind.i64 (iadd p.2.1 (m : Int)) = p.2.1 + m := by
        unfold iadd; rw [iwrap_i64] <;> omega
      have fin : ∀ n : Int, 0 ≤ n → n ≤ 64 → (n = 0 ↔ p.2.1 = 0) →
          (bS (orewriteStep ((t, (p.1, n, d, ()), ()), ())) fun v3 => bif bif bif ieq v3.fst.snd.fst 0 then false else true then false else true then bif bif bif ieq (dlen (stepM t p)) (dlen v3.fst.fst) then false else true then false else true then (bif bif true then false else true then some ((false, ()), ()) else bL (whl rlaw13RewriteLikex14 ((d, (), (), v3.fst.fst, stepM t p, dlen (stepM t p), 0, ()), p, (p.1, n, d, ()), ())) (fun v5 => some v5) fun u5 => bL u5 (fun v6 => some ((true, ()), ())) fun u6 => none) else some ((false, ()), ()) else some ((false, ()), ())) = some ((true, ()), ()) := by
        intro n n0 n1 n2
        have hrq : rightP (p.1, n, d, ()) = true := by
          unfold rightP
          simp only [a1, n0, n1, hdl, decide_true, Bool.and_self]
        obtain ⟨r1, r2⟩ := rel_step t p (p.1, n, d, ()) rfl n2
        rw [rewriteStep_eq t (p.1, n, d, ()) (by omega) (by show p.1.length ≤ 1000; omega)]
        have q1 : ieq (dlen (stepM t p)) (dlen (stepM t (p.1, n, d, ()))) = true := ieq_t.2 (by rw [dlen_eq, dlen_eq, r1])
        have hlen := (step_len (t := t) (p := p)).2
        simp only [hrq, hT, and_self, if_true, bS_some, ieq_s, cond_true, cond_false, q1, like_loop p (p.1, n, d, ()) (stepM t p) (stepM t (p.1, n, d, ())) d rfl rfl (by omega) r1 r2, bL_inr, bL_inl]
      simp only [and_self, if_true, ieq_s, cond_true, cond_false, hw, wlaw13RewriteLikex14_eq]
      by_cases h0 : 0 < p.2.1
      · have e1 : ilt 0 p.2.1 = true := ilt_t.2 h0
        by_cases h64 : p.2.1 + m ≤ 64
        · have e2 : ile (p.2.1 + m) 64 = true := ile_t.2 h64
          simp only [e1, e2, cond_true]
          exact fin (p.2.1 + m) (by omega) h64 (by omega)
        · have e2 : ile (p.2.1 + m) 64 = false := ile_f.2 (by omega)
          simp only [e1, e2, cond_true, cond_false]
          exact fin p.2.1 a2 a3 Iff.rfl
      · have e1 : ilt 0 p.2.1 = false := ilt_f.2 (by omega)
        simp only [e1, cond_false]
        exact fin p.2.1 a2 a3 Iff.rfl

end Am
end Go.Proofs.Ytgdgiihaakcmpaa
