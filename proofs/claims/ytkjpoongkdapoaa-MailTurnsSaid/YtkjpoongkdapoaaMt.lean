/-
  The law MailTurns.
-/
import Derived.Test.YtkjpoongkdapoaaMm
import Derived.Test.YtkjpoongkdapoaaBr
namespace Go.Proofs.Ytkjpoongkdapoaa
namespace Am
open Go Go.RowKit
set_option linter.unusedVariables false

theorem lastM_turn {m : Mail'} (hr : rightM m = true) {i : Nat} (hi : i < m.1.length) : lastM (m.1.drop i ++ m.1.take i, m.2) 0 = ((m.1.drop (i + 1) ++ m.1.take (i + 1), m.2), 0, ()) := by
  have hR := rightM_iff.1 hr
  have hlen : (m.1.drop i ++ m.1.take i).length = m.1.length := by simp; omega
  have hr' : rightM (m.1.drop i ++ m.1.take i, m.2) = true := by
    refine rightM_iff.2 ⟨by rw [hlen]; exact hR.len, hR.last0, hR.last1, hR.now0, hR.now1, fun x hx => hR.all x ?_⟩
    rcases List.mem_append.1 hx with h | h
    · exact List.mem_of_mem_drop h
    · exact List.mem_of_mem_take h
  have hd : m.1.drop i = m.1.getD i noL :: m.1.drop (i + 1) := drop_getD' hi
  have ht : takeM (m.1.drop i ++ m.1.take i, m.2) 0 = ((m.1.drop (i + 1) ++ m.1.take i, m.2), m.1.getD i noL, 0, ()) := by
    unfold takeM
    rw [if_pos hr', if_pos ⟨by omega, by show (0 : Int) < ((m.1.drop i ++ m.1.take i).length : Nat); rw [hlen]; omega⟩]
    simp only [hd, Int.toNat_zero, List.cons_append, List.eraseIdx_cons_zero, List.getD_cons_zero]
  unfold lastM
  rw [ht]
  simp only [if_true]
  rw [take_getD (d := noL) hi, List.append_assoc]
theorem turn_loop (m : Mail') (data : List UInt8) (ticks : Int) (hr : rightM m = true) :
    whl rlaw06MailTurnsx6 ((data, ticks, (), (), dlen m.1, 0, ()), m, m, ()) = some (.inl ((data, ticks, (), (), ()), m, m, ())) := by
  have h64 := rightM_len hr
  have h := whl_up (g := rlaw06MailTurnsx6) (fun i => ((data, ticks, (), (), dlen m.1, (i : Int), ()), m, (m.1.drop i ++ m.1.take i, m.2), ())) (.inl ((data, ticks, (), (), ()), m, m, ())) m.1.length
    (by simp only [rlaw06MailTurnsx6, bifF (ilt_len' (xs := m.1) (Nat.le_refl _)), List.drop_length, List.take_length, List.nil_append])
    (fun i hi => by
      have hlen : (m.1.drop i ++ m.1.take i).length = m.1.length := by simp; omega
      have e0 : ieq 0 0 = true := rfl
      simp only [rlaw06MailTurnsx6, bifT (ilt_len hi), mailLast_eq (m.1.drop i ++ m.1.take i, m.2) 0 (by show (m.1.drop i ++ m.1.take i).length ≤ _; omega), bS_some, lastM_turn hr hi, e0, cond_true, cond_false, inc_nat (show i < 4611686018427387904 by omega)]) m.1.length 0 (by omega)
  simpa using h

theorem turns (m0 : Mail') (x1 : List UInt8) (x2 : Int) : olaw06MailTurns ((m0, x1, x2, ()), ()) = some ((true, ()), ()) := by
  have e100 : (100 : Int) = ((100 : Nat) : Int) := rfl
  have hm66 := fewM_len m0
  rw [olaw06MailTurns_eq, blaw06MailTurns]
  simp only [e100, imin_len, ile00, ile_nat, ile_min, dsub_min, cond_true, fewM_eq, bS_some]
  obtain ⟨m, hm⟩ : ∃ m, fewM m0 = m := ⟨_, rfl⟩
  rw [hm] at hm66 ⊢
  obtain ⟨data, hdata⟩ : ∃ d, x1.take 100 = d := ⟨_, rfl⟩
  have hd : data.length ≤ 100 := by rw [← hdata]; simp; omega
  have hl : m.1.length ≤ 4611686018427387903 := by omega
  rw [hdata]
  simp only [mailRight_eq m hl, bS_some, alive6]
  cases hr : rightM m with
  | false => rfl
  | true =>
    have hR := rightM_iff.1 hr
    obtain ⟨t, ht, et⟩ := brought x2 1000 (by omega) (by omega)
    have et' : irem (iwrap .i64 (iadd (irem x2 1000) 1000)) 1000 = (t : Int) := et
    have hp : passM m (t : Int) = ((m.1, m.2.1, m.2.2.1 + min (t : Int) (1099511627776 - m.2.2.1), ()), 0, ()) := by
      unfold passM
      rw [if_pos ⟨hr, by omega⟩]
    have hnow : ilt (m.2.2.1 + min (t : Int) (1099511627776 - m.2.2.1)) m.2.2.1 = false := ilt_f.2 (by have := hR.now1; omega)
    have e0 : ieq 0 0 = true := rfl
    have e1000 : ieq 1000 0 = false := rfl
    have edl : ∀ l : List Let', ieq (dlen l) (dlen l) = true := fun l => ieq_t.2 rfl
    have ha0 : addrB 0 = true := rfl
    have ha31 : addrB 31 = true := rfl
    simp only [cond_true, cond_false, wlaw06MailTurnsx6_eq, turn_loop m data x2 hr, bL_inl, et', e1000, mailPass_eq m (t : Int) hl, bS_some, hp, e0, like_eq m m hl, likeB_self, edl, hnow,
      mailPost_eq m 0 31 data hl (by omega)]
    by_cases hfull : m.1.length = 64 ∨ m.2.1 = 1099511627776
    · have hpo : postM m 0 31 data = (noMail, 0, 8, ()) := by
        unfold postM
        rw [hr, ha0, ha31]
        simp only [Bool.and_self, if_true]
        rw [if_neg (by omega), if_pos hfull]
      rw [hpo]
      rfl
    · have hpo : postM m 0 31 data = ((m.1 ++ [(m.2.1 + 1, 0, 31, data, ())], m.2.1 + 1, m.2.2), m.2.1 + 1, 0, ()) := by
        unfold postM
        rw [hr, ha0, ha31]
        simp only [Bool.and_self, if_true]
        rw [if_neg (by omega), if_neg hfull]
      have h1 := hR.len
      have h2 := hR.last0
      have h3 := hR.last1
      have hr2 : rightM (m.1 ++ [(m.2.1 + 1, 0, 31, data, ())], m.2.1 + 1, m.2.2) = true := by
        refine rightM_iff.2 ⟨by simp; omega, by show 0 ≤ m.2.1 + 1; omega, by show m.2.1 + 1 ≤ _; omega, hR.now0, hR.now1, fun x hx => ?_⟩
        rcases List.mem_append.1 hx with h | h
        · exact badL_mono (by show m.2.1 ≤ m.2.1 + 1; omega) (hR.all x h)
        · simp only [List.mem_singleton] at h
          subst h
          unfold badL
          simp only [ha0, ha31, Bool.not_true, Bool.false_or, Bool.or_eq_false_iff, decide_eq_false_iff_not]
          omega
      have htk : takeM (m.1 ++ [(m.2.1 + 1, 0, 31, data, ())], m.2.1 + 1, m.2.2) (dlen m.1) = ((m.1, m.2.1 + 1, m.2.2), (m.2.1 + 1, 0, 31, data, ()), 0, ()) := by
        unfold takeM
        rw [if_pos hr2, if_pos ⟨by rw [dlen_eq]; omega, by rw [dlen_eq]; simp; omega⟩]
        simp only [dlen_eq, Int.toNat_natCast]
        rw [List.eraseIdx_append_of_length_le (Nat.le_refl _), Nat.sub_self]
        simp
      have ew : iwrap .i64 (iadd m.2.1 1) = m.2.1 + 1 := by
        unfold iadd
        rw [iwrap_i64 (by omega) (by omega)]
      rw [hpo]
      simp only [e0, cond_true, cond_false, mailTake_eq (m.1 ++ [(m.2.1 + 1, 0, 31, data, ())], m.2.1 + 1, m.2.2) (dlen m.1) (by simp; omega), bS_some, htk, ew, ieq_dec', seq_dec, decide_true, edl]

end Am
end Go.Proofs.Ytkjpoongkdapoaa
