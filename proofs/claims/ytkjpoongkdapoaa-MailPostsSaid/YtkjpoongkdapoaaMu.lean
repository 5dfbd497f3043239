/-
  The law MailPosts.
-/
import Derived.Test.YtkjpoongkdapoaaMm
import Derived.Test.YtkjpoongkdapoaaBr
namespace Go.Proofs.Ytkjpoongkdapoaa
namespace Am
open Go Go.RowKit
set_option linter.unusedVariables false
set_option linter.unusedSimpArgs false

theorem ieq_s (a : Int) : ieq a a = true := ieq_t.2 rfl
theorem seq_s (a : List UInt8) : seq a a = true := seq_t.2 rfl
theorem beq_s (c : Bool) : beq c c = true := by cases c <;> rfl
theorem isB_some (b : Bool) : isB (some b) = true := rfl
theorem getB_some (b : Bool) : getB (some b) = b := rfl
theorem like_none : olaw06Like ((noMail, ([], 0, 0, ()), ()), ()) = some ((true, ()), ()) := by
  have := like_eq noMail noMail (by simp [noMail])
  rw [likeB_self] at this
  exact this
theorem like_self (x : Mail') (hl : x.1.length ≤ 4611686018427387903) : olaw06Like ((x, x, ()), ()) = some ((true, ()), ()) := by rw [like_eq x x hl, likeB_self]
theorem w22_bad (frm to : Int) (data : List UInt8) (m : Mail') (bad : Int) (q : Mail') (hb : bad ≠ 0) :
    wlaw06MailPostsx1000022 ((frm, to, data, (), (), 0, bad, (), (), bad, ()), m, noMail, ((), 0, 0, ()), q, ()) = some (.inl ((true, ()), ())) := by
  rw [wlaw06MailPostsx1000022_eq]
  have h0 : ieq bad 0 = false := ieq_f.2 hb
  simp only [rlaw06MailPostsx1000022, h0, cond_true, cond_false, ieq_s, like_none, isS_some, getS_some, isB_some, getB_some]
theorem w22_ok (frm to : Int) (data : List UInt8) (fl : List Let') (la nw : Int) (q : Mail') (hl : fl.length ≤ 64) (h0 : 0 ≤ la) (h1 : la < 1099511627776) :
    wlaw06MailPostsx1000022 ((frm, to, data, (), (), la + 1, 0, (), (), 0, ()), (fl, la, nw, ()), (fl ++ [(la + 1, frm, to, data, ())], la + 1, nw, ()), ((), 0, 0, ()), q, ()) = some (.inl ((true, ()), ())) := by
  rw [wlaw06MailPostsx1000022_eq]
  have f1 : fits 0 (dlen fl) 40 = true := by
    have := fits_of (xs := ([] : List Let')) (ys := fl) (b := 40) (by simp; omega) (by simp; omega)
    exact this
  have f2 : fits (dlen fl) (1 : Int) 40 = true := by
    have := fits_of (xs := fl) (ys := [()]) (b := 40) (by simp; omega) (by simp; omega)
    exact this
  have d0 : dapp [] fl = fl := rfl
  have d1 : ∀ y : List Let', dapp fl y = fl ++ y := fun y => rfl
  have ew : iwrap .i64 (iadd la 1) = la + 1 := by
    unfold iadd
    rw [iwrap_i64 (by omega) (by omega)]
  simp only [rlaw06MailPostsx1000022, ieq_s, cond_true, cond_false, f1, d0, f2, d1, ew, wlaw06MailPostsx1000027_eq, rlaw06MailPostsx1000027]
  rw [like_self _ (by simp; omega)]
  rfl
theorem posts (m0 : Mail') (frm to ticks : Int) (s : List UInt8) : olaw06MailPosts ((m0, frm, to, ticks, s, ()), ()) = some ((true, ()), ()) := by
  have e305 : (305 : Int) = ((305 : Nat) : Int) := rfl
  have hm66 := fewM_len m0
  rw [olaw06MailPosts_eq, blaw06MailPosts]
  simp only [e305, imin_len, ile00, ile_nat, ile_min, dsub_min, cond_true, fewM_eq, bS_some]
  generalize fewM m0 = m at *
  have hd : (s.take 305).length ≤ 305 := by rw [List.length_take]; omega
  generalize s.take 305 = data at *
  obtain ⟨fl, la, nw, ⟨⟩⟩ := m
  have hl : fl.length ≤ 4611686018427387903 := by simp only at hm66; omega
  simp only [mailPost_eq (fl, la, nw, ()) frm to data hl (by omega), mailPass_eq (fl, la, nw, ()) ticks hl, mailRight_eq (fl, la, nw, ()) hl, lawRight_eq (fl, la, nw, ()) hl, bS_some, isS_some, getS_some, alive6, beq_s, cond_true, cond_false, isB_some, getB_some]
  cases hr : rightM (fl, la, nw, ()) with
  | false =>
    have h1 : postM (fl, la, nw, ()) frm to data = (noMail, 0, 1, ()) := by unfold postM; rw [hr]; rfl
    have h2 : passM (fl, la, nw, ()) ticks = (noMail, 1, ()) := by unfold passM; rw [hr]; rfl
    simp only [h1, h2, ieq_s, cond_true, cond_false, like_none, isS_some, getS_some, isB_some, getB_some]
  | true =>
    have hR := rightM_iff.1 hr
    have r1 := hR.len
    have r2 := hR.last0
    have r3 := hR.last1
    have r4 := hR.now0
    have r5 := hR.now1
    simp only at r1 r2 r3 r4 r5
    simp only [cond_true, cond_false]
    -- the mail behind that time
    have es : iwrap .i64 (isub 1099511627776 nw) = 1099511627776 - nw := by unfold isub; rw [iwrap_i64 (by omega) (by omega)]
    rw [es]
    have key : ∀ q : Mail', (0 ≤ ticks → q = (fl, la, nw + min ticks (1099511627776 - nw), ())) →
        wlaw06MailPostsx1000013 ((frm, to, ticks, data, (), (), (postM (fl, la, nw, ()) frm to data).2.1, (postM (fl, la, nw, ()) frm to data).2.2.1, (), (passM (fl, la, nw, ()) ticks).2.1, (), (), ()), (fl, la, nw, ()), (postM (fl, la, nw, ()) frm to data).1, (passM (fl, la, nw, ()) ticks).1, ((), 0, 0, ()), q, ()) = some (.inl ((true, ()), ())) := by
      intro q hq
      obtain ⟨qf, ql, qn, ⟨⟩⟩ := q
      rw [wlaw06MailPostsx1000013_eq]
      simp only [rlaw06MailPostsx1000013]
      have hc : isB (bif ilt ticks 0 then bif bif bif ieq (passM (fl, la, nw, ()) ticks).2.1 1 then false else true then false else true then bif isS (olaw06Like (((passM (fl, la, nw, ()) ticks).1, ([], 0, 0, ()), ()), ())) then bif bif bif (getS (olaw06Like (((passM (fl, la, nw, ()) ticks).1, ([], 0, 0, ()), ()), ()))).1.1 then false else true then false else true then bif ile 0 ticks then bif bif bif ieq (passM (fl, la, nw, ()) ticks).2.1 0 then false else true then false else true then bif isS (olaw06Like (((passM (fl, la, nw, ()) ticks).1, (qf, ql, qn, ()), ()), ())) then some (bif (getS (olaw06Like (((passM (fl, la, nw, ()) ticks).1, (qf, ql, qn, ()), ()), ()))).1.1 then false else true) else none else some true else some false else some true else none else some true else bif ile 0 ticks then bif bif bif ieq (passM (fl, la, nw, ()) ticks).2.1 0 then false else true then false else true then bif isS (olaw06Like (((passM (fl, la, nw, ()) ticks).1, (qf, ql, qn, ()), ()), ())) then some (bif (getS (olaw06Like (((passM (fl, la, nw, ()) ticks).1, (qf, ql, qn, ()), ()), ()))).1.1 then false else true) else none else some true else some false) = true ∧ getB (bif ilt ticks 0 then bif bif bif ieq (passM (fl, la, nw, ()) ticks).2.1 1 then false else true then false else true then bif isS (olaw06Like (((passM (fl, la, nw, ()) ticks).1, ([], 0, 0, ()), ()), ())) then bif bif bif (getS (olaw06Like (((passM (fl, la, nw, ()) ticks).1, ([], 0, 0, ()), ()), ()))).1.1 then false else true then false else true then bif ile 0 ticks then bif bif bif ieq (passM (fl, la, nw, ()) ticks).2.1 0 then false else true then false else true then bif isS (olaw06Like (((passM (fl, la, nw, ()) ticks).1, (qf, ql, qn, ()), ()), ())) then some (bif (getS (olaw06Like (((passM (fl, la, nw, ()) ticks).1, (qf, ql, qn, ()), ()), ()))).1.1 then false else true) else none else some true else some false else some true else none else some true else bif ile 0 ticks then bif bif bif ieq (passM (fl, la, nw, ()) ticks).2.1 0 then false else true then false else true then bif isS (olaw06Like (((passM (fl, la, nw, ()) ticks).1, (qf, ql, qn, ()), ()), ())) then some (bif (getS (olaw06Like (((passM (fl, la, nw, ()) ticks).1, (qf, ql, qn, ()), ()), ()))).1.1 then false else true) else none else some true else some false) = false := by
        by_cases ht : ticks < 0
        · have h2 : passM (fl, la, nw, ()) ticks = (noMail, 1, ()) := by unfold passM; rw [if_neg (by omega)]
          have h3 : ile 0 ticks = false := ile_f.2 ht
          rw [h2]
          simp only [ilt_t.2 ht, h3, ieq_s, cond_true, cond_false, like_none, isS_some, getS_some, isB_some, getB_some, and_self]
        · have h2 : passM (fl, la, nw, ()) ticks = ((fl, la, nw + min ticks (1099511627776 - nw), ()), 0, ()) := by unfold passM; rw [if_pos ⟨hr, by omega⟩]
          have h3 : ile 0 ticks = true := ile_t.2 (by omega)
          rw [h2, hq (by omega)]
          simp only [ilt_f.2 (show (0 : Int) ≤ ticks by omega), h3, ieq_s, cond_true, cond_false, like_self (fl, la, nw + min ticks (1099511627776 - nw), ()) hl, isS_some, getS_some, isB_some, getB_some, and_self]
      rw [hc.1, hc.2]
      simp only [cond_true, cond_false]
      have e300 : ilt 300 (dlen data) = decide (300 < data.length) := len300 data
      have e64 : ieq (dlen fl) 64 = decide (fl.length = 64) := by rw [ieq_dec', dlen_eq]; congr 1; rw [eq_iff_iff]; omega
      have ha : isB (bif bif ilt frm 0 then false else true then bif bif ilt 31 frm then false else true then bif bif ilt to 0 then false else true then some (ilt 31 to) else some true else some true else some true) = true ∧ getB (bif bif ilt frm 0 then false else true then bif bif ilt 31 frm then false else true then bif bif ilt to 0 then false else true then some (ilt 31 to) else some true else some true else some true) = !(addrB frm && addrB to) := by
        unfold addrB
        simp only [ilt_eq]
        by_cases a1 : frm < 0
        · simp [a1, show ¬ (0 ≤ frm) by omega, isB, getB]
        · by_cases a2 : 31 < frm
          · simp [a1, a2, show ¬ (frm < 32) by omega, isB, getB]
          · by_cases a3 : to < 0
            · simp [a1, a2, a3, show ¬ (0 ≤ to) by omega, isB, getB]
            · by_cases a4 : 31 < to
              · simp [a1, a2, a3, a4, show ¬ (to < 32) by omega, isB, getB]
              · simp [a1, a2, a3, a4, show (0 ≤ frm) by omega, show frm < 32 by omega, show 0 ≤ to by omega, show to < 32 by omega, isB, getB]
      rw [ha.1, ha.2, e300, e64, ieq_dec']
      simp only [cond_true]
      unfold postM
      rw [hr]
      cases hadr : (addrB frm && addrB to) with
      | false =>
        simp only [Bool.not_false, Bool.and_false, Bool.false_eq_true, if_false, cond_true]
        rw [w22_bad _ _ _ _ 1 _ (by decide)]
        rfl
      | true =>
        simp only [Bool.not_true, Bool.and_self, if_true, cond_false]
        by_cases h3 : 300 < data.length
        · simp only [h3, decide_true, cond_true, if_true]
          rw [w22_bad _ _ _ _ 2 _ (by decide)]
          rfl
        · simp only [h3, decide_false, cond_false, if_false]
          by_cases h6 : fl.length = 64
          · simp only [h6, decide_true, cond_true, cond_false, true_or, if_true, isB_some, getB_some]
            rw [w22_bad _ _ _ _ 8 _ (by decide)]
            rfl
          · by_cases h7 : la = 1099511627776
            · simp only [h6, h7, decide_true, decide_false, cond_true, cond_false, or_true, if_true, isB_some, getB_some]
              rw [w22_bad _ _ _ _ 8 _ (by decide)]
              rfl
            · simp only [h6, h7, decide_false, cond_true, cond_false, or_self, if_false, isB_some, getB_some]
              rw [w22_ok _ _ _ _ _ _ _ r1 r2 (by omega)]
              rfl
    by_cases hc : ticks < 1099511627776 - nw
    · rw [ilt_t.2 hc]
      simp only [cond_true]
      rw [key]
      · rfl
      · intro h0
        have ew : iwrap .i64 (iadd nw ticks) = nw + ticks := by unfold iadd; rw [iwrap_i64 (by omega) (by omega)]
        rw [ew, show min ticks (1099511627776 - nw) = ticks by omega]
    · rw [ilt_f.2 (show 1099511627776 - nw ≤ ticks by omega)]
      simp only [cond_false]
      rw [key]
      · rfl
      · intro h0
        rw [show nw + min ticks (1099511627776 - nw) = 1099511627776 by omega]

end Am
end Go.Proofs.Ytkjpoongkdapoaa
