/-
  The law MailPlaces.
-/
import Derived.Test.YtkjpoongkdapoaaMu
import Derived.Test.YtkjpoongkdapoaaMq
namespace Go.Proofs.Ytkjpoongkdapoaa
namespace Am
open Go Go.RowKit
set_option linter.unusedVariables false
set_option linter.unusedSimpArgs false

theorem letEq_s (a : Let') : (bif ieq a.1 a.1 then bif ieq a.2.1 a.2.1 then bif ieq a.2.2.1 a.2.2.1 then bif seq a.2.2.2.1 a.2.2.2.1 then true else false else false else false else false) = true := by rw [letEq]; simp
theorem w12_bad (place bad : Int) (m : Mail') (hb : bad ≠ 0) :
    wlaw06MailPlacesx1000012 ((place, (), (), (), bad, (), bad, (), bad, (), bad, (), bad, ()), m, noMail, noL, noMail, noMail, noMail, ((), 0, 0, ()), (), ()) = some (.inl ((true, ()), ())) := by
  rw [wlaw06MailPlacesx1000012_eq]
  have h0 : ieq bad 0 = false := ieq_f.2 hb
  have hn : noMail = ([], 0, 0, ()) := rfl
  have hl : noL = (0, 0, 0, [], ()) := rfl
  have lk : olaw06Like ((([], 0, 0, ()), ([], 0, 0, ()), ()), ()) = some ((true, ()), ()) := like_none
  rw [hn, hl]
  simp only [rlaw06MailPlacesx1000012, alive6, bS_some, h0, cond_true, cond_false, ieq_s, seq_s, lk, isS_some, getS_some, isB_some, getB_some]
theorem w12_ok (fl : List Let') (la nw : Int) (p : Nat) (hp : p < fl.length) (h64 : fl.length ≤ 64) (b : Mail') (f : Int)
    (hb : if fl.length = 64 then b = noMail ∧ f = 8 else b = (fl ++ [fl.getD p noL], la, nw, ()) ∧ f = 0) :
    wlaw06MailPlacesx1000012 (((p : Int), (), (), (), 0, (), f, (), 0, (), 0, (), 0, ()), (fl, la, nw, ()), (fl.eraseIdx p, la, nw, ()), fl.getD p noL, b, (fl.eraseIdx p, la, nw, ()), (fl.eraseIdx p ++ [fl.getD p noL], la, nw, ()), ((), 0, 0, ()), (), ()) = some (.inl ((true, ()), ())) := by
  have hel : (fl.eraseIdx p).length = fl.length - 1 := by rw [List.length_eraseIdx]; simp [hp]
  have ee : fl.take p ++ fl.drop (p + 1) = fl.eraseIdx p := (List.eraseIdx_eq_take_drop_succ ..).symm
  generalize hx : fl.getD p noL = x at *
  rw [wlaw06MailPlacesx1000012_eq]
  have s1 : dsub fl 0 (p : Int) = fl.take p := by rw [show (0 : Int) = ((0 : Nat) : Int) from rfl, dsub_eq]; simp
  have s2 : dsub fl ((p + 1 : Nat) : Int) (dlen fl) = fl.drop (p + 1) := by
    rw [dlen_eq, dsub_eq, List.take_of_length_le]
    rw [List.length_drop]; omega
  have f1 : fits 0 (dlen (fl.take p)) 40 = true := by
    have := fits_of (xs := ([] : List Let')) (ys := fl.take p) (b := 40) (by simp; omega) (by simp; omega)
    exact this
  have f2 : fits (dlen (fl.take p)) (dlen (fl.drop (p + 1))) 40 = true := fits_of (by simp; omega) (by simp; omega)
  have f3 : fits 0 (dlen fl) 40 = true := by
    have := fits_of (xs := ([] : List Let')) (ys := fl) (b := 40) (by simp; omega) (by simp; omega)
    exact this
  have f4 : fits (dlen fl) (1 : Int) 40 = true := by
    have := fits_of (xs := fl) (ys := [()]) (b := 40) (by simp; omega) (by simp; omega)
    exact this
  have f5 : fits 0 (dlen (fl.eraseIdx p)) 40 = true := by
    have := fits_of (xs := ([] : List Let')) (ys := fl.eraseIdx p) (b := 40) (by simp; omega) (by simp; omega)
    exact this
  have f6 : fits (dlen (fl.eraseIdx p)) (1 : Int) 40 = true := by
    have := fits_of (xs := fl.eraseIdx p) (ys := [()]) (b := 40) (by simp; omega) (by simp; omega)
    exact this
  have d0 : ∀ y : List Let', dapp [] y = y := fun _ => rfl
  have d1 : ∀ y z : List Let', dapp y z = y ++ z := fun _ _ => rfl
  have i1 : ile 0 (p : Int) = true := ile_nat
  have i2 : ile (p : Int) (dlen fl) = true := ile_t.2 (by rw [dlen_eq]; omega)
  have i3 : ile ((p + 1 : Nat) : Int) (dlen fl) = true := ile_t.2 (by rw [dlen_eq]; omega)
  have i4 : ile (dlen fl) (dlen fl) = true := ile_t.2 (Int.le_refl _)
  have i5 : ile 0 0 = true := rfl
  have i6 : ile 0 ((p + 1 : Nat) : Int) = true := ile_nat
  have e64 : ieq (dlen fl) 64 = decide (fl.length = 64) := by rw [ieq_dec', dlen_eq]; congr 1; rw [eq_iff_iff]; omega
  have l1 := like_self (fl.eraseIdx p, la, nw, ()) (by simp only; omega)
  have l2 := like_self (fl.eraseIdx p ++ [x], la, nw, ()) (by simp; omega)
  have l3 := like_self (fl ++ [x], la, nw, ()) (by simp; omega)
  simp only [rlaw06MailPlacesx1000012, alive6, bS_some, ieq_s, cond_true, cond_false, i1, ilt_len hp, letget, hx,
    wlaw06MailPlacesx1000018_eq, rlaw06MailPlacesx1000018, i5, i2, inc_nat (show p < 4611686018427387904 by omega), i6, i3, i4, s1, s2, f1, d0, f2, d1, ee,
    wlaw06MailPlacesx1000019_eq, rlaw06MailPlacesx1000019, f3, f4, wlaw06MailPlacesx1000020_eq, rlaw06MailPlacesx1000020, f5, f6,
    wlaw06MailPlacesx1000021_eq, rlaw06MailPlacesx1000021, seq_s, l1, l2, isS_some, getS_some, isB_some, getB_some, e64]
  by_cases h : fl.length = 64
  · rw [if_pos h] at hb
    obtain ⟨rfl, rfl⟩ := hb
    have lk : olaw06Like ((noMail, ([], 0, 0, ()), ()), ()) = some ((true, ()), ()) := like_none
    simp only [h, decide_true, cond_true, ieq_s, lk, isS_some, getS_some, isB_some, getB_some, bL_inl]
  · rw [if_neg h] at hb
    obtain ⟨rfl, rfl⟩ := hb
    simp only [h, decide_false, cond_true, cond_false, ieq_s, l3, isS_some, getS_some, isB_some, getB_some, bL_inl]
theorem places (m0 : Mail') (place : Int) : olaw06MailPlaces ((m0, place, ()), ()) = some ((true, ()), ()) := by
  have hm66 := fewM_len m0
  rw [olaw06MailPlaces_eq, blaw06MailPlaces]
  simp only [fewM_eq, bS_some]
  generalize fewM m0 = m at *
  obtain ⟨fl, la, nw, ⟨⟩⟩ := m
  have hl : fl.length ≤ 4611686018427387903 := by simp only at hm66; omega
  simp only [mailTake_eq (fl, la, nw, ()) place hl, mailTwice_eq (fl, la, nw, ()) place hl, mailLose_eq (fl, la, nw, ()) place hl, mailLast_eq (fl, la, nw, ()) place hl, lawRight_eq (fl, la, nw, ()) hl, bS_some]
  unfold twiceM lastM
  cases hr : rightM (fl, la, nw, ()) with
  | false =>
    have h1 : takeM (fl, la, nw, ()) place = (noMail, noL, 1, ()) := by unfold takeM; rw [hr]; rfl
    rw [h1]
    simp only [cond_true, cond_false, show ¬ ((1 : Int) = 0) by decide, if_false]
    rw [w12_bad place 1 _ (by decide)]
    rfl
  | true =>
    have r1 := (rightM_iff.1 hr).len
    simp only at r1
    simp only [cond_true, cond_false]
    by_cases hin : 0 ≤ place ∧ place < fl.length
    · obtain ⟨p, rfl⟩ : ∃ p : Nat, place = (p : Int) := ⟨place.toNat, by omega⟩
      have hp : p < fl.length := by omega
      have h1 : takeM (fl, la, nw, ()) (p : Int) = ((fl.eraseIdx p, la, nw, ()), fl.getD p noL, 0, ()) := by
        unfold takeM
        rw [if_pos hr, if_pos hin]
        rfl
      have c1 : ilt (p : Int) 0 = false := ilt_f.2 (by omega)
      have c2 : ile (dlen fl) (p : Int) = false := ile_f.2 (by rw [dlen_eq]; omega)
      rw [h1]
      simp only [c1, c2, cond_true, cond_false, isB_some, getB_some, if_true]
      by_cases h : fl.length = 64
      · simp only [h, if_true]
        rw [w12_ok fl la nw p hp r1 noMail 8 (by rw [if_pos h]; exact ⟨rfl, rfl⟩)]
        rfl
      · simp only [h, if_false]
        rw [w12_ok fl la nw p hp r1 (fl ++ [fl.getD p noL], la, nw, ()) 0 (by rw [if_neg h]; exact ⟨rfl, rfl⟩)]
        rfl
    · have h1 : takeM (fl, la, nw, ()) place = (noMail, noL, 6, ()) := by
        unfold takeM
        rw [if_pos hr, if_neg hin]
      have hc : isB (bif bif ilt place 0 then false else true then some (ile (dlen fl) place) else some true) = true ∧ getB (bif bif ilt place 0 then false else true then some (ile (dlen fl) place) else some true) = true := by
        by_cases h0 : place < 0
        · rw [ilt_t.2 h0]; exact ⟨rfl, rfl⟩
        · rw [ilt_f.2 (show (0 : Int) ≤ place by omega), ile_t.2 (show dlen fl ≤ place by rw [dlen_eq]; omega)]; exact ⟨rfl, rfl⟩
      rw [h1]
      simp only [hc.1, hc.2, cond_true, cond_false, show ¬ ((6 : Int) = 0) by decide, if_false]
      rw [w12_bad place 6 _ (by decide)]
      rfl

end Am
end Go.Proofs.Ytkjpoongkdapoaa
