/-
  Mail: posting, passing, turning.
-/
import Derived.Test.YtkjpoongkdapoaaMl
namespace Go.Proofs.Ytkjpoongkdapoaa
namespace Am
open Go Go.RowKit
set_option linter.unusedSimpArgs false
set_option linter.unusedVariables false

theorem badL_mono {a b : Int} (h : a ≤ b) {x : Let'} (hb : badL a x = false) : badL b x = false := by
  unfold badL at hb ⊢
  simp only [Bool.or_eq_false_iff, decide_eq_false_iff_not] at hb ⊢
  exact ⟨hb.1, by omega, hb.2.2⟩
structure RightL (m : Mail') : Prop where
  len : m.1.length ≤ 64
  last0 : 0 ≤ m.2.1
  last1 : m.2.1 ≤ 1099511627776
  now0 : 0 ≤ m.2.2.1
  now1 : m.2.2.1 ≤ 1099511627776
  all : ∀ x ∈ m.1, badL m.2.1 x = false
theorem rightM_iff {m : Mail'} : rightM m = true ↔ RightL m := by
  unfold rightM timeB
  simp only [Bool.and_eq_true, decide_eq_true_iff, Bool.not_eq_true', List.any_eq_false]
  constructor
  · rintro ⟨h1, ⟨h2, h3⟩, ⟨h4, h5⟩, h6⟩
    exact ⟨h1, h2, h3, h4, h5, fun x hx => by simpa using h6 x hx⟩
  · rintro ⟨h1, h2, h3, h4, h5, h6⟩
    exact ⟨h1, ⟨h2, h3⟩, ⟨h4, h5⟩, fun x hx => by simpa using h6 x hx⟩

def postM (m : Mail') (frm to : Int) (data : List UInt8) : Mail' × Int × Int × Unit :=
  if (rightM m && (addrB frm && addrB to)) = true then
    (if 300 < data.length then (noMail, 0, 2, ()) else if m.1.length = 64 ∨ m.2.1 = 1099511627776 then (noMail, 0, 8, ())
      else ((m.1 ++ [(m.2.1 + 1, frm, to, data, ())], m.2.1 + 1, m.2.2), m.2.1 + 1, 0, ()))
  else (noMail, 0, 1, ())
def lastM (m : Mail') (place : Int) : Mail' × Int × Unit :=
  if (takeM m place).2.2.1 = 0 then (((takeM m place).1.1 ++ [(takeM m place).2.1], (takeM m place).1.2), 0, ()) else (noMail, (takeM m place).2.2)
def twiceM (m : Mail') (place : Int) : Mail' × Int × Unit :=
  if (takeM m place).2.2.1 = 0 then (if m.1.length = 64 then (noMail, 8, ()) else ((m.1 ++ [(takeM m place).2.1], m.2), 0, ())) else (noMail, (takeM m place).2.2)

theorem clip_eq (l : List Let') : oslicesClip ((l, ()), ()) = some ((l, ()), (), ()) := by
  rw [oslicesClip_eq, bslicesClip]
  have e3 : ieq (dlen l) (dlen l) = true := ieq_t.2 rfl
  simp [e3]

theorem mailPost_eq (m : Mail') (frm to : Int) (data : List UInt8) (hl : m.1.length ≤ 4611686018427387903) (hd : data.length ≤ 4611686018427387903) : omailPost ((m, frm, to, data, ()), ()) = some (postM m frm to data, ()) := by
  rw [omailPost_eq, bmailPost]
  simp only [mailRight_eq m hl, mailAddress_eq, bS_some, len300]
  unfold postM
  cases hr : rightM m with
  | false => rfl
  | true =>
    have hR := rightM_iff.1 hr
    cases h1 : addrB frm with
    | false => rfl
    | true =>
      cases h2 : addrB to with
      | false => rfl
      | true =>
        by_cases h3 : 300 < data.length
        · simp [h3, noMail]
        · have e64 : ieq (dlen m.1) 64 = decide (m.1.length = 64) := by rw [ieq_dec', dlen_eq]; congr 1; rw [eq_iff_iff]; omega
          have ew : iwrap .i64 (iadd m.2.1 1) = m.2.1 + 1 := by
            have h4 := hR.last0
            have h5 := hR.last1
            unfold iadd
            rw [iwrap_i64 (by omega) (by omega)]
          have hf : fits (dlen m.1) (1 : Int) 40 = true := fits_of (ys := [(m.2.1 + 1, frm, to, data, ())]) (by have := hR.len; simp; omega) (by have := hR.len; simp; omega)
          rw [e64, ieq_dec']
          by_cases h6 : m.1.length = 64
          · simp [h3, h6, noMail]
          · by_cases h7 : m.2.1 = 1099511627776
            · simp [h3, h6, h7, noMail]
            · simp only [h3, h6, h7, decide_false, decide_true, cond_true, cond_false, clip_eq, bS_some, ew, hf, Bool.and_self, if_true, if_false, or_self]
              rfl
theorem takeM_len (m : Mail') (place : Int) : (takeM m place).1.1.length ≤ 64 := by
  unfold takeM
  split
  · rename_i hr
    have := rightM_len hr
    split
    · have := List.length_eraseIdx_le m.1 place.toNat
      show (m.1.eraseIdx place.toNat).length ≤ 64
      omega
    · simp [noMail]
  · simp [noMail]
theorem mailLast_eq (m : Mail') (place : Int) (hl : m.1.length ≤ 4611686018427387903) : omailLast ((m, place, ()), ()) = some (lastM m place, ()) := by
  rw [omailLast_eq, bmailLast]
  simp only [mailTake_eq m place hl, bS_some]
  have hlen := takeM_len m place
  unfold lastM
  generalize takeM m place = t at *
  obtain ⟨tm, tl, te, ⟨⟩⟩ := t
  have hf : fits (dlen tm.1) (1 : Int) 40 = true := fits_of (ys := [tl]) (by simp at hlen ⊢; omega) (by simp at hlen ⊢; omega)
  simp only [ieq_dec']
  by_cases h : te = 0
  · simp only [h, decide_true, cond_true, cond_false, hf, if_true]
    rfl
  · simp only [h, decide_false, cond_true, cond_false, if_false]
    rfl

theorem alive6 : olaw06Alive ((), ()) = some ((true, ()), ()) := by
  rw [olaw06Alive_eq, blaw06Alive]
  have hr0 : (rightM ([], 0, 0, ()) && (addrB 1 && addrB 17)) = true := by decide
  have hp : postM ([], 0, 0, ()) 1 17 [120] = (([(1, 1, 17, [120], ())], 1, 0, ()), 1, 0, ()) := by
    unfold postM
    rw [if_pos hr0, if_neg (by decide), if_neg (by decide)]
    rfl
  have hr1 : rightM ([(1, 1, 17, [120], ())], 1, 0, ()) = true := by decide
  have ht : takeM ([(1, 1, 17, [120], ())], 1, 0, ()) 0 = (([], 1, 0, ()), (1, 1, 17, [120], ()), 0, ()) := by
    unfold takeM
    rw [if_pos hr1, if_pos (by decide)]
    rfl
  simp only [mailPost_eq ([], 0, 0, ()) 1 17 [120] (by simp) (by simp), bS_some, hp, mailTake_eq ([(1, 1, 17, [120], ())], 1, 0, ()) 0 (by simp), ht]
  rfl

end Am
end Go.Proofs.Ytkjpoongkdapoaa
