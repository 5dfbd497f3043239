/-
  Mail: what its functions come to.
-/
import Derived.Test.YtkjpoongkdapoaaPx
import Derived.Test.YtkjpoongkdapoaaLs
namespace Go.Proofs.Ytkjpoongkdapoaa
namespace Am
open Go Go.RowKit
set_option linter.unusedSimpArgs false
set_option linter.unusedVariables false

abbrev Let' : Type := Int × Int × Int × List UInt8 × Unit
abbrev letT : Ty := .pair (.int .i64) (.pair (.int .i64) (.pair (.int .i64) (.pair .str .unit)))
abbrev Mail' : Type := List Let' × Int × Int × Unit
def noL : Let' := (0, 0, 0, [], ())
theorem letget (l : List Let') (i : Nat) : dget ((Ty.int IntKind.i64).pair ((Ty.int IntKind.i64).pair ((Ty.int IntKind.i64).pair (Ty.str.pair Ty.unit)))) l (i : Int) = l.getD i noL := dget_eq letT l i
theorem ieq_dec' (a b : Int) : ieq a b = decide (a = b) := rfl
theorem seq_dec (a b : List UInt8) : seq a b = decide (a = b) := rfl

def timeB (n : Int) : Bool := decide (0 ≤ n) && decide (n ≤ 1099511627776)
def addrB (n : Int) : Bool := decide (0 ≤ n) && decide (n < 32)
theorem mailTime_eq (n : Int) : omailTime ((n, ()), ()) = some ((timeB n, ()), ()) := by
  rw [omailTime_eq, bmailTime]
  unfold timeB
  simp only [ile_eq]
  cases decide (0 ≤ n) <;> rfl
theorem mailAddress_eq (n : Int) : omailAddress ((n, ()), ()) = some ((addrB n, ()), ()) := by
  rw [omailAddress_eq, bmailAddress]
  unfold addrB
  simp only [ile_eq, ilt_eq]
  cases decide (0 ≤ n) <;> rfl
/-- a letter that may not be -/
def badL (last : Int) (x : Let') : Bool := decide (x.1 < 1) || (decide (last < x.1) || (!addrB x.2.1 || (!addrB x.2.2.1 || decide (300 < x.2.2.2.1.length))))
theorem len300 (s : List UInt8) : ilt 300 (dlen s) = decide (300 < s.length) := by rw [ilt_eq, dlen_eq]; congr 1; rw [eq_iff_iff]; omega
theorem mailRight1_eq (x : Let') (m : Mail') : omailRight_1 ((x, m, ()), ()) = some ((badL m.2.1 x, ()), ()) := by
  rw [omailRight_1_eq, bmailRight_1]
  simp only [mailAddress_eq, bS_some, ilt_eq]
  rw [← ilt_eq 300, len300]
  unfold badL
  cases decide (x.1 < 1) <;> cases decide (m.2.1 < x.1) <;> cases addrB x.2.1 <;> cases addrB x.2.2.1 <;> rfl
theorem mailIdx_eq (l : List Let') (m : Mail') (hl : l.length ≤ 4611686018427387903) : oslicesIndexFunc ((l, ((), m, ()), ()), ()) = some ((match l.findIdx? (badL m.2.1) with | some i => (i : Int) | none => -1, ()), ()) := by
  rw [oslicesIndexFunc_eq, bslicesIndexFunc]
  simp only [wslicesIndexFuncx2_eq]
  have h := whl_goI (g := rslicesIndexFuncx2) (fun i (_ : Unit) => ((l, ((), m, ()), dlen l, (i : Int), ()), ())) (fun i (_ : Unit) => if badL m.2.1 (l.getD i noL) = true then .inr (.inr (.inl (((i : Int), ()), ()))) else .inl ()) (fun _ => .inl ((), ())) l.length
    (fun s => by simp only [rslicesIndexFuncx2, bifF (ilt_len' (xs := l) (Nat.le_refl _))])
    (fun i s hi => by
      simp only [rslicesIndexFuncx2, bifT (ilt_len hi), bifT ile_nat, letget, mailRight1_eq, bS_some, inc_nat (show i < 4611686018427387904 by omega)]
      cases badL m.2.1 (l.getD i noL) <;> simp) l.length 0 () (by omega)
  have h := h.trans (congrArg some (goI_find (d := noL) (xs := l) (badL m.2.1) (fun i => Sum.inr (Sum.inl (((i : Int), ()), ()))) (Sum.inl ((), ())) l.length 0 (by omega)))
  rw [show ((0 : Int) = ((0 : Nat) : Int)) from rfl, h]
  rw [List.drop_zero]
  cases l.findIdx? (badL m.2.1) with
  | none => rfl
  | some j => simp only [Nat.zero_add]; rfl
theorem idx_any {α : Type} (p : α → Bool) (l : List α) : ile 0 (match l.findIdx? p with | some i => (i : Int) | none => -1) = l.any p := by
  cases h : l.findIdx? p with
  | none =>
    have : l.any p = false := by
      rw [List.any_eq_false]
      intro x hx
      have := List.findIdx?_eq_none_iff.1 h x hx
      simpa using this
    rw [this]
    rfl
  | some j =>
    have : l.any p = true := by
      rw [List.any_eq_true]
      obtain ⟨hj, hp, _⟩ := List.findIdx?_eq_some_iff_getElem.1 h
      exact ⟨_, List.getElem_mem hj, hp⟩
    rw [this]
    exact ile_nat
def rightM (m : Mail') : Bool := decide (m.1.length ≤ 64) && (timeB m.2.1 && (timeB m.2.2.1 && !m.1.any (badL m.2.1)))
theorem len64 (l : List Let') : ile (dlen l) 64 = decide (l.length ≤ 64) := by rw [ile_eq, dlen_eq]; congr 1; rw [eq_iff_iff]; omega
theorem mailRight_eq (m : Mail') (hl : m.1.length ≤ 4611686018427387903) : omailRight ((m, ()), ()) = some ((rightM m, ()), ()) := by
  obtain ⟨fl, la, nw, ⟨⟩⟩ := m
  rw [omailRight_eq, bmailRight]
  simp only [mailTime_eq, bS_some, len64, oslicesContainsFunc_eq, bslicesContainsFunc, mailIdx_eq fl (fl, la, nw, ()) hl, idx_any]
  unfold rightM
  generalize decide (fl.length ≤ 64) = A
  generalize fl.any _ = B
  cases A <;> cases timeB la <;> cases timeB nw <;> cases B <;> rfl

/-- the same mail -/
theorem letEq (a b : Let') : (bif ieq a.1 b.1 then bif ieq a.2.1 b.2.1 then bif ieq a.2.2.1 b.2.2.1 then bif seq a.2.2.2.1 b.2.2.2.1 then true else false else false else false else false) = decide (a = b) := by
  obtain ⟨a1, a2, a3, a4, ⟨⟩⟩ := a
  obtain ⟨b1, b2, b3, b4, ⟨⟩⟩ := b
  simp only [ieq_dec', seq_dec]
  by_cases h1 : a1 = b1 <;> by_cases h2 : a2 = b2 <;> by_cases h3 : a3 = b3 <;> by_cases h4 : a4 = b4 <;> simp [h1, h2, h3, h4]
/-- without the letter of a place -/
theorem erase_step {l : List Let'} {p i : Nat} (hi : i < l.length) : (l.take (i + 1)).eraseIdx p = if i = p then (l.take i).eraseIdx p else (l.take i).eraseIdx p ++ [l.getD i noL] := by
  have hlen : (l.take i).length = i := by rw [List.length_take]; omega
  rw [take_getD (d := noL) hi]
  by_cases h1 : i = p
  · subst h1
    have e : (l.take i).eraseIdx i = l.take i := List.eraseIdx_of_length_le (by omega)
    rw [if_pos rfl, List.eraseIdx_append_of_length_le (by omega), hlen, Nat.sub_self, e]
    simp
  · rw [if_neg h1]
    by_cases h2 : p < i
    · rw [List.eraseIdx_append_of_lt_length (by omega)]
    · rw [List.eraseIdx_of_length_le (by simp; omega), List.eraseIdx_of_length_le (by omega)]
theorem yield_eq (x : Let') (acc : List Let') (h : acc.length ≤ 100) : oYmailTakey8 (((), ()), (x, ()), acc, (), ()) = some (acc ++ [x], (), ()) := by
  rw [oYmailTakey8_eq, bYmailTakey8]
  have hf : fits (dlen acc) (1 : Int) 40 = true := fits_of (ys := [x]) (by simp; omega) (by simp; omega)
  simp only [hf, cond_true]
  rfl
theorem others_loop (l : List Let') (p : Nat) (hl : l.length ≤ 64) : whl (rmailTakey8ix1 ((), ())) (((), (p : Int), l, dlen l, 0, ()), [], (), (), ()) = some (.inl ((), l.eraseIdx p, (), (), ())) := by
  have h := whl_up (g := rmailTakey8ix1 ((), ())) (fun i => (((), (p : Int), l, dlen l, (i : Int), ()), (l.take i).eraseIdx p, (), (), ())) (.inl ((), l.eraseIdx p, (), (), ())) l.length
    (by simp only [rmailTakey8ix1, bifF (ilt_len' (xs := l) (Nat.le_refl _)), List.take_length])
    (fun i hi => by
      have hc : ieq (i : Int) (p : Int) = decide (i = p) := by rw [ieq_dec']; congr 1; rw [eq_iff_iff]; omega
      have hle : ((l.take i).eraseIdx p).length ≤ 100 := by
        have := List.length_eraseIdx_le (l.take i) p
        rw [List.length_take] at this
        omega
      simp only [rmailTakey8ix1, bifT (ilt_len hi), bifT ile_nat, letget, hc, yield_eq _ _ hle, bS_some, inc_nat (show i < 4611686018427387904 by omega), erase_step hi]
      by_cases hp : i = p <;> simp [hp]) l.length 0 (by omega)
  simpa using h
def noMail : Mail' := ([], 0, 0, ())
def takeM (m : Mail') (place : Int) : Mail' × Let' × Int × Unit :=
  if rightM m = true then (if 0 ≤ place ∧ place < m.1.length then ((m.1.eraseIdx place.toNat, m.2), m.1.getD place.toNat noL, 0, ()) else (noMail, noL, 6, ())) else (noMail, noL, 1, ())
theorem rightM_len {m : Mail'} (h : rightM m = true) : m.1.length ≤ 64 := by
  unfold rightM at h
  simp only [Bool.and_eq_true, decide_eq_true_iff] at h
  exact h.1
theorem mailTake_eq (m : Mail') (place : Int) (hl : m.1.length ≤ 4611686018427387903) : omailTake ((m, place, ()), ()) = some (takeM m place, (), ()) := by
  rw [omailTake_eq, bmailTake]
  simp only [mailRight_eq m hl, bS_some]
  unfold takeM
  cases hr : rightM m with
  | false => rfl
  | true =>
    have h64 := rightM_len hr
    simp only [cond_true, cond_false, if_true]
    by_cases h0 : place < 0
    · have e1 : ilt place 0 = true := ilt_t.2 h0
      rw [if_neg (by omega)]
      simp only [e1, cond_true, cond_false]
      rfl
    · by_cases h1 : (m.1.length : Int) ≤ place
      · have e1 : ilt place 0 = false := ilt_f.2 (by omega)
        have e2 : ile (dlen m.1) place = true := ile_t.2 (by rw [dlen_eq]; exact h1)
        rw [if_neg (by omega)]
        simp only [e1, e2, cond_true, cond_false]
        rfl
      · obtain ⟨p, rfl⟩ : ∃ p : Nat, place = (p : Int) := ⟨place.toNat, by omega⟩
        have hp : p < m.1.length := by omega
        have e1 : ilt (p : Int) 0 = false := ilt_f.2 (by omega)
        have e2 : ile (dlen m.1) (p : Int) = false := ile_f.2 (by rw [dlen_eq]; omega)
        rw [if_pos (by omega)]
        have hI : oImailTakey8 (((), ()), (m, (p : Int), ()), [], (), ()) = some (m.1.eraseIdx p, (), ()) := by
          rw [oImailTakey8_eq]
          simp only [bImailTakey8, wmailTakey8ix1_eq]
          rw [others_loop m.1 p h64]
          rfl
        simp only [e1, e2, cond_true, cond_false, omailOthers_eq, bmailOthers, bS_some, hI, ile_nat, ilt_len hp, letget]
        rfl

end Am
end Go.Proofs.Ytkjpoongkdapoaa
