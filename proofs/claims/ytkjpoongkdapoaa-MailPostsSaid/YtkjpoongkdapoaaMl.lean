/-
  Mail: what its functions come to.
-/
import Derived.Test.YtkjpoongkdapoaaPx
import Derived.Test.YtkjpoongkdapoaaLs
namespace Go.Proofs.Ytkjpoongkdapoaa
namespace Am
open Go Go.RowKit
set_option linter.unusedVariables false

abbrev Let' : Type := Int × Int × Int × List UInt8 × Unit
abbrev letT : Ty := .pair (.int .i64) (.pair (.int .i64) (.pair (.int .i64) (.pair .str .unit)))
abbrev Mail' : Type := List Let' × Int × Int × Unit
def noL : Let' := (0, 0, 0, [], ())
theorem letget (l : List Let') (i : Nat) : dget ((Ty.int IntKind.i64).pair ((Ty.int IntKind.i64).pair ((Ty.int IntKind.i64).pair (Ty.str.pair Ty.unit)))) l (i : Int) = l.getD i noL := dget_eq letT l i
theorem ieq_dec' (a b : Int) : ieq a b = decide (a = b) := rfl
theorem seq_dec (a b : List UInt8) : seq a b = decide (a = b) := rfl

def cut (x : Let') : Let' := (x.1, x.2.1, x.2.2.1, x.2.2.2.1.take 305, ())
def fewM (m : Mail') : Mail' := ((m.1.take 66).map cut, m.2)
theorem fewM_len (m : Mail') : (fewM m).1.length ≤ 66 := by simp [fewM]; omega

theorem few_loop (m : Mail') (l : List Let') (hl : l.length ≤ 66) : whl rlaw06Fewx3 (((), (), [], l, dlen l, 0, ()), m, ((), 0, 0, ()), (), ()) = some (.inl (((), (), l.map cut, ()), m, ((), 0, 0, ()), ())) := by
  have h := whl_up (g := rlaw06Fewx3) (fun i => (((), (), (l.take i).map cut, l, dlen l, (i : Int), ()), m, ((), 0, 0, ()), (), ())) (.inl (((), (), l.map cut, ()), m, ((), 0, 0, ()), ())) l.length
    (by
      simp only [rlaw06Fewx3, bifF (ilt_len' (xs := l) (Nat.le_refl _)), List.take_length])
    (fun i hi => by
      have e305 : (305 : Int) = ((305 : Nat) : Int) := rfl
      have hf : fits (dlen ((l.take i).map cut)) (1 : Int) 40 = true := fits_of (ys := [cut (l.getD i noL)]) (by simp; omega) (by simp; omega)
      obtain ⟨y, hy⟩ : ∃ y, y = l.getD i noL := ⟨_, rfl⟩
      have ht := take_getD (l := l) (d := noL) hi
      simp only [rlaw06Fewx3, bifT (ilt_len hi), letget, ← hy, ile00, cond_true, e305, imin_len, ile_nat, ile_min, dsub_min, inc_nat (show i < 4611686018427387904 by omega), ht, List.map_append, List.map_cons, List.map_nil]
      try rw [← hy] at hf
      have ec : (y.1, y.2.1, y.2.2.1, y.2.2.2.1.take 305, ()) = cut y := rfl
      rw [ec, hf]
      rfl) l.length 0 (by omega)
  simpa using h
theorem fewM_eq (m : Mail') : olaw06Few ((m, ()), ()) = some ((fewM m, ()), ()) := by
  rw [olaw06Few_eq, blaw06Few]
  have e66 : (66 : Int) = ((66 : Nat) : Int) := rfl
  simp only [e66, imin_len, ile00, ile_nat, ile_min, dsub_min, cond_true, wlaw06Fewx3_eq]
  rw [few_loop m (m.1.take 66) (by simp; omega)]
  rfl

def timeB (n : Int) : Bool := decide (0 ≤ n) && decide (n ≤ 1099511627776)
def addrB (n : Int) : Bool := decide (0 ≤ n) && decide (n < 32)
theorem mailTime_eq (n : Int) : omailTime ((n, ()), ()) = some ((timeB n, ()), ()) := by
  rw [omailTime_eq, bmailTime]
  unfold timeB
  simp only [ile_eq]
  cases decide (0 ≤ n) <;> rfl
theorem mailAddress_eq (n : Int) : omailAddress ((n, ()), ()) = some ((addrB n, ()), ()) := by
  rw [omailAddress_eq, bmailAddress]
  unfold addrB
  simp only [ile_eq, ilt_eq]
  cases decide (0 ≤ n) <;> rfl
/-- a letter that may not be -/
def badL (last : Int) (x : Let') : Bool := decide (x.1 < 1) || (decide (last < x.1) || (!addrB x.2.1 || (!addrB x.2.2.1 || decide (300 < x.2.2.2.1.length))))
theorem len300 (s : List UInt8) : ilt 300 (dlen s) = decide (300 < s.length) := by rw [ilt_eq, dlen_eq]; congr 1; rw [eq_iff_iff]; omega
theorem mailRight1_eq (x : Let') (m : Mail') : omailRight_1 ((x, m, ()), ()) = some ((badL m.2.1 x, ()), ()) := by
  rw [omailRight_1_eq, bmailRight_1]
  simp only [mailAddress_eq, bS_some, ilt_eq]
  rw [← ilt_eq 300, len300]
  unfold badL
  cases decide (x.1 < 1) <;> cases decide (m.2.1 < x.1) <;> cases addrB x.2.1 <;> cases addrB x.2.2.1 <;> rfl
theorem mailIdx_eq (l : List Let') (m : Mail') (hl : l.length ≤ 4611686018427387903) : oslicesIndexFunc ((l, ((), m, ()), ()), ()) = some ((match l.findIdx? (badL m.2.1) with | some i => (i : Int) | none => -1, ()), ()) := by
  rw [oslicesIndexFunc_eq, bslicesIndexFunc]
  simp only [wslicesIndexFuncx2_eq]
  have h := whl_goI (g := rslicesIndexFuncx2) (fun i (_ : Unit) => ((l, ((), m, ()), dlen l, (i : Int), ()), ())) (fun i (_ : Unit) => if badL m.2.1 (l.getD i noL) = true then .inr (.inr (.inl (((i : Int), ()), ()))) else .inl ()) (fun _ => .inl ((), ())) l.length
    (fun s => by simp only [rslicesIndexFuncx2, bifF (ilt_len' (xs := l) (Nat.le_refl _))])
    (fun i s hi => by
      simp only [rslicesIndexFuncx2, bifT (ilt_len hi), bifT ile_nat, letget, mailRight1_eq, bS_some, inc_nat (show i < 4611686018427387904 by omega)]
      cases badL m.2.1 (l.getD i noL) <;> simp) l.length 0 () (by omega)
  have h := h.trans (congrArg some (goI_find (d := noL) (xs := l) (badL m.2.1) (fun i => Sum.inr (Sum.inl (((i : Int), ()), ()))) (Sum.inl ((), ())) l.length 0 (by omega)))
  rw [show ((0 : Int) = ((0 : Nat) : Int)) from rfl, h]
  rw [List.drop_zero]
  cases l.findIdx? (badL m.2.1) with
  | none => rfl
  | some j => simp only [Nat.zero_add]; rfl
theorem idx_any {α : Type} (p : α → Bool) (l : List α) : ile 0 (match l.findIdx? p with | some i => (i : Int) | none => -1) = l.any p := by
  cases h : l.findIdx? p with
  | none =>
    have : l.any p = false := by
      rw [List.any_eq_false]
      intro x hx
      have := List.findIdx?_eq_none_iff.1 h x hx
      simpa using this
    rw [this]
    rfl
  | some j =>
    have : l.any p = true := by
      rw [List.any_eq_true]
      obtain ⟨hj, hp, _⟩ := List.findIdx?_eq_some_iff_getElem.1 h
      exact ⟨_, List.getElem_mem hj, hp⟩
    rw [this]
    exact ile_nat
def rightM (m : Mail') : Bool := decide (m.1.length ≤ 64) && (timeB m.2.1 && (timeB m.2.2.1 && !m.1.any (badL m.2.1)))
theorem len64 (l : List Let') : ile (dlen l) 64 = decide (l.length ≤ 64) := by rw [ile_eq, dlen_eq]; congr 1; rw [eq_iff_iff]; omega
theorem mailRight_eq (m : Mail') (hl : m.1.length ≤ 4611686018427387903) : omailRight ((m, ()), ()) = some ((rightM m, ()), ()) := by
  obtain ⟨fl, la, nw, ⟨⟩⟩ := m
  rw [omailRight_eq, bmailRight]
  simp only [mailTime_eq, bS_some, len64, oslicesContainsFunc_eq, bslicesContainsFunc, mailIdx_eq fl (fl, la, nw, ()) hl, idx_any]
  unfold rightM
  generalize decide (fl.length ≤ 64) = A
  generalize fl.any _ = B
  cases A <;> cases timeB la <;> cases timeB nw <;> cases B <;> rfl

def badL' (last : Int) (x : Let') : Bool := decide (x.1 < 1) || (decide (last < x.1) || (decide (x.2.1 < 0) || (decide (31 < x.2.1) || (decide (x.2.2.1 < 0) || (decide (31 < x.2.2.1) || decide (300 < x.2.2.2.1.length))))))
theorem badL'_eq (last : Int) (x : Let') : badL' last x = badL last x := by
  unfold badL' badL addrB
  have h : ∀ n : Int, (!(decide (0 ≤ n) && decide (n < 32))) = (decide (n < 0) || decide (31 < n)) := fun n => by
    rw [Bool.eq_iff_iff]
    simp only [Bool.not_eq_true', Bool.and_eq_false_iff, Bool.or_eq_true, decide_eq_true_iff, decide_eq_false_iff_not]
    omega
  rw [h, h]
  simp only [Bool.or_assoc]
theorem lawRight_eq (m : Mail') (hl : m.1.length ≤ 4611686018427387903) : olaw06Right ((m, ()), ()) = some ((rightM m, ()), ()) := by
  obtain ⟨fl, la, nw, ⟨⟩⟩ := m
  rw [olaw06Right_eq, blaw06Right]
  simp only [wlaw06Rightx2_eq]
  have h := whl_goL (t := letT) (xs := fl) (g := rlaw06Rightx2) (fun i (_ : Unit) => (((), fl, dlen fl, i, ()), (fl, la, nw, ()), ())) (fun x _ => if badL' la x = true then .inr (.inl ((false, ()), ())) else .inl ()) (fun _ => .inr (.inl (((), ()), (fl, la, nw, ()), ()))) hl
    (fun i s hi => by simp only [rlaw06Rightx2, bifF hi])
    (fun i s hi h0 => by
      have hin : (bif ile 0 i then ilt i (dlen fl) else false) = true := by rw [h0, hi]; rfl
      simp only [rlaw06Rightx2, bifT hi, h0, cond_true]
      have em : (dget letT fl i) = dget ((Ty.int IntKind.i64).pair ((Ty.int IntKind.i64).pair ((Ty.int IntKind.i64).pair (Ty.str.pair Ty.unit)))) fl i := rfl
      rw [em]
      generalize dget ((Ty.int IntKind.i64).pair ((Ty.int IntKind.i64).pair ((Ty.int IntKind.i64).pair (Ty.str.pair Ty.unit)))) fl i = y
      unfold badL'
      rw [len300]
      simp only [ilt_eq]
      by_cases h1 : y.1 < 1
      · simp [h1]
      · by_cases h2 : la < y.1
        · simp [h1, h2]
        · by_cases h3 : y.2.1 < 0
          · simp [h1, h2, h3]
          · by_cases h4 : 31 < y.2.1
            · simp [h1, h2, h3, h4]
            · by_cases h5 : y.2.2.1 < 0
              · simp [h1, h2, h3, h4, h5]
              · by_cases h6 : 31 < y.2.2.1
                · simp [h1, h2, h3, h4, h5, h6]
                · by_cases h7 : 300 < y.2.2.2.1.length <;> simp [h1, h2, h3, h4, h5, h6, h7]) ()
  rw [goL_any] at h
  rw [h]
  have hb : badL' la = badL la := funext (badL'_eq la)
  rw [hb]
  unfold rightM timeB
  cases hc : fl.any (badL la) with
  | true => simp [bL_inl]
  | false =>
    simp only [Bool.false_eq_true, if_false, bL_inr, bL_inl, len64]
    simp only [ile_eq]
    cases decide (fl.length ≤ 64) <;> cases decide (0 ≤ la) <;> cases decide (la ≤ 1099511627776) <;> cases decide (0 ≤ nw) <;> simp

/-- the same mail -/
theorem letEq (a b : Let') : (bif ieq a.1 b.1 then bif ieq a.2.1 b.2.1 then bif ieq a.2.2.1 b.2.2.1 then bif seq a.2.2.2.1 b.2.2.2.1 then true else false else false else false else false) = decide (a = b) := by
  obtain ⟨a1, a2, a3, a4, ⟨⟩⟩ := a
  obtain ⟨b1, b2, b3, b4, ⟨⟩⟩ := b
  simp only [ieq_dec', seq_dec]
  by_cases h1 : a1 = b1 <;> by_cases h2 : a2 = b2 <;> by_cases h3 : a3 = b3 <;> by_cases h4 : a4 = b4 <;> simp [h1, h2, h3, h4]
theorem like_loop (a b : Mail') (he : a.1.length = b.1.length) (hl : a.1.length ≤ 4611686018427387903) :
    whl rlaw06Likex4 (((), (), dlen a.1, 0, ()), a, b, ()) = some (if a.1 = b.1 then .inr (.inl ((), ())) else .inl ((false, ()), ())) := by
  have h := whl_goI (g := rlaw06Likex4) (fun i (_ : Unit) => (((), (), dlen a.1, (i : Int), ()), a, b, ())) (fun i (_ : Unit) => if (!decide (a.1.getD i noL = b.1.getD i noL)) = true then .inr (.inl ((false, ()), ())) else .inl ()) (fun _ => .inr (.inl ((), ()))) a.1.length
    (fun s => by simp only [rlaw06Likex4, bifF (ilt_len' (xs := a.1) (Nat.le_refl _))])
    (fun i s hi => by
      have hi' : i < b.1.length := by omega
      simp only [rlaw06Likex4, bifT (ilt_len hi), bifT (ilt_len hi'), bifT ile_nat, letget, letEq, inc_nat (show i < 4611686018427387904 by omega)]
      cases decide (a.1.getD i noL = b.1.getD i noL) <;> simp) a.1.length 0 () (by omega)
  rw [goI_any (fun i => !decide (a.1.getD i noL = b.1.getD i noL))] at h
  rw [show ((0 : Int) = ((0 : Nat) : Int)) from rfl, h]
  congr 1
  by_cases e : a.1 = b.1
  · rw [if_pos e]
    have : anyN (fun i => !decide (a.1.getD i noL = b.1.getD i noL)) a.1.length 0 = false := by
      cases hc : anyN (fun i => !decide (a.1.getD i noL = b.1.getD i noL)) a.1.length 0 with
      | false => rfl
      | true =>
        obtain ⟨j, _, _, h3⟩ := anyN_iff.1 hc
        rw [e] at h3
        simp at h3
    rw [this]
    rfl
  · rw [if_neg e]
    have : anyN (fun i => !decide (a.1.getD i noL = b.1.getD i noL)) a.1.length 0 = true := by
      cases hc : anyN (fun i => !decide (a.1.getD i noL = b.1.getD i noL)) a.1.length 0 with
      | true => rfl
      | false =>
        exfalso
        apply e
        apply List.ext_getElem he
        intro i h1 h2
        have h3 := anyN_false hc (j := i) (by omega) (by omega)
        simp only [Bool.not_eq_false', decide_eq_true_iff] at h3
        simpa [h1, h2] using h3
    rw [this]
    rfl
def likeB (a b : Mail') : Bool := decide (a.1 = b.1) && (decide (a.2.1 = b.2.1) && decide (a.2.2.1 = b.2.2.1))
theorem likeB_iff {a b : Mail'} : likeB a b = true ↔ a = b := by
  obtain ⟨af, al, an, ⟨⟩⟩ := a
  obtain ⟨bf, bl, bn, ⟨⟩⟩ := b
  unfold likeB
  simp only [Bool.and_eq_true, decide_eq_true_iff, Prod.mk.injEq, and_true]
theorem likeB_self (a : Mail') : likeB a a = true := likeB_iff.2 rfl
theorem like_eq (a b : Mail') (hl : a.1.length ≤ 4611686018427387903) : olaw06Like ((a, b, ()), ()) = some ((likeB a b, ()), ()) := by
  rw [olaw06Like_eq, blaw06Like]
  have hd : ∀ c d : List Let', ieq (dlen c) (dlen d) = decide (c.length = d.length) := fun c d => by
    rw [ieq_dec', dlen_eq, dlen_eq]; congr 1; rw [eq_iff_iff]; omega
  simp only [hd, ieq_dec', wlaw06Likex4_eq]
  unfold likeB
  obtain ⟨af, al, an, ⟨⟩⟩ := a
  obtain ⟨bf, bl, bn, ⟨⟩⟩ := b
  by_cases h1 : af.length = bf.length
  · by_cases h2 : al = bl
    · by_cases h3 : an = bn
      · rw [like_loop (af, al, an, ()) (bf, bl, bn, ()) h1 hl]
        by_cases h4 : af = bf
        · simp [h2, h3, h4, bL_inr, bL_inl]
        · simp [h1, h2, h3, h4, bL_inl]
      · simp [h1, h2, h3]
    · simp [h1, h2]
  · have : ¬ af = bf := fun e => h1 (by rw [e])
    simp [h1, this]

/-- without the letter of a place -/
theorem erase_step {l : List Let'} {p i : Nat} (hi : i < l.length) : (l.take (i + 1)).eraseIdx p = if i = p then (l.take i).eraseIdx p else (l.take i).eraseIdx p ++ [l.getD i noL] := by
  have hlen : (l.take i).length = i := by rw [List.length_take]; omega
  rw [take_getD (d := noL) hi]
  by_cases h1 : i = p
  · subst h1
    have e : (l.take i).eraseIdx i = l.take i := List.eraseIdx_of_length_le (by omega)
    rw [if_pos rfl, List.eraseIdx_append_of_length_le (by omega), hlen, Nat.sub_self, e]
    simp
  · rw [if_neg h1]
    by_cases h2 : p < i
    · rw [List.eraseIdx_append_of_lt_length (by omega)]
    · rw [List.eraseIdx_of_length_le (by simp; omega), List.eraseIdx_of_length_le (by omega)]
theorem yield_eq (x : Let') (acc : List Let') (h : acc.length ≤ 100) : oYmailTakey8 (((), ()), (x, ()), acc, (), ()) = some (acc ++ [x], (), ()) := by
  rw [oYmailTakey8_eq, bYmailTakey8]
  have hf : fits (dlen acc) (1 : Int) 40 = true := fits_of (ys := [x]) (by simp; omega) (by simp; omega)
  simp only [hf, cond_true]
  rfl
theorem others_loop (l : List Let') (p : Nat) (hl : l.length ≤ 64) : whl (rmailTakey8ix1 ((), ())) (((), (p : Int), l, dlen l, 0, ()), [], (), (), ()) = some (.inl ((), l.eraseIdx p, (), (), ())) := by
  have h := whl_up (g := rmailTakey8ix1 ((), ())) (fun i => (((), (p : Int), l, dlen l, (i : Int), ()), (l.take i).eraseIdx p, (), (), ())) (.inl ((), l.eraseIdx p, (), (), ())) l.length
    (by simp only [rmailTakey8ix1, bifF (ilt_len' (xs := l) (Nat.le_refl _)), List.take_length])
    (fun i hi => by
      have hc : ieq (i : Int) (p : Int) = decide (i = p) := by rw [ieq_dec']; congr 1; rw [eq_iff_iff]; omega
      have hle : ((l.take i).eraseIdx p).length ≤ 100 := by
        have := List.length_eraseIdx_le (l.take i) p
        rw [List.length_take] at this
        omega
      simp only [rmailTakey8ix1, bifT (ilt_len hi), bifT ile_nat, letget, hc, yield_eq _ _ hle, bS_some, inc_nat (show i < 4611686018427387904 by omega), erase_step hi]
      by_cases hp : i = p <;> simp [hp]) l.length 0 (by omega)
  simpa using h
def noMail : Mail' := ([], 0, 0, ())
def takeM (m : Mail') (place : Int) : Mail' × Let' × Int × Unit :=
  if rightM m = true then (if 0 ≤ place ∧ place < m.1.length then ((m.1.eraseIdx place.toNat, m.2), m.1.getD place.toNat noL, 0, ()) else (noMail, noL, 6, ())) else (noMail, noL, 1, ())
theorem rightM_len {m : Mail'} (h : rightM m = true) : m.1.length ≤ 64 := by
  unfold rightM at h
  simp only [Bool.and_eq_true, decide_eq_true_iff] at h
  exact h.1
theorem mailTake_eq (m : Mail') (place : Int) (hl : m.1.length ≤ 4611686018427387903) : omailTake ((m, place, ()), ()) = some (takeM m place, (), ()) := by
  rw [omailTake_eq, bmailTake]
  simp only [mailRight_eq m hl, bS_some]
  unfold takeM
  cases hr : rightM m with
  | false => rfl
  | true =>
    have h64 := rightM_len hr
    simp only [cond_true, cond_false, if_true]
    by_cases h0 : place < 0
    · have e1 : ilt place 0 = true := ilt_t.2 h0
      rw [if_neg (by omega)]
      simp only [e1, cond_true, cond_false]
      rfl
    · by_cases h1 : (m.1.length : Int) ≤ place
      · have e1 : ilt place 0 = false := ilt_f.2 (by omega)
        have e2 : ile (dlen m.1) place = true := ile_t.2 (by rw [dlen_eq]; exact h1)
        rw [if_neg (by omega)]
        simp only [e1, e2, cond_true, cond_false]
        rfl
      · obtain ⟨p, rfl⟩ : ∃ p : Nat, place = (p : Int) := ⟨place.toNat, by omega⟩
        have hp : p < m.1.length := by omega
        have e1 : ilt (p : Int) 0 = false := ilt_f.2 (by omega)
        have e2 : ile (dlen m.1) (p : Int) = false := ile_f.2 (by rw [dlen_eq]; omega)
        rw [if_pos (by omega)]
        have hI : oImailTakey8 (((), ()), (m, (p : Int), ()), [], (), ()) = some (m.1.eraseIdx p, (), ()) := by
          rw [oImailTakey8_eq]
          simp only [bImailTakey8, wmailTakey8ix1_eq]
          rw [others_loop m.1 p h64]
          rfl
        simp only [e1, e2, cond_true, cond_false, omailOthers_eq, bmailOthers, bS_some, hI, ile_nat, ilt_len hp, letget]
        rfl

end Am
end Go.Proofs.Ytkjpoongkdapoaa
