/-
  The law MailOnce.
-/
import Derived.Test.YtkjpoongkdapoaaMw
namespace Go.Proofs.Ytkjpoongkdapoaa
namespace Am
open Go Go.RowKit
set_option linter.unusedSimpArgs false
set_option linter.unusedVariables false
set_option maxRecDepth 10000

theorem ieq_s (a : Int) : ieq a a = true := ieq_t.2 rfl
theorem seq_s (a : List UInt8) : seq a a = true := seq_t.2 rfl
theorem isB_some (b : Bool) : isB (some b) = true := rfl
theorem getB_some (b : Bool) : getB (some b) = b := rfl
theorem rem_nat (x : Int) (k : Nat) (h0 : 0 < k) (h1 : k ≤ 100000) : ∃ m : Nat, m < k ∧ irem (iwrap IntKind.i64 (iadd (irem x (k : Int)) (k : Int))) (k : Int) = (m : Int) := by
  unfold irem iadd
  have a1 : x.tmod k < k := Int.tmod_lt_of_pos _ (by omega)
  have a2 : -(k : Int) < x.tmod k := by
    have := Int.lt_tmod_of_pos x (show (0 : Int) < k by omega)
    omega
  rw [iwrap_i64 (by omega) (by omega)]
  obtain ⟨n, hn⟩ : ∃ n : Nat, x.tmod k + k = (n : Int) := ⟨(x.tmod k + k).toNat, by omega⟩
  rw [hn, ← Int.ofNat_tmod]
  exact ⟨n % k, Nat.mod_lt _ h0, rfl⟩

abbrev Sent := List (Int × List UInt8)
abbrev Left := List (Int × Int)
/-- an act's end -/
theorem act_end (e : Int) (he : e = 0 ∨ e = 8) (x0 : List Int) (x1 x2 : Int) (m : Mail') (st : Sent) (lf : Left) (q : Mail') :
    wlaw06MailOncex1000038 (((), (), (), (), e, x0, x1, x2, ()), m, st, lf, q, ()) = some (.inr (.inl (((), (), (), x0, x1, x2, ()), (if e = 0 then q else m), st, lf, ()))) := by
  rw [wlaw06MailOncex1000038_eq]
  simp only [rlaw06MailOncex1000038]
  rcases he with rfl | rfl
  · rfl
  · rfl
theorem letget' (l : List Let') (i : Nat) : dget ((Ty.int IntKind.i64).pair ((Ty.int IntKind.i64).pair ((Ty.int IntKind.i64).pair (Ty.str.pair Ty.unit)))) l (i : Int) = l.getD i noL := letget l i
theorem takeM_ok {m : Mail'} (hr : rightM m = true) {p : Nat} (hp : p < m.1.length) : takeM m (p : Int) = ((m.1.eraseIdx p, m.2), m.1.getD p noL, 0, ()) := by
  unfold takeM
  rw [if_pos hr, if_pos ⟨by omega, by omega⟩, Int.toNat_natCast]
/-- an act -/
theorem act_eq (a : Int) (m : Mail') (st : Sent) (lf : Left) (h : OnceI m st lf) (p : Nat) (hp : p < m.1.length) (x0 : List Int) (x1 x2 : Int) :
    ∃ m' lf', OnceI m' st lf' ∧ wlaw06MailOncex1000021 (((), (), (), a, (p : Int), (m.1.getD p noL).1, x0, x1, x2, ()), m, st, lf, ()) = some (.inr (.inl (((), (), (), x0, x1, x2, ()), m', st, lf', ()))) := by
  have hr := once_r h
  have hl : m.1.length ≤ 4611686018427387903 := by have := h.r.len; omega
  have ht := takeM_ok hr hp
  have hm := once_mem hp
  obtain ⟨o1, o2, o3⟩ := h.ok _ hm
  have hb := no_bound (h.r.all _ hm)
  have hlast := h.r.last1
  have e1 : iwrap IntKind.i64 (isub (m.1.getD p noL).1 1) = (m.1.getD p noL).1 - 1 := by
    unfold isub
    rw [iwrap_i64 (by omega) (by omega)]
  have hrm : 0 ≤ irem ((m.1.getD p noL).1 - 1) 32 ∧ irem ((m.1.getD p noL).1 - 1) 32 < 32 := by
    obtain ⟨n, hn⟩ : ∃ n : Nat, (m.1.getD p noL).1 - 1 = (n : Int) := ⟨((m.1.getD p noL).1 - 1).toNat, by omega⟩
    rw [hn]
    unfold irem
    rw [show (32 : Int) = ((32 : Nat) : Int) from rfl, ← Int.ofNat_tmod]
    have := Nat.mod_lt n (show 0 < 32 by omega)
    omega
  have e2 : iwrap IntKind.i64 (isub 31 (irem ((m.1.getD p noL).1 - 1) 32)) = 31 - irem ((m.1.getD p noL).1 - 1) 32 := by
    unfold isub
    rw [iwrap_i64 (by omega) (by omega)]
  have e3 : ilt (mpval (Ty.int IntKind.i64) lf (m.1.getD p noL).1) 1 = false := by
    have := h.cn (m.1.getD p noL).1
    have hc := cnt_pos hp
    exact ilt_f.2 (by rw [this]; omega)
  have e4 : ieq 4 0 = false := rfl
  have e32 : ieq 32 0 = false := rfl
  obtain ⟨q, hq, hqe⟩ := rem_nat a 4 (by omega) (by omega)
  rw [show ((4 : Nat) : Int) = 4 from rfl] at hqe
  have i0 : ieq 0 0 = true := rfl
  rw [wlaw06MailOncex1000021_eq]
  generalize hx : m.1.getD p noL = x at *
  obtain ⟨xn, xf, xt, xd, ⟨⟩⟩ := x
  simp only at o1 o2 o3 e1 e2 e3 hb
  subst o1; subst o2; subst o3
  simp only [rlaw06MailOncex1000021, e4, cond_true, cond_false, hqe]
  rcases (show q = 0 ∨ q = 1 ∨ q = 2 ∨ q = 3 by omega) with rfl | rfl | rfl | rfl
  · have c0 : ieq ((0 : Nat) : Int) 0 = true := rfl
    have hE := once_erase h hp
    rw [hx] at hE
    refine ⟨_, _, hE, ?_⟩
    simp only [c0, cond_true, mailTake_eq m _ hl, bS_some, ht, i0, cond_false, e32, e1, e2, e3, ieq_s, seq_s, isB_some, getB_some, act_end 0 (.inl rfl), bL_inr, bL_inl, if_true]
  · have c0 : ieq ((1 : Nat) : Int) 0 = false := rfl
    have c1 : ieq ((1 : Nat) : Int) 1 = true := rfl
    have htw : twiceM m (p : Int) = if m.1.length = 64 then (noMail, 8, ()) else ((m.1 ++ [(xn, irem (xn - 1) 32, 31 - irem (xn - 1) 32, mpval .str st xn, ())], m.2), 0, ()) := by
      unfold twiceM
      rw [ht]
      rfl
    by_cases h64 : m.1.length = 64
    · rw [if_pos h64] at htw
      have i8 : ieq 8 0 = false := rfl
      refine ⟨m, lf, h, ?_⟩
      simp only [c0, c1, cond_true, cond_false, mailTwice_eq m _ hl, htw, bS_some, i8, act_end 8 (.inr rfl), bL_inr, bL_inl]
      rfl
    · rw [if_neg h64] at htw
      have hT := once_twice h hp h64
      rw [hx] at hT
      refine ⟨_, _, hT, ?_⟩
      simp only [c0, c1, cond_true, cond_false, mailTwice_eq m _ hl, htw, bS_some, i0, act_end 0 (.inl rfl), bL_inr, bL_inl, if_true]
  · have c0 : ieq ((2 : Nat) : Int) 0 = false := rfl
    have c1 : ieq ((2 : Nat) : Int) 1 = false := rfl
    have c2 : ieq ((2 : Nat) : Int) 2 = true := rfl
    have hE := once_erase h hp
    rw [hx] at hE
    refine ⟨_, _, hE, ?_⟩
    simp only [c0, c1, c2, cond_true, cond_false, mailLose_eq m _ hl, ht, bS_some, act_end 0 (.inl rfl), bL_inr, bL_inl, if_true]
  · have c0 : ieq ((3 : Nat) : Int) 0 = false := rfl
    have c1 : ieq ((3 : Nat) : Int) 1 = false := rfl
    have c2 : ieq ((3 : Nat) : Int) 2 = false := rfl
    have hL := once_last h hp
    rw [hx] at hL
    have hla : lastM m (p : Int) = ((m.1.eraseIdx p ++ [(xn, irem (xn - 1) 32, 31 - irem (xn - 1) 32, mpval .str st xn, ())], m.2), 0, ()) := by
      unfold lastM
      rw [ht]
      rfl
    refine ⟨_, _, hL, ?_⟩
    simp only [c0, c1, c2, cond_true, cond_false, mailLast_eq m _ hl, hla, bS_some, act_end 0 (.inl rfl), bL_inr, bL_inl, if_true]

/-- letters are posted -/
theorem post_loop (acts : List Int) (data : List (List UInt8)) : ∀ (k i : Nat) (fl : List Let') (st : Sent) (lf : Left), i + k = min data.length 20 → fl.length = i → OnceI (fl, (i : Int), 0, ()) st lf →
    ∃ m' st' lf', OnceI m' st' lf' ∧ whl rlaw06MailOncex5 ((acts, (), (), (), data, dlen data, (i : Int), ()), (fl, (i : Int), 0, ()), st, lf, ()) = some (.inl ((acts, (), (), (), ()), m', st', lf', ()))
  | 0, i, fl, st, lf, hk, hfl, h => by
    refine ⟨_, _, _, h, whl_inr ?_⟩
    simp only [rlaw06MailOncex5]
    by_cases hd : i < data.length
    · have c20 : ile 20 (i : Int) = true := ile_t.2 (by omega)
      simp only [ilt_len hd, ile_nat, c20, cond_true]
    · simp only [ilt_len' (xs := data) (show data.length ≤ i by omega), cond_false]
  | k + 1, i, fl, st, lf, hk, hfl, h => by
    have hi : i < 20 := by omega
    have hd : i < data.length := by omega
    have c20 : ile 20 (i : Int) = false := ile_f.2 (by omega)
    have hg : dget Ty.str data (i : Int) = data.getD i [] := dget_eq Ty.str data i
    have e100 : (100 : Int) = ((100 : Nat) : Int) := rfl
    have e32 : ieq 32 0 = false := rfl
    have er : irem (i : Int) 32 = ((i % 32 : Nat) : Int) := by
      unfold irem
      rw [show (32 : Int) = ((32 : Nat) : Int) from rfl, ← Int.ofNat_tmod]
    have es : iwrap IntKind.i64 (isub 31 ((i % 32 : Nat) : Int)) = 31 - ((i % 32 : Nat) : Int) := by
      unfold isub
      rw [iwrap_i64 (by omega) (by omega)]
    generalize hs : data.getD i [] = s0 at *
    have hcut : (bif (bif ile 0 0 then ile 0 (imin (dlen s0) ((100 : Nat) : Int)) else false) then ile (imin (dlen s0) ((100 : Nat) : Int)) (dlen s0) else false) = true := by
      rw [bifT ile00, imin_len, bifT ile_nat]
      exact ile_min _ _
    have hsub : dsub s0 0 (imin (dlen s0) ((100 : Nat) : Int)) = s0.take 100 := by rw [imin_len]; exact dsub_min _ _
    have hs100 : (s0.take 100).length ≤ 100 := by rw [List.length_take]; omega
    have hP := once_post h hi hfl (s0.take 100) hs100
    have hpost : postM (fl, (i : Int), 0, ()) ((i % 32 : Nat) : Int) (31 - ((i % 32 : Nat) : Int)) (s0.take 100) = ((fl ++ [((i : Int) + 1, ((i % 32 : Nat) : Int), 31 - ((i % 32 : Nat) : Int), s0.take 100, ())], (i : Int) + 1, 0, ()), (i : Int) + 1, 0, ()) := by
      unfold postM
      have a1 : addrB ((i % 32 : Nat) : Int) = true := by unfold addrB; simp only [Bool.and_eq_true, decide_eq_true_iff]; omega
      have a2 : addrB (31 - ((i % 32 : Nat) : Int)) = true := by unfold addrB; simp only [Bool.and_eq_true, decide_eq_true_iff]; omega
      rw [once_r h, a1, a2, if_pos (show (true && (true && true)) = true from rfl), if_neg (by omega), if_neg (by simp only; omega)]
    have hpe := mailPost_eq (fl, (i : Int), 0, ()) ((i % 32 : Nat) : Int) (31 - ((i % 32 : Nat) : Int)) (s0.take 100) (by simp only; omega) (by omega)
    rw [hpost] at hpe
    have hfresh : ieq (mpval (Ty.int IntKind.i64) lf ((i : Int) + 1)) 0 = true := by
      have h1 := h.cn ((i : Int) + 1)
      rw [cnt_none (fun l hl => by have := (no_bound (h.r.all l hl)).2; simp only at this; omega)] at h1
      exact ieq_t.2 h1
    obtain ⟨m', st', lf', h', hw⟩ := post_loop acts data k (i + 1) (fl ++ [((i : Int) + 1, ((i % 32 : Nat) : Int), 31 - ((i % 32 : Nat) : Int), s0.take 100, ())]) _ _ (by omega) (by rw [List.length_append, hfl]; rfl) (by rw [show (((i + 1 : Nat) : Int)) = (i : Int) + 1 by omega]; exact hP)
    refine ⟨m', st', lf', h', ?_⟩
    rw [← hw]
    refine whl_inl ?_
    simp only [rlaw06MailOncex5, ilt_len hd, ile_nat, c20, hg, e100, hcut, hsub, e32, er, es, hpe, bS_some, ieq_s, hfresh, cond_true, cond_false, isB_some, getB_some, inc_nat (show i < 4611686018427387904 by omega)]
    rfl
/-- acts, one by one -/
theorem act_loop (acts : List Int) : ∀ (k j : Nat) (m : Mail') (st : Sent) (lf : Left), j + k = min acts.length 60 → OnceI m st lf →
    ∃ m' lf', OnceI m' st lf' ∧ whl rlaw06MailOncex15 (((), (), (), acts, dlen acts, (j : Int), ()), m, st, lf, ()) = some (.inl (((), (), ()), m', lf', ()))
  | 0, j, m, st, lf, hk, h => by
    refine ⟨_, _, h, whl_inr ?_⟩
    simp only [rlaw06MailOncex15]
    by_cases hd : j < acts.length
    · have c60 : ile 60 (j : Int) = true := ile_t.2 (by omega)
      simp only [ilt_len hd, ile_nat, c60, cond_true, cond_false, isB_some, getB_some]
    · simp only [ilt_len' (xs := acts) (show acts.length ≤ j by omega), cond_false]
  | k + 1, j, m, st, lf, hk, h => by
    have hd : j < acts.length := by omega
    have c60 : ile 60 (j : Int) = false := ile_f.2 (by omega)
    by_cases h0 : m.1.length = 0
    · refine ⟨_, _, h, whl_inr ?_⟩
      have e0 : ieq (dlen m.1) 0 = true := ieq_t.2 (by rw [dlen_eq]; omega)
      simp only [rlaw06MailOncex15, ilt_len hd, ile_nat, c60, e0, cond_true, cond_false, isB_some, getB_some]
    · have e0 : ieq (dlen m.1) 0 = false := ieq_f.2 (by rw [dlen_eq]; omega)
      have hg : dget (Ty.int IntKind.i64) acts (j : Int) = acts.getD j 0 := dget_eq (Ty.int IntKind.i64) acts j
      have hl := h.r.len
      obtain ⟨p, hp, hpe⟩ := rem_nat (iwrap IntKind.i64 (iquo (acts.getD j 0) 4)) m.1.length (by omega) (by omega)
      obtain ⟨m', lf', h', ha⟩ := act_eq (acts.getD j 0) m st lf h p hp acts (dlen acts) (j : Int)
      obtain ⟨m2, lf2, h2, hw⟩ := act_loop acts k (j + 1) m' st lf' (by omega) h'
      refine ⟨m2, lf2, h2, ?_⟩
      rw [← hw]
      refine whl_inl ?_
      have hdl : dlen m.1 = (m.1.length : Int) := dlen_eq _
      have cp : ilt (p : Int) ((m.1.length : Nat) : Int) = true := ilt_t.2 (by omega)
      have e0' : ieq ((m.1.length : Nat) : Int) 0 = false := ieq_f.2 (by omega)
      have e4 : ieq 4 0 = false := rfl
      simp only [rlaw06MailOncex15, ilt_len hd, ile_nat, c60, hg, hdl, e0', e4, hpe, cp, letget', ha, cond_true, cond_false, isB_some, getB_some, bL_inr, bL_inl, inc_nat (show j < 4611686018427387904 by omega)]
/-- those that are there are taken off what is left -/
theorem off_loop (m : Mail') (st : Sent) (lf : Left) (h : OnceI m st lf) : ∃ lf' : Left, lf'.all (fun p => decide (p.2 = 0)) = true ∧
    whl rlaw06MailOncex44 (((), (), m.1, dlen m.1, 0, ()), m, lf, ()) = some (.inl (((), (), ()), m, lf', ())) := by
  have key : ∀ (k i : Nat) (lf : Left), i + k = m.1.length → (∀ no, @Eq Int (mpval (.int .i64) lf no) (cnt (m.1.drop i) no : Int)) → (lf.map (·.1)).Nodup →
      ∃ lf' : Left, lf'.all (fun p => decide (p.2 = 0)) = true ∧ whl rlaw06MailOncex44 (((), (), m.1, dlen m.1, (i : Int), ()), m, lf, ()) = some (.inl (((), (), ()), m, lf', ())) := by
    intro k
    induction k with
    | zero =>
      intro i lf hi hc hn
      refine ⟨lf, ?_, whl_inr ?_⟩
      · rw [List.all_eq_true]
        intro p hp
        have h1 := val_mem (.int .i64) lf p hn hp
        have h2 := hc p.1
        rw [List.drop_of_length_le (by omega)] at h2
        have h3 : @Eq Int p.2 0 := h1.symm.trans h2
        simpa using h3
      · simp only [rlaw06MailOncex44, ilt_len' (xs := m.1) (show m.1.length ≤ i by omega), cond_false]
    | succ k ih =>
      intro i lf hi hc hn
      have hlt : i < m.1.length := by omega
      have hlen := h.r.len
      have hdr : m.1.drop i = m.1.getD i noL :: m.1.drop (i + 1) := by
        rw [List.getD_eq_getElem?_getD, List.getElem?_eq_getElem hlt]
        exact List.drop_eq_getElem_cons hlt
      have hcc : ∀ no, cnt (m.1.drop i) no = cnt (m.1.drop (i + 1)) no + if (m.1.getD i noL).1 = no then 1 else 0 := by
        intro no
        rw [hdr]
        unfold cnt
        rw [List.countP_cons]
        by_cases h : (m.1.getD i noL).1 = no <;> simp [h]
      have hle : cnt (m.1.drop i) (m.1.getD i noL).1 ≤ 64 := by
        have := cnt_le (m.1.drop i) (m.1.getD i noL).1
        rw [List.length_drop] at this
        omega
      have e : iwrap IntKind.i64 (isub (mpval (.int .i64) lf (m.1.getD i noL).1) 1) = ((cnt (m.1.drop (i + 1)) (m.1.getD i noL).1 : Nat) : Int) := by
        have h1 := hcc (m.1.getD i noL).1
        rw [if_pos rfl] at h1
        have h2 := hc (m.1.getD i noL).1
        unfold isub
        rw [h2, iwrap_i64 (by omega) (by omega)]
        omega
      obtain ⟨lf', hz, hw⟩ := ih (i + 1) (mpset (.int .i64) lf (m.1.getD i noL).1 ((cnt (m.1.drop (i + 1)) (m.1.getD i noL).1 : Nat) : Int)) (by omega) (fun no => by
        rw [val_set]
        by_cases hno : no = (m.1.getD i noL).1
        · rw [if_pos hno, hno]
        · rw [if_neg hno]
          have h1 := hcc no
          rw [if_neg (Ne.symm hno)] at h1
          rw [hc no, h1]
          rfl) (nodup_set (.int .i64) _ _ _ hn)
      refine ⟨lf', hz, ?_⟩
      rw [← hw]
      refine whl_inl ?_
      simp only [rlaw06MailOncex44, ilt_len hlt, ile_nat, letget', e, cond_true, inc_nat (show i < 4611686018427387904 by omega)]
  obtain ⟨lf', h1, h2⟩ := key m.1.length 0 lf (by omega) (fun no => by rw [List.drop_zero]; exact h.cn no) h.nd
  exact ⟨lf', h1, h2⟩
theorem onces (data : List (List UInt8)) (acts : List Int) : olaw06MailOnce ((data, acts, ()), ()) = some ((true, ()), ()) := by
  rw [olaw06MailOnce_eq, blaw06MailOnce]
  have h0 : OnceI ([], ((0 : Nat) : Int), 0, ()) [] [] := ⟨⟨by simp, by simp, by simp, by simp, by simp, fun x hx => (by cases hx)⟩, fun l hl => (by cases hl), fun no => rfl, by simp⟩
  obtain ⟨m1, st, lf1, h1, w1⟩ := post_loop acts data (min data.length 20) 0 [] [] [] (by omega) rfl h0
  obtain ⟨m2, lf2, h2, w2⟩ := act_loop acts (min acts.length 60) 0 m1 st lf1 (by omega) h1
  obtain ⟨lf3, hz, w3⟩ := off_loop m2 st lf2 h2
  have w1 : whl rlaw06MailOncex5 ((acts, (), (), (), data, dlen data, 0, ()), ([], 0, 0, ()), [], [], ()) = some (.inl ((acts, (), (), (), ()), m1, st, lf1, ())) := w1
  have w2 : whl rlaw06MailOncex15 (((), (), (), acts, dlen acts, 0, ()), m1, st, lf1, ()) = some (.inl (((), (), ()), m2, lf2, ())) := w2
  have hlen : m2.1.length ≤ 4611686018427387903 := by have := h2.r.len; omega
  simp only [wlaw06MailOncex5_eq, w1, wlaw06MailOncex15_eq, bL_inl, w2, wlaw06MailOncex44_eq, w3, wlaw06MailOncex1000048_eq, rlaw06MailOncex1000048, hz, cond_true, alive6, bS_some, mailRight_eq m2 hlen, once_r h2]
end Am
end Go.Proofs.Ytkjpoongkdapoaa
