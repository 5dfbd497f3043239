/-
  Hosts: what a message makes of one, by the document; the laws of it.
-/
import Derived.Test.YtdicedlgaknkoaaHh
namespace Go.Proofs.Ytdicedlgaknkoaa
namespace Am
open Go Go.RowKit
set_option linter.unusedSimpArgs false
set_option linter.unusedVariables false
set_option maxRecDepth 10000

theorem drop1_take {l : List Hn} {k : Nat} (hk : k < l.length) (h0 : 0 < k) : (l.take (k + 1)).drop 1 = (l.take k).drop 1 ++ [l.getD k noH] := by
  rw [take_getD (d := noH) hk, List.drop_append_of_le_length]
  rw [List.length_take]; omega
theorem learn_loop (h : Hs) (m : Wm) (now : Int) (a b c : Int) (hl : h.2.2.2.1.length ≤ 8) :
    whl rref17Learnx6 ((now, (), (), (), [], h.2.2.2.1, dlen h.2.2.2.1, 0, ()), h, m, ((a, b, (), (), (), ()), (), c, ()), (), ()) =
      some (.inl ((now, (), (), (), h.2.2.2.1.drop (if h.2.2.2.1.length < 8 then 0 else 1), ()), h, m, ((a, b, (), (), (), ()), (), c, ()), (), ())) := by
  have hw := whl_up (g := rref17Learnx6) (fun k => ((now, (), (), (), (h.2.2.2.1.take k).drop (if h.2.2.2.1.length < 8 then 0 else 1), h.2.2.2.1, dlen h.2.2.2.1, (k : Int), ()), h, m, ((a, b, (), (), (), ()), (), c, ()), (), ())) (.inl ((now, (), (), (), h.2.2.2.1.drop (if h.2.2.2.1.length < 8 then 0 else 1), ()), h, m, ((a, b, (), (), (), ()), (), c, ()), (), ())) h.2.2.2.1.length
    (by simp only [rref17Learnx6, bifF (ilt_len' (xs := h.2.2.2.1) (Nat.le_refl _)), List.take_length])
    (fun k hk => by
      have e8 : ilt (dlen h.2.2.2.1) 8 = decide (h.2.2.2.1.length < 8) := by rw [ilt_eq, dlen_eq]; congr 1; rw [eq_iff_iff]; omega
      have ek : ilt 0 (k : Int) = decide (0 < k) := by rw [ilt_eq]; congr 1; rw [eq_iff_iff]; omega
      have hf : fits (dlen ((h.2.2.2.1.take k).drop (if h.2.2.2.1.length < 8 then 0 else 1))) 1 48 = true := fits1 _ 48 (by rw [List.length_drop, List.length_take]; omega) (by rw [List.length_drop, List.length_take]; omega)
      simp only [rref17Learnx6, bifT (ilt_len hk), bifT ile_nat, hget, inc_nat (show k < 4611686018427387904 by omega), e8, ek, hf]
      by_cases h8 : h.2.2.2.1.length < 8
      · simp only [h8, if_true, decide_true, cond_true, List.drop_zero, take_getD (d := noH) hk, dapp1]
        cases decide (0 < k) <;> rfl
      · simp only [h8, if_false, decide_false, cond_true, cond_false]
        by_cases h0 : 0 < k
        · simp only [h0, decide_true, cond_true, cond_false, drop1_take hk h0, dapp1]
        · have hk0 : k = 0 := by omega
          subst hk0
          have : (h.2.2.2.1.take (0 + 1)).drop 1 = (h.2.2.2.1.take 0).drop 1 := by
            rw [List.take_zero, List.drop_nil, List.drop_eq_nil_iff, List.length_take]
            omega
          simp only [h0, decide_false, cond_true, cond_false, this]) h.2.2.2.1.length 0 (by omega)
  have e0 : (h.2.2.2.1.take 0).drop (if h.2.2.2.1.length < 8 then 0 else 1) = [] := by simp
  rw [show ((0 : Nat) : Int) = 0 from rfl] at hw
  rw [e0] at hw
  exact hw
theorem ref17Learn_eq (h : Hs) (m : Wm) (now : Int) (hr : RH h) (hm : RightW m) (hn : timeOk now = true) : oref17Learn ((h, m, now, ()), ()) = some ((if noOk m.2.2.2.2.1 = true then (learnH h m.2.1 m.2.2.2.2.1 now, [], 0, ()) else (zeroH, [], 1, ()), ()), ()) := by
  rw [oref17Learn_eq, bref17Learn]
  have hno : ilt 15 m.2.2.2.2.1 = !noOk m.2.2.2.2.1 := by
    have := hm.n0
    unfold noOk
    rw [ilt_eq, Bool.eq_iff_iff]
    simp only [decide_eq_true_iff, Bool.not_eq_true', Bool.and_eq_false_iff, decide_eq_false_iff_not]
    omega
  rw [hno]
  cases hc : noOk m.2.2.2.2.1 with
  | false => rfl
  | true =>
    have hxl := hr.xl
    have hlen := hintsWithout_len h.2.2.2.1 m.2.1
    simp only [Bool.not_true, cond_false, if_true, ref17Forget_eq h _ hr.ok hr.x, bS_some, wref17Learnx6_eq]
    have ew : (withoutH h m.2.1).snd.snd.snd.fst = hintsWithout h.2.2.2.1 m.2.1 := rfl
    rw [learn_loop (withoutH h m.2.1) m now 0 0 0 (by rw [ew]; omega)]
    simp only [bL_inl, ew]
    have hdl : ∀ d, ((hintsWithout h.2.2.2.1 m.2.1).drop d).length ≤ 8 := fun d => by rw [List.length_drop]; omega
    have hd1 := hdl (if (hintsWithout h.2.2.2.1 m.2.1).length < 8 then 0 else 1)
    rw [fits1 _ 48 (by omega) (by omega)]
    unfold timeOk at hn
    simp only [Bool.and_eq_true, decide_eq_true_iff] at hn
    have et : iwrap IntKind.i64 (iadd now 1000) = now + 1000 := by unfold iadd; rw [iwrap_i64] <;> omega
    rw [et]
    unfold learnH
    by_cases h1 : 1099511627776 < now + 1000
    · rw [ilt_t.2 h1, show min (now + 1000) 1099511627776 = 1099511627776 by omega]
      rfl
    · rw [ilt_f.2 (show now + 1000 ≤ 1099511627776 by omega), show min (now + 1000) 1099511627776 = now + 1000 by omega]
      rfl
theorem ref17Handle_eq (h : Hs) (frm : Int) (m : Wm) (now : Int) (hl : okL h) (hm : m.2.2.2.1.length ≤ 1000) : oref17Handle ((h, frm, m, now, ()), ()) = some ((handleM h frm m now, ()), ()) := by
  rw [oref17Handle_eq, bref17Handle]
  simp only [ref17Right_eq h hl, ref17In_eq, bS_some, ref05Right_eq m (Nat.le_trans hm (by omega)), ref17Wanted_eq h _ hl.1]
  unfold handleM okHm
  cases h1 : rightH h with
  | false => rfl
  | true =>
    have ht : (decide (0 ≤ now) && decide (now ≤ 1099511627776)) = timeOk now := rfl
    rw [ht]
    cases h2 : timeOk now with
    | false => rfl
    | true =>
      have hfr : (decide (0 ≤ frm) && decide (frm ≤ 31)) = (decide (0 ≤ frm) && decide (frm < 32)) := by
        congr 1; congr 1; rw [eq_iff_iff]; omega
      rw [hfr]
      cases h3 : decide (0 ≤ frm) with
      | false => rfl
      | true =>
        cases h4 : decide (frm < 32) with
        | false => rfl
        | true =>
          cases h5 : wr m with
          | false => rfl
          | true =>
            have hr := rightH_iff.1 h1
            have hmw := wr_iff.1 h5
            simp only [Bool.and_self, cond_true, cond_false, if_true, ref17Itself_eq, bS_some, ieq_d, ref17Forget_eq h _ hl hr.x, ref17Learn_eq h m now hr hmw h2]
            unfold takesM
            by_cases k1 : m.1 = 1
            · have hs : 1 ≤ m.2.2.2.1.length := rightS_pos (hmw.stk (by rw [k1]; rfl))
              simp only [k1, decide_true, cond_true, if_true, in0 _ hs, ent0]
              have eE := eqE (m.2.2.2.1.getD 0 noE) (itselfM h)
              simp only [ieq_d] at eE
              rw [eE]
              by_cases e : m.2.2.2.1.getD 0 noE = itselfM h
              · have hd : decide (m.2.2.2.1.getD 0 noE = itselfM h) = true := decide_eq_true e
                rw [if_pos e]
                have e32 : decide (dlen h.2.2.2.2.1 = 32) = decide (h.2.2.2.2.1.length = 32) := by rw [dlen_eq]; congr 1; rw [eq_iff_iff]; omega
                simp only [hd, cond_true, cond_false, e32]
                by_cases e2 : h.2.2.2.2.1.length = 32
                · simp only [e2, decide_true, cond_true, if_true]
                  rfl
                · have hil := hr.il
                  have f0 : fits 0 (dlen h.2.2.2.2.1) 16 = true := by
                    have := fits_of (xs := ([] : List (List UInt8))) (ys := h.2.2.2.2.1) (b := 16) (by simp; omega) (by simp; omega)
                    exact this
                  have e3 : dapp [] h.2.2.2.2.1 = h.2.2.2.2.1 := rfl
                  simp only [e2, decide_false, cond_true, cond_false, if_false, f0, e3]
                  rw [fits1 _ 16 (by omega) (by omega)]
                  try rfl
              · have hd : decide (m.2.2.2.1.getD 0 noE = itselfM h) = false := decide_eq_false e
                rw [if_neg e]
                simp only [hd, cond_true, cond_false]
                rfl
            · by_cases k3 : m.1 = 3
              · have eE := eqE m.2.2.1 (itselfM h)
                simp only [ieq_d] at eE
                simp only [k1, k3, decide_true, decide_false, cond_true, cond_false, if_true, if_false, show ¬ ((3 : Int) = 1) by decide, eE]
                by_cases e : m.2.2.1 = itselfM h
                · have hd : decide (m.2.2.1 = itselfM h) = true := decide_eq_true e
                  rw [if_pos e]
                  simp only [hd, cond_true, cond_false]
                  cases hf : h.2.2.1.findIdx? (isW m.2.1) with
                  | none => rw [plc_none hf]; rfl
                  | some j =>
                    obtain ⟨e1, hj⟩ := plc_some hf
                    rw [e1, ilt_f.2 (show (0 : Int) ≤ (j : Int) by omega), ile_nat, ilt_len hj, wget]
                    rfl
                · have hd : decide (m.2.2.1 = itselfM h) = false := decide_eq_false e
                  rw [if_neg e]
                  simp only [hd, cond_true, cond_false]
                  rfl
              · by_cases k5 : m.1 = 5
                · simp only [k1, k3, k5, decide_true, decide_false, cond_true, cond_false, if_true, if_false, show ¬ ((5 : Int) = 1) by decide, show ¬ ((5 : Int) = 3) by decide]
                  cases hf : h.2.2.1.findIdx? (isW m.2.1) with
                  | none => rw [plc_none hf]; rfl
                  | some j =>
                    obtain ⟨e1, hj⟩ := plc_some hf
                    rw [e1, ilt_f.2 (show (0 : Int) ≤ (j : Int) by omega)]
                    rfl
                · by_cases k8 : m.1 = 8
                  · simp only [k1, k3, k5, k8, decide_true, decide_false, cond_true, cond_false, if_true, if_false, show ¬ ((8 : Int) = 1) by decide, show ¬ ((8 : Int) = 3) by decide, show ¬ ((8 : Int) = 5) by decide, show ¬ ((8 : Int) = 7) by decide]
                    cases noOk m.2.2.2.2.1 <;> rfl
                  · by_cases k7 : m.1 = 7
                    · simp only [k1, k3, k5, k7, k8, decide_true, decide_false, cond_true, cond_false, if_true, if_false, show ¬ ((7 : Int) = 1) by decide, show ¬ ((7 : Int) = 3) by decide, show ¬ ((7 : Int) = 5) by decide, show ¬ ((7 : Int) = 8) by decide]
                    · simp only [k1, k3, k5, k7, k8, decide_false, cond_false, if_false]
                      try rfl

/- two hosts that are the same -/
theorem eqW (e f : Wn) : (bif ideq e.fst f.fst then bif ieq e.snd.fst f.snd.fst then true else false else false) = decide (e = f) := by
  obtain ⟨e1, e2, ⟨⟩⟩ := e
  obtain ⟨f1, f2, ⟨⟩⟩ := f
  simp only [ideq_d, ieq_d]
  by_cases h1 : e1 = f1 <;> by_cases h2 : e2 = f2 <;> simp [h1, h2]
theorem eqH (e f : Hn) : (bif ideq e.fst f.fst then bif ieq e.snd.fst f.snd.fst then bif ieq e.snd.snd.fst f.snd.snd.fst then true else false else false else false) = decide (e = f) := by
  obtain ⟨e1, e2, e3, ⟨⟩⟩ := e
  obtain ⟨f1, f2, f3, ⟨⟩⟩ := f
  simp only [ideq_d, ieq_d]
  by_cases h1 : e1 = f1 <;> by_cases h2 : e2 = f2 <;> by_cases h3 : e3 = f3 <;> simp [h1, h2, h3]
theorem likeH_self (h : Hs) (hl : okL h) : oref17Like ((h, h, ()), ()) = some ((true, ()), ()) := by
  rw [oref17Like_eq, bref17Like]
  have l1 : whl rref17Likex4 (((), (), dlen h.2.2.1, 0, ()), h, h, ()) = some (.inr (.inl (((), (), ()), h, h, ()))) := by
    refine whl_up (g := rref17Likex4) (fun k => (((), (), dlen h.2.2.1, (k : Int), ()), h, h, ())) _ h.2.2.1.length ?_ ?_ h.2.2.1.length 0 (by omega)
    · simp only [rref17Likex4, bifF (ilt_len' (xs := h.2.2.1) (Nat.le_refl _))]
    · intro k hk
      have := hl.1
      simp only [rref17Likex4, bifT (ilt_len hk), bifT ile_nat, eqW, decide_true, cond_true, cond_false, inc_nat (show k < 4611686018427387904 by omega)]
  have l2 : whl rref17Likex10 (((), (), dlen h.2.2.2.1, 0, ()), h, h, ()) = some (.inr (.inl (((), (), ()), h, h, ()))) := by
    refine whl_up (g := rref17Likex10) (fun k => (((), (), dlen h.2.2.2.1, (k : Int), ()), h, h, ())) _ h.2.2.2.1.length ?_ ?_ h.2.2.2.1.length 0 (by omega)
    · simp only [rref17Likex10, bifF (ilt_len' (xs := h.2.2.2.1) (Nat.le_refl _))]
    · intro k hk
      have := hl.2.1
      simp only [rref17Likex10, bifT (ilt_len hk), bifT ile_nat, eqH, decide_true, cond_true, cond_false, inc_nat (show k < 4611686018427387904 by omega)]
  have l3 : whl rref17Likex16 (((), (), dlen h.2.2.2.2.1, 0, ()), h, h, ()) = some (.inr (.inl ((), ()))) := by
    refine whl_up (g := rref17Likex16) (fun k => (((), (), dlen h.2.2.2.2.1, (k : Int), ()), h, h, ())) _ h.2.2.2.2.1.length ?_ ?_ h.2.2.2.2.1.length 0 (by omega)
    · simp only [rref17Likex16, bifF (ilt_len' (xs := h.2.2.2.2.1) (Nat.le_refl _))]
    · intro k hk
      have := hl.2.2
      simp only [rref17Likex16, bifT (ilt_len hk), bifT ile_nat, seq_s, cond_true, cond_false, inc_nat (show k < 4611686018427387904 by omega)]
  simp only [ieq_s, cond_true, cond_false, wref17Likex4_eq, wref17Likex10_eq, wref17Likex16_eq, l1, l2, l3, bL_inr, bL_inl]
def cutM (m : Wm) : Wm := (m.1, m.2.1, m.2.2.1, m.2.2.2.1.take 6, m.2.2.2.2.1, m.2.2.2.2.2.1.take 20, m.2.2.2.2.2.2.1.take 70, ())
theorem cut_eq (m : Wm) : olaw17Cut ((m, ()), ()) = some ((cutM m, ()), ()) := by
  rw [olaw17Cut_eq, blaw17Cut]
  have e6 : (6 : Int) = ((6 : Nat) : Int) := rfl
  have e20 : (20 : Int) = ((20 : Nat) : Int) := rfl
  have e70 : (70 : Int) = ((70 : Nat) : Int) := rfl
  simp only [e6, e20, e70, imin_len, ile00, ile_nat, ile_min, dsub_min, cond_true]
  rfl
theorem cutM_len (m : Wm) : (cutM m).2.2.2.1.length ≤ 6 := by show (m.2.2.2.1.take 6).length ≤ 6; rw [List.length_take]; omega

theorem withoutH_ok {h : Hs} (id : Id) (hl : okL h) : okL (withoutH h id) := ⟨hl.1, Nat.le_trans (hintsWithout_len _ _) hl.2.1, hl.2.2⟩
theorem takesM_ok {h : Hs} {frm : Int} {m : Wm} {now : Int} (hr : RH h) : okL (takesM h frm m now).1 ∧ (takesM h frm m now).2.1.length ≤ 1 ∧ ∀ s ∈ (takesM h frm m now).2.1, s.2.1.2.2.2.1 = [] := by
  have hl := hr.ok
  have h1 := hr.il
  have h2 := hr.xl
  have hw := hintsWithout_len h.2.2.2.1 m.2.1
  have hb : okL (boxH h m.2.2.2.2.2.2.1) := ⟨hl.1, hl.2.1, by show (h.2.2.2.2.1 ++ [_]).length ≤ 1000; simp; omega⟩
  have hlr : okL (learnH h m.2.1 m.2.2.2.2.1 now) := ⟨hl.1, by show (_ ++ [_]).length ≤ 1000; simp; omega, hl.2.2⟩
  have hwo := withoutH_ok m.2.1 hl
  unfold takesM
  split
  · split
    · split
      · exact ⟨hl, by simp, by simp⟩
      · exact ⟨hb, by simp, by simp⟩
    · exact ⟨hl, by simp, by simp⟩
  · split
    · split
      · split
        · exact ⟨hl, by simp, fun s hs => by simp only [List.mem_singleton] at hs; subst hs; rfl⟩
        · exact ⟨hl, by simp, by simp⟩
      · exact ⟨hl, by simp, by simp⟩
    · split
      · split
        · exact ⟨hl, by simp, by simp⟩
        · exact ⟨hl, by simp, by simp⟩
      · split
        · split
          · exact ⟨hlr, by simp, by simp⟩
          · exact ⟨hl, by simp, by simp⟩
        · split
          · exact ⟨hwo, by simp, by simp⟩
          · exact ⟨hl, by simp, by simp⟩
theorem zeroH_ok : okL zeroH := ⟨by decide, by decide, by decide⟩
theorem handleM_ok {h : Hs} {frm : Int} {m : Wm} {now : Int} : okL (handleM h frm m now).1 ∧ (handleM h frm m now).2.1.length ≤ 1 ∧ ∀ s ∈ (handleM h frm m now).2.1, s.2.1.2.2.2.1 = [] := by
  unfold handleM
  split
  · rename_i hk
    unfold okHm at hk
    simp only [Bool.and_eq_true] at hk
    split
    · exact takesM_ok (rightH_iff.1 hk.1)
    · exact ⟨zeroH_ok, by simp, by simp⟩
  · exact ⟨zeroH_ok, by simp, by simp⟩
/-- the law -/
theorem takes17 (h : Hs) (frm : Int) (m : Wm) (now : Int) : olaw17HostTakes ((h, frm, m, now, ()), ()) = some ((true, ()), ()) := by
  rw [olaw17HostTakes_eq, blaw17HostTakes]
  have hok := fewH_ok h
  have hml := cutM_len m
  simp only [few_eq, cut_eq, bS_some]
  generalize fewH h = h at *
  generalize cutM m = m at *
  simp only [hostHandle_eq h frm m now hok (by omega), ref17Handle_eq h frm m now hok (by omega), bS_some, alive17, isS_some, getS_some]
  obtain ⟨h1, h2, h3⟩ := handleM_ok (h := h) (frm := frm) (m := m) (now := now)
  generalize handleM h frm m now = t at *
  simp only [likeH_self _ h1, sends_self t.2.1 (by omega) (fun s hs => by rw [h3 s hs]; simp), isS_some, getS_some, cond_true, ieq_s]
  rfl

end Am
end Go.Proofs.Ytdicedlgaknkoaa
