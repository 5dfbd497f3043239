/-
  Mail: letters come as often as they are there.
-/
import Derived.Test.YtkjpoongkdapoaaMq
namespace Go.Proofs.Ytkjpoongkdapoaa
namespace Am
open Go Go.RowKit
set_option linter.unusedSimpArgs false
set_option linter.unusedVariables false

/- maps -/
theorem val_cons (t : Ty) (k : Int) (v : t.den) (r : List (Int × t.den)) (n : Int) : mpval t ((k, v) :: r) n = if k = n then v else mpval t r n := by
  unfold mpval
  rw [List.find?_cons]
  by_cases h : k = n
  · simp [h]
  · simp [h]
theorem val_set (t : Ty) : ∀ (kv : List (Int × t.den)) (k : Int) (v : t.den) (n : Int), mpval t (mpset t kv k v) n = if n = k then v else mpval t kv n
  | [], k, v, n => by
    rw [mpset, val_cons]
    by_cases h : n = k
    · rw [if_pos h.symm, if_pos h]
    · rw [if_neg (Ne.symm h), if_neg h]
  | (k', v') :: r, k, v, n => by
    rw [mpset]
    by_cases h1 : k' = k
    · rw [if_pos h1, val_cons, val_cons]
      subst h1
      by_cases h : n = k'
      · rw [if_pos h.symm, if_pos h]
      · rw [if_neg (Ne.symm h), if_neg h, if_neg (Ne.symm h)]
    · rw [if_neg h1, val_cons, val_cons, val_set t r k v n]
      by_cases h : n = k
      · subst h
        rw [if_neg h1, if_pos rfl, if_pos rfl]
      · rw [if_neg h, if_neg h]
theorem keys_set (t : Ty) : ∀ (kv : List (Int × t.den)) (k : Int) (v : t.den) (n : Int), n ∈ (mpset t kv k v).map (·.1) ↔ n ∈ kv.map (·.1) ∨ n = k
  | [], k, v, n => by simp [mpset]
  | (k', v') :: r, k, v, n => by
    rw [mpset]
    by_cases h1 : k' = k
    · rw [if_pos h1]
      subst h1
      simp only [List.map_cons, List.mem_cons]
      constructor
      · rintro (h | h)
        · exact .inr h
        · exact .inl (.inr h)
      · rintro ((h | h) | h)
        · exact .inl h
        · exact .inr h
        · exact .inl h
    · rw [if_neg h1]
      simp only [List.map_cons, List.mem_cons, keys_set t r k v n]
      constructor
      · rintro (h | h | h)
        · exact .inl (.inl h)
        · exact .inl (.inr h)
        · exact .inr h
      · rintro ((h | h) | h)
        · exact .inl h
        · exact .inr (.inl h)
        · exact .inr (.inr h)
theorem nodup_set (t : Ty) : ∀ (kv : List (Int × t.den)) (k : Int) (v : t.den), (kv.map (·.1)).Nodup → ((mpset t kv k v).map (·.1)).Nodup
  | [], k, v, _ => by simp [mpset]
  | (k', v') :: r, k, v, h => by
    rw [mpset]
    simp only [List.map_cons, List.nodup_cons] at h
    by_cases h1 : k' = k
    · rw [if_pos h1]
      subst h1
      simp only [List.map_cons, List.nodup_cons]
      exact h
    · rw [if_neg h1]
      simp only [List.map_cons, List.nodup_cons]
      refine ⟨fun hm => ?_, nodup_set t r k v h.2⟩
      rcases (keys_set t r k v k').1 hm with hm | hm
      · exact h.1 hm
      · exact h1 hm
theorem val_mem (t : Ty) : ∀ (kv : List (Int × t.den)) (p : Int × t.den), (kv.map (·.1)).Nodup → p ∈ kv → mpval t kv p.1 = p.2
  | [], _, _, h => by cases h
  | (k, v) :: r, p, hn, h => by
    simp only [List.map_cons, List.nodup_cons] at hn
    rw [val_cons]
    rcases List.mem_cons.1 h with rfl | h
    · rw [if_pos rfl]
    · have hne : k ≠ p.1 := fun e => hn.1 (e ▸ List.mem_map.2 ⟨p, h, rfl⟩)
      rw [if_neg hne, val_mem t r p hn.2 h]

/- how often a letter is there -/
def cnt (fl : List Let') (no : Int) : Nat := fl.countP fun l => decide (l.1 = no)
theorem cnt_app (a : List Let') (l : Let') (no : Int) : cnt (a ++ [l]) no = cnt a no + if l.1 = no then 1 else 0 := by
  unfold cnt
  rw [List.countP_append]
  by_cases h : l.1 = no <;> simp [h]
theorem cnt_erase : ∀ (fl : List Let') (p : Nat) (no : Int), p < fl.length → cnt fl no = cnt (fl.eraseIdx p) no + if (fl.getD p noL).1 = no then 1 else 0
  | [], p, no, h => by simp at h
  | x :: fl, 0, no, h => by
    unfold cnt
    simp only [List.eraseIdx_cons_zero, List.getD_cons_zero, List.countP_cons]
    by_cases h : x.1 = no <;> simp [h]
  | x :: fl, p + 1, no, h => by
    have ih := cnt_erase fl p no (by simpa using h)
    unfold cnt at ih ⊢
    simp only [List.eraseIdx_cons_succ, List.getD_cons_succ, List.countP_cons]
    omega
theorem cnt_le (fl : List Let') (no : Int) : cnt fl no ≤ fl.length := List.countP_le_length
theorem cnt_pos {fl : List Let'} {p : Nat} (h : p < fl.length) : 1 ≤ cnt fl (fl.getD p noL).1 := by
  rw [cnt_erase fl p _ h, if_pos rfl]; omega
theorem cnt_none {fl : List Let'} {no : Int} (h : ∀ l ∈ fl, l.1 ≠ no) : cnt fl no = 0 := by
  unfold cnt
  rw [List.countP_eq_zero]
  intro l hl
  simpa using h l hl

/-- what holds of letters on their way, of what was sent, and of what is left -/
structure OnceI (m : Mail') (st : List (Int × List UInt8)) (lf : List (Int × Int)) : Prop where
  r : RightL m
  ok : ∀ l ∈ m.1, l.2.1 = irem (l.1 - 1) 32 ∧ l.2.2.1 = 31 - irem (l.1 - 1) 32 ∧ l.2.2.2.1 = mpval .str st l.1
  cn : ∀ no, @Eq Int (mpval (.int .i64) lf no) (cnt m.1 no : Int)
  nd : (lf.map (·.1)).Nodup
theorem no_bound {last : Int} {x : Let'} (h : badL last x = false) : 1 ≤ x.1 ∧ x.1 ≤ last := by
  unfold badL at h
  simp only [Bool.or_eq_false_iff, decide_eq_false_iff_not] at h
  omega
theorem once_r {m : Mail'} {st lf} (h : OnceI m st lf) : rightM m = true := rightM_iff.2 h.r
theorem once_mem {m : Mail'} {p : Nat} (hp : p < m.1.length) : m.1.getD p noL ∈ m.1 := by
  rw [List.getD_eq_getElem?_getD, List.getElem?_eq_getElem hp]
  exact List.getElem_mem hp

/- one of them is taken -/
theorem right_erase {m : Mail'} (h : RightL m) (p : Nat) : RightL (m.1.eraseIdx p, m.2) :=
  ⟨by have := List.length_eraseIdx_le m.1 p; have := h.len; show (m.1.eraseIdx p).length ≤ 64; omega, h.last0, h.last1, h.now0, h.now1, fun x hx => h.all x (List.mem_of_mem_eraseIdx hx)⟩
theorem once_erase {m : Mail'} {st lf} (h : OnceI m st lf) {p : Nat} (hp : p < m.1.length) :
    OnceI (m.1.eraseIdx p, m.2) st (mpset (.int .i64) lf (m.1.getD p noL).1 (iwrap IntKind.i64 (isub (mpval (.int .i64) lf (m.1.getD p noL).1) 1))) := by
  have hc := cnt_pos hp
  have hle := cnt_le m.1 (m.1.getD p noL).1
  have hl := h.r.len
  refine ⟨right_erase h.r p, fun l hl => h.ok l (List.mem_of_mem_eraseIdx hl), fun no => ?_, nodup_set (.int .i64) _ _ _ h.nd⟩
  rw [val_set, h.cn, h.cn]
  have he := cnt_erase m.1 p no hp
  have e : iwrap IntKind.i64 (isub ((cnt m.1 (m.1.getD p noL).1 : Nat) : Int) 1) = ((cnt m.1 (m.1.getD p noL).1 : Nat) : Int) - 1 := by
    unfold isub
    rw [iwrap_i64 (by omega) (by omega)]
  rw [e]
  simp only
  by_cases hn : no = (m.1.getD p noL).1
  · subst hn
    rw [if_pos rfl]
    rw [if_pos rfl] at he
    omega
  · rw [if_neg hn]
    rw [if_neg (Ne.symm hn)] at he
    omega
theorem once_twice {m : Mail'} {st lf} (h : OnceI m st lf) {p : Nat} (hp : p < m.1.length) (h64 : m.1.length ≠ 64) :
    OnceI (m.1 ++ [m.1.getD p noL], m.2) st (mpset (.int .i64) lf (m.1.getD p noL).1 (iwrap IntKind.i64 (iadd (mpval (.int .i64) lf (m.1.getD p noL).1) 1))) := by
  have hle := cnt_le m.1 (m.1.getD p noL).1
  have hl := h.r.len
  have hm := once_mem hp
  refine ⟨⟨by show (m.1 ++ [_]).length ≤ 64; rw [List.length_append]; simp; omega, h.r.last0, h.r.last1, h.r.now0, h.r.now1, fun x hx => ?_⟩, fun l hl => ?_, fun no => ?_, nodup_set (.int .i64) _ _ _ h.nd⟩
  · rcases List.mem_append.1 hx with hx | hx
    · exact h.r.all x hx
    · rw [List.mem_singleton.1 hx]; exact h.r.all _ hm
  · rcases List.mem_append.1 hl with hx | hx
    · exact h.ok l hx
    · rw [List.mem_singleton.1 hx]; exact h.ok _ hm
  rw [val_set, h.cn, h.cn]
  have e : iwrap IntKind.i64 (iadd ((cnt m.1 (m.1.getD p noL).1 : Nat) : Int) 1) = ((cnt m.1 (m.1.getD p noL).1 : Nat) : Int) + 1 := by
    unfold iadd
    rw [iwrap_i64 (by omega) (by omega)]
  rw [e]
  have ha := cnt_app m.1 (m.1.getD p noL) no
  simp only
  by_cases hn : no = (m.1.getD p noL).1
  · subst hn
    rw [if_pos rfl]
    rw [if_pos rfl] at ha
    omega
  · rw [if_neg hn]
    rw [if_neg (Ne.symm hn)] at ha
    omega
theorem once_last {m : Mail'} {st lf} (h : OnceI m st lf) {p : Nat} (hp : p < m.1.length) : OnceI (m.1.eraseIdx p ++ [m.1.getD p noL], m.2) st lf := by
  have hm := once_mem hp
  have hr := right_erase h.r p
  have hl := h.r.len
  have hel : (m.1.eraseIdx p).length = m.1.length - 1 := by rw [List.length_eraseIdx]; simp [hp]
  refine ⟨⟨by show (m.1.eraseIdx p ++ [_]).length ≤ 64; rw [List.length_append, hel]; simp; omega, hr.last0, hr.last1, hr.now0, hr.now1, fun x hx => ?_⟩, fun l hl => ?_, fun no => ?_, h.nd⟩
  · rcases List.mem_append.1 hx with hx | hx
    · exact hr.all x hx
    · rw [List.mem_singleton.1 hx]; exact h.r.all _ hm
  · rcases List.mem_append.1 hl with hx | hx
    · exact h.ok l (List.mem_of_mem_eraseIdx hx)
    · rw [List.mem_singleton.1 hx]; exact h.ok _ hm
  · rw [h.cn]
    have he := cnt_erase m.1 p no hp
    have ha := cnt_app (m.1.eraseIdx p) (m.1.getD p noL) no
    simp only
    omega
/-- one more is posted -/
theorem once_post {fl : List Let'} {i : Nat} {st lf} (h : OnceI (fl, (i : Int), 0, ()) st lf) (hi : i < 20) (hl : fl.length = i) (s : List UInt8) (hs : s.length ≤ 100) :
    OnceI (fl ++ [((i : Int) + 1, ((i % 32 : Nat) : Int), 31 - ((i % 32 : Nat) : Int), s, ())], (i : Int) + 1, 0, ()) (mpset .str st ((i : Int) + 1) s) (mpset (.int .i64) lf ((i : Int) + 1) 1) := by
  have hnew : ∀ l ∈ fl, l.1 ≠ (i : Int) + 1 := fun l hl => by have := (no_bound (h.r.all l hl)).2; simp only at this; omega
  have hb : badL ((i : Int) + 1) ((i : Int) + 1, ((i % 32 : Nat) : Int), 31 - ((i % 32 : Nat) : Int), s, ()) = false := by
    unfold badL addrB
    simp only [Bool.or_eq_false_iff, decide_eq_false_iff_not, Bool.not_eq_false', Bool.and_eq_true, decide_eq_true_iff]
    omega
  refine ⟨⟨by show (fl ++ [_]).length ≤ 64; rw [List.length_append]; simp; omega, by show 0 ≤ (i : Int) + 1; omega, by show (i : Int) + 1 ≤ 1099511627776; omega, by show (0 : Int) ≤ 0; omega, by show (0 : Int) ≤ 1099511627776; omega, fun x hx => ?_⟩, fun l hx => ?_, fun no => ?_, nodup_set (.int .i64) _ _ _ h.nd⟩
  · rcases List.mem_append.1 hx with hx | hx
    · exact badL_mono (by show (i : Int) ≤ (i : Int) + 1; omega) (h.r.all x hx)
    · rw [List.mem_singleton.1 hx]; exact hb
  · rcases List.mem_append.1 hx with hx | hx
    · obtain ⟨h1, h2, h3⟩ := h.ok l hx
      refine ⟨h1, h2, ?_⟩
      rw [val_set, if_neg (hnew l hx)]
      exact h3
    · rw [List.mem_singleton.1 hx]
      have e : irem ((i : Int) + 1 - 1) 32 = ((i % 32 : Nat) : Int) := by
        rw [show (i : Int) + 1 - 1 = (i : Int) by omega]
        unfold irem
        rw [show (32 : Int) = ((32 : Nat) : Int) from rfl, ← Int.ofNat_tmod]
      simp only [e, val_set, if_true]
      exact ⟨trivial, trivial, trivial⟩
  · rw [val_set, h.cn]
    have ha := cnt_app fl ((i : Int) + 1, ((i % 32 : Nat) : Int), 31 - ((i % 32 : Nat) : Int), s, ()) no
    simp only at ha ⊢
    by_cases hn : no = (i : Int) + 1
    · subst hn
      rw [if_pos rfl]
      rw [if_pos rfl, cnt_none hnew] at ha
      rw [ha]; rfl
    · rw [if_neg hn]
      rw [if_neg (Ne.symm hn)] at ha
      rw [ha]; rfl
end Am
end Go.Proofs.Ytkjpoongkdapoaa
