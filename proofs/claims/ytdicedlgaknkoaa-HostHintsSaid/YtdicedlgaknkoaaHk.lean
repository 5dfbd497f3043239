/-
  Hosts: what is kept; hints.
-/
import Derived.Test.YtdicedlgaknkoaaHr
namespace Go.Proofs.Ytdicedlgaknkoaa
namespace Am
open Go Go.RowKit
set_option linter.unusedVariables false
set_option maxRecDepth 10000

theorem hintsWithout_sub (l : List Hn) (id : Id) : (hintsWithout l id).Sublist l := by
  unfold hintsWithout
  split
  · exact List.eraseIdx_sublist ..
  · exact List.Sublist.refl _
theorem hintsWithout_none {l : List Hn} {id : Id} (hp : l.Pairwise (fun a b => a.1 ≠ b.1)) : ∀ x ∈ hintsWithout l id, x.1 ≠ id := by
  rw [← hintsWithout_filter l id hp]
  intro x hx
  simpa using (List.mem_filter.1 hx).2
theorem withoutH_right {h : Hs} (id : Id) (hr : RH h) : RH (withoutH h id) :=
  have hs := hintsWithout_sub h.2.2.2.1 id
  ⟨hr.w, hr.wl, hr.wa, hr.x.sublist hs, Nat.le_trans hs.length_le hr.xl, fun x hx => hr.xa x (hs.subset hx), hr.no, hr.gate, hr.il, hr.ia⟩
theorem learnH_right {h : Hs} (id : Id) {n now : Int} (hr : RH h) (hn : noOk n = true) (ht : timeOk now = true) : RH (learnH h id n now) := by
  have hs := hintsWithout_sub h.2.2.2.1 id
  have hno := hintsWithout_none (id := id) hr.x
  have hxl := hr.xl
  have hlen := hs.length_le
  unfold timeOk at ht
  simp only [Bool.and_eq_true, decide_eq_true_iff] at ht
  refine ⟨hr.w, hr.wl, hr.wa, ?_, ?_, ?_, hr.no, hr.gate, hr.il, hr.ia⟩
  · show ((hintsWithout h.2.2.2.1 id).drop _ ++ [(id, n, min (now + 1000) 1099511627776, ())]).Pairwise _
    rw [List.pairwise_append]
    refine ⟨(hr.x.sublist hs).sublist (List.drop_sublist _ _), List.pairwise_singleton _ _, fun a ha b hb => ?_⟩
    simp only [List.mem_singleton] at hb
    subst hb
    exact hno a (List.mem_of_mem_drop ha)
  · show ((hintsWithout h.2.2.2.1 id).drop _ ++ [(id, n, min (now + 1000) 1099511627776, ())]).length ≤ 8
    rw [List.length_append, List.length_drop]
    simp only [List.length_singleton]
    split <;> omega
  · intro x hx
    rcases List.mem_append.1 hx with hx | hx
    · exact hr.xa x (hs.subset (List.mem_of_mem_drop hx))
    · simp only [List.mem_singleton] at hx
      subst hx
      simp only [hintBad, hn, Bool.not_true, Bool.false_or, Bool.not_eq_false', timeOk, Bool.and_eq_true, decide_eq_true_iff]
      omega
theorem boxH_right {h : Hs} {s : List UInt8} (hr : RH h) (hl : h.2.2.2.2.1.length ≠ 32) (hs : s.length ≤ 64) : RH (boxH h s) := by
  have := hr.il
  refine ⟨hr.w, hr.wl, hr.wa, hr.x, hr.xl, hr.xa, hr.no, hr.gate, ?_, ?_⟩
  · show (h.2.2.2.2.1 ++ [s]).length ≤ 32
    simp; omega
  · intro x hx
    rcases List.mem_append.1 hx with hx | hx
    · exact hr.ia x hx
    · simp only [List.mem_singleton] at hx
      subst hx
      simp only [longS, decide_eq_false_iff_not]
      omega

/-- what is kept by a message that is taken -/
structure Kept (h : Hs) (frm : Int) (m : Wm) (t : Hs × List Sn × Int × Unit) : Prop where
  r : RH t.1
  no : t.1.1 = h.1
  gate : t.1.2.1 = h.2.1
  wants : t.1.2.2.1 = h.2.2.1
  one : t.2.1.length ≤ 1
  s : ∀ s ∈ t.2.1, s.1 = frm ∧ RightW s.2.1 ∧ s.2.1.1 = 4 ∧ m.1 = 3 ∧ s.2.1.2.2.2.2.2.1 = m.2.2.2.2.2.1 ∧ s.2.1.2.1 = m.2.1 ∧ s.2.1.2.2.1 = m.2.2.1 ∧ m.2.2.1 = itselfM h ∧ ∃ j : Nat, plc (isW m.2.1) h.2.2.1 = j
  box : m.1 = 1 → t.1.2.2.2.2.1 = h.2.2.2.2.1 ++ [m.2.2.2.2.2.2.1] ∧ m.2.2.2.1.getD 0 noE = itselfM h ∧ 1 ≤ m.2.2.2.1.length
  box0 : m.1 ≠ 1 → t.1.2.2.2.2.1 = h.2.2.2.2.1
theorem kept {h : Hs} {frm : Int} {m : Wm} {now : Int} (hr : RH h) (hm : RightW m) (ht : timeOk now = true) (he : (takesM h frm m now).2.2.1 = 0) : Kept h frm m (takesM h frm m now) := by
  unfold takesM at he ⊢
  by_cases k1 : m.1 = 1
  · rw [if_pos k1] at he ⊢
    by_cases e : m.2.2.2.1.getD 0 noE = itselfM h
    · rw [if_pos e] at he ⊢
      by_cases e2 : h.2.2.2.2.1.length = 32
      · rw [if_pos e2] at he; cases he
      · rw [if_neg e2]
        exact ⟨boxH_right hr e2 hm.data1, rfl, rfl, rfl, by simp, by simp, fun _ => ⟨rfl, e, rightS_pos (hm.stk (by rw [k1]; rfl))⟩, fun hk => absurd k1 hk⟩
    · rw [if_neg e] at he; cases he
  · rw [if_neg k1] at he ⊢
    by_cases k3 : m.1 = 3
    · rw [if_pos k3] at he ⊢
      by_cases e : m.2.2.1 = itselfM h
      · rw [if_pos e] at he ⊢
        cases hf : h.2.2.1.findIdx? (isW m.2.1) with
        | none => rw [hf] at he; cases he
        | some j =>
          obtain ⟨e1, hj⟩ := plc_some hf
          refine ⟨hr, rfl, rfl, rfl, by simp, fun s hs => ?_, fun hk => absurd hk k1, fun _ => rfl⟩
          simp only [List.mem_singleton] at hs
          subst hs
          have hw := hr.wa _ (mem_getD (d := noW) hj)
          unfold lifeBad at hw
          simp only [Bool.or_eq_false_iff, decide_eq_false_iff_not] at hw
          have h16 := hm.non (by rw [k3]; rfl)
          have hE := hm.tgt (by rw [k3]; rfl)
          refine ⟨rfl, ⟨by show (1 : Int) ≤ 4 ∧ (4 : Int) ≤ 10; omega, fun h => (by cases h), fun _ => hE, fun h => (by cases h), fun h => (by cases h), fun _ => rfl, fun h => (by cases h), ?_, ?_, fun _ => h16, fun h => (by cases h), fun _ => rfl, by simp [echoM]⟩, rfl, k3, rfl, rfl, rfl, e, j, e1⟩
          · show 0 ≤ (h.2.2.1.getD j noW).2.1; omega
          · show (h.2.2.1.getD j noW).2.1 ≤ 1099511627776; omega
      · rw [if_neg e] at he; cases he
    · rw [if_neg k3] at he ⊢
      by_cases k5 : m.1 = 5
      · rw [if_pos k5] at he ⊢
        cases hf : h.2.2.1.findIdx? (isW m.2.1) with
        | none => rw [hf] at he; cases he
        | some j => exact ⟨hr, rfl, rfl, rfl, by simp, by simp, fun hk => absurd hk k1, fun _ => rfl⟩
      · rw [if_neg k5] at he ⊢
        by_cases k8 : m.1 = 8
        · rw [if_pos k8] at he ⊢
          by_cases e : noOk m.2.2.2.2.1 = true
          · rw [if_pos e]
            exact ⟨learnH_right _ hr e ht, rfl, rfl, rfl, by simp, by simp, fun hk => absurd hk k1, fun _ => rfl⟩
          · rw [if_neg e] at he; cases he
        · rw [if_neg k8] at he ⊢
          by_cases k7 : m.1 = 7
          · rw [if_pos k7]
            exact ⟨withoutH_right _ hr, rfl, rfl, rfl, by simp, by simp, fun hk => absurd hk k1, fun _ => rfl⟩
          · rw [if_neg k7] at he; cases he
theorem handle_kept {h : Hs} {frm : Int} {m : Wm} {now : Int} (he : (handleM h frm m now).2.2.1 = 0) : RH h ∧ RightW m ∧ Kept h frm m (handleM h frm m now) := by
  unfold handleM at he ⊢
  by_cases hk : okHm h frm m now = true
  · rw [if_pos hk] at he ⊢
    unfold okHm at hk
    simp only [Bool.and_eq_true] at hk
    obtain ⟨h1, h2, _, _, h5⟩ := hk
    by_cases e : (takesM h frm m now).2.2.1 = 0
    · rw [if_pos e]
      exact ⟨rightH_iff.1 h1, wr_iff.1 h5, kept (rightH_iff.1 h1) (wr_iff.1 h5) h2 e⟩
    · rw [if_neg e] at he; exact absurd he e
  · rw [if_neg hk] at he; cases he
theorem handle_bad {h : Hs} {frm : Int} {m : Wm} {now : Int} (he : (handleM h frm m now).2.2.1 ≠ 0) : (handleM h frm m now).1 = zeroH ∧ (handleM h frm m now).2.1 = [] := by
  unfold handleM at he ⊢
  split
  · rename_i hk
    split
    · rename_i e
      rw [if_pos hk, if_pos e] at he
      exact absurd e he
    · exact ⟨rfl, rfl⟩
  · exact ⟨rfl, rfl⟩

theorem keeps_loop (h x : Hs) (frm : Int) (m : Wm) (l : List Sn) (hl : l.length ≤ 1) (hok : okL h) (hs : ∀ s ∈ l, s.1 = frm ∧ RightW s.2.1 ∧ s.2.1.1 = 4 ∧ m.1 = 3 ∧ s.2.1.2.2.2.2.2.1 = m.2.2.2.2.2.1 ∧ s.2.1.2.1 = m.2.1 ∧ s.2.1.2.2.1 = m.2.2.1 ∧ m.2.2.1 = itselfM h ∧ ∃ j : Nat, plc (isW m.2.1) h.2.2.1 = j) :
    whl rlaw17HostKeepsx8 ((frm, (), (), (), l, dlen l, 0, ()), h, m, x, ()) = some (.inl (((), (), (), ()), h, m, x, ())) := by
  refine whl_up (g := rlaw17HostKeepsx8) (fun k => ((frm, (), (), (), l, dlen l, (k : Int), ()), h, m, x, ())) _ l.length ?_ ?_ l.length 0 (by omega)
  · simp only [rlaw17HostKeepsx8, bifF (ilt_len' (xs := l) (Nat.le_refl _))]
  · intro k hk
    obtain ⟨h1, h2, h3, h4, h5, h6, h7, h8, j, h9⟩ := hs _ (mem_getD (d := noS) hk)
    have hst : (l.getD k noS).2.1.2.2.2.1 = [] := h2.stk0 (by rw [h3]; rfl)
    have hw := wireRight_eq (l.getD k noS).2.1 (by rw [hst]; simp)
    rw [wr_iff.2 h2] at hw
    have h10 : m.2.2.1.2.2.1 = h.1 := by rw [h8]; rfl
    have e1 : ilt (j : Int) 0 = false := ilt_f.2 (by omega)
    simp only [rlaw17HostKeepsx8, bifT (ilt_len hk), bifT ile_nat, snget, hw, isS_some, getS_some, h1, h3, h4, h5, h6, h7, h10, ref17Wanted_eq h _ hok.1, h9, e1, ieq_s, ideq_s, seq_s, cond_true, cond_false, isB_some, getB_some, inc_nat (show k < 4611686018427387904 by omega)]
theorem keeps17 (h : Hs) (frm : Int) (m : Wm) (now : Int) : olaw17HostKeeps ((h, frm, m, now, ()), ()) = some ((true, ()), ()) := by
  rw [olaw17HostKeeps_eq, blaw17HostKeeps]
  have hok := fewH_ok h
  have hml := cutM_len m
  simp only [few_eq, cut_eq, bS_some]
  generalize fewH h = h at *
  generalize cutM m = m at *
  simp only [hostHandle_eq h frm m now hok (by omega), bS_some, alive17, isS_some, getS_some]
  by_cases he : (handleM h frm m now).2.2.1 = 0
  · obtain ⟨hr, hmw, hk⟩ := handle_kept he
    generalize handleM h frm m now = t at *
    obtain ⟨k1, k2, k3, k4, k5, k6, k7, k8⟩ := hk
    have e1 : ilt 1 (dlen t.2.1) = false := ilt_f.2 (by rw [dlen_eq]; omega)
    simp only [he, ieq_s, cond_true, cond_false, hostRight_eq t.1 k1.ok, rightH_iff.2 k1, isS_some, getS_some, k2, k3, k4, e1, isB_some, getB_some, wlaw17HostKeepsx8_eq, keeps_loop h t.1 frm m t.2.1 k5 hok k6, bL_inl]
    by_cases hk1 : m.1 = 1
    · obtain ⟨i1, i2, i3⟩ := k7 hk1
      have hil := hr.il
      have e2 : iwrap IntKind.i64 (iadd (dlen h.2.2.2.2.1) 1) = dlen (h.2.2.2.2.1 ++ [m.2.2.2.2.2.2.1]) := by
        rw [dlen_eq, inc_nat (by omega), dlen_eq, List.length_append, List.length_singleton]
      have e3 : ile 0 (dlen h.2.2.2.2.1) = true := ile_t.2 (by rw [dlen_eq]; omega)
      have e4 : ilt (dlen h.2.2.2.2.1) (dlen (h.2.2.2.2.1 ++ [m.2.2.2.2.2.2.1])) = true := ilt_t.2 (by rw [dlen_eq, dlen_eq, List.length_append, List.length_singleton]; omega)
      have e5 : dget Ty.str (h.2.2.2.2.1 ++ [m.2.2.2.2.2.2.1]) (dlen h.2.2.2.2.1) = m.2.2.2.2.2.2.1 := by
        rw [dlen_eq, strget]
        simp
      have e6 : (itselfM h).1 = 2 := rfl
      have e7 : (itselfM h).2.2.1 = h.1 := rfl
      simp only [hk1, i1, e2, e3, e4, e5, ieq_s, seq_s, cond_true, in0 _ i3, ent0, i2, e6, e7, isB_some, getB_some]
    · have e1 : ieq m.1 1 = false := ieq_f.2 hk1
      simp only [e1, cond_false, k8 hk1, ieq_s]
  · obtain ⟨i1, i2⟩ := handle_bad he
    have e1 : ieq (handleM h frm m now).2.2.1 0 = false := ieq_f.2 he
    have e2 : oref17Like ((zeroH, (0, 0, [], [], [], ()), ()), ()) = some ((true, ()), ()) := likeH_self zeroH zeroH_ok
    have e3 : ieq (dlen ([] : List Sn)) 0 = true := rfl
    simp only [e1, cond_true, cond_false, i1, i2, e2, e3, isS_some, getS_some, isB_some, getB_some]

theorem rem_nat (x : Int) (k : Nat) (h0 : 0 < k) (h1 : k ≤ 100000) : ∃ m : Nat, m < k ∧ irem (iwrap IntKind.i64 (iadd (irem x (k : Int)) (k : Int))) (k : Int) = (m : Int) := by
  have ha := Int.tmod_lt_of_pos x (show (0 : Int) < k by omega)
  have hb := Int.lt_tmod_of_pos x (show (0 : Int) < k by omega)
  have e1 : iwrap IntKind.i64 (iadd (irem x (k : Int)) (k : Int)) = Int.tmod x k + k := by
    show iwrap IntKind.i64 (Int.tmod x k + k) = _
    rw [iwrap_i64] <;> omega
  rw [e1]
  obtain ⟨n, hn⟩ : ∃ n : Nat, Int.tmod x k + k = n := ⟨(Int.tmod x k + k).toNat, by omega⟩
  rw [hn]
  exact ⟨n % k, Nat.mod_lt _ h0, irem_nat n k⟩
def cacheM (id : Id) (n : Int) : Wm := (8, id, (0, Id.zero, 0, ()), [], n, [], [], ())
def pushM (id : Id) : Wm := (7, id, (0, Id.zero, 0, ()), [], 0, [], [], ())
theorem cacheM_right (id : Id) (n : Int) (h : 0 ≤ n ∧ n < 16) : RightW (cacheM id n) :=
  ⟨by show (1 : Int) ≤ 8 ∧ (8 : Int) ≤ 10; omega, fun h => (by cases h), fun h => (by cases h), fun _ => rfl, fun h => (by cases h), fun _ => rfl, fun h => (by cases h), h.1, by show n ≤ 1099511627776; omega, fun h => (by cases h), fun _ => rfl, fun _ => rfl, by simp [cacheM]⟩
theorem pushM_right (id : Id) : RightW (pushM id) :=
  ⟨by show (1 : Int) ≤ 7 ∧ (7 : Int) ≤ 10; omega, fun h => (by cases h), fun h => (by cases h), fun _ => rfl, fun h => (by cases h), fun _ => rfl, fun _ => rfl, by show (0 : Int) ≤ 0; omega, by show (0 : Int) ≤ 1099511627776; omega, fun h => (by cases h), fun _ => rfl, fun _ => rfl, by simp [pushM]⟩
theorem handle_cache {h : Hs} (hr : RH h) (id : Id) (n now : Nat) (hn : n < 16) (ht : now < 1000) : handleM h 1 (cacheM id n) now = (learnH h id n now, [], 0, ()) := by
  have hno : noOk (n : Int) = true := by unfold noOk; simp only [Bool.and_eq_true, decide_eq_true_iff]; omega
  have hti : timeOk (now : Int) = true := by unfold timeOk; simp only [Bool.and_eq_true, decide_eq_true_iff]; omega
  have ht : takesM h 1 (cacheM id n) now = (learnH h id n now, [], 0, ()) := by
    unfold takesM
    rw [if_neg (by simp [cacheM]), if_neg (by simp [cacheM]), if_neg (by simp [cacheM]), if_pos (by simp [cacheM]), if_pos (by exact hno)]
    rfl
  unfold handleM okHm
  rw [rightH_iff.2 hr, hti, wr_iff.2 (cacheM_right id n (by omega)), ht]
  rfl
theorem handle_push {h : Hs} (hr : RH h) (id : Id) (now : Nat) (ht : now < 1000) : handleM h 1 (pushM id) now = (withoutH h id, [], 0, ()) := by
  have hti : timeOk (now : Int) = true := by unfold timeOk; simp only [Bool.and_eq_true, decide_eq_true_iff]; omega
  have ht : takesM h 1 (pushM id) now = (withoutH h id, [], 0, ()) := by
    unfold takesM
    rw [if_neg (by simp [pushM]), if_neg (by simp [pushM]), if_neg (by simp [pushM]), if_neg (by simp [pushM]), if_pos (by simp [pushM])]
    rfl
  unfold handleM okHm
  rw [rightH_iff.2 hr, hti, wr_iff.2 (pushM_right id), ht]
  rfl
theorem findIdx_last {l : List Hn} {id : Id} {x : Hn} (hl : ∀ y ∈ l, y.1 ≠ id) (hx : x.1 = id) : (l ++ [x]).findIdx? (isH id) = some l.length := by
  rw [List.findIdx?_eq_some_iff_getElem]
  refine ⟨by simp, by simp [isH, hx], fun j hj => ?_⟩
  rw [List.getElem_append_left hj]
  simpa [isH] using hl _ (List.getElem_mem hj)
theorem turns_learn {h : Hs} (hr : RH h) (id : Id) (n now later : Nat) (ht : now < 1000) (hla : later < 3000) : turnsM (learnH h id n now) id ((now + later : Nat) : Int) = if later < 1000 then (n : Int) else h.2.1 := by
  have hno := hintsWithout_none (id := id) hr.x
  unfold turnsM
  have e : (learnH h id n now).2.2.2.1 = (hintsWithout h.2.2.2.1 id).drop (if (hintsWithout h.2.2.2.1 id).length < 8 then 0 else 1) ++ [(id, (n : Int), min ((now : Int) + 1000) 1099511627776, ())] := rfl
  rw [e, findIdx_last (fun y hy => hno y (List.mem_of_mem_drop hy)) rfl]
  simp only
  generalize (hintsWithout h.2.2.2.1 id).drop (if (hintsWithout h.2.2.2.1 id).length < 8 then 0 else 1) = l
  have eg : (l ++ [(id, (n : Int), min ((now : Int) + 1000) 1099511627776, ())]).getD l.length noH = (id, (n : Int), min ((now : Int) + 1000) 1099511627776, ()) := by simp
  rw [eg]
  have eg2 : (learnH h id n now).2.1 = h.2.1 := rfl
  rw [eg2]
  by_cases hc : later < 1000
  · rw [if_pos hc, if_pos (by show _ < min ((now : Int) + 1000) 1099511627776; omega)]
  · rw [if_neg hc, if_neg (by show ¬ _ < min ((now : Int) + 1000) 1099511627776; omega)]
theorem turns_without {h : Hs} (hr : RH h) (id : Id) (now : Int) : turnsM (withoutH h id) id now = h.2.1 := by
  have hno := hintsWithout_none (id := id) hr.x
  unfold turnsM
  have e : (withoutH h id).2.2.2.1.findIdx? (isH id) = none := by
    rw [List.findIdx?_eq_none_iff]
    intro x hx
    simpa [isH] using hno x hx
  rw [e]
  rfl
theorem hints17 (h : Hs) (id : Id) (x2 x3 x4 : Int) : olaw17HostHints ((h, id, x2, x3, x4, ()), ()) = some ((true, ()), ()) := by
  rw [olaw17HostHints_eq, blaw17HostHints]
  have hok := fewH_ok h
  simp only [few_eq, bS_some]
  generalize fewH h = h at *
  have z1 : ieq 16 0 = false := rfl
  have z2 : ieq 1000 0 = false := rfl
  have z3 : ieq 3000 0 = false := rfl
  obtain ⟨n, hn, en⟩ := rem_nat x2 16 (by omega) (by omega)
  obtain ⟨now, hnow, enow⟩ := rem_nat x3 1000 (by omega) (by omega)
  obtain ⟨la, hla, ela⟩ := rem_nat x4 3000 (by omega) (by omega)
  have en : irem (iwrap IntKind.i64 (iadd (irem x2 16) 16)) 16 = (n : Int) := en
  have enow : irem (iwrap IntKind.i64 (iadd (irem x3 1000) 1000)) 1000 = (now : Int) := enow
  have ela : irem (iwrap IntKind.i64 (iadd (irem x4 3000) 3000)) 3000 = (la : Int) := ela
  have h1 := hostHandle_eq h 1 (cacheM id n) now hok (by simp [cacheM])
  have h1 : ohostHandle ((h, 1, (8, id, (0, Id.zero, 0, ()), [], (n : Int), [], [], ()), (now : Int), ()), ()) = some (handleM h 1 (cacheM id n) now, ()) := h1
  simp only [z1, z2, z3, cond_true, cond_false, en, enow, ela, h1, bS_some, alive17, isS_some, getS_some, hostRight_eq h hok]
  cases hr : rightH h with
  | false =>
    have e : handleM h 1 (cacheM id n) now = (zeroH, [], 1, ()) := by
      unfold handleM okHm
      rw [hr]
      rfl
    rw [e]
    rfl
  | true =>
    have r := rightH_iff.1 hr
    have hno : noOk (n : Int) = true := by unfold noOk; simp only [Bool.and_eq_true, decide_eq_true_iff]; omega
    have hti : timeOk (now : Int) = true := by unfold timeOk; simp only [Bool.and_eq_true, decide_eq_true_iff]; omega
    have htl : timeOk ((now + la : Nat) : Int) = true := by unfold timeOk; simp only [Bool.and_eq_true, decide_eq_true_iff]; omega
    have rl := learnH_right id r hno hti
    have rw' := withoutH_right id rl
    have e1 := handle_cache r id n now hn hnow
    have e2 := handle_push rl id now hnow
    have h2 : ohostHandle ((learnH h id n now, 1, (7, id, (0, Id.zero, 0, ()), [], 0, [], [], ()), (now : Int), ()), ()) = some (handleM (learnH h id n now) 1 (pushM id) now, ()) := hostHandle_eq _ 1 (pushM id) now rl.ok (by simp [pushM])
    rw [e2] at h2
    have ew : iwrap IntKind.i64 (iadd (now : Int) (la : Int)) = ((now + la : Nat) : Int) := by unfold iadd; rw [iwrap_i64 (by omega) (by omega)]; omega
    have hs : rightS [((1 : Int), id, (0 : Int), ())] = true := rfl
    have s1 := hostSend_eq (learnH h id n now) [((1 : Int), id, (0 : Int), ())] [120] ((now + la : Nat) : Int) rl.ok (by simp)
    rw [if_pos ⟨rightH_iff.2 rl, htl⟩, if_pos hs, if_neg (by simp)] at s1
    have s2 := hostSend_eq (withoutH (learnH h id n now) id) [((1 : Int), id, (0 : Int), ())] [120] (now : Int) rw'.ok (by simp)
    rw [if_pos ⟨rightH_iff.2 rw', hti⟩, if_pos hs, if_neg (by simp)] at s2
    have t1 : (sendM (learnH h id n now) [((1 : Int), id, (0 : Int), ())] [120] ((now + la : Nat) : Int)).1 = if la < 1000 then (n : Int) else h.2.1 := turns_learn r id n now la hnow hla
    have t2 : (sendM (withoutH (learnH h id n now) id) [((1 : Int), id, (0 : Int), ())] [120] (now : Int)).1 = h.2.1 := turns_without rl id now
    simp only [e1, ieq_s, cond_true, cond_false, ew, s1, s2, h2, bS_some, t1, t2, isB_some, getB_some]
    by_cases hc : la < 1000
    · have c1 : ilt (la : Int) 1000 = true := ilt_t.2 (by omega)
      simp only [hc, if_true, c1, cond_true, ieq_s, isB_some, getB_some]
    · have c1 : ilt (la : Int) 1000 = false := ilt_f.2 (by omega)
      simp only [hc, if_false, c1, cond_true, cond_false, ieq_s, isB_some, getB_some]

end Am
end Go.Proofs.Ytdicedlgaknkoaa
