/-
  Hosts: what a message makes of one, by the program and by the document.
-/
import Derived.Test.YtdicedlgaknkoaaHa
import Derived.Test.YtdicedlgaknkoaaWr
namespace Go.Proofs.Ytdicedlgaknkoaa
namespace Am
open Go Go.RowKit
set_option linter.unusedSimpArgs false
set_option linter.unusedVariables false
set_option maxRecDepth 10000

theorem badH_false {l : List Hn} {i : Nat} (hi : i < l.length) : badH l i = false ↔ ∀ j, j < i → (l.getD j noH).1 ≠ (l.getD i noH).1 := by
  unfold badH
  rw [Bool.not_eq_false', decide_eq_true_iff]
  unfold plc
  constructor
  · intro h j hj e
    cases hf : l.findIdx? (isH (l.getD i noH).1) with
    | none => rw [hf] at h; simp only at h; omega
    | some k =>
      rw [hf] at h
      simp only at h
      have hk : k = i := by omega
      subst hk
      obtain ⟨h1, h2, h3⟩ := List.findIdx?_eq_some_iff_getElem.1 hf
      have := h3 j hj
      have hjl : j < l.length := by omega
      have e2 : l.getD j noH = l[j] := by simp [hjl]
      rw [e2] at e
      simp only [isH, Bool.not_eq_true', decide_eq_false_iff_not] at this
      exact absurd e (by simpa using this)
  · intro h
    have hf : l.findIdx? (isH (l.getD i noH).1) = some i := by
      rw [List.findIdx?_eq_some_iff_getElem]
      refine ⟨hi, by simp [isH, hi], fun j hj => ?_⟩
      have := h j hj
      have hjl : j < l.length := by omega
      have e2 : l.getD j noH = l[j] := by simp [hjl]
      rw [e2] at this
      simp only [isH, Bool.not_eq_true', decide_eq_false_iff_not]
      simpa using this
    rw [hf]
theorem apartH_iff {l : List Hn} : anyN (badH l) l.length 0 = false ↔ l.Pairwise (fun a b => a.1 ≠ b.1) := by
  rw [List.pairwise_iff_getElem]
  constructor
  · intro h i j hi hj hij
    have := (badH_false hj).1 (anyN_false h (j := j) (by omega) (by omega)) i hij
    simpa [hi, hj] using this
  · intro h
    cases hc : anyN (badH l) l.length 0 with
    | false => rfl
    | true =>
      obtain ⟨j, _, hj, hb⟩ := anyN_iff.1 hc
      have hj : j < l.length := by omega
      have : badH l j = false := (badH_false hj).2 (fun i hi => by
        have hil : i < l.length := by omega
        have := h i j hil hj hi
        simpa [hil, hj] using this)
      rw [this] at hb; cases hb
/-- what rightH says -/
structure RH (h : Hs) : Prop where
  w : h.2.2.1.Pairwise (fun a b => a.1 ≠ b.1)
  wl : h.2.2.1.length ≤ 8
  wa : ∀ x ∈ h.2.2.1, lifeBad x = false
  x : h.2.2.2.1.Pairwise (fun a b => a.1 ≠ b.1)
  xl : h.2.2.2.1.length ≤ 8
  xa : ∀ x ∈ h.2.2.2.1, hintBad x = false
  no : noOk h.1 = true
  gate : noOk h.2.1 = true
  il : h.2.2.2.2.1.length ≤ 32
  ia : ∀ x ∈ h.2.2.2.2.1, longS x = false
theorem rightH_iff {h : Hs} : rightH h = true ↔ RH h := by
  unfold rightH
  simp only [Bool.and_eq_true, Bool.not_eq_true', decide_eq_true_iff, apart_iff, apartH_iff, List.any_eq_false]
  constructor
  · rintro ⟨⟨h1, h2⟩, h3, ⟨h4, h5⟩, h6, h7, h8, h9, h10⟩
    exact ⟨h1, h2, fun x hx => by simpa using h3 x hx, h4, h5, fun x hx => by simpa using h6 x hx, h7, h8, h9, fun x hx => by simpa using h10 x hx⟩
  · rintro ⟨h1, h2, h3, h4, h5, h6, h7, h8, h9, h10⟩
    exact ⟨⟨h1, h2⟩, fun x hx => by simp [h3 x hx], ⟨h4, h5⟩, fun x hx => by simp [h6 x hx], h7, h8, h9, fun x hx => by simp [h10 x hx]⟩
theorem RH.ok {h : Hs} (r : RH h) : okL h := ⟨by have := r.wl; omega, by have := r.xl; omega, by have := r.il; omega⟩

theorem fitsN {α : Type} (xs : List α) (b n : Nat) (h0 : xs.length ≤ n) (h : (n + 1) * b ≤ 140737488355328) (h2 : n + 1 ≤ 4611686018427387903) : fits (dlen xs) (1 : Int) b = true :=
  fits1 xs b (Nat.le_trans (Nat.mul_le_mul_right b (by omega)) h) (by omega)
theorem eqE' (e f : Ent) : (bif decide (e.fst = f.fst) then bif ideq e.snd.fst f.snd.fst then bif decide (e.snd.snd.fst = f.snd.snd.fst) then true else false else false else false) = decide (e = f) := eqE e f
/- hints -/
def hintsWithout (l : List Hn) (id : Id) : List Hn := match l.findIdx? (isH id) with | some j => l.eraseIdx j | none => l
def withHints (h : Hs) (l : List Hn) : Hs := (h.1, h.2.1, h.2.2.1, l, h.2.2.2.2)
def withoutH (h : Hs) (id : Id) : Hs := withHints h (hintsWithout h.2.2.2.1 id)
theorem delH_eq (l : List Hn) (j : Nat) (hj : j < l.length) (hl : l.length ≤ 1000) :
    oslicesDeleteb (((0, (l.length : Int)), (j : Int), ((j + 1 : Nat) : Int), ()), (l, ())) = some (((0, (l.length : Int) - (((j + 1 : Nat) : Int) - (j : Int))), ()), (dDel (.pair .id (.pair (.int .i64) (.pair (.int .i64) .unit))) l (j : Int) ((j + 1 : Nat) : Int), ())) := by
  show oDel _ _ = _
  unfold oDel
  simp only
  rw [if_pos ⟨trivial, trivial, by omega, by omega, by omega⟩]
theorem delH_sub (l : List Hn) (j : Nat) (hj : j < l.length) : dsub (dDel (.pair .id (.pair (.int .i64) (.pair (.int .i64) .unit))) l (j : Int) ((j + 1 : Nat) : Int)) 0 ((l.length : Int) - (((j + 1 : Nat) : Int) - (j : Int))) = l.eraseIdx j := by
  rw [show (l.length : Int) - (((j + 1 : Nat) : Int) - (j : Int)) = ((l.length - 1 : Nat) : Int) by omega, dsub_take]
  unfold dDel
  rw [Int.toNat_natCast, Int.toNat_natCast, List.eraseIdx_eq_take_drop_succ]
  have hl : (l.take j ++ l.drop (j + 1)).length = l.length - 1 := by rw [List.length_append, List.length_take, List.length_drop]; omega
  rw [← hl]
  exact List.take_left
theorem hostWithout_eq (h : Hs) (id : Id) (hl : okL h) : ohostWithout ((h, id, ()), ()) = some ((withoutH h id, ()), ()) := by
  rw [ohostWithout_eq, bhostWithout]
  simp only [bS_some, hostHints_eq h hl.2.1]
  rw [atH_eq _ _ (by rw [List.length_map]; exact hl.2.1), plcH]
  simp only [bS_some]
  unfold withoutH hintsWithout
  cases hf : h.2.2.2.1.findIdx? (isH id) with
  | none => rw [plc_none hf]; rfl
  | some j =>
    obtain ⟨e, hj⟩ := plc_some hf
    have hl1 := hl.2.1
    have hc : oslicesCloneb ((h.2.2.2.1, ()), ()) = some (((0, (h.2.2.2.1.length : Int)), ()), (h.2.2.2.1, ())) := by
      show oClone _ _ = _
      unfold oClone
      rw [if_pos (show List.length _ ≤ 1073741824 from Nat.le_trans hl1 (by omega))]
    rw [e, ile_nat, inc_nat (show j < 4611686018427387904 by omega)]
    simp only [cond_true, hc, bS_some, delH_eq _ j hj hl1]
    rw [delH_sub _ j hj]
    rfl
theorem hintsWithout_len (l : List Hn) (id : Id) : (hintsWithout l id).length ≤ l.length := by
  unfold hintsWithout
  split
  · exact List.length_eraseIdx_le ..
  · exact Nat.le_refl _
theorem hintsWithout_filter (l : List Hn) (id : Id) (hp : l.Pairwise (fun a b => a.1 ≠ b.1)) : l.filter (fun x => !decide (x.1 = id)) = hintsWithout l id := by
  unfold hintsWithout
  induction l with
  | nil => rfl
  | cons x l ih =>
    obtain ⟨h1, h2⟩ := List.pairwise_cons.1 hp
    have ih := ih h2
    rw [List.findIdx?_cons]
    by_cases e : x.1 = id
    · have hx : isH id x = true := by simp [isH, e]
      rw [hx]
      have hn : l.filter (fun x => !decide (x.1 = id)) = l := List.filter_eq_self.2 fun y hy => by
        have := h1 y hy
        rw [e] at this
        simpa using fun h => this h.symm
      rw [List.filter_cons_of_neg (by simp [e]), hn]
      rfl
    · have hx : isH id x = false := by simp [isH, e]
      rw [hx, List.filter_cons_of_pos (by simp [e]), ih]
      cases l.findIdx? (isH id) with
      | none => rfl
      | some j => rfl
theorem forget_loop (h : Hs) (id : Id) (hl : h.2.2.2.1.length ≤ 1000) (a b : Int) :
    whl rref17Forgetx3 (((), (), (), [], h.2.2.2.1, dlen h.2.2.2.1, 0, ()), h, id, (a, b, (), (), (), ()), (), ()) = some (.inl (((), (), h.2.2.2.1.filter (fun x => !decide (x.1 = id)), ()), h, (a, b, (), (), (), ()), (), ())) := by
  have hw := whl_up (g := rref17Forgetx3) (fun k => (((), (), (), (h.2.2.2.1.take k).filter (fun x => !decide (x.1 = id)), h.2.2.2.1, dlen h.2.2.2.1, (k : Int), ()), h, id, (a, b, (), (), (), ()), (), ())) (.inl (((), (), h.2.2.2.1.filter (fun x => !decide (x.1 = id)), ()), h, (a, b, (), (), (), ()), (), ())) h.2.2.2.1.length
    (by simp only [rref17Forgetx3, bifF (ilt_len' (xs := h.2.2.2.1) (Nat.le_refl _)), List.take_length])
    (fun k hk => by
      have hf : ∀ p : Hn → Bool, ((h.2.2.2.1.take k).filter p).length ≤ 1000 := fun p => by
        have := List.length_filter_le p (h.2.2.2.1.take k)
        rw [List.length_take] at this
        omega
      simp only [rref17Forgetx3, bifT (ilt_len hk), bifT ile_nat, hget, inc_nat (show k < 4611686018427387904 by omega), ideq_d]
      rw [fitsN _ 48 1000 (hf _) (by decide) (by decide), take_getD (d := noH) hk, List.filter_append]
      generalize h.2.2.2.1.getD k noH = x
      by_cases e : x.1 = id
      · simp [e]
      · simp [e, dapp1]) h.2.2.2.1.length 0 (by omega)
  exact hw
theorem ref17Forget_eq (h : Hs) (id : Id) (hl : okL h) (hp : h.2.2.2.1.Pairwise (fun a b => a.1 ≠ b.1)) : oref17Forget ((h, id, ()), ()) = some ((withoutH h id, ()), ()) := by
  rw [oref17Forget_eq, bref17Forget]
  simp only [wref17Forgetx3_eq]
  rw [forget_loop h id hl.2.1, hintsWithout_filter _ _ hp]
  rfl
/-- a hint more, at most eight -/
def learnH (h : Hs) (id : Id) (n now : Int) : Hs :=
  withHints h ((hintsWithout h.2.2.2.1 id).drop (if (hintsWithout h.2.2.2.1 id).length < 8 then 0 else 1) ++ [(id, n, min (now + 1000) 1099511627776, ())])
theorem clipH_eq (l : List Hn) : oslicesClipc ((l, ()), ()) = some ((l, ()), (), ()) := by
  rw [oslicesClipc_eq, bslicesClipc]
  simp only [ieq_s, cond_true]
theorem clipS_eq (l : List (List UInt8)) : oslicesClipb ((l, ()), ()) = some ((l, ()), (), ()) := by
  rw [oslicesClipb_eq, bslicesClipb]
  simp only [ieq_s, cond_true]
def echoM (h : Hs) (frm : Int) (m : Wm) (j : Nat) : Sn := (frm, (4, m.2.1, m.2.2.1, [], (h.2.2.1.getD j noW).2.1, m.2.2.2.2.2.1, [], ()), noT, ())
def boxH (h : Hs) (s : List UInt8) : Hs := (h.1, h.2.1, h.2.2.1, h.2.2.2.1, h.2.2.2.2.1 ++ [s], ())
def takesM (h : Hs) (frm : Int) (m : Wm) (now : Int) : Hs × List Sn × Int × Unit :=
  if m.1 = 1 then (if m.2.2.2.1.getD 0 noE = itselfM h then (if h.2.2.2.2.1.length = 32 then (h, [], 8, ()) else (boxH h m.2.2.2.2.2.2.1, [], 0, ())) else (h, [], 1, ()))
  else if m.1 = 3 then (if m.2.2.1 = itselfM h then (match h.2.2.1.findIdx? (isW m.2.1) with | some j => (h, [echoM h frm m j], 0, ()) | none => (h, [], 6, ())) else (h, [], 1, ()))
  else if m.1 = 5 then (match h.2.2.1.findIdx? (isW m.2.1) with | some _ => (h, [], 0, ()) | none => (h, [], 6, ()))
  else if m.1 = 8 then (if noOk m.2.2.2.2.1 = true then (learnH h m.2.1 m.2.2.2.2.1 now, [], 0, ()) else (h, [], 1, ()))
  else if m.1 = 7 then (withoutH h m.2.1, [], 0, ())
  else (h, [], 1, ())
def askedM (h : Hs) (frm : Int) (m : Wm) : List Sn × Int × Unit := if m.2.2.1 = itselfM h then (match h.2.2.1.findIdx? (isW m.2.1) with | some j => ([echoM h frm m j], 0, ()) | none => ([], 6, ())) else ([], 1, ())
theorem hostAsked_eq (h : Hs) (frm : Int) (m : Wm) (hl : okL h) : ohostAsked ((h, frm, m, ()), ()) = some (askedM h frm m, ()) := by
  rw [ohostAsked_eq, bhostAsked]
  unfold askedM
  simp only [hostItself_eq, bS_some, eqE, hostWants_eq h hl.1]
  rw [atW_eq _ _ (by rw [List.length_map]; exact hl.1), plcW]
  simp only [bS_some]
  by_cases e : m.2.2.1 = itselfM h
  · have hd : decide (m.2.2.1 = itselfM h) = true := decide_eq_true e
    rw [if_pos e]
    simp only [hd, cond_true, cond_false]
    cases hf : h.2.2.1.findIdx? (isW m.2.1) with
    | none => rw [plc_none hf]; rfl
    | some j =>
      obtain ⟨e1, hj⟩ := plc_some hf
      rw [e1, ilt_f.2 (show (0 : Int) ≤ (j : Int) by omega), ile_nat, ilt_len hj, wget]
      rfl
  · have hd : decide (m.2.2.1 = itselfM h) = false := decide_eq_false e
    rw [if_neg e]
    simp only [hd, cond_true, cond_false]
theorem hostTakes_eq (h : Hs) (frm : Int) (m : Wm) (now : Int) (hr : RH h) (hm : RightW m) (hn : timeOk now = true) : ohostTakes ((h, frm, m, now, ()), ()) = some (takesM h frm m now, ()) := by
  have hl := hr.ok
  have hl1 := hl.1
  rw [ohostTakes_eq, bhostTakes]
  unfold takesM
  simp only [hostItself_eq, bS_some, ieq_d]
  by_cases k1 : m.1 = 1
  · have hs : 1 ≤ m.2.2.2.1.length := rightS_pos (hm.stk (by rw [k1]; rfl))
    simp only [k1, decide_true, cond_true, if_true, in0 _ hs, ent0, eqE']
    by_cases e : m.2.2.2.1.getD 0 noE = itselfM h
    · have hd : decide (m.2.2.2.1.getD 0 noE = itselfM h) = true := decide_eq_true e
      rw [if_pos e]
      have e32 : decide (dlen h.2.2.2.2.1 = 32) = decide (h.2.2.2.2.1.length = 32) := by rw [dlen_eq]; congr 1; rw [eq_iff_iff]; omega
      simp only [hd, cond_true, cond_false, e32]
      by_cases e2 : h.2.2.2.2.1.length = 32
      · simp only [e2, decide_true, cond_true, if_true]
      · have hil := hr.il
        rw [show h.2.2.2.2 = (h.2.2.2.2.1, ()) from rfl, clipS_eq]
        simp only [e2, decide_false, cond_false, if_false, bS_some]
        rw [fits1 _ 16 (by omega) (by omega)]
        rfl
    · have hd : decide (m.2.2.2.1.getD 0 noE = itselfM h) = false := decide_eq_false e
      rw [if_neg e]
      simp only [hd, cond_true, cond_false]
  · by_cases k3 : m.1 = 3
    · simp only [k1, k3, decide_true, decide_false, cond_true, cond_false, if_true, if_false, hostAsked_eq h frm m hl, bS_some, show ¬ ((3 : Int) = 1) by decide, askedM]
      split
      · cases h.2.2.1.findIdx? (isW m.2.1) <;> rfl
      · rfl
    · by_cases k5 : m.1 = 5
      · simp only [k1, k3, k5, decide_true, decide_false, cond_true, cond_false, if_true, if_false, hostWants_eq h hl.1, bS_some, show ¬ ((5 : Int) = 1) by decide, show ¬ ((5 : Int) = 3) by decide]
        rw [atW_eq _ _ (by rw [List.length_map]; exact hl.1), plcW]
        simp only [bS_some]
        cases hf : h.2.2.1.findIdx? (isW m.2.1) with
        | none => rw [plc_none hf]; rfl
        | some j =>
          obtain ⟨e1, hj⟩ := plc_some hf
          rw [e1, ilt_f.2 (show (0 : Int) ≤ (j : Int) by omega)]
          rfl
      · by_cases k8 : m.1 = 8
        · simp only [k1, k3, k5, k8, decide_true, decide_false, cond_true, cond_false, if_true, if_false, number_eq, bS_some, show ¬ ((8 : Int) = 1) by decide, show ¬ ((8 : Int) = 3) by decide, show ¬ ((8 : Int) = 5) by decide]
          cases hno : noOk m.2.2.2.2.1 with
          | false => rfl
          | true =>
            have hxl := hr.xl
            have hlen := hintsWithout_len h.2.2.2.1 m.2.1
            simp only [cond_true, cond_false, if_true, hostWithout_eq h _ hl, bS_some]
            have ew : (withoutH h m.2.1).snd.snd.snd.fst = hintsWithout h.2.2.2.1 m.2.1 := rfl
            simp only [ew]
            unfold learnH
            generalize hintsWithout h.2.2.2.1 m.2.1 = l at *
            obtain ⟨d, hd, hdd⟩ : ∃ d : Nat, imax (iwrap IntKind.i64 (iadd (iwrap IntKind.i64 (isub (dlen l) 8)) 1)) 0 = (d : Int) ∧ d = (if l.length < 8 then 0 else 1) := by
              refine ⟨_, ?_, rfl⟩
              rw [dlen_eq]
              unfold isub iadd
              rw [iwrap_i64 (x := (l.length : Int) - 8) (by omega) (by omega), iwrap_i64 (by omega) (by omega), imax_eq]
              split <;> split <;> omega
            have hdl : d ≤ l.length := by rw [hdd]; split <;> omega
            rw [hd]
            have e1 : ile (d : Int) (dlen l) = true := ile_t.2 (by rw [dlen_eq]; omega)
            have e2 : ile (dlen l) (dlen l) = true := ile_t.2 (Int.le_refl _)
            have e3 : dsub l (d : Int) (dlen l) = l.drop d := by
              rw [dlen_eq, dsub_eq, List.take_of_length_le]
              rw [List.length_drop]; omega
            have hdr : (l.drop d).length ≤ 8 := by rw [List.length_drop]; omega
            have et : imin (iwrap IntKind.i64 (iadd now 1000)) 1099511627776 = min (now + 1000) 1099511627776 := by
              unfold timeOk at hn
              simp only [Bool.and_eq_true, decide_eq_true_iff] at hn
              unfold iadd
              rw [iwrap_i64 (by omega) (by omega), imin_eq]
              split <;> omega
            simp only [ile_nat, e1, e2, e3, cond_true, clipH_eq, bS_some, et]
            rw [fits1 _ 48 (by omega) (by omega), hdd]
            rfl
        · by_cases k7 : m.1 = 7
          · simp only [k1, k3, k5, k7, k8, decide_true, decide_false, cond_true, cond_false, if_true, if_false, hostWithout_eq h _ hl, bS_some, show ¬ ((7 : Int) = 1) by decide, show ¬ ((7 : Int) = 3) by decide, show ¬ ((7 : Int) = 5) by decide, show ¬ ((7 : Int) = 8) by decide]
          · simp only [k1, k3, k5, k7, k8, decide_false, cond_false, if_false]
noncomputable def okHm (h : Hs) (frm : Int) (m : Wm) (now : Int) : Bool := rightH h && (timeOk now && (decide (0 ≤ frm) && (decide (frm < 32) && wr m)))
noncomputable def handleM (h : Hs) (frm : Int) (m : Wm) (now : Int) : Hs × List Sn × Int × Unit :=
  if okHm h frm m now = true then (if (takesM h frm m now).2.2.1 = 0 then takesM h frm m now else (zeroH, [], (takesM h frm m now).2.2)) else (zeroH, [], 1, ())
theorem hostHandle_eq (h : Hs) (frm : Int) (m : Wm) (now : Int) (hl : okL h) (hm : m.2.2.2.1.length ≤ 1000) : ohostHandle ((h, frm, m, now, ()), ()) = some (handleM h frm m now, ()) := by
  rw [ohostHandle_eq, bhostHandle]
  simp only [hostRight_eq h hl, time_eq, bS_some, wireRight_eq m (Nat.le_trans hm (by omega)), ilt_eq, ile_eq]
  unfold handleM okHm
  cases h1 : rightH h with
  | false => rfl
  | true =>
    cases h2 : timeOk now with
    | false => rfl
    | true =>
      by_cases h3 : frm < 0
      · simp only [h3, decide_true, cond_true, cond_false, show ¬ (0 ≤ frm) by omega, decide_false, Bool.false_and, Bool.and_false, Bool.false_eq_true, if_false]
        rfl
      · by_cases h4 : 32 ≤ frm
        · simp only [h3, h4, decide_true, decide_false, cond_true, cond_false, show ¬ (frm < 32) by omega, Bool.false_and, Bool.and_false, Bool.false_eq_true, if_false]
          rfl
        · cases h5 : wr m with
          | false =>
            simp only [h3, h4, decide_false, cond_true, cond_false, Bool.and_false, Bool.false_eq_true, if_false]
            rfl
          | true =>
            simp only [h3, h4, decide_false, cond_true, cond_false, show (0 : Int) ≤ frm by omega, show frm < 32 by omega, decide_true, Bool.and_self, if_true, hostTakes_eq h frm m now (rightH_iff.1 h1) (wr_iff.1 h5) h2, bS_some, ieq_d]
            by_cases h6 : (takesM h frm m now).2.2.1 = 0
            · simp only [h6, decide_true, cond_true, cond_false, if_true]
              rw [← h6]
            · simp only [h6, decide_false, cond_true, cond_false, if_false]
              rfl

end Am
end Go.Proofs.Ytdicedlgaknkoaa
