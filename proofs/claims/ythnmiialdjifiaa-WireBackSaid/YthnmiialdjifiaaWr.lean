/-
  Wire: which messages may be, by the program and by the document.
-/
import Derived.Test.YthnmiialdjifiaaEn
namespace Go.Proofs.Ythnmiialdjifiaa
namespace Am
open Go Go.RowKit
set_option linter.unusedSimpArgs false
set_option linter.unusedVariables false
set_option maxRecDepth 10000

theorem isB_cond (c : Bool) (a b : Option Bool) : isB (bif c then a else b) = bif c then isB a else isB b := by cases c <;> rfl
theorem getB_cond (c : Bool) (a b : Option Bool) : getB (bif c then a else b) = bif c then getB a else getB b := by cases c <;> rfl
theorem isB_some (b : Bool) : isB (some b) = true := rfl
theorem getB_some (b : Bool) : getB (some b) = b := rfl
theorem isB_none : isB none = false := rfl
theorem cond_same {α : Type} (c : Bool) (a : α) : (bif c then a else a) = a := by cases c <;> rfl
theorem bifImp {c d : Bool} : (bif c then d else true) = (!c || d) := by cases c <;> rfl
theorem stepF {c b : Bool} {X : Option ((Bool × Unit) × Unit)} (h : X = some ((b, ()), ())) : (bif c then some ((false, ()), ()) else X) = some ((!c && b, ()), ()) := by
  cases c
  · exact h
  · rfl

abbrev Wm := Int × (Id × (Ent × (List Ent × (Int × (List UInt8 × (List UInt8 × Unit))))))
abbrev flT : Ty := Ty.bool.pair (Ty.bool.pair (Ty.bool.pair (Ty.bool.pair (Ty.bool.pair (Ty.bool.pair Ty.unit)))))
abbrev Fl := Bool × (Bool × (Bool × (Bool × (Bool × (Bool × Unit)))))
def tabK : List (Int × Fl) := [(1, (false, false, true, true, false, true, ())), (2, (true, true, false, true, false, false, ())), (3, (true, true, false, false, true, false, ())), (4, (true, true, false, true, true, false, ())), (5, (true, true, false, false, false, false, ())), (6, (true, true, false, false, true, false, ())), (7, (true, false, false, false, false, false, ())), (8, (true, false, false, true, false, false, ())), (9, (true, false, false, true, false, false, ())), (10, (true, false, false, true, false, false, ()))]
theorem kinds_eq : owireKinds ((), ()) = some (((), ()), tabK, ()) := by
  rw [owireKinds_eq]
  rfl
def noF : Fl := (false, false, false, false, false, false, ())
/-- the fields of a kind -/
def fl (k : Int) : Fl := if k = 1 then (false, false, true, true, false, true, ()) else if k = 2 then (true, true, false, true, false, false, ()) else if k = 3 then (true, true, false, false, true, false, ()) else if k = 4 then (true, true, false, true, true, false, ()) else if k = 5 then (true, true, false, false, false, false, ())
  else if k = 6 then (true, true, false, false, true, false, ()) else if k = 7 then (true, false, false, false, false, false, ()) else if k = 8 then (true, false, false, true, false, false, ()) else if k = 9 then (true, false, false, true, false, false, ()) else if k = 10 then (true, false, false, true, false, false, ()) else noF
def isK (k : Int) : Bool := decide (1 ≤ k) && decide (k ≤ 10)
theorem kind_cases (k : Int) : k = 1 ∨ k = 2 ∨ k = 3 ∨ k = 4 ∨ k = 5 ∨ k = 6 ∨ k = 7 ∨ k = 8 ∨ k = 9 ∨ k = 10 ∨ (isK k = false ∧ (k < 1 ∨ 10 < k)) := by
  by_cases h : 1 ≤ k ∧ k ≤ 10
  · omega
  · right; right; right; right; right; right; right; right; right; right
    refine ⟨?_, by omega⟩
    unfold isK
    simp only [Bool.and_eq_false_iff, decide_eq_false_iff_not]
    omega
theorem fl_not {k : Int} (h : k < 1 ∨ 10 < k) : fl k = noF := by
  unfold fl
  iterate 10 rw [if_neg (by omega)]
theorem tab_has (k : Int) : mphas flT tabK k = isK k := by
  rcases kind_cases k with rfl | rfl | rfl | rfl | rfl | rfl | rfl | rfl | rfl | rfl | ⟨h, hk⟩ <;> try rfl
  rw [h]
  unfold mphas tabK
  simp only [List.any_cons, List.any_nil, Bool.or_false, Bool.or_eq_false_iff, decide_eq_false_iff_not]
  omega
theorem tab_val (k : Int) : mpval flT tabK k = fl k := by
  rcases kind_cases k with rfl | rfl | rfl | rfl | rfl | rfl | rfl | rfl | rfl | rfl | ⟨h, hk⟩ <;> try rfl
  rw [fl_not hk]
  have hf : (tabK.find? fun p => decide (p.1 = k)) = none := by
    rw [List.find?_eq_none]
    intro x hx
    unfold tabK at hx
    simp only [List.mem_cons, List.not_mem_nil, or_false] at hx
    simp only [decide_eq_true_iff]
    rcases hx with rfl | rfl | rfl | rfl | rfl | rfl | rfl | rfl | rfl | rfl <;> simp only <;> omega
  have e : mpval flT tabK k = ((tabK.find? fun p => decide (p.1 = k)).map (·.2)).getD noF := rfl
  rw [e, hf]
  rfl
theorem tab_has' (k : Int) : mphas (Ty.bool.pair (Ty.bool.pair (Ty.bool.pair (Ty.bool.pair (Ty.bool.pair (Ty.bool.pair Ty.unit)))))) tabK k = isK k := tab_has k
theorem tab_val' (k : Int) : mpval (Ty.bool.pair (Ty.bool.pair (Ty.bool.pair (Ty.bool.pair (Ty.bool.pair (Ty.bool.pair Ty.unit)))))) tabK k = fl k := tab_val k

/-- what is asked of a message -/
structure RightW (m : Wm) : Prop where
  kind : 1 ≤ m.1 ∧ m.1 ≤ 10
  id : (fl m.1).1 = false → m.2.1 = Id.zero
  tgt : (fl m.1).2.1 = true → isE m.2.2.1 = true
  tgt0 : (fl m.1).2.1 = false → m.2.2.1 = noE
  stk : (fl m.1).2.2.1 = true → rightS m.2.2.2.1 = true
  stk0 : (fl m.1).2.2.1 = false → m.2.2.2.1 = []
  n : (fl m.1).2.2.2.1 = false → m.2.2.2.2.1 = 0
  n0 : 0 ≤ m.2.2.2.2.1
  n1 : m.2.2.2.2.1 ≤ 1099511627776
  non : (fl m.1).2.2.2.2.1 = true → m.2.2.2.2.2.1.length = 16
  non0 : (fl m.1).2.2.2.2.1 = false → m.2.2.2.2.2.1 = []
  data : (fl m.1).2.2.2.2.2.1 = false → m.2.2.2.2.2.2.1 = []
  data1 : m.2.2.2.2.2.2.1.length ≤ 64
noncomputable def wr (m : Wm) : Bool := open Classical in decide (RightW m)
theorem wr_iff {m : Wm} : wr m = true ↔ RightW m := by unfold wr; simp
theorem isE_ne {e : Ent} (h : isE e = true) : (decide (e.1 = 0) && (decide (e.2.1 = Id.zero) && decide (e.2.2.1 = 0))) = false := by
  unfold isE at h
  simp only [Bool.or_eq_true, Bool.and_eq_true, decide_eq_true_iff] at h
  rw [Bool.and_eq_false_iff]
  left
  rw [decide_eq_false_iff_not]
  omega
theorem noE_iff (e : Ent) : (decide (e.1 = 0) && (decide (e.2.1 = Id.zero) && decide (e.2.2.1 = 0))) = true ↔ e = noE := by
  obtain ⟨a, b, c, ⟨⟩⟩ := e
  simp only [Bool.and_eq_true, decide_eq_true_iff, noE, Prod.mk.injEq, and_true]
theorem rightS_pos {l : List Ent} (h : rightS l = true) : 0 < l.length := by
  unfold rightS at h
  simp only [Bool.and_eq_true, decide_eq_true_iff] at h
  omega
theorem len0 {α : Type} (l : List α) : decide (0 < dlen l) = decide (0 < l.length) := by rw [dlen_eq]; congr 1; rw [eq_iff_iff]; omega
theorem len64' {α : Type} (l : List α) : ile (dlen l) 64 = decide (l.length ≤ 64) := by rw [ile_eq, dlen_eq]; congr 1; rw [eq_iff_iff]; omega
theorem len64b {α : Type} (l : List α) : decide (64 < dlen l) = decide (64 < l.length) := by rw [dlen_eq]; congr 1; rw [eq_iff_iff]; omega
theorem len16 {α : Type} (l : List α) : decide (dlen l = 16) = decide (l.length = 16) := by rw [dlen_eq]; congr 1; rw [eq_iff_iff]; omega
theorem nil_len {α : Type} (l : List α) : l = [] ↔ ¬ 0 < l.length := by cases l <;> simp

theorem wireRight_eq (m : Wm) (hl : m.2.2.2.1.length ≤ 4611686018427387903) : owireRight ((m, ()), ()) = some ((wr m, ()), ()) := by
  rw [owireRight_eq, bwireRight]
  simp only [kinds_eq, bS_some, tab_has', tab_val', stackIs_eq, stackRight_eq _ hl, isS_some, getS_some, isB_cond, getB_cond, isB_some, getB_some, cond_same, cond_true, bifNot, bifAnd, bifOr, bifImp, len0, len64', len16, ieq_d, ideq_d, seq_d, ilt_eq, beq_d, Bool.not_not, Bool.or_false, Bool.and_true]
  refine (stepF (stepF (stepF (stepF (stepF (stepF (stepF (stepF (stepF (stepF (stepF rfl))))))))))).trans ?_
  congr 1; congr 1; congr 1
  rw [Bool.eq_iff_iff, wr_iff]
  have hE := noE_iff m.2.2.1
  have hE2 := @isE_ne m.2.2.1
  have hS := @rightS_pos m.2.2.2.1
  have hnl := nil_len m.2.2.2.1
  generalize hz : (decide (m.2.2.1.1 = 0) && (decide (m.2.2.1.2.1 = Id.zero) && decide (m.2.2.1.2.2.1 = 0))) = z at *
  constructor
  · intro h
    simp only [Bool.and_eq_true, Bool.not_eq_true', Bool.or_eq_true, Bool.and_eq_false_iff, Bool.not_eq_false', decide_eq_true_iff, decide_eq_false_iff_not] at h
    obtain ⟨h1, h2, h3, h4, h5, h6, h7, h8, h9, h10, h11, h12⟩ := h
    unfold isK at h1
    simp only [Bool.and_eq_true, decide_eq_true_iff] at h1
    refine ⟨h1, fun e => ?_, fun e => ?_, fun e => ?_, fun e => ?_, fun e => ?_, fun e => ?_, by omega, by omega, fun e => ?_, fun e => ?_, fun e => ?_, ?_⟩
    · simpa [e] using h2
    · simpa [e] using h4
    · apply hE.1; simpa [e] using h3
    · simpa [e] using h6
    · apply hnl.2; simpa [e] using h5
    · simpa [e] using h7
    · simpa [e] using h10
    · simpa [e] using h11
    · simpa [e] using h12
    · rcases h12 with h | h
      · rw [h]; simp
      · exact h.2
  · intro h
    simp only [Bool.and_eq_true, Bool.not_eq_true', Bool.or_eq_true, Bool.and_eq_false_iff, Bool.not_eq_false', decide_eq_true_iff, decide_eq_false_iff_not]
    obtain ⟨h1, h2, h3, h4, h5, h6, h7, h8, h9, h10, h11, h12, h13⟩ := h
    refine ⟨by unfold isK; simp only [Bool.and_eq_true, decide_eq_true_iff]; exact h1, ?_, ?_, ?_, ?_, ?_, ?_, by omega, by omega, ?_, ?_, ?_⟩
    · cases e : (fl m.1).1 with
      | true => simp
      | false => simp [h2 e]
    · cases e : (fl m.1).2.1 with
      | true => simp [hE2 (h3 e)]
      | false => simp [hE.2 (h4 e)]
    · cases e : (fl m.1).2.1 with
      | true => simp [h3 e]
      | false => simp
    · cases e : (fl m.1).2.2.1 with
      | true => simpa using hS (h5 e)
      | false => simp [h6 e]
    · cases e : (fl m.1).2.2.1 with
      | true => simp [h5 e]
      | false => simp
    · cases e : (fl m.1).2.2.2.1 with
      | true => simp
      | false => simp [h7 e]
    · cases e : (fl m.1).2.2.2.2.1 with
      | true => simp [h10 e]
      | false => simp
    · cases e : (fl m.1).2.2.2.2.1 with
      | true => simp
      | false => simp [h11 e]
    · cases e : (fl m.1).2.2.2.2.2.1 with
      | true => simp [h13]
      | false => simp [h12 e]

theorem hasLp (c : UInt8) (s : List UInt8) (hl : s.length ≤ 4611686018427387903) : whl rref05Hasx5 ((c, s, 0, ()), ()) = some (if s.any (fun x => u8eq x c) = true then .inl ((true, ()), ()) else .inr (.inl ((), ()))) := by
  have h := whl_goI (g := rref05Hasx5) (fun i (_ : Unit) => ((c, s, (i : Int), ()), ())) (fun i (_ : Unit) => if (fun x => u8eq x c) (s.getD i 0) = true then .inr (.inl ((true, ()), ())) else .inl ()) (fun _ => .inr (.inl ((), ()))) s.length
    (fun _ => by simp only [rref05Hasx5, bifF (ilt_len' (xs := s) (Nat.le_refl _))])
    (fun i _ hi => by
      have hg : sget s (i : Int) = s.getD i 0 := by simp [sget]
      simp only [rref05Hasx5, bifT (ilt_len hi), bifT ile_nat, hg, inc_nat (show i < 4611686018427387904 by omega)]
      generalize s.getD i 0 = v
      by_cases hb : u8eq v c = true <;> simp [hb]) s.length 0 () (by omega)
  have h2 := goI_any (fun i => u8eq (s.getD i 0) c) (Sum.inl ((true, ()), ()) : ((Bool × Unit) × Unit) ⊕ ((Unit × Unit) ⊕ Empty)) (.inr (.inl ((), ()))) s.length 0
  have h := h.trans (congrArg some h2)
  rw [show ((0 : Int) = ((0 : Nat) : Int)) from rfl, h]
  have e : anyN (fun i => u8eq (s.getD i 0) c) s.length 0 = s.any (fun x => u8eq x c) := by
    rw [Bool.eq_iff_iff, anyN_iff, List.any_eq_true]
    constructor
    · rintro ⟨j, _, hj, h⟩
      exact ⟨s.getD j 0, by have : j < s.length := by omega
                            simp [this], h⟩
    · rintro ⟨x, hx, h⟩
      obtain ⟨j, hj, rfl⟩ := List.getElem_of_mem hx
      exact ⟨j, by omega, by omega, by simpa [hj] using h⟩
  rw [e]
theorem has_in (k : Int) (c : UInt8) (s : List UInt8) (h1 : 1 ≤ k ∧ k ≤ 10) (hs : dget Ty.str [[], [115, 110, 100], [105, 116, 110], [105, 116, 111], [105, 116, 110, 111], [105, 116], [105, 116, 111], [105], [105, 110], [105, 110], [105, 110]] k = s) (hl : s.length ≤ 10) : oref05Has ((k, c, ()), ()) = some ((s.any (fun x => u8eq x c), ()), ()) := by
  rw [oref05Has_eq, bref05Has]
  have e1 : ilt k 1 = false := ilt_f.2 h1.1
  have e2 : ilt 10 k = false := ilt_f.2 h1.2
  have e3 : ile 0 k = true := ile_t.2 (by omega)
  have e4 : ilt k ((11 : Int)) = true := ilt_t.2 (by omega)
  simp only [e1, e2, e3, e4, cond_true, cond_false, wref05Hasx5_eq, hs]
  rw [hasLp c s (by omega)]
  cases s.any (fun x => u8eq x c) <;> rfl
theorem has_out (k : Int) (c : UInt8) (h1 : k < 1 ∨ 10 < k) : oref05Has ((k, c, ()), ()) = some ((false, ()), ()) := by
  rw [oref05Has_eq, bref05Has]
  rcases h1 with h | h
  · simp only [ilt_t.2 h, cond_true, cond_false]
  · simp only [ilt_t.2 h, ilt_f.2 (show (1 : Int) ≤ k by omega), cond_true, cond_false]
theorem has_any (k : Int) : ∃ s : List UInt8, (∀ c, oref05Has ((k, c, ()), ()) = some ((s.any (fun x => u8eq x c), ()), ())) ∧ s.any (fun x => u8eq x 105) = (fl k).1 ∧ s.any (fun x => u8eq x 116) = (fl k).2.1 ∧ s.any (fun x => u8eq x 115) = (fl k).2.2.1 ∧ s.any (fun x => u8eq x 110) = (fl k).2.2.2.1 ∧ s.any (fun x => u8eq x 111) = (fl k).2.2.2.2.1 ∧ s.any (fun x => u8eq x 100) = (fl k).2.2.2.2.2.1 := by
  rcases kind_cases k with rfl | rfl | rfl | rfl | rfl | rfl | rfl | rfl | rfl | rfl | ⟨h, hk⟩
  · exact ⟨[115, 110, 100], fun c => has_in 1 c _ (by decide) rfl (by decide), by decide⟩
  · exact ⟨[105, 116, 110], fun c => has_in 2 c _ (by decide) rfl (by decide), by decide⟩
  · exact ⟨[105, 116, 111], fun c => has_in 3 c _ (by decide) rfl (by decide), by decide⟩
  · exact ⟨[105, 116, 110, 111], fun c => has_in 4 c _ (by decide) rfl (by decide), by decide⟩
  · exact ⟨[105, 116], fun c => has_in 5 c _ (by decide) rfl (by decide), by decide⟩
  · exact ⟨[105, 116, 111], fun c => has_in 6 c _ (by decide) rfl (by decide), by decide⟩
  · exact ⟨[105], fun c => has_in 7 c _ (by decide) rfl (by decide), by decide⟩
  · exact ⟨[105, 110], fun c => has_in 8 c _ (by decide) rfl (by decide), by decide⟩
  · exact ⟨[105, 110], fun c => has_in 9 c _ (by decide) rfl (by decide), by decide⟩
  · exact ⟨[105, 110], fun c => has_in 10 c _ (by decide) rfl (by decide), by decide⟩
  · refine ⟨[], fun c => has_out k c hk, ?_⟩
    rw [fl_not hk]
    decide
theorem hasI (k : Int) : oref05Has ((k, 105, ()), ()) = some (((fl k).1, ()), ()) := by obtain ⟨s, h, h1, h2, h3, h4, h5, h6⟩ := has_any k; rw [h, h1]
theorem hasT (k : Int) : oref05Has ((k, 116, ()), ()) = some (((fl k).2.1, ()), ()) := by obtain ⟨s, h, h1, h2, h3, h4, h5, h6⟩ := has_any k; rw [h, h2]
theorem hasS (k : Int) : oref05Has ((k, 115, ()), ()) = some (((fl k).2.2.1, ()), ()) := by obtain ⟨s, h, h1, h2, h3, h4, h5, h6⟩ := has_any k; rw [h, h3]
theorem hasN (k : Int) : oref05Has ((k, 110, ()), ()) = some (((fl k).2.2.2.1, ()), ()) := by obtain ⟨s, h, h1, h2, h3, h4, h5, h6⟩ := has_any k; rw [h, h4]
theorem hasO (k : Int) : oref05Has ((k, 111, ()), ()) = some (((fl k).2.2.2.2.1, ()), ()) := by obtain ⟨s, h, h1, h2, h3, h4, h5, h6⟩ := has_any k; rw [h, h5]
theorem hasD (k : Int) : oref05Has ((k, 100, ()), ()) = some (((fl k).2.2.2.2.2.1, ()), ()) := by obtain ⟨s, h, h1, h2, h3, h4, h5, h6⟩ := has_any k; rw [h, h6]
theorem iu8s : iu8 105 = 105 ∧ iu8 116 = 116 ∧ iu8 115 = 115 ∧ iu8 110 = 110 ∧ iu8 111 = 111 ∧ iu8 100 = 100 := ⟨rfl, rfl, rfl, rfl, rfl, rfl⟩
theorem cond_fin (c a b : Bool) : (bif c then some ((a, ()), ()) else some ((b, ()), ()) : Option ((Bool × Unit) × Unit)) = some ((bif c then a else b, ()), ()) := by cases c <;> rfl

theorem bifNor {c d : Bool} : (bif c then false else d) = (!c && d) := by cases c <;> rfl
theorem bifDup {a b x : Bool} : (bif a then (b || x) else x) = ((a && b) || x) := by cases a <;> cases b <;> cases x <;> rfl
theorem ref05Right_eq (m : Wm) (hl : m.2.2.2.1.length ≤ 4611686018427387903) : oref05Right ((m, ()), ()) = some ((wr m, ()), ()) := by
  rw [oref05Right_eq, bref05Right]
  obtain ⟨i1, i2, i3, i4, i5, i6⟩ := iu8s
  simp only [i1, i2, i3, i4, i5, i6, hasI, hasT, hasS, hasN, hasO, hasD, bS_some, ref04Is_eq, ref04Right_eq _ hl, isS_some, getS_some, isB_cond, getB_cond, isB_some, getB_some, cond_same, cond_true, bifNot, bifAnd, bifOr, bifImp, len0, len64b, len16, ieq_d, ideq_d, seq_d, ilt_eq, beq_d, Bool.not_not, Bool.or_false, Bool.and_true, cond_fin, bifNor, bifDup]
  congr 1; congr 1; congr 1
  rw [Bool.eq_iff_iff, wr_iff]
  have hE := noE_iff m.2.2.1
  have hE2 := @isE_ne m.2.2.1
  have hS := @rightS_pos m.2.2.2.1
  have hnl := nil_len m.2.2.2.1
  generalize hz : (decide (m.2.2.1.1 = 0) && (decide (m.2.2.1.2.1 = Id.zero) && decide (m.2.2.1.2.2.1 = 0))) = z at *
  generalize hf : fl m.1 = f at *
  obtain ⟨f1, f2, f3, f4, f5, f6, ⟨⟩⟩ := f
  constructor
  · intro h
    simp only [Bool.and_eq_true, Bool.not_eq_true', Bool.or_eq_true, Bool.or_eq_false_iff, Bool.and_eq_false_iff, Bool.not_eq_false', decide_eq_true_iff, decide_eq_false_iff_not] at h
    obtain ⟨⟨h1, h2, h3, h4, h5⟩, ⟨h6, h7, h8⟩, ⟨h9, h10⟩, ⟨h11, h12⟩, h13⟩ := h
    refine ⟨by omega, ?_, ?_, ?_, ?_, ?_, ?_, by omega, by omega, ?_, ?_, ?_, by omega⟩ <;> rw [hf] <;> intro e <;> simp only at e <;> subst e
    · simpa using h6
    · simpa using h11
    · apply hE.1; simpa using h7
    · simpa using h12
    · apply hnl.2; simpa using h8
    · simpa using h9
    · simpa using h13
    · simpa using h13
    · simpa using h10
  · intro h
    simp only [Bool.and_eq_true, Bool.not_eq_true', Bool.or_eq_true, Bool.or_eq_false_iff, Bool.and_eq_false_iff, Bool.not_eq_false', decide_eq_true_iff, decide_eq_false_iff_not]
    obtain ⟨h1, h2, h3, h4, h5, h6, h7, h8, h9, h10, h11, h12, h13⟩ := h
    rw [hf] at h2 h3 h4 h5 h6 h7 h10 h11 h12
    refine ⟨⟨by omega, by omega, by omega, by omega, by omega⟩, ⟨?_, ?_, ?_⟩, ⟨?_, ?_⟩, ⟨?_, ?_⟩, ?_⟩
    · cases f1 with
      | true => simp
      | false => simp [h2 rfl]
    · cases f2 with
      | true => simp
      | false => simp [hE.2 (h4 rfl)]
    · cases f3 with
      | true => simp
      | false => simp [h6 rfl]
    · cases f4 with
      | true => simp
      | false => simp [h7 rfl]
    · cases f6 with
      | true => simp
      | false => simp [h12 rfl]
    · cases f2 with
      | true => simp [h3 rfl]
      | false => simp
    · cases f3 with
      | true => simp [h5 rfl]
      | false => simp
    · cases f5 with
      | true => simp [h10 rfl]
      | false => simp [h11 rfl]

end Am
end Go.Proofs.Ythnmiialdjifiaa
