/-
  Wire: what the document reads a text as.
-/
import Derived.Test.YthnmiialdjifiaaWx
namespace Go.Proofs.Ythnmiialdjifiaa
namespace Am
open Go Go.RowKit
set_option linter.unusedVariables false
set_option linter.unusedSimpArgs false
set_option maxRecDepth 10000

/-- six bytes' number, the highest first -/
def numD (r : List UInt8) : Nat → Int
  | 0 => 0
  | c + 1 => iwrap IntKind.i64 (iadd (iwrap IntKind.i64 (imul 256 (numD r c))) (iwrap IntKind.i64 (u8i (r.getD (5 - c) 0))))
abbrev zW : Int × Id × Ent × Unit × Int × List UInt8 × List UInt8 × Unit := (0, Id.zero, (0, Id.zero, 0, ()), (), 0, [], [], ())
theorem numLoop (r : List UInt8) (hr : 8 ≤ r.length) (k : Int) (i : Id) (t : Ent) (l : List Ent) (x y : List UInt8) :
    wref05Parsex15 (((), (), r, 5, ()), zW, (k, i, t, l, 0, x, y, ()), ()) = some (.inl (((), (), r, ()), zW, (k, i, t, l, numD r 6, x, y, ()), ())) := by
  rw [wref05Parsex15_eq]
  have h := whl_up (g := rref05Parsex15) (fun c => (((), (), r, ((5 : Int) - (c : Int)), ()), zW, (k, i, t, l, numD r c, x, y, ()), ())) (.inl (((), (), r, ()), zW, (k, i, t, l, numD r 6, x, y, ()), ())) 6
    (by
      have c0 : ile 0 ((5 : Int) - ((6 : Nat) : Int)) = false := rfl
      simp only [rref05Parsex15, c0, cond_false])
    (fun c hc => by
      have e : (5 : Int) - (c : Int) = ((5 - c : Nat) : Int) := by omega
      have c1 : ilt ((5 - c : Nat) : Int) (dlen r) = true := ilt_t.2 (by rw [dlen_eq]; omega)
      have es : sget r ((5 - c : Nat) : Int) = r.getD (5 - c) 0 := by unfold sget; rw [Int.toNat_natCast]
      have ei : iwrap IntKind.i64 (isub ((5 - c : Nat) : Int) 1) = (5 : Int) - ((c + 1 : Nat) : Int) := by
        unfold isub
        rw [iwrap_i64 (by omega) (by omega)]; omega
      simp only [e, rref05Parsex15, ile_nat, c1, es, cond_true, ei]
      rfl) 6 0 (by omega)
  exact h

def needF (f : Fl) : Nat := (if f.2.2.2.1 = true then 8 else 0) + (if f.2.2.2.2.1 = true then 16 else 0)
def finM (f : Fl) (m : Wm) (r : List UInt8) : Wm :=
  (m.1, m.2.1, m.2.2.1, m.2.2.2.1, (if f.2.2.2.1 = true then numD r 6 else 0),
    (if f.2.2.2.2.1 = true then (if f.2.2.2.1 = true then r.drop 8 else r) else []), (if f.2.2.2.2.1 = true then [] else (if f.2.2.2.1 = true then r.drop 8 else r)), ())
open Classical in
noncomputable def refM (s : List UInt8) : Option Wm := match hd s with
  | none => none
  | some x => if x.2.length < needF (fl x.1.1) ∨ (needF (fl x.1.1) < x.2.length ∧ (fl x.1.1).2.2.2.2.2.1 = false) then none
    else if (fl x.1.1).2.2.2.1 = true ∧ ¬ (x.2.getD 7 0 = 0 ∧ x.2.getD 6 0 = 0) then none
    else if wr (finM (fl x.1.1) x.1 x.2) = true then some (finM (fl x.1.1) x.1 x.2) else none
def refR (o : Option Wm) : Option ((Wm × Bool × Unit) × Unit) := some ((match o with
  | some m => (m, true, ())
  | none => ((0, Id.zero, noE, [], 0, [], [], ()), false, ())), ())
theorem hd_shape {s : List UInt8} {x : Wm × List UInt8} (h : hd s = some x) : x.1.2.2.2.2 = (0, [], [], ()) ∧ x.2.length ≤ s.length ∧ x.1.2.2.2.1.length ≤ 4 := by
  have hS : ∀ (f : Fl) (r : List UInt8) (k : Int) (i : Id) (y : Wm × List UInt8), hdS f r k i = some y → y.1.2.2.2.2 = (0, [], [], ()) ∧ y.2.length ≤ r.length ∧ y.1.2.2.2.1.length ≤ 4 := by
    intro f r k i y hy
    have h4 := readS_len r
    unfold hdS at hy
    split at hy
    · split at hy
      · cases hy; exact ⟨rfl, by simp [List.length_drop], by simp⟩
      · cases hy
    · split at hy
      · split at hy
        · cases hy; exact ⟨rfl, by simp [List.length_drop], h4⟩
        · cases hy
      · cases hy; exact ⟨rfl, Nat.le_refl _, by simp⟩
  cases s with
  | nil => cases h
  | cons b t =>
    simp only [hd] at h
    split at h
    · cases h
    · split at h
      · split at h
        · cases h
        · obtain ⟨h1, h2, h3⟩ := hS _ _ _ _ _ h
          rw [List.length_drop] at h2
          exact ⟨h1, by simp; omega, h3⟩
      · obtain ⟨h1, h2, h3⟩ := hS _ _ _ _ _ h
        exact ⟨h1, by simp; omega, h3⟩
theorem u8pos (x : UInt8) : ilt (u8i (iu8 0)) (u8i x) = decide (x ≠ 0) := by
  have e : u8i (iu8 0) = 0 := rfl
  rw [e, ilt_eq, u8i_eq]
  congr 1
  rw [eq_iff_iff]
  constructor
  · rintro h rfl
    simp at h
  · intro h
    have : x.toNat ≠ 0 := fun h2 => h (UInt8.toNat_inj.1 h2)
    omega
theorem ref05Parse_eq (s : List UInt8) (hs : s.length ≤ 1000) : oref05Parse ((s, ()), ()) = refR (refM s) := by
  rw [oref05Parse_eq, bref05Parse]
  obtain ⟨i1, i2, i3, i4, i5, i6⟩ := iu8s
  simp only [ref05Head_eq s hs, hdR, bS_some, i4, i5, i6, hasN, hasO, hasD]
  unfold refM
  cases hh : hd s with
  | none =>
    have h0 : fl 0 = noF := fl_not (.inl (by omega))
    simp only [h0, noF, cond_true, cond_false, refR]
    rfl
  | some x =>
    obtain ⟨⟨k, i, t, l, n, non, data, ⟨⟩⟩, r⟩ := x
    obtain ⟨h1, h2, h3⟩ := hd_shape hh
    simp only at h1 h2 h3
    cases h1
    simp only [needF, finM]
    generalize hf : fl k = f
    obtain ⟨f1, f2, f3, f4, f5, f6, ⟨⟩⟩ := f
    have w24 : iwrap IntKind.i64 (iadd 8 16) = 24 := rfl
    have c7 : ∀ {j : Nat}, j < r.length → (bif ile 0 (j : Int) then ilt (j : Int) (dlen r) else false) = true := fun hj => by rw [bifT ile_nat, ilt_len hj]
    have es : ∀ j : Nat, sget r (j : Int) = r.getD j 0 := fun j => by unfold sget; rw [Int.toNat_natCast]
    have es7 : sget r 7 = r.getD 7 0 := es 7
    have es6 : sget r 6 = r.getD 6 0 := es 6
    have hrt : ∀ m : Wm, m.2.2.2.1.length ≤ 1000 → oref05Right ((m, ()), ()) = some ((wr m, ()), ()) := fun m hm => ref05Right_eq m (by omega)
    have hnz : ((0, Id.zero, 0, ()) : Ent) = noE := rfl
    -- lengths
    have lt : ∀ n : Nat, ilt (dlen r) (n : Int) = decide (r.length < n) := fun n => by rw [ilt_eq, dlen_eq]; congr 1; rw [eq_iff_iff]; omega
    have gt : ∀ n : Nat, ilt (n : Int) (dlen r) = decide (n < r.length) := fun n => by rw [ilt_eq, dlen_eq]; congr 1; rw [eq_iff_iff]; omega
    have lt0 : ilt (dlen r) 0 = decide (r.length < 0) := lt 0
    have gt0 : ilt 0 (dlen r) = decide (0 < r.length) := gt 0
    have lt8 : ilt (dlen r) 8 = decide (r.length < 8) := lt 8
    have gt8 : ilt 8 (dlen r) = decide (8 < r.length) := gt 8
    have lt16 : ilt (dlen r) 16 = decide (r.length < 16) := lt 16
    have gt16 : ilt 16 (dlen r) = decide (16 < r.length) := gt 16
    have lt24 : ilt (dlen r) 24 = decide (r.length < 24) := lt 24
    have gt24 : ilt 24 (dlen r) = decide (24 < r.length) := gt 24
    have c77 : 8 ≤ r.length → (bif ile 0 7 then ilt 7 (dlen r) else false) = true := fun h => c7 (j := 7) (by omega)
    have c66 : 8 ≤ r.length → (bif ile 0 6 then ilt 6 (dlen r) else false) = true := fun h => c7 (j := 6) (by omega)
    have d8 : 8 ≤ r.length → dsub r 8 (dlen r) = r.drop 8 := fun h => by rw [show (8 : Int) = ((8 : Nat) : Int) from rfl, subEnd _ _ h]
    have e8 : 8 ≤ r.length → (bif (bif ile 0 8 then ile 8 (dlen r) else false) then ile (dlen r) (dlen r) else false) = true := fun h => by
      rw [bifT (show ile 0 8 = true from rfl), bifT (ile_t.2 (by rw [dlen_eq]; omega))]
      exact ile_t.2 (Int.le_refl _)
    simp only [w24, lt0, gt0, lt8, gt8, lt16, gt16, lt24, gt24, es7, es6, u8pos, hnz]
    have finR : ∀ m : Wm, m.2.2.2.1.length ≤ 1000 → (bS (oref05Right ((m, ()), ())) fun v6 => bif bif v6.fst.fst then false else true then some (((0, Id.zero, noE, [], 0, [], [], ()), false, ()), ()) else some ((m, true, ()), ())) = refR (if wr m = true then some m else none) := fun m hm => by
      rw [hrt m hm]
      cases wr m <;> rfl
    have w016 : iwrap IntKind.i64 (iadd 0 16) = 16 := rfl
    have hl4 : l.length ≤ 1000 := by omega
    have hnL := fun h8 : 8 ≤ r.length => numLoop r h8 k i t l [] []
    have hnz2 : zW = (0, Id.zero, noE, (), 0, [], [], ()) := rfl
    rw [hnz2] at hnL
    cases f4 <;> cases f5 <;> cases f6 <;> simp only [cond_true, cond_false, if_true, if_false, Bool.false_eq_true, Nat.zero_add, Nat.add_zero, Bool.true_eq_false, and_true, and_false, true_and, false_and, or_false]
    · have hw := hrt (k, i, t, l, 0, [], r, ()) hl4
      cases hwr : wr (k, i, t, l, 0, [], r, ()) <;> by_cases a : 0 < r.length <;> simp [a, refR, hw, hwr]
    · have hw := hrt (k, i, t, l, 0, [], r, ()) hl4
      cases hwr : wr (k, i, t, l, 0, [], r, ()) <;> by_cases a : 0 < r.length <;> simp [a, refR, hw, hwr]
    · rw [w016, lt16, gt16]
      by_cases a : r.length < 16
      · simp [a, refR]
      · have hw := hrt (k, i, t, l, 0, r, [], ()) hl4
        cases hwr : wr (k, i, t, l, 0, r, [], ()) <;> by_cases b : 16 < r.length <;> simp [a, b, refR, hw, hwr]
    · rw [w016, lt16, gt16]
      by_cases a : r.length < 16
      · simp [a, refR]
      · have hw := hrt (k, i, t, l, 0, r, [], ()) hl4
        cases hwr : wr (k, i, t, l, 0, r, [], ()) <;> by_cases b : 16 < r.length <;> simp [a, b, refR, hw, hwr]
    · by_cases a : r.length < 8
      · simp [a, refR]
      · have h8 : 8 ≤ r.length := by omega
        simp only [c77 h8, c66 h8, hnL h8, bL_inl, e8 h8, d8 h8, hf, cond_true, cond_false]
        have hw := hrt (k, i, t, l, numD r 6, [], r.drop 8, ()) hl4
        generalize r.getD 7 0 = u7
        generalize r.getD 6 0 = u6
        cases hwr : wr (k, i, t, l, numD r 6, [], r.drop 8, ()) <;> by_cases b : 8 < r.length <;> by_cases z7 : u7 = 0 <;> by_cases z6 : u6 = 0 <;> simp [a, b, z7, z6, refR, hw, hwr]
    · by_cases a : r.length < 8
      · simp [a, refR]
      · have h8 : 8 ≤ r.length := by omega
        simp only [c77 h8, c66 h8, hnL h8, bL_inl, e8 h8, d8 h8, hf, cond_true, cond_false]
        have hw := hrt (k, i, t, l, numD r 6, [], r.drop 8, ()) hl4
        generalize r.getD 7 0 = u7
        generalize r.getD 6 0 = u6
        cases hwr : wr (k, i, t, l, numD r 6, [], r.drop 8, ()) <;> by_cases b : 8 < r.length <;> by_cases z7 : u7 = 0 <;> by_cases z6 : u6 = 0 <;> simp [a, b, z7, z6, refR, hw, hwr]
    · by_cases a : r.length < 24
      · simp [a, refR]
      · have h8 : 8 ≤ r.length := by omega
        simp only [c77 h8, c66 h8, hnL h8, bL_inl, e8 h8, d8 h8, hf, cond_true, cond_false]
        have hw := hrt (k, i, t, l, numD r 6, r.drop 8, [], ()) hl4
        generalize r.getD 7 0 = u7
        generalize r.getD 6 0 = u6
        cases hwr : wr (k, i, t, l, numD r 6, r.drop 8, [], ()) <;> by_cases b : 24 < r.length <;> by_cases z7 : u7 = 0 <;> by_cases z6 : u6 = 0 <;> simp [a, b, z7, z6, refR, hw, hwr]
    · by_cases a : r.length < 24
      · simp [a, refR]
      · have h8 : 8 ≤ r.length := by omega
        simp only [c77 h8, c66 h8, hnL h8, bL_inl, e8 h8, d8 h8, hf, cond_true, cond_false]
        have hw := hrt (k, i, t, l, numD r 6, r.drop 8, [], ()) hl4
        generalize r.getD 7 0 = u7
        generalize r.getD 6 0 = u6
        cases hwr : wr (k, i, t, l, numD r 6, r.drop 8, [], ()) <;> by_cases b : 24 < r.length <;> by_cases z7 : u7 = 0 <;> by_cases z6 : u6 = 0 <;> simp [a, b, z7, z6, refR, hw, hwr]
end Am
end Go.Proofs.Ythnmiialdjifiaa
