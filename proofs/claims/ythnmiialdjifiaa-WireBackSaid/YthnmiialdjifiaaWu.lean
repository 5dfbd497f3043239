/-
  Wire: a message's bytes; the laws of texts.
-/
import Derived.Test.YthnmiialdjifiaaWt
namespace Go.Proofs.Ythnmiialdjifiaa
namespace Am
open Go Go.RowKit
set_option linter.unusedVariables false
set_option linter.unusedSimpArgs false
set_option maxRecDepth 10000

/-- a message's bytes -/
def bytesM (m : Wm) : List UInt8 :=
  iu8 (iwrap IntKind.u8 m.1) :: ((if (fl m.1).1 = true then m.2.1.l else []) ++ ((if (fl m.1).2.1 = true then textS [m.2.2.1] else []) ++ ((if (fl m.1).2.2.1 = true then textS m.2.2.2.1 else []) ++ ((if (fl m.1).2.2.2.1 = true then num8 m.2.2.2.2.1.toNat else []) ++ (m.2.2.2.2.2.1 ++ m.2.2.2.2.2.2.1)))))
structure SmallW (m : Wm) : Prop where
  s : m.2.2.2.1.length ≤ 1000
  n : m.2.2.2.2.2.1.length ≤ 1000
  d : m.2.2.2.2.2.2.1.length ≤ 1000
theorem fl_kinds {k : Int} (h : 1 ≤ k ∧ k ≤ 10) : k = 1 ∨ k = 2 ∨ k = 3 ∨ k = 4 ∨ k = 5 ∨ k = 6 ∨ k = 7 ∨ k = 8 ∨ k = 9 ∨ k = 10 := by omega
theorem rightS_one {e : Ent} (h : isE e = true) : rightS [e] = true := by
  unfold rightS
  simp [h]
theorem textS_one (e : Ent) : textS [e] = 1 :: entB e := by
  unfold textS
  simp
  rfl
theorem wireText_eq (m : Wm) (hs : SmallW m) : owireText ((m, ()), ()) = some (if wr m = true then (bytesM m, 0, ()) else ([], 1, ()), ()) := by
  obtain ⟨s1, s2, s3⟩ := hs
  rw [owireText_eq, bwireText]
  simp only [wireRight_eq m (by omega), bS_some, kinds_eq, tab_val']
  cases hw : wr m with
  | false => rfl
  | true =>
    obtain ⟨hk, r2, r3, r4, r5, r6, r7, r8, r9, r10, r11, r12, r13⟩ := wr_iff.1 hw
    obtain ⟨n, hn⟩ : ∃ n : Nat, m.2.2.2.2.1 = (n : Int) := ⟨m.2.2.2.2.1.toNat, by omega⟩
    have hid := m.2.1.h
    have hsl := textS_len m.2.2.2.1
    have htl := textS_len [m.2.2.1]
    have hnl := num8_len n
    simp only [List.length_singleton] at htl
    have hloop := fun x hx => wtext_loop m x hx n hn
    have htn : m.2.2.2.2.1.toNat = n := by omega
    simp only [cond_true, cond_false, if_true, bytesM, htn]
    have hS : (fl m.1).2.2.1 = true → ostackText ((m.2.2.2.1, ()), ()) = some ((textS m.2.2.2.1, 0, ()), ()) := fun h => by rw [stackText_eq _ s1, if_pos (r5 h)]
    have hT : (fl m.1).2.1 = true → ostackText (([m.2.2.1], ()), ()) = some ((textS [m.2.2.1], 0, ()), ()) := fun h => by rw [stackText_eq _ (by simp), if_pos (rightS_one (r3 h))]
    generalize fl m.1 = f at *
    obtain ⟨f1, f2, f3, f4, f5, f6, ⟨⟩⟩ := f
    simp only at *
    generalize textS m.2.2.2.1 = S at *
    generalize textS [m.2.2.1] = T at *
    generalize num8 n = N at *
    generalize iu8 (iwrap IntKind.u8 m.1) = b at *
    cases f1 <;> cases f2 <;> cases f3 <;> cases f4 <;> simp only [cond_true, cond_false, if_true, if_false, Bool.false_eq_true, hS, hT, bS_some] <;>
      (repeat' first
        | refine goT (fitsB (by first | omega | (simp [dapp1] <;> omega))) ?_
        | refine goT (fits1B (by first | omega | (simp [dapp1] <;> omega))) ?_
        | (rw [hloop _ (by first | omega | (simp [dapp1] <;> omega))]; simp only [bL_inl])) <;>
      simp [dapp1]
/-- the same message -/
def sameM (m n : Wm) : Bool := decide (m.1 = n.1) && (decide (m.2.1 = n.2.1) && (decide (m.2.2.1 = n.2.2.1) && (decide (m.2.2.2.1 = n.2.2.2.1) && (decide (m.2.2.2.2.1 = n.2.2.2.2.1) && (decide (m.2.2.2.2.2.1 = n.2.2.2.2.2.1) && decide (m.2.2.2.2.2.2.1 = n.2.2.2.2.2.2.1))))))
theorem sameM_iff {m n : Wm} : sameM m n = true ↔ m = n := by
  obtain ⟨a, b, c, d, e, f, g, ⟨⟩⟩ := m
  obtain ⟨a', b', c', d', e', f', g', ⟨⟩⟩ := n
  simp only [sameM, Bool.and_eq_true, decide_eq_true_iff, Prod.mk.injEq, and_true]
theorem sameM_self (m : Wm) : sameM m m = true := sameM_iff.2 rfl
theorem ref05Like_eq (m n : Wm) (hl : m.2.2.2.1.length ≤ 4611686018427387903) : oref05Like ((m, n, ()), ()) = some ((sameM m n, ()), ()) := by
  rw [oref05Like_eq, bref05Like]
  simp only [eqE, ref04Same_eq _ _ hl, bS_some]
  simp only [ieq_d, ideq_d, seq_d, cond_fin, bifAnd]
  rfl
def cutM (m : Wm) : Wm := (m.1, m.2.1, m.2.2.1, m.2.2.2.1.take 6, m.2.2.2.2.1, m.2.2.2.2.2.1.take 20, m.2.2.2.2.2.2.1.take 70, ())
theorem cut_eq (m : Wm) : olaw05Cut ((m, ()), ()) = some ((cutM m, ()), ()) := by
  rw [olaw05Cut_eq, blaw05Cut]
  have e6 : (6 : Int) = ((6 : Nat) : Int) := rfl
  have e20 : (20 : Int) = ((20 : Nat) : Int) := rfl
  have e70 : (70 : Int) = ((70 : Nat) : Int) := rfl
  simp only [e6, e20, e70, imin_len, ile00, ile_nat, ile_min, dsub_min, cond_true]
  rfl
structure CutW (m : Wm) : Prop where
  s : m.2.2.2.1.length ≤ 6
  n : m.2.2.2.2.2.1.length ≤ 20
  d : m.2.2.2.2.2.2.1.length ≤ 70
theorem cutM_cut (m : Wm) : CutW (cutM m) :=
  ⟨by show (m.2.2.2.1.take 6).length ≤ 6; rw [List.length_take]; omega, by show (m.2.2.2.2.2.1.take 20).length ≤ 20; rw [List.length_take]; omega, by show (m.2.2.2.2.2.2.1.take 70).length ≤ 70; rw [List.length_take]; omega⟩
theorem CutW.small {m : Wm} (h : CutW m) : SmallW m := ⟨by have := h.s; omega, by have := h.n; omega, by have := h.d; omega⟩
def aliveM : Wm := (7, idset Id.zero 31 (iu8 9), (0, Id.zero, 0, ()), [], 0, [], [], ())
theorem aliveM_right : RightW aliveM :=
  ⟨by show (1 : Int) ≤ 7 ∧ (7 : Int) ≤ 10; omega, fun h => (by cases h), fun h => (by cases h), fun _ => rfl, fun h => (by cases h), fun _ => rfl, fun _ => rfl, by show (0 : Int) ≤ 0; omega, by show (0 : Int) ≤ 1099511627776; omega, fun h => (by cases h), fun _ => rfl, fun _ => rfl, by simp [aliveM]⟩
theorem alive5 : olaw05Alive ((), ()) = some ((true, ()), ()) := by
  rw [olaw05Alive_eq, blaw05Alive]
  have h := wireText_eq aliveM ⟨by simp [aliveM], by simp [aliveM], by simp [aliveM]⟩
  rw [if_pos (wr_iff.2 aliveM_right)] at h
  have h : owireText (((7, idset Id.zero 31 (iu8 9), (0, Id.zero, 0, ()), [], 0, [], [], ()), ()), ()) = some ((bytesM aliveM, 0, ()), ()) := h
  have e : bytesM aliveM = [7, 0, 0, 0, 0, 0, 0, 0, 0, 0, 0, 0, 0, 0, 0, 0, 0, 0, 0, 0, 0, 0, 0, 0, 0, 0, 0, 0, 0, 0, 0, 0, 9] := rfl
  simp only [h, bS_some, e]
  rfl
end Am
end Go.Proofs.Ythnmiialdjifiaa
