/-
  Stacks: what is written is read, what is read was written; the laws.
-/
import Derived.Test.YthnmiialdjifiaaSj
namespace Go.Proofs.Ythnmiialdjifiaa
namespace Am
open Go Go.RowKit
set_option linter.unusedVariables false
set_option linter.unusedSimpArgs false
set_option maxRecDepth 10000

theorem readN_err : ∀ (n : Nat) (s : List UInt8), (readN n s).2.2 ≠ 0 → (readN n s).1 = [] ∧ (readN n s).2.1 = 0
  | 0, s, h => by simp [readN] at h
  | n + 1, s, h => by
    rw [readN] at h ⊢
    by_cases h1 : (readE s).2.2 = 0
    · rw [if_pos h1] at h ⊢
      by_cases h2 : (readN n (s.drop (readE s).2.1)).2.2 = 0
      · rw [if_pos h2] at h; exact absurd rfl h
      · rw [if_neg h2]; exact ⟨rfl, rfl⟩
    · rw [if_neg h1]; exact ⟨rfl, rfl⟩
theorem readS_err (s : List UInt8) (h : (readS s).2.2 ≠ 0) : (readS s).1 = [] ∧ (readS s).2.1 = 0 := by
  cases s with
  | nil => exact ⟨rfl, rfl⟩
  | cons b t =>
    simp only [readS] at h ⊢
    by_cases h1 : b.toNat < 1 ∨ 4 < b.toNat
    · rw [if_pos h1]; exact ⟨rfl, rfl⟩
    · rw [if_neg h1] at h ⊢
      by_cases h2 : (readN b.toNat t).2.2 = 0
      · rw [if_pos h2] at h; exact absurd rfl h
      · rw [if_neg h2]; exact ⟨rfl, rfl⟩
theorem isE_cases {e : Ent} (h : isE e = true) : (e.1 = 1 ∧ e.2.2.1 = 0) ∨ (e.1 = 2 ∧ e.2.1 = Id.zero ∧ 0 ≤ e.2.2.1 ∧ e.2.2.1 < 16) := by
  unfold isE at h
  simp only [Bool.or_eq_true, Bool.and_eq_true, decide_eq_true_iff] at h
  omega
theorem over_self (a : Id) (l : List UInt8) (h : l.length = 32) : (a.over l).l = l := by
  rw [over_l _ _ (by omega), h, List.drop_of_length_le (by rw [a.h]; omega), List.append_nil]
theorem iu8_toNat (n : Nat) (h : n < 256) : (iu8 (iwrap IntKind.u8 (n : Int))).toNat = n := iu8_nat h
theorem readE_entB (e : Ent) (h : isE e = true) (rest : List UInt8) : readE (entB e ++ rest) = (e, (entB e).length, 0) := by
  obtain ⟨k, id, n, ⟨⟩⟩ := e
  have hid := id.h
  rcases isE_cases h with ⟨h1, h2⟩ | ⟨h1, h2, h3, h4⟩
  · simp only at h1 h2
    subst h1; subst h2
    have eb : entB (1, id, 0, ()) = 1 :: id.l := rfl
    rw [eb]
    have e2 : (id.l ++ rest).take 32 = id.l := by rw [← hid]; exact List.take_left
    have e3 : ¬ (id.l ++ rest).length < 32 := by rw [List.length_append]; omega
    simp only [List.cons_append, readE, if_true, e2, List.length_cons, hid]
    rw [if_neg e3]
    have : Id.zero.over id.l = id := Id.ext' (over_self _ _ hid)
    rw [this]
  · simp only at h1 h2 h3 h4
    subst h1; subst h2
    obtain ⟨m, rfl⟩ : ∃ m : Nat, n = (m : Int) := ⟨n.toNat, by omega⟩
    have eb : entB (2, Id.zero, (m : Int), ()) = [2, iu8 (iwrap IntKind.u8 (m : Int))] := rfl
    have hm : (iu8 (iwrap IntKind.u8 (m : Int))).toNat = m := iu8_toNat m (by omega)
    rw [eb]
    simp only [List.cons_append, List.nil_append, readE]
    rw [if_neg (by decide), if_pos trivial, if_neg (by omega), hm]
    rfl
theorem readN_flat : ∀ (l : List Ent) (rest : List UInt8), (∀ e ∈ l, isE e = true) → readN l.length (l.flatMap entB ++ rest) = (l, (l.flatMap entB).length, 0)
  | [], rest, _ => rfl
  | e :: l, rest, h => by
    have h1 := readE_entB e (h e (by simp)) (l.flatMap entB ++ rest)
    have h2 := readN_flat l rest (fun x hx => h x (by simp [hx]))
    rw [List.flatMap_cons, List.append_assoc, List.length_cons, readN, h1]
    simp only [List.drop_left, h2, if_true]
    rw [List.length_append]
theorem rightS_facts {l : List Ent} (h : rightS l = true) : 1 ≤ l.length ∧ l.length ≤ 4 ∧ ∀ e ∈ l, isE e = true := by
  unfold rightS at h
  simp only [Bool.and_eq_true, decide_eq_true_iff, List.all_eq_true] at h
  exact ⟨h.1, h.2.1, h.2.2⟩
theorem readS_text (l : List Ent) (h : rightS l = true) (rest : List UInt8) : readS (textS l ++ rest) = (l, (textS l).length, 0) := by
  obtain ⟨h1, h2, h3⟩ := rightS_facts h
  have hb : (iu8 (iwrap IntKind.u8 (dlen l))).toNat = l.length := iu8_toNat l.length (by omega)
  unfold textS
  rw [List.cons_append, readS, if_neg (by omega), hb, readN_flat l rest h3]
  rfl
theorem readE_back (s : List UInt8) (h : (readE s).2.2 = 0) : isE (readE s).1 = true ∧ s.take (readE s).2.1 = entB (readE s).1 := by
  cases s with
  | nil => cases h
  | cons b t =>
    simp only [readE] at h ⊢
    by_cases h1 : b = 1
    · subst h1
      simp only [if_true] at h ⊢
      by_cases h2 : t.length < 32
      · rw [if_pos h2] at h; cases h
      · rw [if_neg h2]
        refine ⟨rfl, ?_⟩
        have e : entB (1, Id.zero.over (t.take 32), 0, ()) = 1 :: (Id.zero.over (t.take 32)).l := rfl
        simp only
        rw [e, over_self _ _ (by rw [List.length_take]; omega)]
        rfl
    · rw [if_neg h1] at h ⊢
      by_cases h2 : b = 2
      · subst h2
        simp only [if_true] at h ⊢
        cases t with
        | nil => cases h
        | cons hh tt =>
          simp only at h ⊢
          by_cases h15 : 15 < hh.toNat
          · rw [if_pos h15] at h; cases h
          · rw [if_neg h15]
            have e : entB (2, Id.zero, (hh.toNat : Int), ()) = [2, iu8 (iwrap IntKind.u8 (hh.toNat : Int))] := rfl
            have e2 : iu8 (iwrap IntKind.u8 (hh.toNat : Int)) = hh := by
              apply UInt8.toNat_inj.1
              exact iu8_toNat _ hh.toNat_lt
            refine ⟨?_, ?_⟩
            · unfold isE
              simp only [Bool.or_eq_true, Bool.and_eq_true, decide_eq_true_iff]
              right
              exact ⟨trivial, trivial, by omega, by omega⟩
            · simp only
              rw [e, e2]
              rfl
      · rw [if_neg h2] at h; cases h
theorem readN_back : ∀ (n : Nat) (s : List UInt8), (readN n s).2.2 = 0 → (readN n s).1.length = n ∧ (∀ e ∈ (readN n s).1, isE e = true) ∧ s.take (readN n s).2.1 = (readN n s).1.flatMap entB ∧ (readN n s).2.1 ≤ s.length
  | 0, s, h => by simp [readN]
  | n + 1, s, h => by
    rw [readN] at h ⊢
    by_cases h1 : (readE s).2.2 = 0
    · rw [if_pos h1] at h ⊢
      by_cases h2 : (readN n (s.drop (readE s).2.1)).2.2 = 0
      · rw [if_pos h2]
        obtain ⟨i1, i2⟩ := readE_back s h1
        obtain ⟨j1, j2, j3, j4⟩ := readN_back n _ h2
        have hu := readE_used s h1
        rw [List.length_drop] at j4
        refine ⟨by simp [j1], fun e he => ?_, ?_, by simp only; omega⟩
        · rcases List.mem_cons.1 he with rfl | he
          · exact i1
          · exact j2 e he
        · simp only [List.flatMap_cons]
          rw [List.take_add, i2, j3]
      · rw [if_neg h2] at h; exact absurd h h2
    · rw [if_neg h1] at h; exact absurd h h1
theorem readS_back (s : List UInt8) (h : (readS s).2.2 = 0) : rightS (readS s).1 = true ∧ s.take (readS s).2.1 = textS (readS s).1 ∧ (readS s).2.1 ≤ s.length := by
  cases s with
  | nil => cases h
  | cons b t =>
    simp only [readS] at h ⊢
    by_cases h1 : b.toNat < 1 ∨ 4 < b.toNat
    · rw [if_pos h1] at h; cases h
    · rw [if_neg h1] at h ⊢
      by_cases h2 : (readN b.toNat t).2.2 = 0
      · rw [if_pos h2]
        obtain ⟨j1, j2, j3, j4⟩ := readN_back _ _ h2
        refine ⟨?_, ?_, by simp only [List.length_cons]; omega⟩
        · unfold rightS
          simp only [Bool.and_eq_true, decide_eq_true_iff, List.all_eq_true]
          exact ⟨by omega, by omega, j2⟩
        · simp only [List.take_succ_cons]
          unfold textS
          rw [j3]
          congr 1
          apply UInt8.toNat_inj.1
          rw [dlen_eq, iu8_toNat _ (by rw [j1]; exact b.toNat_lt), j1]
      · rw [if_neg h2] at h; exact absurd h h2
theorem same_self (l : List Ent) (hl : l.length ≤ 4611686018427387903) : oref04Same ((l, l, ()), ()) = some ((true, ()), ()) := by
  rw [ref04Same_eq l l hl, decide_eq_true rfl]
theorem readS_len (s : List UInt8) : (readS s).1.length ≤ 4 := by
  by_cases h : (readS s).2.2 = 0
  · exact (rightS_facts (readS_back s h).1).2.1
  · rw [(readS_err s h).1]; simp
theorem textS_inj {l m : List Ent} (hl : rightS l = true) (hm : rightS m = true) : decide (textS l = textS m) = decide (l = m) := by
  by_cases h : l = m
  · rw [decide_eq_true h, decide_eq_true (by rw [h])]
  · rw [decide_eq_false h, decide_eq_false]
    intro e
    have h1 := readS_text l hl []
    have h2 := readS_text m hm []
    rw [e, h2] at h1
    exact h (congrArg Prod.fst h1).symm

end Am
end Go.Proofs.Ythnmiialdjifiaa
