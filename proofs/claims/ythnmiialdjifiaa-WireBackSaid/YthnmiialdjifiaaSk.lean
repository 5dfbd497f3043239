/-
  Stacks: what is read, by the program and by the document.
-/
import Derived.Test.YthnmiialdjifiaaWu
namespace Go.Proofs.Ythnmiialdjifiaa
namespace Am
open Go Go.RowKit
set_option linter.unusedVariables false
set_option linter.unusedSimpArgs false
set_option maxRecDepth 10000

theorem byte_eq (b : UInt8) : iwrap IntKind.i64 (u8i b) = (b.toNat : Int) := by
  have := b.toNat_lt
  unfold u8i
  exact iwrap_nat (by omega)
theorem fits1n {α : Type} {xs : List α} {b : Nat} (h : xs.length ≤ 1000) (hb : b ≤ 1000) : fits (dlen xs) (1 : Int) b = true := by
  rw [fits_t, dlen_eq]
  refine ⟨?_, by omega⟩
  have h1 : ((xs.length : Int) + 1) * b ≤ 1001 * 1000 := Int.mul_le_mul (by omega) (by omega) (by omega) (by omega)
  omega

/-- so many bytes are taken off -/
def takeM (n : Nat) (bad : Int) (s : List UInt8) (at' : Nat) : (List UInt8 × Unit) × Int × List UInt8 × Int × Unit :=
  if bad = 0 ∧ at' + n ≤ s.length then (((s.drop at').take n, ()), 0, s, ((at' + n : Nat) : Int), ()) else ((List.replicate n 0, ()), (if bad = 0 then 3 else bad), s, (at' : Int), ())
theorem take_eq (n : Nat) (bad : Int) (s : List UInt8) (at' : Nat) (hs : s.length ≤ 1000) (hn : n ≤ 64) (hat : at' ≤ s.length) :
    ostackRead_1 (((n : Int), (), (), (), ()), bad, s, (at' : Int), ()) = some (takeM n bad s at') := by
  rw [ostackRead_1_eq, bstackRead_1]
  have e1 : iwrap IntKind.i64 (isub (dlen s) (at' : Int)) = ((s.length - at' : Nat) : Int) := by
    unfold isub; rw [dlen_eq, iwrap_i64 (by omega) (by omega)]; omega
  have e2 : iwrap IntKind.i64 (iadd (at' : Int) (n : Int)) = ((at' + n : Nat) : Int) := by
    unfold iadd; rw [iwrap_i64 (by omega) (by omega)]; omega
  have e3 : iwrap IntKind.i64 (isub ((at' + n : Nat) : Int) (n : Int)) = (at' : Int) := by
    unfold isub; rw [iwrap_i64 (by omega) (by omega)]; omega
  have e4 : ile 0 (n : Int) = true := ile_nat
  have e5 : fits (n : Int) 0 1 = true := by rw [fits_t]; omega
  have e6 : drep (n : Int) (0 : UInt8) = List.replicate n 0 := by unfold drep; rw [Int.toNat_natCast]
  simp only [e1, e2, e3, e4, e5, e6, ieq_s, cond_true, cond_false, ieq_d]
  unfold takeM
  by_cases h0 : bad = 0
  · subst h0
    simp only [decide_true, cond_true, cond_false, true_and, if_true]
    by_cases h1 : at' + n ≤ s.length
    · have c1 : ilt ((s.length - at' : Nat) : Int) (n : Int) = false := ilt_f.2 (by omega)
      have c2 : ile 0 (at' : Int) = true := ile_nat
      have c3 : ile (at' : Int) ((at' + n : Nat) : Int) = true := ile_t.2 (by omega)
      have c4 : ile ((at' + n : Nat) : Int) (dlen s) = true := ile_t.2 (by rw [dlen_eq]; omega)
      rw [if_pos h1, c1, c2, c3, c4]
      simp only [cond_true, cond_false, dsub_eq]
      rw [show at' + n - at' = n by omega]
    · have c1 : ilt ((s.length - at' : Nat) : Int) (n : Int) = true := ilt_t.2 (by omega)
      rw [if_neg h1, c1]
      rfl
  · simp only [h0, decide_false, cond_true, cond_false, false_and, if_false]
def mustM (c : Bool) (bad : Int) : Int := if c = false ∧ bad = 0 then 5 else bad
theorem must_eq (c : Bool) (bad : Int) : ostackRead_2 ((c, (), ()), bad, ()) = some ((), mustM c bad, ()) := by
  rw [ostackRead_2_eq, bstackRead_2]
  unfold mustM
  simp only [ieq_d]
  cases c
  · by_cases h : bad = 0
    · simp [h]
    · simp [h]
  · simp

/-- an entry, how many bytes it has, and the error -/
def readE : List UInt8 → Ent × Nat × Int
  | [] => (noE, 0, 3)
  | b :: t => if b = 1 then (if t.length < 32 then (noE, 0, 3) else ((1, Id.zero.over (t.take 32), 0, ()), 33, 0))
    else if b = 2 then (match t with
      | [] => (noE, 0, 3)
      | h :: _ => if 15 < h.toNat then (noE, 0, 5) else ((2, Id.zero, (h.toNat : Int), ()), 2, 0))
    else (noE, 0, 5)
def readN : Nat → List UInt8 → List Ent × Nat × Int
  | 0, _ => ([], 0, 0)
  | n + 1, s => if (readE s).2.2 = 0 then (if (readN n (s.drop (readE s).2.1)).2.2 = 0 then ((readE s).1 :: (readN n (s.drop (readE s).2.1)).1, (readE s).2.1 + (readN n (s.drop (readE s).2.1)).2.1, 0)
      else ([], 0, (readN n (s.drop (readE s).2.1)).2.2)) else ([], 0, (readE s).2.2)
def readS : List UInt8 → List Ent × Nat × Int
  | [] => ([], 0, 3)
  | b :: t => if b.toNat < 1 ∨ 4 < b.toNat then ([], 0, 5) else if (readN b.toNat t).2.2 = 0 then ((readN b.toNat t).1, (readN b.toNat t).2.1 + 1, 0) else ([], 0, (readN b.toNat t).2.2)
theorem readE_used (s : List UInt8) (h : (readE s).2.2 = 0) : (readE s).2.1 ≤ s.length := by
  unfold readE at h ⊢
  split
  · simp
  · rename_i b t
    simp only at h
    split at h
    · rename_i hb
      rw [if_pos hb]
      split at h
      · cases h
      · rename_i hl
        rw [if_neg hl]
        simp only [List.length_cons]; omega
    · rename_i hb
      rw [if_neg hb]
      split at h
      · rename_i hb2
        rw [if_pos hb2]
        split
        · cases h
        · split
          · simp
          · simp only [List.length_cons]; omega
      · cases h
theorem exit7 (many : Int) (out : List Ent) (a : Int) (bad : Int) (s : List UInt8) (h : ilt (dlen out) many = false ∨ bad ≠ 0) :
    whl rstackReadx7 (((), (), ((), (), (), (), ()), ((), (), ()), many, out, ()), a, bad, s, (), ()) = some (.inl (((), (), out, ()), a, bad, ())) := by
  refine whl_inr ?_
  simp only [rstackReadx7]
  rcases h with h | h
  · rw [h]; rfl
  · rw [ieq_f.2 h]
    cases ilt (dlen out) many <;> rfl
theorem read_loop (s : List UInt8) (hs : s.length ≤ 1000) (many : Nat) (hm : many ≤ 4) : ∀ (k : Nat) (out : List Ent) (at' : Nat), out.length + k = many → at' ≤ s.length →
    ∃ o a b, whl rstackReadx7 (((), (), ((), (), (), (), ()), ((), (), ()), (many : Int), out, ()), (at' : Int), 0, s, (), ()) = some (.inl (((), (), o, ()), a, b, ())) ∧
      (if (readN k (s.drop at')).2.2 = 0 then o = out ++ (readN k (s.drop at')).1 ∧ a = ((at' + (readN k (s.drop at')).2.1 : Nat) : Int) ∧ b = 0 else b = (readN k (s.drop at')).2.2)
  | 0, out, at', h, hat => by
    refine ⟨out, at', 0, exit7 _ _ _ _ _ (.inl (ilt_f.2 (by rw [dlen_eq]; omega))), ?_⟩
    simp [readN]
  | k + 1, out, at', h, hat => by
    have c0 : ilt (dlen out) (many : Int) = true := ilt_t.2 (by rw [dlen_eq]; omega)
    have e1 : (1 : Int) = ((1 : Nat) : Int) := rfl
    have e32 : (32 : Int) = ((32 : Nat) : Int) := rfl
    have hf : fits (dlen out) (1 : Int) 48 = true := fits1n (by omega) (by omega)
    have i0 : ile 0 0 = true := rfl
    -- a round, as it goes when the first byte is had or not
    have key : ∀ (o' : List Ent) (a' : Nat) (b' : Int), a' ≤ s.length → rstackReadx7 (((), (), ((), (), (), (), ()), ((), (), ()), (many : Int), out, ()), (at' : Int), 0, s, (), ()) = some (.inl (((), (), ((), (), (), (), ()), ((), (), ()), (many : Int), o', ()), (a' : Int), b', s, (), ())) →
        (b' = (readE (s.drop at')).2.2) → (b' = 0 → o' = out ++ [(readE (s.drop at')).1] ∧ a' = at' + (readE (s.drop at')).2.1) →
        ∃ o a b, whl rstackReadx7 (((), (), ((), (), (), (), ()), ((), (), ()), (many : Int), out, ()), (at' : Int), 0, s, (), ()) = some (.inl (((), (), o, ()), a, b, ())) ∧
          (if (readN (k + 1) (s.drop at')).2.2 = 0 then o = out ++ (readN (k + 1) (s.drop at')).1 ∧ a = ((at' + (readN (k + 1) (s.drop at')).2.1 : Nat) : Int) ∧ b = 0 else b = (readN (k + 1) (s.drop at')).2.2) := by
      intro o' a' b' ha' hr hb ho
      rw [whl_inl hr]
      by_cases hb0 : b' = 0
      · obtain ⟨h1, h2⟩ := ho hb0
        subst hb0
        have hd : (s.drop at').drop (readE (s.drop at')).2.1 = s.drop a' := by rw [List.drop_drop, h2]
        obtain ⟨o, a, b, hw, hi⟩ := read_loop s hs many hm k o' a' (by rw [h1]; simp; omega) ha'
        refine ⟨o, a, b, hw, ?_⟩
        have hN : readN (k + 1) (s.drop at') = if (readN k (s.drop a')).2.2 = 0 then ((readE (s.drop at')).1 :: (readN k (s.drop a')).1, (readE (s.drop at')).2.1 + (readN k (s.drop a')).2.1, 0) else ([], 0, (readN k (s.drop a')).2.2) := by
          rw [readN, if_pos hb.symm, hd]
        rw [hN]
        by_cases hq : (readN k (s.drop a')).2.2 = 0
        · rw [if_pos hq] at hi ⊢
          obtain ⟨i1, i2, i3⟩ := hi
          rw [if_pos rfl]
          exact ⟨by rw [i1, h1]; simp, by rw [i2, h2]; congr 1; simp only; omega, i3⟩
        · rw [if_neg hq] at hi ⊢
          rw [if_neg hq]
          exact hi
      · refine ⟨o', a', b', exit7 _ _ _ _ _ (.inr hb0), ?_⟩
        have hne : ¬ ((readE (s.drop at')).2.2 = 0) := by rw [← hb]; exact hb0
        have hN : readN (k + 1) (s.drop at') = ([], 0, (readE (s.drop at')).2.2) := by rw [readN, if_neg hne]
        rw [hN, if_neg hne]
        exact hb
    have r1 := take_eq 1 0 s at' hs (by omega) hat
    rw [← e1] at r1
    cases hd : s.drop at' with
    | nil =>
      have hl : s.length ≤ at' := List.drop_eq_nil_iff.1 hd
      have t1 : takeM 1 0 s at' = (([0], ()), 3, s, (at' : Int), ()) := by
        unfold takeM
        rw [if_neg (by omega)]
        rfl
      have r2 := take_eq 1 3 s at' hs (by omega) hat
      have t2 : takeM 1 3 s at' = (([0], ()), 3, s, (at' : Int), ()) := by
        unfold takeM
        rw [if_neg (by omega)]
        rfl
      rw [t1] at r1
      rw [t2, ← e1] at r2
      rw [← hd]
      refine key (out ++ [(0, Id.zero, 0, ())]) at' 3 hat ?_ (by rw [hd]; rfl) (fun h => absurd h (by decide))
      have b0 : iwrap IntKind.i64 (u8i (sget [0] 0)) = 0 := rfl
      have m1 : mustM (ieq 0 2) 3 = 3 := rfl
      have m2 : mustM (ilt 0 16) 3 = 3 := rfl
      have j1 : ieq 0 1 = false := rfl
      have j2 : ilt 0 (dlen [(0 : UInt8)]) = true := rfl
      simp only [rstackReadx7, c0, ieq_s, r1, r2, bS_some, i0, j2, b0, j1, must_eq, m1, m2, hf, cond_true, cond_false, dapp1]
    | cons b t =>
      have hlt : at' < s.length := by
        rcases Nat.lt_or_ge at' s.length with h | h
        · exact h
        · rw [List.drop_eq_nil_iff.2 h] at hd; cases hd
      have ht : s.drop (at' + 1) = t := by rw [← List.drop_drop, hd]; rfl
      have htl : t.length = s.length - (at' + 1) := by rw [← ht, List.length_drop]
      have t1 : takeM 1 0 s at' = (([b], ()), 0, s, ((at' + 1 : Nat) : Int), ()) := by
        unfold takeM
        rw [if_pos ⟨rfl, by omega⟩, hd]
        rfl
      rw [t1] at r1
      have b0 : iwrap IntKind.i64 (u8i (sget [b] 0)) = (b.toNat : Int) := byte_eq b
      have j2 : ilt 0 (dlen [b]) = true := rfl
      have i16 : ∀ n : Nat, ilt (n : Int) 16 = decide (n < 16) := fun n => by rw [ilt_eq]; congr 1; rw [eq_iff_iff]; omega
      rw [← hd]
      by_cases h1 : b = 1
      · subst h1
        have q1 : ieq ((1 : UInt8).toNat : Int) 1 = true := rfl
        have r2 := take_eq 32 0 s (at' + 1) hs (by omega) (by omega)
        rw [← e32] at r2
        have m1 : mustM true 0 = 0 := rfl
        by_cases h32 : t.length < 32
        · have t2 : takeM 32 0 s (at' + 1) = ((List.replicate 32 0, ()), 3, s, ((at' + 1 : Nat) : Int), ()) := by
            unfold takeM
            rw [if_neg (by omega)]
            rfl
          rw [t2] at r2
          refine key (out ++ [(1, Id.zero.over (List.replicate 32 0), 0, ())]) (at' + 1) 3 (by omega) ?_ (by rw [hd]; simp [readE, h32]) (fun h => absurd h (by decide))
          have l32 : ile (dlen (List.replicate 32 (0 : UInt8))) 32 = true := rfl
          simp only [rstackReadx7, c0, ieq_s, r1, bS_some, i0, j2, b0, q1, must_eq, m1, r2, l32, hf, cond_true, cond_false, dapp1]
          rfl
        · have t2 : takeM 32 0 s (at' + 1) = ((t.take 32, ()), 0, s, ((at' + 1 + 32 : Nat) : Int), ()) := by
            unfold takeM
            rw [if_pos ⟨rfl, by omega⟩, ht]
          rw [t2] at r2
          have hrE : readE (s.drop at') = ((1, Id.zero.over (t.take 32), 0, ()), 33, 0) := by
            rw [hd]; simp [readE, h32]
          refine key (out ++ [(1, Id.zero.over (t.take 32), 0, ())]) (at' + 33) 0 (by omega) ?_ (by rw [hrE]) (fun _ => by rw [hrE]; exact ⟨rfl, rfl⟩)
          have l32 : ile (dlen (t.take 32)) 32 = true := ile_t.2 (by rw [dlen_eq, List.length_take]; omega)
          simp only [rstackReadx7, c0, ieq_s, r1, bS_some, i0, j2, b0, q1, must_eq, m1, r2, l32, hf, cond_true, cond_false, dapp1]
          rfl
      · have hb1 : b.toNat ≠ 1 := fun e => h1 (UInt8.toNat_inj.1 e)
        have q1 : ieq (b.toNat : Int) 1 = false := ieq_f.2 (by omega)
        by_cases h2 : b = 2
        · subst h2
          have q2 : ieq ((2 : UInt8).toNat : Int) 2 = true := rfl
          have m1 : mustM true 0 = 0 := rfl
          have r2 := take_eq 1 0 s (at' + 1) hs (by omega) (by omega)
          rw [← e1] at r2
          cases htt : t with
          | nil =>
            have t2 : takeM 1 0 s (at' + 1) = (([0], ()), 3, s, ((at' + 1 : Nat) : Int), ()) := by
              unfold takeM
              rw [htt] at htl
              simp only [List.length_nil] at htl
              rw [if_neg (by omega)]
              rfl
            rw [t2] at r2
            refine key (out ++ [(2, Id.zero, 0, ())]) (at' + 1) 3 (by omega) ?_ (by rw [hd, htt]; rfl) (fun h => absurd h (by decide))
            have b2 : iwrap IntKind.i64 (u8i (sget [0] 0)) = 0 := rfl
            have m2 : mustM (ilt 0 16) 3 = 3 := rfl
            have j3 : ilt 0 (dlen [(0 : UInt8)]) = true := rfl
            simp only [rstackReadx7, c0, ieq_s, r1, bS_some, i0, j2, b0, q1, q2, must_eq, m1, r2, j3, b2, m2, hf, cond_true, cond_false, dapp1]
            rfl
          | cons hh tt =>
            have t2 : takeM 1 0 s (at' + 1) = (([hh], ()), 0, s, ((at' + 1 + 1 : Nat) : Int), ()) := by
              unfold takeM
              rw [htt] at htl
              simp only [List.length_cons] at htl
              rw [if_pos ⟨rfl, by omega⟩, ht, htt]
              rfl
            rw [t2] at r2
            have b2 : iwrap IntKind.i64 (u8i (sget [hh] 0)) = (hh.toNat : Int) := byte_eq hh
            have j3 : ilt 0 (dlen [hh]) = true := rfl
            have hlen2 : at' + 2 ≤ s.length := by rw [htt] at htl; simp only [List.length_cons] at htl; omega
            by_cases h15 : 15 < hh.toNat
            · have m2 : mustM (ilt (hh.toNat : Int) 16) 0 = 5 := by rw [i16, decide_eq_false (by omega)]; rfl
              refine key (out ++ [(2, Id.zero, (hh.toNat : Int), ())]) (at' + 2) 5 hlen2 ?_ (by rw [hd, htt]; simp [readE, h15]) (fun h => absurd h (by decide))
              simp only [rstackReadx7, c0, ieq_s, r1, bS_some, i0, j2, b0, q1, q2, must_eq, m1, r2, j3, b2, m2, hf, cond_true, cond_false, dapp1]
              rfl
            · have m2 : mustM (ilt (hh.toNat : Int) 16) 0 = 0 := by rw [i16, decide_eq_true (by omega)]; rfl
              have hrE : readE (s.drop at') = ((2, Id.zero, (hh.toNat : Int), ()), 2, 0) := by
                rw [hd, htt]; simp [readE, h15]
              refine key (out ++ [(2, Id.zero, (hh.toNat : Int), ())]) (at' + 2) 0 hlen2 ?_ (by rw [hrE]) (fun _ => by rw [hrE]; exact ⟨rfl, rfl⟩)
              simp only [rstackReadx7, c0, ieq_s, r1, bS_some, i0, j2, b0, q1, q2, must_eq, m1, r2, j3, b2, m2, hf, cond_true, cond_false, dapp1]
              rfl
        · have hb2 : b.toNat ≠ 2 := fun e => h2 (UInt8.toNat_inj.1 e)
          have q2 : ieq (b.toNat : Int) 2 = false := ieq_f.2 (by omega)
          have m1 : mustM false 0 = 5 := rfl
          have r2 := take_eq 1 5 s (at' + 1) hs (by omega) (by omega)
          have t2 : takeM 1 5 s (at' + 1) = (([0], ()), 5, s, ((at' + 1 : Nat) : Int), ()) := by
            unfold takeM
            rw [if_neg (by omega)]
            rfl
          rw [t2, ← e1] at r2
          refine key (out ++ [((b.toNat : Int), Id.zero, 0, ())]) (at' + 1) 5 (by omega) ?_ (by rw [hd]; simp [readE, h1, h2]) (fun h => absurd h (by decide))
          have b2 : iwrap IntKind.i64 (u8i (sget [0] 0)) = 0 := rfl
          have m2 : mustM (ilt 0 16) 5 = 5 := rfl
          have j3 : ilt 0 (dlen [(0 : UInt8)]) = true := rfl
          simp only [rstackReadx7, c0, ieq_s, r1, bS_some, i0, j2, b0, q1, q2, must_eq, m1, r2, j3, b2, m2, hf, cond_true, cond_false, dapp1]
theorem stackRead_eq (s : List UInt8) (hs : s.length ≤ 1000) : ostackRead ((s, ()), ()) = some (((readS s).1, ((readS s).2.1 : Int), (readS s).2.2, ()), ()) := by
  rw [ostackRead_eq, bstackRead]
  have e1 : (1 : Int) = ((1 : Nat) : Int) := rfl
  have i0 : ile 0 0 = true := rfl
  have r1 := take_eq 1 0 s 0 hs (by omega) (by omega)
  cases hd : s with
  | nil =>
    rw [hd] at r1
    have t1 : takeM 1 0 [] 0 = (([0], ()), 3, [], 0, ()) := rfl
    rw [t1, ← e1] at r1
    have r1 : ostackRead_1 ((1, (), (), (), ()), 0, [], 0, ()) = some (([0], ()), 3, [], 0, ()) := r1
    have b0 : iwrap IntKind.i64 (u8i (sget [0] 0)) = 0 := rfl
    have j1 : ile 1 0 = false := rfl
    have j2 : ilt 0 (dlen [(0 : UInt8)]) = true := rfl
    have m1 : mustM false 3 = 3 := rfl
    simp only [r1, bS_some, i0, j2, b0, j1, must_eq, m1, cond_true, cond_false, wstackReadx7_eq, exit7 _ _ _ _ _ (.inr (show (3 : Int) ≠ 0 by decide)), bL_inl]
    rfl
  | cons b t =>
    rw [hd] at r1 hs
    have t1 : takeM 1 0 (b :: t) 0 = (([b], ()), 0, b :: t, 1, ()) := by
      unfold takeM
      rw [if_pos ⟨rfl, by simp⟩]
      rfl
    rw [t1, ← e1] at r1
    have r1 : ostackRead_1 ((1, (), (), (), ()), 0, b :: t, 0, ()) = some (([b], ()), 0, b :: t, 1, ()) := r1
    have b0 : iwrap IntKind.i64 (u8i (sget [b] 0)) = (b.toNat : Int) := byte_eq b
    have j2 : ilt 0 (dlen [b]) = true := rfl
    have k1 : ile 1 (b.toNat : Int) = decide (1 ≤ b.toNat) := by rw [ile_eq]; congr 1; rw [eq_iff_iff]; omega
    have k4 : ile (b.toNat : Int) 4 = decide (b.toNat ≤ 4) := by rw [ile_eq]; congr 1; rw [eq_iff_iff]; omega
    simp only [r1, bS_some, i0, j2, b0, k1, k4, must_eq, cond_true, cond_false, wstackReadx7_eq]
    unfold readS
    by_cases h1 : b.toNat < 1
    · have m1 : mustM false 0 = 5 := rfl
      simp only [show ¬ (1 ≤ b.toNat) by omega, decide_false, cond_false, m1, exit7 _ _ _ _ _ (.inr (show (5 : Int) ≠ 0 by decide)), bL_inl]
      rw [if_pos (.inl h1)]
      rfl
    · by_cases h4 : 4 < b.toNat
      · have m1 : mustM false 0 = 5 := rfl
        simp only [show (1 ≤ b.toNat) by omega, show ¬ (b.toNat ≤ 4) by omega, decide_true, decide_false, cond_true, cond_false, m1, exit7 _ _ _ _ _ (.inr (show (5 : Int) ≠ 0 by decide)), bL_inl]
        rw [if_pos (.inr h4)]
        rfl
      · have m1 : mustM true 0 = 0 := rfl
        obtain ⟨o, a, bad, hw, hi⟩ := read_loop (b :: t) hs b.toNat (by omega) b.toNat [] 1 (by simp) (by simp)
        have hw : whl rstackReadx7 (((), (), ((), (), (), (), ()), ((), (), ()), (b.toNat : Int), [], ()), 1, 0, b :: t, (), ()) = some (.inl (((), (), o, ()), a, bad, ())) := hw
        have hdr : (b :: t).drop 1 = t := rfl
        rw [hdr] at hi
        simp only [show (1 ≤ b.toNat) by omega, show (b.toNat ≤ 4) by omega, decide_true, cond_true, m1, hw, bL_inl]
        rw [if_neg (by omega)]
        by_cases hq : (readN b.toNat t).2.2 = 0
        · rw [if_pos hq] at hi ⊢
          obtain ⟨i1, i2, i3⟩ := hi
          rw [i3, i1, i2]
          simp only [ieq_s, cond_true, cond_false, List.nil_append]
          rw [show 1 + (readN b.toNat t).2.1 = (readN b.toNat t).2.1 + 1 by omega]
        · rw [if_neg hq] at hi ⊢
          rw [hi, ieq_f.2 hq]
          rfl

end Am
end Go.Proofs.Ythnmiialdjifiaa
