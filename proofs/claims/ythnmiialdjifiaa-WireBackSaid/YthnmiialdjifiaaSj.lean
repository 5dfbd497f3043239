/-
  Stacks: what is read, by the document; the law.
-/
import Derived.Test.YthnmiialdjifiaaSk
namespace Go.Proofs.Ythnmiialdjifiaa
namespace Am
open Go Go.RowKit
set_option linter.unusedVariables false
set_option linter.unusedSimpArgs false
set_option maxRecDepth 10000

theorem over_l (a : Id) (l : List UInt8) (h : l.length ≤ 32) : (a.over l).l = l ++ a.l.drop l.length := by
  unfold Id.over
  rw [dif_pos h]
theorem over_step (l : List UInt8) (k : Nat) (hk : k < 32) (hl : 32 ≤ l.length) : idset (Id.zero.over (l.take k)) k (l.getD k 0) = Id.zero.over (l.take (k + 1)) := by
  apply Id.ext'
  have h1 : (l.take k).length = k := by rw [List.length_take]; omega
  have h2 : (l.take (k + 1)).length = k + 1 := by rw [List.length_take]; omega
  show ((Id.zero.over (l.take k)).l.set k (l.getD k 0)) = _
  rw [over_l _ _ (by omega), over_l _ _ (by omega), h1, h2, take_getD (d := 0) (show k < l.length by omega)]
  have hz : Id.zero.l.drop k = 0 :: Id.zero.l.drop (k + 1) := by
    rw [List.drop_eq_getElem_cons (by rw [Id.zero.h]; exact hk)]
    congr 1
    exact List.getElem_replicate ..
  rw [hz, List.set_append_right _ _ (by omega), h1, Nat.sub_self, List.set_cons_zero, List.append_assoc]
  rfl
theorem id_loop (s : List UInt8) (many i : Int) (rest : List UInt8) (need : Int) (q : Unit × Int × Int × Unit) (t : List Ent × Int × Int × Unit) (kind : Int) (hr : 33 ≤ rest.length) (hr2 : rest.length ≤ 2000) :
    wref04Readx24 ((s, (), many, (), i, rest, need, (), 0, ()), q, t, (kind, Id.zero, 0, ()), (), ()) = some (.inl ((s, (), many, (), i, need, (), ()), q, t, (kind, Id.zero.over ((rest.drop 1).take 32), 0, ()), (), ())) := by
  obtain ⟨⟨⟩, q1, q2, ⟨⟩⟩ := q
  obtain ⟨t1, t2, t3, ⟨⟩⟩ := t
  rw [wref04Readx24_eq]
  have hl : 32 ≤ (rest.drop 1).length := by rw [List.length_drop]; omega
  have h := whl_up (g := rref04Readx24) (fun k => ((s, (), many, (), i, rest, need, (), (k : Int), ()), ((), q1, q2, ()), (t1, t2, t3, ()), (kind, Id.zero.over ((rest.drop 1).take k), 0, ()), (), ())) (.inl ((s, (), many, (), i, need, (), ()), ((), q1, q2, ()), (t1, t2, t3, ()), (kind, Id.zero.over ((rest.drop 1).take 32), 0, ()), (), ())) 32
    (by
      have e32 : ilt ((32 : Nat) : Int) 32 = false := rfl
      simp only [rref04Readx24, e32, cond_false])
    (fun k hk => by
      have e32 : ilt (k : Int) 32 = true := ilt_t.2 (by omega)
      have e1 : iwrap IntKind.i64 (iadd 1 (k : Int)) = ((k + 1 : Nat) : Int) := by unfold iadd; rw [iwrap_i64 (by omega) (by omega)]; omega
      have e2 : ilt ((k + 1 : Nat) : Int) (dlen rest) = true := ilt_t.2 (by rw [dlen_eq]; omega)
      have e3 : sget rest ((k + 1 : Nat) : Int) = (rest.drop 1).getD k 0 := by
        unfold sget
        rw [Int.toNat_natCast]
        simp [Nat.add_comm]
      simp only [rref04Readx24, e32, e1, e2, e3, ile_nat, inat_eq, cond_true, inc_nat (show k < 4611686018427387904 by omega), over_step _ k hk hl]) 32 0 (by omega)
  have e0 : Id.zero.over ((rest.drop 1).take 0) = Id.zero := by
    apply Id.ext'
    rw [over_l _ _ (by simp)]
    simp
  simp only [e0] at h
  exact h
theorem sub_end (s : List UInt8) (a : Nat) (h : a ≤ s.length) : dsub s (a : Int) (dlen s) = s.drop a := by
  rw [dlen_eq, dsub_eq, List.take_of_length_le]
  rw [List.length_drop]; omega
theorem read8 (s : List UInt8) (hs : s.length ≤ 1000) (many : Nat) (hm : many ≤ 4) (q1 q2 : Int) : ∀ (k i : Nat) (out : List Ent) (a : Nat), i + k = many → out.length = i → a ≤ s.length →
    whl rref04Readx8 ((s, (), (many : Int), (), (i : Int), ()), ((), q1, q2, ()), (out, (a : Int), 0, ()), (), ()) =
      some (if (readN k (s.drop a)).2.2 = 0 then .inr (.inl (((), (), ()), ((), q1, q2, ()), (out ++ (readN k (s.drop a)).1, ((a + (readN k (s.drop a)).2.1 : Nat) : Int), 0, ()), ())) else .inl (((), ()), ((), 0, (readN k (s.drop a)).2.2, ()), ()))
  | 0, i, out, a, h, ho, hat => by
    have c0 : ilt (i : Int) (many : Int) = false := ilt_f.2 (by omega)
    refine (whl_inr (b := .inr (.inl (((), (), ()), ((), q1, q2, ()), (out, (a : Int), 0, ()), ()))) ?_).trans ?_
    · simp only [rref04Readx8, c0, cond_false]
    · simp [readN]
  | k + 1, i, out, a, h, ho, hat => by
    have c0 : ilt (i : Int) (many : Int) = true := ilt_t.2 (by omega)
    have ca : ile (a : Int) (dlen s) = true := ile_t.2 (by rw [dlen_eq]; omega)
    have cs : ile (dlen s) (dlen s) = true := ile_t.2 (Int.le_refl _)
    have i0 : ile 0 0 = true := rfl
    have i01 : ile 0 1 = true := rfl
    have hf : fits (dlen out) (1 : Int) 48 = true := fits1n (by omega) (by omega)
    -- by what the next entry is
    have bad : (readE (s.drop a)).2.2 ≠ 0 → rref04Readx8 ((s, (), (many : Int), (), (i : Int), ()), ((), q1, q2, ()), (out, (a : Int), 0, ()), (), ()) = some (.inr (.inl (((), ()), ((), 0, (readE (s.drop a)).2.2, ()), ()))) →
        whl rref04Readx8 ((s, (), (many : Int), (), (i : Int), ()), ((), q1, q2, ()), (out, (a : Int), 0, ()), (), ()) =
          some (if (readN (k + 1) (s.drop a)).2.2 = 0 then .inr (.inl (((), (), ()), ((), q1, q2, ()), (out ++ (readN (k + 1) (s.drop a)).1, ((a + (readN (k + 1) (s.drop a)).2.1 : Nat) : Int), 0, ()), ())) else .inl (((), ()), ((), 0, (readN (k + 1) (s.drop a)).2.2, ()), ())) := by
      intro hne hr
      rw [whl_inr hr]
      have hN : readN (k + 1) (s.drop a) = ([], 0, (readE (s.drop a)).2.2) := by rw [readN, if_neg hne]
      rw [hN, if_neg hne]
    have good : (readE (s.drop a)).2.2 = 0 → rref04Readx8 ((s, (), (many : Int), (), (i : Int), ()), ((), q1, q2, ()), (out, (a : Int), 0, ()), (), ()) = some (.inl ((s, (), (many : Int), (), ((i + 1 : Nat) : Int), ()), ((), q1, q2, ()), (out ++ [(readE (s.drop a)).1], ((a + (readE (s.drop a)).2.1 : Nat) : Int), 0, ()), (), ())) →
        whl rref04Readx8 ((s, (), (many : Int), (), (i : Int), ()), ((), q1, q2, ()), (out, (a : Int), 0, ()), (), ()) =
          some (if (readN (k + 1) (s.drop a)).2.2 = 0 then .inr (.inl (((), (), ()), ((), q1, q2, ()), (out ++ (readN (k + 1) (s.drop a)).1, ((a + (readN (k + 1) (s.drop a)).2.1 : Nat) : Int), 0, ()), ())) else .inl (((), ()), ((), 0, (readN (k + 1) (s.drop a)).2.2, ()), ())) := by
      intro he hr
      rw [whl_inl hr]
      have hu := readE_used _ he
      rw [List.length_drop] at hu
      rw [read8 s hs many hm q1 q2 k (i + 1) _ (a + (readE (s.drop a)).2.1) (by omega) (by simp; omega) (by omega)]
      have hd : (s.drop a).drop (readE (s.drop a)).2.1 = s.drop (a + (readE (s.drop a)).2.1) := List.drop_drop ..
      have hN : readN (k + 1) (s.drop a) = if (readN k (s.drop (a + (readE (s.drop a)).2.1))).2.2 = 0 then ((readE (s.drop a)).1 :: (readN k (s.drop (a + (readE (s.drop a)).2.1))).1, (readE (s.drop a)).2.1 + (readN k (s.drop (a + (readE (s.drop a)).2.1))).2.1, 0) else ([], 0, (readN k (s.drop (a + (readE (s.drop a)).2.1))).2.2) := by
        rw [readN, if_pos he, hd]
      rw [hN]
      by_cases hq : (readN k (s.drop (a + (readE (s.drop a)).2.1))).2.2 = 0
      · rw [if_pos hq, if_pos hq, if_pos rfl]
        simp only [List.append_assoc, List.singleton_append, Nat.add_assoc]
      · rw [if_neg hq, if_neg hq, if_neg hq]
    have hi1 := inc_nat (show i < 4611686018427387904 by omega)
    cases hd : s.drop a with
    | nil =>
      rw [← hd]
      refine bad (by rw [hd]; decide) ?_
      have e0 : ieq (dlen (s.drop a)) 0 = true := by rw [hd]; rfl
      simp only [rref04Readx8, c0, ile_nat, ca, cs, sub_end s a hat, e0, cond_true]
      rw [hd]
      rfl
    | cons b t =>
      have e0 : ieq (dlen (b :: t)) 0 = false := ieq_f.2 (by rw [dlen_eq, List.length_cons]; omega)
      have e1 : ilt 0 (dlen (b :: t)) = true := ilt_t.2 (by rw [dlen_eq, List.length_cons]; omega)
      have g0 : sget (b :: t) 0 = b := rfl
      have htl : t.length ≤ 1000 := by have := congrArg List.length hd; rw [List.length_drop, List.length_cons] at this; omega
      rw [← hd]
      have hrd : rref04Readx8 ((s, (), (many : Int), (), (i : Int), ()), ((), q1, q2, ()), (out, (a : Int), 0, ()), (), ()) = rref04Readx8 ((s, (), (many : Int), (), (i : Int), ()), ((), q1, q2, ()), (out, (a : Int), 0, ()), (), ()) := rfl
      have u1 : u8i (iu8 1) = 1 := rfl
      have u2 : u8i (iu8 2) = 2 := rfl
      have ub : u8i b = (b.toNat : Int) := rfl
      by_cases h1 : b = 1
      · subst h1
        have q : u8eq 1 (iu8 1) = true := rfl
        have l1 : ilt (u8i 1) 1 = false := rfl
        have l2 : ilt 2 (u8i 1) = false := rfl
        have n2 : ieq 33 2 = false := rfl
        have k1 : iwrap IntKind.i64 (u8i 1) = 1 := rfl
        by_cases h32 : t.length < 32
        · have hE : readE (s.drop a) = (noE, 0, 3) := by rw [hd]; simp [readE, h32]
          refine bad (by rw [hE]; decide) ?_
          have e33 : ilt (dlen ((1 : UInt8) :: t)) 33 = true := ilt_t.2 (by rw [dlen_eq, List.length_cons]; omega)
          rw [hE]
          simp only [rref04Readx8, c0, ile_nat, ca, cs, sub_end s a hat, hd, e0, e1, g0, i0, q, u1, u2, l1, l2, e33, cond_true, cond_false]
        · have hE : readE (s.drop a) = ((1, Id.zero.over (t.take 32), 0, ()), 33, 0) := by rw [hd]; simp [readE, h32]
          refine good (by rw [hE]) ?_
          have e33 : ilt (dlen ((1 : UInt8) :: t)) 33 = false := ilt_f.2 (by rw [dlen_eq, List.length_cons]; omega)
          rw [hE]
          have ew : iwrap IntKind.i64 (iadd (a : Int) 33) = ((a + 33 : Nat) : Int) := by unfold iadd; rw [iwrap_i64 (by omega) (by omega)]; omega
          have l15 : ilt 15 0 = false := rfl
          simp only [rref04Readx8, c0, ile_nat, ca, cs, sub_end s a hat, hd, e0, e1, g0, i0, q, u1, u2, l1, l2, e33, n2, k1, cond_true, cond_false]
          have hil := id_loop s (many : Int) (i : Int) ((1 : UInt8) :: t) 33 ((), q1, q2, ()) (out, (a : Int), 0, ()) 1 (by simp; omega) (by simp; omega)
          simp only [hil, bL_inl, l15, cond_false, hf, cond_true, hi1, ew, dapp1, List.drop_succ_cons, List.drop_zero]
      · have hb1 : b.toNat ≠ 1 := fun e => h1 (UInt8.toNat_inj.1 e)
        have q : u8eq b (iu8 1) = false := u8eq_f.2 h1
        by_cases h2 : b = 2
        · subst h2
          have l1 : ilt (u8i 2) 1 = false := rfl
          have l2 : ilt 2 (u8i 2) = false := rfl
          have n2 : ieq 2 2 = true := rfl
          have k1 : iwrap IntKind.i64 (u8i 2) = 2 := rfl
          cases htt : t with
          | nil =>
            have hE : readE (s.drop a) = (noE, 0, 3) := by rw [hd, htt]; rfl
            refine bad (by rw [hE]; decide) ?_
            have e2 : ilt (dlen ((2 : UInt8) :: t)) 2 = true := by rw [htt]; rfl
            rw [hE]
            simp only [rref04Readx8, c0, ile_nat, ca, cs, sub_end s a hat, hd, e0, e1, g0, i0, q, u1, u2, l1, l2, e2, cond_true, cond_false]
          | cons hh tt =>
            have e2 : ilt (dlen ((2 : UInt8) :: t)) 2 = false := ilt_f.2 (by rw [htt, dlen_eq]; simp; omega)
            have e11 : ilt 1 (dlen ((2 : UInt8) :: t)) = true := ilt_t.2 (by rw [htt, dlen_eq]; simp; omega)
            have g1 : sget ((2 : UInt8) :: t) 1 = hh := by rw [htt]; rfl
            have bh := byte_eq hh
            by_cases h15 : 15 < hh.toNat
            · have hE : readE (s.drop a) = (noE, 0, 5) := by rw [hd, htt]; simp [readE, h15]
              refine bad (by rw [hE]; decide) ?_
              have l15 : ilt 15 (hh.toNat : Int) = true := ilt_t.2 (by omega)
              rw [hE]
              simp only [rref04Readx8, c0, ile_nat, ca, cs, sub_end s a hat, hd, e0, e1, g0, i0, i01, q, u1, u2, l1, l2, e2, n2, e11, g1, bh, l15, cond_true, cond_false]
            · have hE : readE (s.drop a) = ((2, Id.zero, (hh.toNat : Int), ()), 2, 0) := by rw [hd, htt]; simp [readE, h15]
              refine good (by rw [hE]) ?_
              have l15 : ilt 15 (hh.toNat : Int) = false := ilt_f.2 (by omega)
              have ew : iwrap IntKind.i64 (iadd (a : Int) 2) = ((a + 2 : Nat) : Int) := by unfold iadd; rw [iwrap_i64 (by omega) (by omega)]; omega
              rw [hE]
              simp only [rref04Readx8, c0, ile_nat, ca, cs, sub_end s a hat, hd, e0, e1, g0, i0, i01, q, u1, u2, l1, l2, e2, n2, e11, g1, bh, l15, k1, hf, hi1, ew, cond_true, cond_false, dapp1]
        · have hb2 : b.toNat ≠ 2 := fun e => h2 (UInt8.toNat_inj.1 e)
          have hE : readE (s.drop a) = (noE, 0, 5) := by rw [hd]; simp [readE, h1, h2]
          refine bad (by rw [hE]; decide) ?_
          rw [hE]
          by_cases hz : b.toNat < 1
          · have l1 : ilt (u8i b) 1 = true := ilt_t.2 (by rw [ub]; omega)
            simp only [rref04Readx8, c0, ile_nat, ca, cs, sub_end s a hat, hd, e0, e1, g0, i0, q, u1, u2, l1, cond_true, cond_false]
          · have l1 : ilt (u8i b) 1 = false := ilt_f.2 (by rw [ub]; omega)
            have l2 : ilt 2 (u8i b) = true := ilt_t.2 (by rw [ub]; omega)
            simp only [rref04Readx8, c0, ile_nat, ca, cs, sub_end s a hat, hd, e0, e1, g0, i0, q, u1, u2, l1, l2, cond_true, cond_false]
theorem ref04Read_eq (s : List UInt8) (hs : s.length ≤ 1000) : oref04Read ((s, ()), ()) = some ((((readS s).1, ((readS s).2.1 : Int), (readS s).2.2, ()), ()), ()) := by
  rw [oref04Read_eq, bref04Read]
  have i0 : ile 0 0 = true := rfl
  cases hd : s with
  | nil => rfl
  | cons b t =>
    rw [hd] at hs
    have e0 : ieq (dlen (b :: t)) 0 = false := ieq_f.2 (by rw [dlen_eq, List.length_cons]; omega)
    have e1 : ilt 0 (dlen (b :: t)) = true := ilt_t.2 (by rw [dlen_eq, List.length_cons]; omega)
    have g0 : iwrap IntKind.i64 (u8i (sget (b :: t) 0)) = (b.toNat : Int) := byte_eq b
    have k1 : ilt (b.toNat : Int) 1 = decide (b.toNat < 1) := by rw [ilt_eq]; congr 1; rw [eq_iff_iff]; omega
    have k4 : ilt 4 (b.toNat : Int) = decide (4 < b.toNat) := by rw [ilt_eq]; congr 1; rw [eq_iff_iff]; omega
    simp only [e0, e1, i0, g0, k1, k4, cond_true, cond_false, wref04Readx8_eq]
    unfold readS
    by_cases h1 : b.toNat < 1
    · simp only [h1, decide_true, cond_true, cond_false, true_or, if_true]
      rfl
    · by_cases h4 : 4 < b.toNat
      · simp only [h1, h4, decide_true, decide_false, cond_true, cond_false, or_true, if_true]
        rfl
      · have h := read8 (b :: t) hs b.toNat (by omega) 0 0 b.toNat 0 [] 1 (by omega) rfl (by simp)
        have h : whl rref04Readx8 ((b :: t, (), (b.toNat : Int), (), 0, ()), ((), 0, 0, ()), ([], 1, 0, ()), (), ()) = _ := h
        have hdr : (b :: t).drop 1 = t := rfl
        rw [hdr] at h
        simp only [h1, h4, decide_false, cond_true, cond_false, or_self, if_false, h]
        by_cases hq : (readN b.toNat t).2.2 = 0
        · simp only [hq, if_true, bL_inr, bL_inl, List.nil_append]
          rw [show 1 + (readN b.toNat t).2.1 = (readN b.toNat t).2.1 + 1 by omega]
        · simp only [hq, if_false, bL_inl]
          rfl

end Am
end Go.Proofs.Ythnmiialdjifiaa
