/-
  Wire: a message is read off a text.
-/
import Derived.Test.YthnmiialdjifiaaSl
namespace Go.Proofs.Ythnmiialdjifiaa
namespace Am
open Go Go.RowKit
set_option linter.unusedVariables false
set_option linter.unusedSimpArgs false
set_option maxRecDepth 10000

theorem take_rd (n : Nat) (s : List UInt8) : o__wireReader_Take (((), (n : Int), ()), (s, ()), ()) = some (if n ≤ s.length then .ok ((s.take n, ()), (s.drop n, ()), ()) else .pan) := by
  rw [o__wireReader_Take_eq, b__wireReader_Take]
  by_cases h : n ≤ s.length
  · have c1 : ilt (dlen s) (n : Int) = false := ilt_f.2 (by rw [dlen_eq]; omega)
    have c2 : ile 0 (n : Int) = true := ile_nat
    have c3 : ile (n : Int) (dlen s) = true := ile_t.2 (by rw [dlen_eq]; omega)
    have c4 : ile (dlen s) (dlen s) = true := ile_t.2 (Int.le_refl _)
    have i0 : ile 0 0 = true := rfl
    have d1 : dsub s 0 (n : Int) = s.take n := by rw [show (0 : Int) = ((0 : Nat) : Int) from rfl, dsub_eq]; simp
    have d2 : dsub s (n : Int) (dlen s) = s.drop n := by
      rw [dlen_eq, dsub_eq, List.take_of_length_le]
      rw [List.length_drop]; omega
    simp only [c1, c2, c3, c4, i0, d1, d2, cond_true, cond_false, if_pos h]
  · have c1 : ilt (dlen s) (n : Int) = true := ilt_t.2 (by rw [dlen_eq]; omega)
    simp only [c1, cond_true, if_neg h]
theorem entries_rd (s : List UInt8) (hs : s.length ≤ 1000) : o__wireReader_Entries (((), ()), (s, ()), ()) = some (if (readS s).2.2 = 0 then .ok (((readS s).1, ()), (s.drop (readS s).2.1, ()), ()) else .pan) := by
  rw [o__wireReader_Entries_eq, b__wireReader_Entries]
  simp only [stackRead_eq s hs, bS_some]
  by_cases h : (readS s).2.2 = 0
  · have hu := (readS_back s h).2.2
    simp only [h, ieq_s, cond_true, cond_false, if_true, take_rd, if_pos hu, isPan_ok, okP_ok, bS_some]
  · simp only [ieq_f.2 h, cond_true, cond_false, if_neg h]
/-- a number of some bytes -/
def numK (l : List UInt8) : Nat → Int
  | 0 => 0
  | k + 1 => bitsI BinOp.or IntKind.i64 (numK l k) (iwrap IntKind.i64 (ishl (iwrap IntKind.i64 (u8i (l.getD k 0))) (ibits (iwrap IntKind.i64 (imul 8 (k : Int))) IntKind.i64)))
def numM (l : List UInt8) : Int := numK l l.length
theorem num_loop (l s : List UInt8) (hl : l.length ≤ 100) : w__wireReader_Numberx3 ((0, l, dlen l, 0, ()), (s, ()), ()) = some (.inl ((numM l, ()), (s, ()), ())) := by
  rw [w__wireReader_Numberx3_eq]
  have h := whl_up (g := r__wireReader_Numberx3) (fun k => ((numK l k, l, dlen l, (k : Int), ()), (s, ()), ())) (.inl ((numM l, ()), (s, ()), ())) l.length
    (by simp only [r__wireReader_Numberx3, bifF (ilt_len' (xs := l) (Nat.le_refl _)), numM])
    (fun k hk => by
      have e8 : ile 0 (iwrap IntKind.i64 (imul 8 (k : Int))) = true := by
        have : iwrap IntKind.i64 (imul 8 (k : Int)) = ((8 * k : Nat) : Int) := by
          unfold imul
          rw [iwrap_i64 (by omega) (by omega)]
          omega
        rw [this]; exact ile_nat
      have hg : dget Ty.u8 l (k : Int) = l.getD k 0 := dget_eq Ty.u8 l k
      simp only [r__wireReader_Numberx3, bifT (ilt_len hk), bifT ile_nat, bifT e8, hg, inc_nat (show k < 4611686018427387904 by omega)]
      rfl) l.length 0 (by omega)
  exact h
theorem number_rd (s : List UInt8) : o__wireReader_Number (((), ()), (s, ()), ()) = some (if 8 ≤ s.length then .ok ((numM (s.take 8), ()), (s.drop 8, ()), ()) else .pan) := by
  rw [o__wireReader_Number_eq, b__wireReader_Number]
  have ht := take_rd 8 s
  rw [show ((8 : Nat) : Int) = 8 from rfl] at ht
  by_cases h : 8 ≤ s.length
  · rw [if_pos h] at ht
    have hl : (s.take 8).length ≤ 100 := by rw [List.length_take]; omega
    simp only [ht, isPan_ok, okP_ok, bS_some, cond_false, num_loop _ _ hl, bL_inl, if_pos h]
  · rw [if_neg h] at ht
    simp only [ht, isPan_pan, cond_true, if_neg h]

/- a message's fields, one behind the other -/
def rdData (f : Fl) (r : List UInt8) (m : Wm) : List UInt8 × Wm :=
  if f.2.2.2.2.2.1 = true then ([], (m.1, m.2.1, m.2.2.1, m.2.2.2.1, m.2.2.2.2.1, m.2.2.2.2.2.1, r, ())) else (r, m)
def rdNon (f : Fl) (r : List UInt8) (m : Wm) : Option (List UInt8 × Wm) :=
  if f.2.2.2.2.1 = true then (if 16 ≤ r.length then some (rdData f (r.drop 16) (m.1, m.2.1, m.2.2.1, m.2.2.2.1, m.2.2.2.2.1, r.take 16, m.2.2.2.2.2.2.1, ())) else none) else some (rdData f r m)
def rdNum (f : Fl) (r : List UInt8) (m : Wm) : Option (List UInt8 × Wm) :=
  if f.2.2.2.1 = true then (if 8 ≤ r.length then rdNon f (r.drop 8) (m.1, m.2.1, m.2.2.1, m.2.2.2.1, numM (r.take 8), m.2.2.2.2.2.1, m.2.2.2.2.2.2.1, ()) else none) else rdNon f r m
def rdStk (f : Fl) (r : List UInt8) (k : Int) (i : Id) (t : Ent) : Option (List UInt8 × Wm) :=
  if f.2.2.1 = true then (if (readS r).2.2 = 0 then rdNum f (r.drop (readS r).2.1) (k, i, t, (readS r).1, 0, [], [], ()) else none) else rdNum f r (k, i, t, [], 0, [], [], ())
def rdTgt (f : Fl) (r : List UInt8) (k : Int) (i : Id) : Option (List UInt8 × Wm) :=
  if f.2.1 = true then (if (readS r).2.2 = 0 then rdStk f (r.drop (readS r).2.1) k i ((readS r).1.getD 0 noE) else none) else rdStk f r k i noE
def rdId (f : Fl) (r : List UInt8) (k : Int) : Option (List UInt8 × Wm) :=
  if f.1 = true then (if 32 ≤ r.length then rdTgt f (r.drop 32) k (Id.zero.over (r.take 32)) else none) else rdTgt f r k Id.zero
def rdMsg : List UInt8 → Option (List UInt8 × Wm)
  | [] => none
  | b :: t => if isK (b.toNat : Int) = true then rdId (fl (b.toNat : Int)) t (b.toNat : Int) else none

def cutR (o : Option (List UInt8 × Wm)) : Option (PanR (((Unit × Unit) × (List UInt8 × Unit) × Wm × Unit) ⊕ Empty)) := some (match o with
  | some x => .ok (.inl (((), ()), (x.1, ()), x.2, ()))
  | none => .pan)
theorem pass_cut (o : Option (List UInt8 × Wm)) : (bif isPan (cutR o) then some PanR.pan else bL (okP (cutR o)) (fun v1 => some (PanR.ok (Sum.inl (((), ()), v1.snd)))) fun u1 => none) = cutR o := by cases o <;> rfl
theorem take_len (r : List UInt8) : o__wireReader_Take (((), dlen r, ()), (r, ()), ()) = some (.ok ((r, ()), ([], ()), ())) := by
  have h := take_rd r.length r
  rw [if_pos (Nat.le_refl _), List.take_length, List.drop_length] at h
  exact h
theorem w15_eq (r : List UInt8) (z : Int × Id × Ent × Unit × Int × List UInt8 × List UInt8 × Unit) (m : Wm) (f : Fl) : w__wireReader_Messagex1000015 (((), (), (), (), ()), (r, ()), z, m, f, ()) = cutR (some (rdData f r m)) := by
  obtain ⟨z1, z2, z3, z4, z5, z6, z7, z8⟩ := z
  rw [w__wireReader_Messagex1000015_eq]
  simp only [r__wireReader_Messagex1000015, w__wireReader_Messagex1000017_eq, r__wireReader_Messagex1000017, take_len, isPan_ok, okP_ok, bS_some, bL_inl, cond_false, rdData]
  cases f.2.2.2.2.2.1 <;> rfl
theorem w13_eq (r : List UInt8) (z : Int × Id × Ent × Unit × Int × List UInt8 × List UInt8 × Unit) (m : Wm) (f : Fl) : w__wireReader_Messagex1000013 (((), (), (), (), ()), (r, ()), z, m, f, ()) = cutR (rdNon f r m) := by
  obtain ⟨z1, z2, z3, z4, z5, z6, z7, z8⟩ := z
  rw [w__wireReader_Messagex1000013_eq]
  have ht := take_rd 16 r
  rw [show ((16 : Nat) : Int) = 16 from rfl] at ht
  simp only [r__wireReader_Messagex1000013, w15_eq, ht, pass_cut, rdNon]
  cases f.2.2.2.2.1
  · rfl
  · by_cases h : 16 ≤ r.length
    · simp only [h, if_true, cond_true, isPan_ok, okP_ok, bS_some, cond_false, w15_eq, pass_cut]
    · simp only [h, if_false, cond_true, isPan_pan, if_true]; rfl
theorem w11_eq (r : List UInt8) (z : Int × Id × Ent × Unit × Int × List UInt8 × List UInt8 × Unit) (m : Wm) (f : Fl) : w__wireReader_Messagex1000011 (((), (), (), (), ()), (r, ()), z, m, f, ()) = cutR (rdNum f r m) := by
  obtain ⟨z1, z2, z3, z4, z5, z6, z7, z8⟩ := z
  rw [w__wireReader_Messagex1000011_eq]
  simp only [r__wireReader_Messagex1000011, w13_eq, number_rd, pass_cut, rdNum]
  cases f.2.2.2.1
  · rfl
  · by_cases h : 8 ≤ r.length
    · simp only [h, if_true, cond_true, isPan_ok, okP_ok, bS_some, cond_false, w13_eq, pass_cut]
    · simp only [h, if_false, cond_true, isPan_pan, if_true]; rfl
theorem w9_eq (r : List UInt8) (hr : r.length ≤ 1000) (z : Int × Id × Ent × Unit × Int × List UInt8 × List UInt8 × Unit) (k : Int) (i : Id) (t : Ent) (f : Fl) : w__wireReader_Messagex1000009 (((), (), (), (), ()), (r, ()), z, (k, i, t, (), 0, [], [], ()), f, ()) = cutR (rdStk f r k i t) := by
  obtain ⟨z1, z2, z3, z4, z5, z6, z7, z8⟩ := z
  rw [w__wireReader_Messagex1000009_eq]
  simp only [r__wireReader_Messagex1000009, w11_eq, entries_rd r hr, pass_cut, rdStk]
  cases f.2.2.1
  · rfl
  · by_cases h : (readS r).2.2 = 0
    · simp only [h, if_true, cond_true, isPan_ok, okP_ok, bS_some, cond_false, w11_eq, pass_cut]
    · simp only [h, if_false, cond_true, isPan_pan, if_true]; rfl
theorem w7_eq (r : List UInt8) (hr : r.length ≤ 1000) (z : Int × Id × Ent × Unit × Int × List UInt8 × List UInt8 × Unit) (k : Int) (i : Id) (f : Fl) : w__wireReader_Messagex1000007 (((), (), (), (), ()), (r, ()), z, (k, i, noE, (), 0, [], [], ()), f, ()) = cutR (rdTgt f r k i) := by
  obtain ⟨z1, z2, z3, z4, z5, z6, z7, z8⟩ := z
  rw [w__wireReader_Messagex1000007_eq]
  have hn : noE = (0, Id.zero, 0, ()) := rfl
  have e0 : ∀ l : List Ent, dget ((Ty.int IntKind.i64).pair (Ty.id.pair ((Ty.int IntKind.i64).pair Ty.unit))) l 0 = l.getD 0 noE := fun l => entget l 0
  simp only [r__wireReader_Messagex1000007, w9_eq r hr, entries_rd r hr, pass_cut, rdTgt, e0]
  cases f.2.1
  · rfl
  · by_cases h : (readS r).2.2 = 0
    · have hl := (rightS_facts (readS_back r h).1).1
      have hc : (bif ile 0 0 then ilt 0 (dlen (readS r).1) else false) = true := by
        rw [bifT (show ile 0 0 = true from rfl)]
        exact ilt_t.2 (by rw [dlen_eq]; omega)
      simp only [h, if_true, cond_true, isPan_ok, okP_ok, bS_some, cond_false, hc, w9_eq (r.drop (readS r).2.1) (by rw [List.length_drop]; omega), pass_cut]
    · simp only [h, if_false, cond_true, isPan_pan, if_true]; rfl
theorem w5_eq (r : List UInt8) (hr : r.length ≤ 1000) (z : Int × Id × Ent × Unit × Int × List UInt8 × List UInt8 × Unit) (k : Int) (f : Fl) : w__wireReader_Messagex1000005 (((), (), (), (), ()), (r, ()), z, (k, Id.zero, noE, (), 0, [], [], ()), f, ()) = cutR (rdId f r k) := by
  obtain ⟨z1, z2, z3, z4, z5, z6, z7, z8⟩ := z
  rw [w__wireReader_Messagex1000005_eq]
  have hn : noE = (0, Id.zero, 0, ()) := rfl
  have ht := take_rd 32 r
  rw [show ((32 : Nat) : Int) = 32 from rfl] at ht
  simp only [r__wireReader_Messagex1000005, ht, pass_cut, rdId]
  cases f.1
  · simp only [cond_false, Bool.false_eq_true, if_false]
    rw [w7_eq r hr, pass_cut]
  · by_cases h : 32 ≤ r.length
    · have hc : ile (dlen (r.take 32)) 32 = true := ile_t.2 (by rw [dlen_eq, List.length_take]; omega)
      simp only [h, if_true, cond_true, isPan_ok, okP_ok, bS_some, cond_false, hc]
      rw [w7_eq (r.drop 32) (by rw [List.length_drop]; omega), pass_cut]
    · simp only [h, if_false, cond_true, isPan_pan, if_true]; rfl
theorem message_rd (s : List UInt8) (hs : s.length ≤ 1000) : o__wireReader_Message (((), ()), ((s, ()), ())) = some (match rdMsg s with
    | some x => .ok ((x.2, ()), (x.1, ()), ())
    | none => .pan) := by
  rw [o__wireReader_Message_eq, b__wireReader_Message]
  have ht := take_rd 1 s
  rw [show ((1 : Nat) : Int) = 1 from rfl] at ht
  cases s with
  | nil =>
    simp only [ht, List.length_nil, Nat.le_zero_eq, Nat.one_ne_zero, if_false, isPan_pan, cond_true]
    rfl
  | cons b t =>
    have h1 : 1 ≤ (b :: t).length := by simp
    rw [if_pos h1] at ht
    have e1 : (b :: t).take 1 = [b] := rfl
    have e2 : (b :: t).drop 1 = t := rfl
    have e3 : sget [b] 0 = b := rfl
    have e4 : (bif ile 0 0 then ilt 0 (dlen [b]) else false) = true := rfl
    have e5 : iwrap IntKind.i64 (u8i b) = (b.toNat : Int) := byte_eq b
    have hn : (0, Id.zero, 0, ()) = noE := rfl
    simp only [ht, e1, e2, e3, e4, e5, isPan_ok, okP_ok, bS_some, cond_true, cond_false, kinds_eq, tab_has', tab_val', hn, rdMsg]
    cases hk : isK (b.toNat : Int) with
    | false => rfl
    | true =>
      simp only [cond_true, cond_false, if_true, w5_eq t (by simp at hs; omega)]
      cases rdId (fl (b.toNat : Int)) t (b.toNat : Int) <;> rfl
end Am
end Go.Proofs.Ythnmiialdjifiaa
