/-
  The laws WireParses and WireBack.
-/
import Derived.Test.YthnmiialdjifiaaWb
namespace Go.Proofs.Ythnmiialdjifiaa
namespace Am
open Go Go.RowKit
set_option linter.unusedVariables false
set_option linter.unusedSimpArgs false
set_option maxRecDepth 10000

abbrev noM : Wm := (0, Id.zero, noE, [], 0, [], [], ())
theorem rd_small {s : List UInt8} {x : List UInt8 × Wm} (hs : s.length ≤ 1000) (h : rdMsg s = some x) : SmallW x.2 := by
  have hD : ∀ (f : Fl) (r : List UInt8) (m : Wm), r.length ≤ 1000 → SmallW m → SmallW (rdData f r m).2 := by
    intro f r m hr ⟨h1, h2, h3⟩
    unfold rdData
    split
    · exact ⟨h1, h2, hr⟩
    · exact ⟨h1, h2, h3⟩
  have hN : ∀ (f : Fl) (r : List UInt8) (m : Wm) (x : List UInt8 × Wm), r.length ≤ 1000 → SmallW m → rdNon f r m = some x → SmallW x.2 := by
    intro f r m x hr hm hx
    obtain ⟨h1, h2, h3⟩ := hm
    unfold rdNon at hx
    split at hx
    · split at hx
      · cases hx
        exact hD _ (r.drop 16) _ (by rw [List.length_drop]; omega) ⟨h1, by simp only [List.length_take]; omega, h3⟩
      · cases hx
    · cases hx
      exact hD _ _ _ hr ⟨h1, h2, h3⟩
  have hM : ∀ (f : Fl) (r : List UInt8) (m : Wm) (x : List UInt8 × Wm), r.length ≤ 1000 → SmallW m → rdNum f r m = some x → SmallW x.2 := by
    intro f r m x hr hm hx
    obtain ⟨h1, h2, h3⟩ := hm
    unfold rdNum at hx
    split at hx
    · split at hx
      · refine hN _ (r.drop 8) _ _ ?_ ?_ hx
        · rw [List.length_drop]; omega
        · exact ⟨h1, h2, h3⟩
      · cases hx
    · exact hN _ _ _ _ hr ⟨h1, h2, h3⟩ hx
  have hS : ∀ (f : Fl) (r : List UInt8) (k : Int) (i : Id) (t : Ent) (x : List UInt8 × Wm), r.length ≤ 1000 → rdStk f r k i t = some x → SmallW x.2 := by
    intro f r k i t x hr hx
    have := readS_len r
    unfold rdStk at hx
    split at hx
    · split at hx
      · exact hM _ (r.drop (readS r).2.1) _ _ (by rw [List.length_drop]; omega) ⟨by simp only; omega, by simp, by simp⟩ hx
      · cases hx
    · exact hM _ _ _ _ hr ⟨by simp, by simp, by simp⟩ hx
  have hT : ∀ (f : Fl) (r : List UInt8) (k : Int) (i : Id) (x : List UInt8 × Wm), r.length ≤ 1000 → rdTgt f r k i = some x → SmallW x.2 := by
    intro f r k i x hr hx
    unfold rdTgt at hx
    split at hx
    · split at hx
      · exact hS _ (r.drop (readS r).2.1) _ _ _ _ (by rw [List.length_drop]; omega) hx
      · cases hx
    · exact hS _ _ _ _ _ _ hr hx
  cases s with
  | nil => cases h
  | cons b y =>
    have hy : y.length ≤ 1000 := by simp at hs; omega
    simp only [rdMsg] at h
    split at h
    · unfold rdId at h
      split at h
      · split at h
        · exact hT _ (y.drop 32) _ _ _ (by rw [List.length_drop]; omega) h
        · cases h
      · exact hT _ _ _ _ _ hy h
    · cases h
/-- what wire.Parse comes to -/
noncomputable def parseM (s : List UInt8) : Option Wm := match rdMsg s with
  | some x => if wr x.2 = true ∧ bytesM x.2 = s then some x.2 else none
  | none => none
theorem wireParse_eq (s : List UInt8) (hs : s.length ≤ 1000) : owireParse ((s, ()), ()) = some ((match parseM s with
    | some m => (m, 0, ())
    | none => (noM, 5, ())), ()) := by
  rw [owireParse_eq, bwireParse]
  simp only [message_rd s hs]
  unfold parseM
  cases hr : rdMsg s with
  | none => rfl
  | some x =>
    have hsm := rd_small hs hr
    simp only [rPa, wireText_eq x.2 hsm, bS_some]
    cases hw : wr x.2 with
    | false =>
      have e1 : ieq 1 0 = false := rfl
      simp only [Bool.false_eq_true, if_false, e1, cond_true, cond_false, false_and]
      rfl
    | true =>
      simp only [if_true, ieq_s, cond_true, cond_false, true_and]
      by_cases hb : bytesM x.2 = s
      · simp only [hb, seq_s, cond_true, cond_false, if_true]
      · simp only [if_neg hb, seq_f.2 hb, cond_true, cond_false]
        rfl
theorem parseM_iff (s : List UInt8) (m : Wm) : parseM s = some m ↔ RightW m ∧ bytesM m = s := by
  unfold parseM
  constructor
  · intro h
    split at h
    · split at h
      · rename_i hc
        cases h
        exact ⟨wr_iff.1 hc.1, hc.2⟩
      · cases h
    · cases h
  · rintro ⟨h1, rfl⟩
    rw [rdMsg_bytes h1]
    simp only
    rw [if_pos ⟨wr_iff.2 h1, trivial⟩]
theorem refM_iff (s : List UInt8) (m : Wm) : refM s = some m ↔ RightW m ∧ bytesM m = s :=
  ⟨refM_back, fun ⟨h1, h2⟩ => h2 ▸ refM_bytes h1⟩
theorem parse_same (s : List UInt8) : parseM s = refM s := by
  cases h : parseM s with
  | some m => exact ((refM_iff s m).2 ((parseM_iff s m).1 h)).symm
  | none =>
    cases h2 : refM s with
    | none => rfl
    | some m => rw [(parseM_iff s m).2 ((refM_iff s m).1 h2)] at h; cases h
theorem parses5 (s0 : List UInt8) : olaw05WireParses ((s0, ()), ()) = some ((true, ()), ()) := by
  rw [olaw05WireParses_eq, blaw05WireParses]
  have e300 : (300 : Int) = ((300 : Nat) : Int) := rfl
  have hs : (s0.take 300).length ≤ 300 := by rw [List.length_take]; omega
  simp only [e300, imin_len, ile00, ile_nat, ile_min, dsub_min, cond_true]
  generalize s0.take 300 = s at *
  simp only [wireParse_eq s (by omega), ref05Parse_eq s (by omega), refR, bS_some, parse_same]
  have hn : ((0, Id.zero, (0, Id.zero, 0, ()), [], 0, [], [], ()) : Wm) = noM := rfl
  cases hm : refM s with
  | none =>
    have hl := ref05Like_eq noM noM (by simp)
    simp only [alive5, isS_some, getS_some, ieq_s, hn, hl, sameM_self, cond_true, cond_false, isB_some, getB_some]
  | some m =>
    have hlen : m.2.2.2.1.length ≤ 4611686018427387903 := by
      have h := (refM_back hm).1
      cases hf : (fl m.1).2.2.1 with
      | true => have := (rightS_facts (h.stk hf)).2.1; omega
      | false => rw [h.stk0 hf]; simp
    have hl := ref05Like_eq m m hlen
    simp only [alive5, isS_some, getS_some, ieq_s, hl, sameM_self, cond_true, cond_false, isB_some, getB_some]
theorem bytes_len {m : Wm} (h : RightW m) : (bytesM m).length ≤ 400 := by
  have hi := m.2.1.h
  have ht := textS_len [m.2.2.1]
  have hs := textS_len m.2.2.2.1
  have h8 := num8_len m.2.2.2.2.1.toNat
  have hd := h.data1
  have hl : m.2.2.2.1.length ≤ 4 := by
    cases hf : (fl m.1).2.2.1 with
    | true => have := (rightS_facts (h.stk hf)).2.1; omega
    | false => rw [h.stk0 hf]; simp
  have hn : m.2.2.2.2.2.1.length ≤ 16 := by
    cases hf : (fl m.1).2.2.2.2.1 with
    | true => have := h.non hf; omega
    | false => rw [h.non0 hf]; simp
  simp only [List.length_cons, List.length_nil] at ht
  unfold bytesM
  cases (fl m.1).1 <;> cases (fl m.1).2.1 <;> cases (fl m.1).2.2.1 <;> cases (fl m.1).2.2.2.1 <;> simp only [Bool.false_eq_true, if_true, if_false, List.length_cons, List.length_append, List.length_nil] <;> omega
theorem back5 (a b : Wm) (s0 : List UInt8) : olaw05WireBack ((a, b, s0, ()), ()) = some ((true, ()), ()) := by
  rw [olaw05WireBack_eq, blaw05WireBack]
  have e300 : (300 : Int) = ((300 : Nat) : Int) := rfl
  have hs : (s0.take 300).length ≤ 300 := by rw [List.length_take]; omega
  have ha := cutM_cut a
  have hb := cutM_cut b
  simp only [e300, imin_len, ile00, ile_nat, ile_min, dsub_min, cond_true, cut_eq, bS_some]
  generalize s0.take 300 = s at *
  generalize cutM a = m at *
  generalize cutM b = n at *
  have hl : m.2.2.2.1.length ≤ 4611686018427387903 := by have := ha.s; omega
  have beq_s : ∀ c : Bool, beq c c = true := fun c => by cases c <;> rfl
  -- the second half
  have half : ∀ X : Option ((Bool × Unit) × Unit), X = (bS (owireParse ((s, ()), ())) fun v4 => bif bif ieq v4.fst.snd.fst 0 then false else true then bif isB (bif isS (olaw05Alive ((), ())) then bif (getS (olaw05Alive ((), ()))).fst.fst then some (ieq v4.fst.fst.fst 0) else some false else none) then some ((getB (bif isS (olaw05Alive ((), ())) then bif (getS (olaw05Alive ((), ()))).fst.fst then some (ieq v4.fst.fst.fst 0) else some false else none), ()), ()) else none else bS (owireText ((v4.fst.fst, ()), ())) fun v5 => bif isB (bif isS (olaw05Alive ((), ())) then bif (getS (olaw05Alive ((), ()))).fst.fst then bif ieq v5.fst.snd.fst 0 then bif seq v5.fst.fst s then bif isS (owireRight ((v4.fst.fst, ()), ())) then some (getS (owireRight ((v4.fst.fst, ()), ()))).fst.fst else none else some false else some false else some false else none) then some ((getB (bif isS (olaw05Alive ((), ())) then bif (getS (olaw05Alive ((), ()))).fst.fst then bif ieq v5.fst.snd.fst 0 then bif seq v5.fst.fst s then bif isS (owireRight ((v4.fst.fst, ()), ())) then some (getS (owireRight ((v4.fst.fst, ()), ()))).fst.fst else none else some false else some false else some false else none), ()), ()) else none) → X = some ((true, ()), ()) := by
    intro X hX
    rw [hX]
    simp only [wireParse_eq s (by omega), bS_some]
    cases hm : parseM s with
    | none =>
      have e5 : ieq 5 0 = false := rfl
      simp only [e5, cond_true, cond_false, alive5, isS_some, getS_some, ieq_s, isB_some, getB_some]
    | some x =>
      obtain ⟨h1, h2⟩ := (parseM_iff s x).1 hm
      have hx4 : x.2.2.2.1.length ≤ 4 := by
        cases hf : (fl x.1).2.2.1 with
        | true => have := (rightS_facts (h1.stk hf)).2.1; omega
        | false => rw [h1.stk0 hf]; simp
      have hx16 : x.2.2.2.2.2.1.length ≤ 16 := by
        cases hf : (fl x.1).2.2.2.2.1 with
        | true => have := h1.non hf; omega
        | false => rw [h1.non0 hf]; simp
      have hw := wr_iff.2 h1
      have ht := wireText_eq x ⟨by omega, by omega, by have := h1.data1; omega⟩
      rw [if_pos hw, h2] at ht
      simp only [ieq_s, cond_true, cond_false, ht, bS_some, alive5, isS_some, getS_some, seq_s, wireRight_eq x (by omega), hw, isB_some, getB_some]
  have htm := wireText_eq m ha.small
  have htn := wireText_eq n hb.small
  cases hw : wr m with
  | false =>
    rw [hw] at htm
    simp only [Bool.false_eq_true, if_false] at htm
    have e1 : ieq 1 0 = false := rfl
    simp only [htm, htn, bS_some, e1, cond_false]
    exact half _ rfl
  | true =>
    rw [hw] at htm
    simp only [if_true] at htm
    have h1 := wr_iff.1 hw
    have hp := wireParse_eq (bytesM m) (by have := bytes_len h1; omega)
    rw [(parseM_iff _ m).2 ⟨h1, rfl⟩] at hp
    have hlk := ref05Like_eq m m hl
    have hln := ref05Like_eq m n hl
    simp only [htm, htn, bS_some, ieq_s, cond_true, cond_false, hp]
    have hlk' : oref05Like ((m, m, ()), ()) = some ((true, ()), ()) := by rw [hlk, sameM_self]
    cases hwn : wr n with
    | false =>
      have e1 : ieq 1 0 = false := rfl
      simp only [Bool.false_eq_true, if_false, e1, hlk', isS_some, getS_some, cond_true, cond_false, isB_some, getB_some]
      exact half _ rfl
    | true =>
      have h2 := wr_iff.1 hwn
      have hq : seq (bytesM m) (bytesM n) = sameM m n := by
        rw [Bool.eq_iff_iff, seq_t, sameM_iff]
        exact ⟨fun h => bytes_inj h1 h2 h, fun h => by rw [h]⟩
      simp only [if_true, ieq_s, hlk', hln, isS_some, getS_some, cond_true, cond_false, hq, beq_s, isB_some, getB_some]
      exact half _ rfl
end Am
end Go.Proofs.Ythnmiialdjifiaa
