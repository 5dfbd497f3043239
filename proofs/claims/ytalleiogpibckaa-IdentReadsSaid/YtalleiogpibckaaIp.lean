/-
  The laws of identifiers: digits, and what is read.
-/
import Derived.Test.YtalleiogpibckaaIa
namespace Go.Proofs.Ytalleiogpibckaa
namespace Am
open Go Go.RowKit
set_option linter.unusedVariables false

def hexD : List UInt8 := [48, 49, 50, 51, 52, 53, 54, 55, 56, 57, 97, 98, 99, 100, 101, 102]
/-- a digit's number; below 0: it is none -/
def hv (c : UInt8) : Int := Lib.indexByte hexD c
theorem hv_all : ∀ c : Fin 256, -1 ≤ hv (UInt8.ofNat c.val) ∧ hv (UInt8.ofNat c.val) < 16 ∧ (0 ≤ hv (UInt8.ofNat c.val) → hexd (hv (UInt8.ofNat c.val)).toNat = UInt8.ofNat c.val) := by decide +kernel
theorem hv_hexd : ∀ n : Fin 16, hv (hexd n.val) = (n.val : Int) := by decide +kernel
theorem hv_lt (c : UInt8) : hv c < 16 := by
  have := (hv_all ⟨c.toNat, u8_lt c⟩).2.1
  simpa using this
theorem hv_inv (c : UInt8) (h : 0 ≤ hv c) : hexd (hv c).toNat = c := by
  have := (hv_all ⟨c.toNat, u8_lt c⟩).2.2
  simp only [UInt8.ofNat_toNat] at this
  exact this h
theorem digit_all : ∀ n : Fin 16, bref01Digit ((UInt8.ofNat n.val, ()), ()) = some ((hexd n.val, ()), ()) := by decide +kernel
theorem ref01Digit_eq (n : Nat) (h : n < 16) : oref01Digit ((UInt8.ofNat n, ()), ()) = some ((hexd n, ()), ()) := by
  rw [oref01Digit_eq]
  exact digit_all ⟨n, h⟩
theorem half_all : ∀ n : Fin 16, iu8 (iwrap IntKind.u8 (n.val : Int)) = UInt8.ofNat n.val := by decide +kernel
theorem hi_all : ∀ c : Fin 256, iu8 (iwrap IntKind.u8 (iquo (u8i (UInt8.ofNat c.val)) (u8i (iu8 16)))) = UInt8.ofNat (c.val / 16) := by decide +kernel
theorem lo_all : ∀ c : Fin 256, iu8 (irem (u8i (UInt8.ofNat c.val)) (u8i (iu8 16))) = UInt8.ofNat (c.val % 16) := by decide +kernel
theorem or_all : ∀ x y : Fin 16, iu8 (iwrap IntKind.u8 (bitsI BinOp.or IntKind.i64 (iwrap IntKind.i64 (ishl (x.val : Int) (ibits 4 IntKind.i64))) (y.val : Int))) = UInt8.ofNat (16 * x.val + y.val) := by decide +kernel
theorem mul_all : ∀ x y : Fin 16, iu8 (iwrap IntKind.u8 (iwrap IntKind.i64 (iadd (iwrap IntKind.i64 (imul 16 (x.val : Int))) (y.val : Int)))) = UInt8.ofNat (16 * x.val + y.val) := by decide +kernel

theorem half_loop (c : UInt8) (k : Nat) : ∀ i : Nat, i + k = 16 → (∀ j, j < i → hexd j ≠ c) →
    whl rref01Halfx2 ((c, (i : Int), ()), ()) = some (if hv c < 0 then .inl ((), ()) else .inr (.inl ((hv c, ()), ()))) := by
  induction k with
  | zero =>
    intro i hi hj
    obtain rfl : i = 16 := by omega
    have : hv c < 0 := by
      refine Int.not_le.1 fun h => ?_
      have := hv_lt c
      exact hj (hv c).toNat (by omega) (hv_inv c h)
    rw [if_pos this]
    refine whl_inr ?_
    have hc : ilt ((16 : Nat) : Int) 16 = false := ilt_f.2 (by omega)
    simp only [rref01Halfx2, bifF hc]
  | succ k ih =>
    intro i hi hj
    have h1 : ilt (i : Int) 16 = true := ilt_t.2 (by omega)
    have hd : oref01Digit ((iu8 (iwrap IntKind.u8 (i : Int)), ()), ()) = some ((hexd i, ()), ()) := by
      rw [half_all ⟨i, by omega⟩, ref01Digit_eq i (by omega)]
    by_cases e : hexd i = c
    · subst e
      rw [hv_hexd ⟨i, by omega⟩, if_neg (by omega)]
      refine whl_inr ?_
      simp only [rref01Halfx2, bifT h1, hd, bS_some, bifT (u8eq_t.2 rfl)]
    · have hr : rref01Halfx2 ((c, (i : Int), ()), ()) = some (.inl ((c, ((i + 1 : Nat) : Int), ()), ())) := by
        simp only [rref01Halfx2, bifT h1, hd, bS_some, bifF (u8eq_f.2 e), inc_nat (show i < 4611686018427387904 by omega)]
      rw [whl_inl hr]
      exact ih (i + 1) (by omega) (fun j hj' => by
        by_cases ej : j = i
        · subst ej; exact e
        · exact hj j (by omega))
/-- a digit's number; 16: it is none -/
def hv16 (c : UInt8) : Int := if hv c < 0 then 16 else hv c
theorem ref01Half_eq (c : UInt8) : oref01Half ((c, ()), ()) = some ((hv16 c, ()), ()) := by
  rw [oref01Half_eq, bref01Half, wref01Halfx2_eq]
  have h := half_loop c 16 0 (by omega) (fun j hj => by omega)
  rw [show (((0 : Nat) : Int)) = 0 from rfl] at h
  rw [h]
  unfold hv16
  by_cases e : hv c < 0
  · rw [if_pos e, if_pos e]; rfl
  · rw [if_neg e, if_neg e]; rfl

/-- the byte that two digits are -/
def hb (s : List UInt8) (i : Nat) : Option UInt8 := if hv (s.getD (2 * i) 0) < 0 ∨ hv (s.getD (2 * i + 1) 0) < 0 then none else some (UInt8.ofNat (16 * (hv (s.getD (2 * i) 0)).toNat + (hv (s.getD (2 * i + 1) 0)).toNat))
/-- what is read from the i-th byte on -/
def pl (s : List UInt8) : Nat → Nat → Id → Option Id
  | 0, _, a => some a
  | k + 1, i, a => match hb s i with
    | none => none
    | some v => pl s k (i + 1) (a.set i v)

theorem two_nat {i : Nat} (h : i < 32) : iwrap .i64 (imul 2 (i : Int)) = ((2 * i : Nat) : Int) := by
  unfold imul
  rw [iwrap_i64 (by omega) (by omega)]
  omega
theorem two1_nat {i : Nat} (h : i < 32) : iwrap .i64 (iadd ((2 * i : Nat) : Int) 1) = ((2 * i + 1 : Nat) : Int) := inc_nat (by omega)
theorem sget_eq (s : List UInt8) (i : Nat) : sget s (i : Int) = s.getD i 0 := by simp [sget]

theorem parse_loop (s : List UInt8) (hs : s.length = 64) (z : Id) (k : Nat) : ∀ (i : Nat) (a : Id), i + k = 32 →
    whl ridentParsex5 ((s, (), (), (i : Int), ()), z, a, ()) = some (match pl s k i a with
      | some b => .inl (((), (), ()), z, b, ())
      | none => .inr (.inl (((), 4, ()), Id.zero, ()))) := by
  induction k with
  | zero =>
    intro i a hi
    obtain rfl : i = 32 := by omega
    refine whl_inr ?_
    have hc : ilt ((32 : Nat) : Int) 32 = false := ilt_f.2 (by omega)
    simp only [ridentParsex5, bifF hc, pl]
  | succ k ih =>
    intro i a hi
    have hlt : i < 32 := by omega
    have h1 : ilt (i : Int) 32 = true := ilt_t.2 (by omega)
    have hD : ∀ c, ostringsIndexByte (([48, 49, 50, 51, 52, 53, 54, 55, 56, 57, 97, 98, 99, 100, 101, 102], c, ()), ()) = some ((hv c, ()), ()) := fun c => rfl
    have hr : ridentParsex5 ((s, (), (), (i : Int), ()), z, a, ()) = some (match hb s i with
        | some v => .inl ((s, (), (), ((i + 1 : Nat) : Int), ()), z, a.set i v, ())
        | none => .inr (.inr (.inl (((), 4, ()), Id.zero, ())))) := by
      have l1 : (bif ile 0 ((2 * i : Nat) : Int) then ilt ((2 * i : Nat) : Int) (dlen s) else false) = true := in_len (by omega)
      have l2 : (bif ile 0 ((2 * i + 1 : Nat) : Int) then ilt ((2 * i + 1 : Nat) : Int) (dlen s) else false) = true := in_len (by omega)
      have l3 : (bif ile 0 (i : Int) then ilt (i : Int) 32 else false) = true := by rw [bifT ile_nat, h1]
      have e4 : ile 0 4 = true := rfl
      simp only [ridentParsex5, bifT h1, two_nat hlt, two1_nat hlt, bifT l1, bifT l2, hD, bS_some, sget_eq]
      have hx := hv_lt (s.getD (2 * i) 0)
      have hy := hv_lt (s.getD (2 * i + 1) 0)
      unfold hb
      by_cases n1 : hv (s.getD (2 * i) 0) < 0
      · rw [if_pos (.inl n1), ilt_t.2 n1]
        rfl
      · by_cases n2 : hv (s.getD (2 * i + 1) 0) < 0
        · rw [if_pos (.inr n2), ilt_f.2 (by omega), ilt_t.2 n2]
          rfl
        · rw [if_neg (by omega), ilt_f.2 (show 0 ≤ hv (s.getD (2 * i) 0) by omega), ilt_f.2 (show 0 ≤ hv (s.getD (2 * i + 1) 0) by omega)]
          generalize hv (s.getD (2 * i) 0) = X at *
          generalize hv (s.getD (2 * i + 1) 0) = Y at *
          obtain ⟨x, rfl⟩ : ∃ x : Nat, X = x := ⟨X.toNat, by omega⟩
          obtain ⟨y, rfl⟩ : ∃ y : Nat, Y = y := ⟨Y.toNat, by omega⟩
          have ho := or_all ⟨x, by omega⟩ ⟨y, by omega⟩
          simp only at ho
          simp only [cond_true, cond_false, inc_nat (show i < 4611686018427387904 by omega), inat_eq, idset_eq, ho, Int.toNat_natCast, e4, ile_nat, h1]
    cases hbi : hb s i with
    | none =>
      rw [hbi] at hr
      rw [whl_inr hr]
      simp only [pl, hbi]
    | some v =>
      rw [hbi] at hr
      rw [whl_inl hr, ih (i + 1) _ (by omega)]
      simp only [pl, hbi]

theorem refparse_loop (s : List UInt8) (hs : s.length = 64) (z : Id) (k : Nat) : ∀ (i : Nat) (a : Id), i + k = 32 →
    whl rref01Parsex5 ((s, (), (), (i : Int), ()), z, a, ()) = some (match pl s k i a with
      | some b => .inl (((), (), ()), z, b, ())
      | none => .inr (.inl (((), false, ()), Id.zero, ()))) := by
  induction k with
  | zero =>
    intro i a hi
    obtain rfl : i = 32 := by omega
    refine whl_inr ?_
    have hc : ilt ((32 : Nat) : Int) 32 = false := ilt_f.2 (by omega)
    simp only [rref01Parsex5, bifF hc, pl]
  | succ k ih =>
    intro i a hi
    have hlt : i < 32 := by omega
    have h1 : ilt (i : Int) 32 = true := ilt_t.2 (by omega)
    have hr : rref01Parsex5 ((s, (), (), (i : Int), ()), z, a, ()) = some (match hb s i with
        | some v => .inl ((s, (), (), ((i + 1 : Nat) : Int), ()), z, a.set i v, ())
        | none => .inr (.inr (.inl (((), false, ()), Id.zero, ())))) := by
      have l1 : (bif ile 0 ((2 * i : Nat) : Int) then ilt ((2 * i : Nat) : Int) (dlen s) else false) = true := in_len (by omega)
      have l2 : (bif ile 0 ((2 * i + 1 : Nat) : Int) then ilt ((2 * i + 1 : Nat) : Int) (dlen s) else false) = true := in_len (by omega)
      have l3 : (bif ile 0 (i : Int) then ilt (i : Int) 32 else false) = true := by rw [bifT ile_nat, h1]
      simp only [rref01Parsex5, bifT h1, two_nat hlt, two1_nat hlt, bifT l1, bifT l2, ref01Half_eq, bS_some, sget_eq]
      have hx := hv_lt (s.getD (2 * i) 0)
      have hy := hv_lt (s.getD (2 * i + 1) 0)
      unfold hb hv16
      by_cases n1 : hv (s.getD (2 * i) 0) < 0
      · rw [if_pos (Or.inl n1), if_pos n1]
        rfl
      · by_cases n2 : hv (s.getD (2 * i + 1) 0) < 0
        · rw [if_pos (Or.inr n2), if_pos n2, if_neg n1, ilt_f.2 (show hv (s.getD (2 * i) 0) ≤ 15 by omega)]
          rfl
        · rw [if_neg (show ¬(hv (s.getD (2 * i) 0) < 0 ∨ hv (s.getD (2 * i + 1) 0) < 0) by omega), if_neg n1, if_neg n2, ilt_f.2 (show hv (s.getD (2 * i) 0) ≤ 15 by omega), ilt_f.2 (show hv (s.getD (2 * i + 1) 0) ≤ 15 by omega)]
          generalize hv (s.getD (2 * i) 0) = X at *
          generalize hv (s.getD (2 * i + 1) 0) = Y at *
          obtain ⟨x, rfl⟩ : ∃ x : Nat, X = x := ⟨X.toNat, by omega⟩
          obtain ⟨y, rfl⟩ : ∃ y : Nat, Y = y := ⟨Y.toNat, by omega⟩
          have ho := mul_all ⟨x, by omega⟩ ⟨y, by omega⟩
          simp only at ho
          simp only [cond_true, cond_false, inc_nat (show i < 4611686018427387904 by omega), inat_eq, idset_eq, ho, Int.toNat_natCast, ile_nat, h1]
    cases hbi : hb s i with
    | none =>
      rw [hbi] at hr
      rw [whl_inr hr]
      simp only [pl, hbi]
    | some v =>
      rw [hbi] at hr
      rw [whl_inl hr, ih (i + 1) _ (by omega)]
      simp only [pl, hbi]

/-- what a text is read as -/
def parseO (s : List UInt8) : Option Id := if s.length = 64 then pl s 32 0 Id.zero else none
theorem len64 (s : List UInt8) : ieq (dlen s) 64 = decide (s.length = 64) := by
  rw [Bool.eq_iff_iff, ieq_t, decide_eq_true_iff, dlen_eq]
  omega
theorem identParse_eq (s : List UInt8) : oidentParse ((s, ()), ()) = some (match parseO s with | some a => (a, 0, ()) | none => (Id.zero, 4, ()), ()) := by
  rw [oidentParse_eq, bidentParse]
  simp only [len64]
  unfold parseO
  by_cases h : s.length = 64
  · have hl := parse_loop s h Id.zero 32 0 Id.zero (by omega)
    rw [show (((0 : Nat) : Int)) = 0 from rfl] at hl
    simp only [h, decide_true, cond_true, cond_false, if_true, widentParsex5_eq, hl]
    cases pl s 32 0 Id.zero <;> rfl
  · simp only [h, decide_false, cond_true, cond_false, if_false]
theorem ref01Parse_eq (s : List UInt8) : oref01Parse ((s, ()), ()) = some (match parseO s with | some a => (a, true, ()) | none => (Id.zero, false, ()), ()) := by
  rw [oref01Parse_eq, bref01Parse]
  simp only [len64]
  unfold parseO
  by_cases h : s.length = 64
  · have hl := refparse_loop s h Id.zero 32 0 Id.zero (by omega)
    rw [show (((0 : Nat) : Int)) = 0 from rfl] at hl
    simp only [h, decide_true, cond_true, cond_false, if_true, wref01Parsex5_eq, hl]
    cases pl s 32 0 Id.zero <;> rfl
  · simp only [h, decide_false, cond_true, cond_false, if_false]

theorem pl_spec (s : List UInt8) : ∀ (k i : Nat) (a b : Id), i + k ≤ 32 → pl s k i a = some b → (∀ j, j < i → b.get j = a.get j) ∧ ∀ j, i ≤ j → j < i + k → hb s j = some (b.get j)
  | 0, i, a, b, _, h => by
    simp only [pl, Option.some.injEq] at h
    subst h
    exact ⟨fun _ _ => rfl, fun j h1 h2 => by omega⟩
  | k + 1, i, a, b, hk, h => by
    simp only [pl] at h
    cases hbi : hb s i with
    | none => rw [hbi] at h; cases h
    | some v =>
      rw [hbi] at h
      obtain ⟨h1, h2⟩ := pl_spec s k (i + 1) _ b (by omega) h
      refine ⟨fun j hj => ?_, fun j hj1 hj2 => ?_⟩
      · rw [h1 j (by omega), Id.get_set _ _ _ _ (by omega), if_neg (by omega)]
      · by_cases e : j = i
        · subst e
          rw [hbi, h1 j (by omega), Id.get_set _ _ _ _ (by omega), if_pos rfl]
        · exact h2 j (by omega) (by omega)
theorem pl_some (s : List UInt8) (f : Nat → UInt8) : ∀ (k i : Nat) (a : Id), i + k ≤ 32 → (∀ j, i ≤ j → j < i + k → hb s j = some (f j)) → ∃ b, pl s k i a = some b
  | 0, _, a, _, _ => ⟨a, rfl⟩
  | k + 1, i, a, hk, h => by
    simp only [pl, h i (by omega) (by omega)]
    exact pl_some s f k (i + 1) _ (by omega) (fun j h1 h2 => h j (by omega) (by omega))

theorem flat_get : ∀ (l : List UInt8) (j : Nat), (l.flatMap hexB)[2 * j]? = l[j]?.map (fun c => hexd (c.toNat / 16)) ∧ (l.flatMap hexB)[2 * j + 1]? = l[j]?.map (fun c => hexd (c.toNat % 16))
  | [], j => by simp
  | c :: l, 0 => by simp [hexB]
  | c :: l, j + 1 => by
    have := flat_get l j
    simp only [List.flatMap_cons, hexB]
    rw [show 2 * (j + 1) = 2 * j + 1 + 1 by omega]
    simpa using this
theorem text_get (a : Id) (j : Nat) (h : j < 32) : (textL a).getD (2 * j) 0 = hexd ((a.get j).toNat / 16) ∧ (textL a).getD (2 * j + 1) 0 = hexd ((a.get j).toNat % 16) := by
  have h1 := flat_get a.l j
  have hj : a.l[j]? = some (a.get j) := by
    unfold Id.get
    simp [List.getD_eq_getElem?_getD, a.h, h]
  rw [hj] at h1
  unfold textL
  simp [List.getD_eq_getElem?_getD, h1.1, h1.2]
theorem hb_text (a : Id) (j : Nat) (h : j < 32) : hb (textL a) j = some (a.get j) := by
  have hc := u8_lt (a.get j)
  obtain ⟨h1, h2⟩ := text_get a j h
  have e1 := hv_hexd ⟨(a.get j).toNat / 16, by omega⟩
  have e2 := hv_hexd ⟨(a.get j).toNat % 16, by omega⟩
  simp only at e1 e2
  unfold hb
  rw [h1, h2, e1, e2, if_neg (by omega)]
  simp only [Int.toNat_natCast]
  rw [show 16 * ((a.get j).toNat / 16) + (a.get j).toNat % 16 = (a.get j).toNat by omega]
  simp
theorem parse_text (a : Id) : parseO (textL a) = some a := by
  unfold parseO
  rw [if_pos (textL_len a)]
  obtain ⟨b, hb⟩ := pl_some (textL a) a.get 32 0 Id.zero (by omega) (fun j _ h2 => hb_text a j (by omega))
  have h2 := (pl_spec _ 32 0 _ b (by omega) hb).2
  have : b = a := Id.ext_get fun j hj => by
    have := h2 j (by omega) (by omega)
    rw [hb_text a j hj] at this
    exact (Option.some.inj this).symm
  rw [hb, this]
theorem text_parse {s : List UInt8} {a : Id} (h : parseO s = some a) : textL a = s := by
  unfold parseO at h
  by_cases hs : s.length = 64
  · rw [if_pos hs] at h
    have h2 := (pl_spec _ 32 0 _ a (by omega) h).2
    have hl := textL_len a
    have key : ∀ j, j < 32 → (textL a).getD (2 * j) 0 = s.getD (2 * j) 0 ∧ (textL a).getD (2 * j + 1) 0 = s.getD (2 * j + 1) 0 := by
      intro j hj
      obtain ⟨t1, t2⟩ := text_get a j hj
      have := h2 j (by omega) (by omega)
      unfold hb at this
      have hx := hv_lt (s.getD (2 * j) 0)
      have hy := hv_lt (s.getD (2 * j + 1) 0)
      by_cases n : hv (s.getD (2 * j) 0) < 0 ∨ hv (s.getD (2 * j + 1) 0) < 0
      · rw [if_pos n] at this; cases this
      · rw [if_neg n] at this
        have e := Option.some.inj this
        have i1 := hv_inv (s.getD (2 * j) 0) (by omega)
        have i2 := hv_inv (s.getD (2 * j + 1) 0) (by omega)
        have en : (a.get j).toNat = 16 * (hv (s.getD (2 * j) 0)).toNat + (hv (s.getD (2 * j + 1) 0)).toNat := by
          rw [← e]
          simp only [UInt8.toNat_ofNat']
          omega
        rw [t1, t2, en]
        rw [show (16 * (hv (s.getD (2 * j) 0)).toNat + (hv (s.getD (2 * j + 1) 0)).toNat) / 16 = (hv (s.getD (2 * j) 0)).toNat by omega,
          show (16 * (hv (s.getD (2 * j) 0)).toNat + (hv (s.getD (2 * j + 1) 0)).toNat) % 16 = (hv (s.getD (2 * j + 1) 0)).toNat by omega]
        exact ⟨i1, i2⟩
    refine List.ext_getElem (by omega) fun n h1 h3 => ?_
    have g : (textL a).getD n 0 = s.getD n 0 := by
      obtain ⟨j, hj⟩ : ∃ j, n = 2 * j ∨ n = 2 * j + 1 := ⟨n / 2, by omega⟩
      rcases hj with rfl | rfl
      · exact (key j (by omega)).1
      · exact (key j (by omega)).2
    simpa [List.getD_eq_getElem?_getD, h1, h3] using g
  · rw [if_neg hs] at h; cases h

theorem flat_len (l : List UInt8) : (l.flatMap hexB).length = 2 * l.length := by
  induction l with
  | nil => rfl
  | cons x xs ih => simp only [List.flatMap_cons, List.length_append, ih, List.length_cons]; simp [hexB]; omega
theorem ref01Text_eq (a : Id) : oref01Text ((a, ()), ()) = some ((textL a, ()), ()) := by
  rw [oref01Text_eq, bref01Text]
  have h := whl_up (g := rref01Textx3) (fun i => (((a.l.take i).flatMap hexB, a, (i : Int), ()), (), ())) (.inl ((textL a, ()), (), ())) 32
    (by
      have hc : ilt ((32 : Nat) : Int) 32 = false := ilt_f.2 (by omega)
      have e32 : a.l.take 32 = a.l := List.take_of_length_le (by rw [a.h]; exact Nat.le_refl _)
      simp only [rref01Textx3, bifF hc, e32]
      rfl)
    (fun i hi => by
      have h1 : ilt (i : Int) 32 = true := ilt_t.2 (by omega)
      have hc := u8_lt (a.get i)
      have e1 := hi_all ⟨(a.get i).toNat, hc⟩
      have e2 := lo_all ⟨(a.get i).toNat, hc⟩
      simp only [UInt8.ofNat_toNat] at e1 e2
      have e16 : (bif ieq (u8i (iu8 16)) 0 then false else true) = true := rfl
      have hl : ((a.l.take i).flatMap hexB).length = 2 * i := by rw [flat_len, List.length_take, a.h]; omega
      have hf : ∀ x y : UInt8, fits (dlen ((a.l.take i).flatMap hexB)) (dlen [x, y]) 1 = true := fun x y => by
        rw [fits_t, dlen_eq, dlen_eq, hl]
        simp only [List.length_cons, List.length_nil]
        omega
      have hj : a.l[i]? = some (a.get i) := by
        unfold Id.get
        simp [List.getD_eq_getElem?_getD, a.h, hi]
      have ht : dapp ((a.l.take i).flatMap hexB) [hexd ((a.get i).toNat / 16), hexd ((a.get i).toNat % 16)] = (a.l.take (i + 1)).flatMap hexB := by
        rw [List.take_add_one, hj, List.flatMap_append]
        simp [dapp, hexB]
      simp only [rref01Textx3, bifT h1, bifT ile_nat, inat_eq, idget_eq, e1, e2, bifT e16, ref01Digit_eq _ (show (a.get i).toNat / 16 < 16 by omega), ref01Digit_eq _ (show (a.get i).toNat % 16 < 16 by omega), bS_some, bifT (hf _ _), ht, inc_nat (show i < 4611686018427387904 by omega)]) 32 0 (by omega)
  rw [show (((0 : Nat) : Int)) = 0 from rfl, List.take_zero, List.flatMap_nil] at h
  simp only [wref01Textx3_eq, h]
  rfl

theorem reads (a : Id) (s0 : List UInt8) : olaw01IdentReads ((a, s0, ()), ()) = some ((true, ()), ()) := by
  rw [olaw01IdentReads_eq, blaw01IdentReads]
  have e : imin (dlen s0) 70 = ((min s0.length 70 : Nat) : Int) := by rw [imin_eq, dlen_eq]; omega
  have g : (bif bif ile 0 0 then ile 0 ((min s0.length 70 : Nat) : Int) else false then ile ((min s0.length 70 : Nat) : Int) (dlen s0) else false) = true := by
    have h0 : ile 0 0 = true := rfl
    rw [bifT h0, bifT ile_nat, ile_t, dlen_eq]
    omega
  simp only [e, g, cond_true]
  generalize dsub s0 0 ((min s0.length 70 : Nat) : Int) = s
  have hbb : ∀ c : Bool, beq c c = true := fun c => beq_t.2 rfl
  have hss : ∀ c : List UInt8, seq c c = true := fun c => seq_t.2 rfl
  have e40 : ieq 4 0 = false := rfl
  simp only [identParse_eq, ref01Parse_eq, identText_eq, ref01Text_eq, bS_some, parse_text, alive1, ieq_self, ideq_self, hss, cond_true, cond_false]
  cases hp : parseO s with
  | none => simp only [e40, ideq_self, hbb, cond_true, cond_false, ieq_self]
  | some b => simp only [ieq_self, ideq_self, hbb, cond_true, cond_false, text_parse hp, hss]

end Am
end Go.Proofs.Ytalleiogpibckaa
