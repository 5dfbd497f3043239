/-
  The law FingerPoints.
-/
import Derived.Test.YtkpojikfadeeeaaFg
import Derived.Test.YtkpojikfadeeeaaAd
namespace Go.Proofs.Ytkpojikfadeeeaa
namespace Am
open Go Go.RowKit
set_option linter.unusedVariables false

theorem foldN_congr {σ : Type} {f g : Nat → σ → σ} {I : Nat → σ → Prop} (h : ∀ i s, I i s → f i s = g i s ∧ I (i + 1) (g i s)) : ∀ (k i : Nat) (s : σ), I i s → foldN f k i s = foldN g k i s
  | 0, _, _, _ => rfl
  | k + 1, i, s, hi => by
    simp only [foldN]
    rw [(h i s hi).1]
    exact foldN_congr h k (i + 1) _ (h i s hi).2

/- the reference's rings -/
theorem rright_inner (l : List Mem') (i : Nat) (m : Mem') (k : List Mem') (hk : k.length ≤ 4611686018427387903) :
    whl rref07Rightx7 ((l, (), l, dlen l, (i : Int), k, dlen k, 0, ()), m, ()) = some (if k.any (like2 · m) = true then .inl ((false, ()), ()) else .inr (.inl ((l, l, dlen l, (i : Int), ()), ()))) := by
  have h := whl_goL (t := memT) (xs := k) (g := rref07Rightx7) (fun j (_ : Unit) => ((l, (), l, dlen l, (i : Int), k, dlen k, j, ()), m, ())) (fun x _ => if like2 x m = true then .inr (.inl ((false, ()), ())) else .inl ()) (fun _ => .inr (.inl ((l, l, dlen l, (i : Int), ()), ()))) hk
    (fun j s hj => by simp only [rref07Rightx7, bifF hj])
    (fun j s hj h0 => by
      simp only [rref07Rightx7, bifT hj, h0, cond_true]
      have em : (dget memT k j) = dget ((Ty.int IntKind.i64).pair (Ty.id.pair Ty.unit)) k j := rfl
      rw [em]
      generalize dget ((Ty.int IntKind.i64).pair (Ty.id.pair Ty.unit)) k j = y
      unfold like2
      rw [ieq_dec, ideq_dec]
      cases decide (y.1 = m.1) <;> cases decide (y.2.1 = m.2.1) <;> simp) ()
  rw [goL_any (fun x => like2 x m)] at h
  exact h
theorem ref07Right_eq (l : List Mem') (hl : l.length ≤ 4611686018427387903) : oref07Right ((l, ()), ()) = some ((rightB l, ()), ()) := by
  rw [oref07Right_eq, bref07Right]
  simp only [wref07Rightx2_eq]
  have h := whl_goI (g := rref07Rightx2) (fun i (_ : Unit) => ((l, l, dlen l, (i : Int), ()), ())) (fun i (_ : Unit) => if badR l i = true then .inr (.inl ((false, ()), ())) else .inl ()) (fun _ => .inr (.inl ((l, ()), ()))) l.length
    (fun s => by simp only [rref07Rightx2, bifF (ilt_len' (xs := l) (Nat.le_refl _))])
    (fun i s hi => by
      have e : dget ((Ty.int IntKind.i64).pair (Ty.id.pair Ty.unit)) l (i : Int) = l.getD i noM := dget_eq memT l i
      have e2 : dsub l 0 (i : Int) = l.take i := by
        have := dsub_eq l 0 i
        simpa using this
      have e3 : ile (i : Int) (dlen l) = true := ile_t.2 (by rw [dlen_eq]; omega)
      have e4 : ile 0 0 = true := rfl
      simp only [rref07Rightx2, bifT (ilt_len hi), bifT ile_nat, bifT e4, bifT e3, e, e2, wref07Rightx7_eq, rright_inner l i (l.getD i noM) (l.take i) (by rw [List.length_take]; omega)]
      unfold badR
      generalize (l.take i).any (like2 · (l.getD i noM)) = A
      generalize (l.getD i noM).1 = n
      have hn : ilt n 0 = decide (n < 0) := ilt_eq _ _
      have hg : ilt 15 n = decide (16 ≤ n) := by rw [ilt_eq]; congr 1
      rw [hn, hg]
      cases A <;> cases decide (n < 0) <;> cases decide (16 ≤ n) <;> simp [bL_inl, bL_inr, inc_nat (show i < 4611686018427387904 by omega)]) l.length 0 () (by omega)
  rw [goI_any] at h
  rw [show ((0 : Int) = ((0 : Nat) : Int)) from rfl, h]
  unfold rightB
  cases anyN (badR l) l.length 0 with
  | true => simp [bL_inl]
  | false =>
    have : ile (dlen l) 16 = decide (l.length ≤ 16) := by rw [ile_eq, dlen_eq]; congr 1; rw [eq_iff_iff]; omega
    simp [bL_inr, bL_inl, this]
theorem ref07Find_eq (l : List Mem') (no : Int) (hl : l.length ≤ 4611686018427387903) : oref07Find ((l, no, ()), ()) = some ((match l.findIdx? (fun m => decide (m.1 = no)) with | some i => l.getD i noM | none => (-1, Id.zero, ()), ()), ()) := by
  rw [oref07Find_eq, bref07Find]
  simp only [wref07Findx2_eq]
  have h := whl_goI (g := rref07Findx2) (fun i (_ : Unit) => ((no, (), l, dlen l, (i : Int), ()), (0, Id.zero, ()), ())) (fun i (_ : Unit) => if decide ((l.getD i noM).1 = no) = true then .inr (.inl (((), ()), l.getD i noM, ())) else .inl ()) (fun _ => .inr (.inl (((), ()), (0, Id.zero, ()), ()))) l.length
    (fun s => by simp only [rref07Findx2, bifF (ilt_len' (xs := l) (Nat.le_refl _))])
    (fun i s hi => by
      have e : dget ((Ty.int IntKind.i64).pair (Ty.id.pair Ty.unit)) l (i : Int) = l.getD i noM := dget_eq memT l i
      simp only [rref07Findx2, bifT (ilt_len hi), bifT ile_nat, e, ieq_dec, inc_nat (show i < 4611686018427387904 by omega)]
      generalize l.getD i noM = y
      by_cases hh : y.1 = no <;> simp [hh]) l.length 0 () (by omega)
  have h := h.trans (congrArg some (goI_find (d := noM) (xs := l) (fun m => decide (m.1 = no)) (fun i => Sum.inl (((), ()), l.getD i noM, ())) (Sum.inr (Sum.inl (((), ()), (0, Id.zero, ()), ()))) l.length 0 (by omega)))
  have h' : whl rref07Findx2 ((no, (), l, dlen l, 0, ()), (0, Id.zero, ()), ()) = _ := h
  rw [h', List.drop_zero]
  cases l.findIdx? (fun m => decide (m.1 = no)) with
  | none => rfl
  | some j => simp only [Nat.zero_add]; rfl
theorem ref07Owner_eq (l : List Mem') (id : Id) (hl : l.length ≤ 4611686018427387903) (hP : RightP l) (h0 : 0 < l.length) : oref07Owner ((l, id, ()), ()) = some ((ownerM l id, ()), ()) := by
  rw [oref07Owner_eq, bref07Owner]
  simp only [wref07Ownerx3_eq]
  have h := whl_goI (g := rref07Ownerx3) (fun i (m : Mem') => (((), (), (), l, dlen l, (i : Int), ()), id, (0, Id.zero, ()), m, ())) (fun i m => .inl (if m.1 < 0 then l.getD i noM else nearer l id i m)) (fun m => .inl (((), (), ()), (0, Id.zero, ()), m, ())) l.length
    (fun s => by simp only [rref07Ownerx3, bifF (ilt_len' (xs := l) (Nat.le_refl _))])
    (fun i m hi => by
      have e : dget ((Ty.int IntKind.i64).pair (Ty.id.pair Ty.unit)) l (i : Int) = l.getD i noM := dget_eq memT l i
      have hn : ilt m.1 0 = decide (m.1 < 0) := ilt_eq _ _
      have hf : ∀ x : Mem', oref01Far ((id, x.snd), ()) = some ((far id x.2.1, ()), ()) := fun x => by
        obtain ⟨xn, xi, ⟨⟩⟩ := x
        exact ref01Far_eq _ _
      have hc : ∀ a b : Nat, ilt (cmpN a b) 0 = decide (a < b) := fun a b => by rw [Bool.eq_iff_iff, ilt_t, decide_eq_true_iff, cmpN_lt]
      simp only [rref07Ownerx3, bifT (ilt_len hi), bifT ile_nat, e, hn, hf, bS_some, ref01Compare_eq, far_num, hc, inc_nat (show i < 4611686018427387904 by omega)]
      unfold nearer
      generalize l.getD i noM = y
      by_cases h1 : m.1 < 0
      · simp [h1]
      · by_cases h2 : way id.num y.2.1.num < way id.num m.2.1.num <;> simp [h1, h2]) l.length 0 (-1, Id.zero, ()) (by omega)
  rw [goI_fold] at h
  have hfold : foldN (fun i m => if m.1 < 0 then l.getD i noM else nearer l id i m) l.length 0 (-1, Id.zero, ()) = ownerM l id := by
    obtain ⟨k, hk⟩ : ∃ k, l.length = k + 1 := ⟨l.length - 1, by omega⟩
    unfold ownerM
    rw [hk]
    simp only [foldN, Nat.add_sub_cancel, Nat.zero_add]
    have e1 : (if ((-1 : Int)) < 0 then l.getD 0 noM else nearer l id 0 (-1, Id.zero, ())) = l.getD 0 noM := by simp
    rw [e1]
    have hh := hP.no 0 h0
    have hall : ∀ i, 0 ≤ (l.getD i noM).1 := fun i => by
      by_cases hi : i < l.length
      · exact (hP.no i hi).1
      · have : l.getD i noM = noM := by simp [show l.length ≤ i by omega]
        rw [this]
        exact Int.le_refl _
    refine foldN_congr (f := fun i m => if m.1 < 0 then l.getD i noM else nearer l id i m) (g := nearer l id) (I := fun i m => 0 ≤ m.1) (fun i m hm => ⟨if_neg (by omega), ?_⟩) k 1 (l.getD 0 noM) hh.1
    unfold nearer
    split
    · exact hall i
    · exact hm
  have h' : whl rref07Ownerx3 (((), (), (), l, dlen l, 0, ()), id, (0, Id.zero, ()), (-1, Id.zero, ()), ()) = _ := h
  rw [h', hfold]
  rfl
theorem ref08Goal_eq (m : Mem') (k : Nat) (hk : k < 16) : oref08Goal ((m, (k : Int), ()), ()) = some ((stp m.2.1 (240 + k), ()), ()) := by
  have h3 : iwrap .i64 (iadd 240 (k : Int)) = ((240 + k : Nat) : Int) := by
    unfold iadd
    rw [iwrap_i64 (by omega) (by omega)]
    omega
  obtain ⟨mn, mi, ⟨⟩⟩ := m
  rw [oref08Goal_eq, bref08Goal]
  simp only [h3, ref01Power_eq (240 + k) (by omega), bS_some, ref01Add_eq]
  unfold stp
  rw [ofM_num, Nat.mod_eq_of_lt (pow_ltM (show 240 + k < 256 by omega))]
theorem ref08Ideal_eq (l : List Mem') (m : Mem') (hl : l.length ≤ 4611686018427387903) (hP : RightP l) (h0 : 0 < l.length) : oref08Ideal ((l, m, ()), ()) = some (((List.range 16).map (idealM l m.2.1), ()), ()) := by
  rw [oref08Ideal_eq, bref08Ideal]
  simp only [wref08Idealx3_eq]
  have h := whl_up (g := rref08Idealx3) (fun k => ((l, (), (List.range k).map (idealM l m.2.1), (k : Int), ()), m, (), ())) (.inl (((List.range 16).map (idealM l m.2.1), ()), (), ())) 16
    (by
      have : ilt ((16 : Nat) : Int) 16 = false := ilt_f.2 (by omega)
      simp only [rref08Idealx3, bifF this])
    (fun k hk => by
      have h1 : ilt (k : Int) 16 = true := ilt_t.2 (by omega)
      have hf : fits (dlen ((List.range k).map (idealM l m.2.1))) (dlen [idealM l m.2.1 k]) 40 = true := by
        rw [fits_t, dlen_eq, dlen_eq]
        simp
        omega
      have ho : oref07Owner ((l, stp m.2.1 (240 + k), ()), ()) = some ((idealM l m.2.1 k, ()), ()) := ref07Owner_eq l _ hl hP h0
      simp only [rref08Idealx3, bifT h1, ref08Goal_eq m k hk, bS_some, ho, hf, inc_nat (show k < 4611686018427387904 by omega), dapp, List.range_succ, List.map_append, List.map_cons, List.map_nil]
      rfl) 16 0 (by omega)
  simp only [List.range_zero, List.map_nil] at h
  have h' : whl rref08Idealx3 ((l, (), [], 0, ()), m, (), ()) = _ := h
  rw [h']
  rfl
theorem ref07Same_self (l : List Mem') (hl : l.length ≤ 4611686018427387903) : oref07Same ((l, l, ()), ()) = some ((true, ()), ()) := by
  rw [oref07Same_eq, bref07Same]
  have e : ieq (dlen l) (dlen l) = true := ieq_t.2 rfl
  have h := whl_up (g := rref07Samex4) (fun i => ((l, l, dlen l, (i : Int), ()), ())) (.inr (.inl ((), ()))) l.length
    (by simp only [rref07Samex4, bifF (ilt_len' (xs := l) (Nat.le_refl _))])
    (fun i hi => by
      simp [rref07Samex4, bifT (ilt_len hi), ile_nat, ilt_len hi, ieq, ideq, inc_nat (show i < 4611686018427387904 by omega)]) l.length 0 (by omega)
  have h' : whl rref07Samex4 ((l, l, dlen l, 0, ()), ()) = _ := h
  simp only [e, wref07Samex4_eq, h']
  rfl

/-- what a member's fingers are, or that there are none -/
noncomputable def idealR (l : List Mem') (no : Int) : List Mem' × Int × Unit := if rightB l = true then (match l.findIdx? (fun m => decide (m.1 = no)) with | some i => ((List.range 16).map (idealM l (l.getD i noM).2.1), 0, ()) | none => ([], 6, ())) else ([], 1, ())
theorem find_lt {l : List Mem'} {no : Int} {i : Nat} (h : l.findIdx? (fun m => decide (m.1 = no)) = some i) : i < l.length ∧ (l.getD i noM).1 = no := by
  obtain ⟨hi, hp, _⟩ := List.findIdx?_eq_some_iff_getElem.1 h
  exact ⟨hi, by simpa [hi] using hp⟩
theorem fingerIdeal_all (l : List Mem') (no : Int) (hl : l.length ≤ 4611686018427387903) : ofingerIdeal ((l, no, ()), ()) = some (idealR l no, ()) := by
  unfold idealR
  cases hr : rightB l with
  | false =>
    rw [ofingerIdeal_eq, bfingerIdeal]
    simp only [ringRight_eq l hl, bS_some, hr]
    rfl
  | true =>
    rw [if_pos rfl]
    cases hi : l.findIdx? (fun m => decide (m.1 = no)) with
    | some i => exact fingerIdeal_at l no i hl hr (find_lt hi).1 hi
    | none =>
      have hm : ilt (-1) 0 = true := rfl
      rw [ofingerIdeal_eq, bfingerIdeal]
      simp only [ringRight_eq l hl, bS_some, hr, idxN_eq l no hl, hi, hm]
      rfl
theorem fingerGoal_bad (m : Mem') (k : Int) (h : k < 0 ∨ 15 < k) : ofingerGoal ((m, k, ()), ()) = some ((Id.zero, 1, ()), ()) := by
  obtain ⟨mn, mi, ⟨⟩⟩ := m
  rw [ofingerGoal_eq, bfingerGoal]
  by_cases hl : k < 0
  · simp only [ilt_t.2 hl]; rfl
  · have h1 : ilt k 0 = false := ilt_f.2 (by omega)
    have h2 : ile 16 k = true := ile_t.2 (by omega)
    simp only [h1, h2]
    rfl

theorem points (l0 : List Mem') (m : Mem') (k no : Int) : olaw08FingerPoints ((l0, m, k, no, ()), ()) = some ((true, ()), ()) := by
  have hl : (l0.take 18).length ≤ 4611686018427387903 := by rw [List.length_take]; omega
  rw [olaw08FingerPoints_eq, blaw08FingerPoints, few_eq, bS_some]
  generalize l0.take 18 = l at *
  have hfr : oref07Right ((l, ()), ()) = some ((rightB l, ()), ()) := ref07Right_eq l hl
  simp only [fingerIdeal_all l no hl, bS_some, hfr, alive8, ref07Find_eq l no hl]
  have hgood : k < 0 ∨ 15 < k ∨ ∃ n : Nat, n < 16 ∧ k = n := by
    by_cases h1 : k < 0
    · exact .inl h1
    · by_cases h2 : 15 < k
      · exact .inr (.inl h2)
      · exact .inr (.inr ⟨k.toNat, by omega, by omega⟩)
  have e1 : ∀ n : Nat, n < 16 → ilt (n : Int) 0 = false ∧ ilt 15 (n : Int) = false := fun n hn => ⟨ilt_f.2 (by omega), ilt_f.2 (by omega)⟩
  have i11 : ieq 1 1 = true := rfl
  have i00 : ieq 0 0 = true := rfl
  have i66 : ieq 6 6 = true := rfl
  have izz : ideq Id.zero Id.zero = true := ideq_t.2 rfl
  have iss : ∀ a : Id, ideq a a = true := fun a => ideq_t.2 rfl
  have d0 : ieq (dlen ([] : List Mem')) 0 = true := rfl
  have hm1 : ilt (-1) 0 = true := rfl
  cases hr : rightB l with
  | false =>
    have hI : idealR l no = ([], 1, ()) := by unfold idealR; rw [hr]; rfl
    rw [hI]
    rcases hgood with h | h | ⟨n, hn, rfl⟩
    · simp only [fingerGoal_bad m k (.inl h), bS_some, ilt_t.2 h, i11, izz, d0, cond_true, cond_false]
    · have h0 : ilt k 0 = false := ilt_f.2 (by omega)
      simp only [fingerGoal_bad m k (.inr h), bS_some, h0, ilt_t.2 h, i11, izz, d0, cond_true, cond_false]
    · simp only [fingerGoal_eq m n hn, bS_some, (e1 n hn).1, (e1 n hn).2, ref08Goal_eq m n hn, i00, i11, iss, d0, cond_true, cond_false]
  | true =>
    have hP := rightB_P hr
    cases hi : l.findIdx? (fun m => decide (m.1 = no)) with
    | none =>
      have hI : idealR l no = ([], 6, ()) := by unfold idealR; rw [hr, hi]; rfl
      rw [hI]
      rcases hgood with h | h | ⟨n, hn, rfl⟩
      · simp only [fingerGoal_bad m k (.inl h), bS_some, ilt_t.2 h, i11, izz, d0, hm1, i66, cond_true, cond_false]
      · have h0 : ilt k 0 = false := ilt_f.2 (by omega)
        simp only [fingerGoal_bad m k (.inr h), bS_some, h0, ilt_t.2 h, i11, izz, d0, hm1, i66, cond_true, cond_false]
      · simp only [fingerGoal_eq m n hn, bS_some, (e1 n hn).1, (e1 n hn).2, ref08Goal_eq m n hn, i00, i11, iss, d0, hm1, i66, cond_true, cond_false]
    | some i =>
      obtain ⟨hil, hno⟩ := find_lt hi
      have hI : idealR l no = ((List.range 16).map (idealM l (l.getD i noM).2.1), 0, ()) := by unfold idealR; rw [hr, hi]; rfl
      have hge : ilt (l.getD i noM).1 0 = false := ilt_f.2 (hP.no i hil).1
      have hid : oref08Ideal ((l, l.getD i noM, ()), ()) = _ := ref08Ideal_eq l (l.getD i noM) hl hP (by omega)
      have hsm := ref07Same_self ((List.range 16).map (idealM l (l.getD i noM).2.1)) (by simp)
      rw [hI]
      rcases hgood with h | h | ⟨n, hn, rfl⟩
      · simp only [fingerGoal_bad m k (.inl h), bS_some, ilt_t.2 h, i11, i00, izz, hge, hid, hsm, cond_true, cond_false]
      · have h0 : ilt k 0 = false := ilt_f.2 (by omega)
        simp only [fingerGoal_bad m k (.inr h), bS_some, h0, ilt_t.2 h, i11, i00, izz, hge, hid, hsm, cond_true, cond_false]
      · simp only [fingerGoal_eq m n hn, bS_some, (e1 n hn).1, (e1 n hn).2, ref08Goal_eq m n hn, i00, i11, iss, hge, hid, hsm, cond_true, cond_false]

end Am
end Go.Proofs.Ytkpojikfadeeeaa
