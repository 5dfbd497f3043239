/-
  The closest one of those that are known.
-/
import Derived.Test.YtokamjlhdidefaaPj
namespace Go.Proofs.Ytokamjlhdidefaa
namespace Am
open Go Go.RowKit
set_option linter.unusedSimpArgs false
set_option linter.unusedVariables false


theorem way_inj {a x y : Nat} (ha : a < rM) (hx : x < rM) (hy : y < rM) (h : way a x = way a y) : x = y := by
  unfold way at h
  split at h <;> split at h <;> omega
theorem way_zero {a x : Nat} (ha : a < rM) (hx : x < rM) : way a x = 0 ↔ x = a := by
  unfold way
  split <;> omega

noncomputable def upd (self id : Id) (s : Mem' × Int) (m : Mem') : Mem' × Int :=
  if between m.2.1 self id = true then (if s.2 = 0 then (if way self.num s.1.2.1.num < way self.num m.2.1.num then (m, 0) else s) else (m, 0)) else s
noncomputable def closest (self id : Id) (l : List Mem') : Mem' × Int := l.foldl (upd self id) ((0, Id.zero, ()), 6)

theorem closest1_eq (m : Mem') (self id : Id) : ofingerClosest_1 ((m, self, id, ()), ()) = some ((between m.2.1 self id, ()), ()) := by
  rw [ofingerClosest_1_eq, bfingerClosest_1]
  simp only [identIn_eq, bS_some, ideq_dec]
  unfold between
  cases decide (m.2.1 = self) <;> cases decide (m.2.1 = id) <;> rfl
theorem body_eq (m best : Mem') (bad : Int) (self : Id) : oYfingerClosesty5 (((), (), (), ()), (m, ()), self, best, bad, ()) = some (self, (if bad = 0 then (if way self.num best.2.1.num < way self.num m.2.1.num then (m, (0 : Int), ()) else (best, bad, ())) else (m, 0, ()))) := by
  rw [oYfingerClosesty5_eq, bYfingerClosesty5]
  obtain ⟨bn, bi, ⟨⟩⟩ := best
  obtain ⟨mn, mi, ⟨⟩⟩ := m
  simp only [identFar_eq, bS_some, identCompare_eq, far_num]
  have c : ilt (cmpN (way self.num bi.num) (way self.num mi.num)) 0 = decide (way self.num bi.num < way self.num mi.num) := by rw [Bool.eq_iff_iff, ilt_t, decide_eq_true_iff, cmpN_lt]
  rw [c]
  have e : ieq bad 0 = decide (bad = 0) := rfl
  rw [e]
  by_cases h : bad = 0
  · by_cases h2 : way self.num bi.num < way self.num mi.num <;> simp [h, h2]
  · simp [h]

theorem iter_loop (self id : Id) (l : List Mem') (hl : l.length ≤ 4611686018427387903) (s : Mem' × Int) :
    whl (rfingerClosesty5ix1 ((), (), (), ())) (((), ((), self, id, ()), l, dlen l, 0, ()), self, s.1, s.2, (), ()) = some (.inl ((), self, (l.foldl (upd self id) s).1, (l.foldl (upd self id) s).2, (), ())) := by
  have h := whl_goL (t := memT) (xs := l) (g := rfingerClosesty5ix1 ((), (), (), ())) (fun i s => (((), ((), self, id, ()), l, dlen l, i, ()), self, s.1, s.2, (), ())) (fun m s => .inl (upd self id s m)) (fun s => .inl ((), self, s.1, s.2, (), ())) hl
    (fun i s hi => by simp only [rfingerClosesty5ix1, bifF hi])
    (fun i s hi h0 => by
      have hin : (bif ile 0 i then ilt i (dlen l) else false) = true := by rw [h0, hi]; rfl
      simp only [rfingerClosesty5ix1, bifT hi, h0, cond_true, closest1_eq, bS_some, body_eq]
      unfold upd
      have em : (dget memT l i) = dget ((Ty.int IntKind.i64).pair (Ty.id.pair Ty.unit)) l i := rfl
      rw [em]
      generalize dget ((Ty.int IntKind.i64).pair (Ty.id.pair Ty.unit)) l i = m
      cases hb : between m.2.1 self id with
      | false => simp
      | true =>
        simp only [cond_true, if_true]
        by_cases h2 : s.2 = 0
        · by_cases h3 : way self.num s.1.2.1.num < way self.num m.2.1.num <;> simp [h2, h3]
        · simp [h2]) s
  refine h.trans ?_
  have : ∀ (l : List Mem') (s : Mem' × Int), goL (fun m s => (.inl (upd self id s m) : (Mem' × Int) ⊕ (Unit × (Am.Id × ((Int × (Am.Id × Unit)) × (Int × (Unit × Unit))))) ⊕ Empty)) (fun s => .inl ((), self, s.1, s.2, (), ())) l s = .inl ((), self, (l.foldl (upd self id) s).1, (l.foldl (upd self id) s).2, (), ()) := by
    intro l
    induction l with
    | nil => intro s; rfl
    | cons m l ih => intro s; simp only [goL, List.foldl_cons]; exact ih _
  rw [this]

theorem fingerClosest_eq' (id self : Id) (l : List Mem') (hl : l.length ≤ 4611686018427387903) : ofingerClosest ((id, self, l, ()), ()) = some (((closest self id l).1, (closest self id l).2, ()), ()) := by
  rw [ofingerClosest_eq, bfingerClosest, ofingerFilter_eq, bfingerFilter, bS_some, oIfingerClosesty5_eq]
  simp only [bIfingerClosesty5, wfingerClosesty5ix1_eq]
  have h := iter_loop self id l hl ((0, Id.zero, ()), 6)
  rw [h]
  rfl

/- the reference's -/
noncomputable def rupd (self id : Id) (s : Bool × Mem') (m : Mem') : Bool × Mem' :=
  if between m.2.1 self id = true then (if s.1 = true then (if between s.2.2.1 self m.2.1 = true then (true, m) else s) else (true, m)) else s
noncomputable def rclosest (self id : Id) (l : List Mem') : Bool × Mem' := l.foldl (rupd self id) (false, (-1, Id.zero, ()))
theorem ref_loop (self id : Id) (z : Mem') (l : List Mem') (hl : l.length ≤ 4611686018427387903) (s : Bool × Mem') :
    whl rref08Closestx4 (((), (), (), (), s.1, l, dlen l, 0, ()), id, self, z, s.2, ()) = some (.inl (((), (), ()), z, (l.foldl (rupd self id) s).2, ())) := by
  have h := whl_goL (t := memT) (xs := l) (g := rref08Closestx4) (fun i s => (((), (), (), (), s.1, l, dlen l, i, ()), id, self, z, s.2, ())) (fun m s => .inl (rupd self id s m)) (fun s => .inl (((), (), ()), z, s.2, ())) hl
    (fun i s hi => by simp only [rref08Closestx4, bifF hi])
    (fun i s hi h0 => by
      have hin : (bif ile 0 i then ilt i (dlen l) else false) = true := by rw [h0, hi]; rfl
      simp only [rref08Closestx4, bifT hi, h0, cond_true, ref08Between_eq, bS_some]
      unfold rupd
      have em : (dget memT l i) = dget ((Ty.int IntKind.i64).pair (Ty.id.pair Ty.unit)) l i := rfl
      rw [em]
      generalize dget ((Ty.int IntKind.i64).pair (Ty.id.pair Ty.unit)) l i = m
      obtain ⟨f, b⟩ := s
      cases hb : between m.2.1 self id with
      | false => simp
      | true =>
        simp only [cond_true, if_true]
        cases f with
        | false => simp
        | true =>
          obtain ⟨mn, mi, ⟨⟩⟩ := m
          simp only [cond_true, cond_false, if_true, ref08Between_eq, bS_some]
          cases between b.2.1 self mi <;> simp) s
  refine h.trans ?_
  have : ∀ (l : List Mem') (s : Bool × Mem'), goL (fun m s => (.inl (rupd self id s m) : (Bool × Mem') ⊕ ((Unit × (Unit × Unit)) × ((Int × (Am.Id × Unit)) × ((Int × (Am.Id × Unit)) × Unit))) ⊕ Empty)) (fun s => .inl (((), (), ()), z, s.2, ())) l s = .inl (((), (), ()), z, (l.foldl (rupd self id) s).2, ()) := by
    intro l
    induction l with
    | nil => intro s; rfl
    | cons m l ih => intro s; simp only [goL, List.foldl_cons]; exact ih _
  rw [this]
theorem ref08Closest_eq' (id self : Id) (l : List Mem') (hl : l.length ≤ 4611686018427387903) : oref08Closest ((id, self, l, ()), ()) = some (((rclosest self id l).2, ()), ()) := by
  rw [oref08Closest_eq, bref08Closest, wref08Closestx4_eq]
  have h := ref_loop self id (0, Id.zero, ()) l hl (false, (-1, Id.zero, ()))
  simp only [h, bL_inl]
  rfl

theorem between_iff {x self id : Id} (hx : x ≠ self) (hy : id ≠ self) : between x self id = true ↔ way self.num x.num < way self.num id.num := by
  unfold between within
  have h1 := self.num_ltM
  have h2 := x.num_ltM
  have h3 := id.num_ltM
  have z : way self.num x.num ≠ 0 := fun h => hx (Id.num_inj ((way_zero h1 h2).1 h))
  have hinj : way self.num x.num = way self.num id.num ↔ x = id := ⟨fun h => Id.num_inj (way_inj h1 h2 h3 h), fun h => by rw [h]⟩
  simp only [hx, Ne.symm hy, z, decide_false, Bool.not_false, Bool.true_and, Bool.false_or, ne_eq, not_false_eq_true, decide_true, Bool.and_eq_true, Bool.not_eq_true', decide_eq_false_iff_not, decide_eq_true_iff]
  constructor
  · rintro ⟨h4, h5⟩
    have := mt hinj.1 h4
    omega
  · intro h4
    exact ⟨fun e => by rw [e] at h4; omega, by omega⟩
theorem between_ne {x self id : Id} (h : between x self id = true) : x ≠ self := by
  unfold between at h
  simp only [Bool.and_eq_true, Bool.not_eq_true', decide_eq_false_iff_not] at h
  exact h.1

/-- the two go side by side -/
def Side (self : Id) (s : Mem' × Int) (t : Bool × Mem') : Prop := (s.2 = 6 ∧ s.1 = (0, Id.zero, ()) ∧ t = (false, (-1, Id.zero, ()))) ∨ (s.2 = 0 ∧ t = (true, s.1) ∧ s.1.2.1 ≠ self)
theorem side_step (self id : Id) {s : Mem' × Int} {t : Bool × Mem'} (h : Side self s t) (m : Mem') : Side self (upd self id s m) (rupd self id t m) := by
  unfold upd rupd
  cases hb : between m.2.1 self id with
  | false => simpa using h
  | true =>
    have hm := between_ne hb
    simp only [if_true]
    rcases h with ⟨h1, h2, h3⟩ | ⟨h1, h2, h3⟩
    · subst h3
      rw [if_neg (by rw [h1]; decide)]
      exact .inr ⟨rfl, by simp, hm⟩
    · subst h2
      rw [if_pos h1]
      simp only [if_true]
      have hi := between_iff h3 hm
      by_cases hw : way self.num s.1.2.1.num < way self.num m.2.1.num
      · rw [if_pos hw, if_pos (hi.2 hw)]
        exact .inr ⟨rfl, rfl, hm⟩
      · rw [if_neg hw, if_neg (fun h => hw (hi.1 h))]
        exact .inr ⟨h1, rfl, h3⟩
theorem side_fold (self id : Id) : ∀ (l : List Mem') (s : Mem' × Int) (t : Bool × Mem'), Side self s t → Side self (l.foldl (upd self id) s) (l.foldl (rupd self id) t)
  | [], _, _, h => h
  | m :: l, s, t, h => side_fold self id l _ _ (side_step self id h m)
theorem side_closest (self id : Id) (l : List Mem') : Side self (closest self id l) (rclosest self id l) := side_fold self id l _ _ (.inl ⟨rfl, rfl, rfl⟩)

end Am
end Go.Proofs.Ytokamjlhdidefaa
