/-
  Layer 8: the law FingerNears.
-/
import Derived.Test.YtkpojikfadeeeaaPl
namespace Go.Proofs.Ytkpojikfadeeeaa
namespace Am
open Go Go.RowKit
set_option linter.unusedVariables false

/-- the one that is chosen is between, and none is farther -/
def Best (self id : Id) (l : List Mem') (s : Mem' × Int) : Prop :=
  (s.2 = 6 ∧ ∀ x ∈ l, between x.2.1 self id = false) ∨ (s.2 = 0 ∧ between s.1.2.1 self id = true ∧ ∀ x ∈ l, between x.2.1 self id = true → way self.num x.2.1.num ≤ way self.num s.1.2.1.num)
theorem best_step (self id : Id) {l : List Mem'} {s : Mem' × Int} (h : Best self id l s) (m : Mem') : Best self id (l ++ [m]) (upd self id s m) := by
  unfold upd
  cases hb : between m.2.1 self id with
  | false =>
    simp only [Bool.false_eq_true, if_false]
    rcases h with ⟨h1, h2⟩ | ⟨h1, h2, h3⟩
    · exact .inl ⟨h1, fun x hx => by
        rcases List.mem_append.1 hx with hx | hx
        · exact h2 x hx
        · rw [List.mem_singleton.1 hx]; exact hb⟩
    · exact .inr ⟨h1, h2, fun x hx hxb => by
        rcases List.mem_append.1 hx with hx | hx
        · exact h3 x hx hxb
        · rw [List.mem_singleton.1 hx, hb] at hxb; cases hxb⟩
  | true =>
    simp only [if_true]
    rcases h with ⟨h1, h2⟩ | ⟨h1, h2, h3⟩
    · rw [if_neg (by rw [h1]; decide)]
      exact .inr ⟨rfl, hb, fun x hx hxb => by
        rcases List.mem_append.1 hx with hx | hx
        · rw [h2 x hx] at hxb; cases hxb
        · rw [List.mem_singleton.1 hx]; exact Nat.le_refl _⟩
    · rw [if_pos h1]
      by_cases hw : way self.num s.1.2.1.num < way self.num m.2.1.num
      · rw [if_pos hw]
        exact .inr ⟨rfl, hb, fun x hx hxb => by
          rcases List.mem_append.1 hx with hx | hx
          · exact Nat.le_of_lt (Nat.lt_of_le_of_lt (h3 x hx hxb) hw)
          · rw [List.mem_singleton.1 hx]; exact Nat.le_refl _⟩
      · rw [if_neg hw]
        exact .inr ⟨h1, h2, fun x hx hxb => by
          rcases List.mem_append.1 hx with hx | hx
          · exact h3 x hx hxb
          · rw [List.mem_singleton.1 hx]; omega⟩
theorem best_fold (self id : Id) : ∀ (l k : List Mem') (s : Mem' × Int), Best self id k s → Best self id (k ++ l) (l.foldl (upd self id) s)
  | [], k, s, h => by simpa using h
  | m :: l, k, s, h => by
    have := best_fold self id l (k ++ [m]) _ (best_step self id h m)
    simpa using this
theorem best_closest (self id : Id) (l : List Mem') : Best self id l (closest self id l) := by
  have := best_fold self id l [] ((0, Id.zero, ()), 6) (.inl ⟨rfl, fun x hx => by cases hx⟩)
  rw [List.nil_append] at this
  exact this

theorem nears5 (self id : Id) : ∀ (l : List Mem'), l.length ≤ 4611686018427387903 → (∀ x ∈ l, between x.2.1 self id = false) →
    whl rlaw08FingerNearsx5 (((), (), l, dlen l, 0, ()), id, self, ()) = some (.inl ((), ())) := by
  intro l hl hn
  have h := whl_goL (t := memT) (xs := l) (g := rlaw08FingerNearsx5) (fun i (_ : Unit) => (((), (), l, dlen l, i, ()), id, self, ())) (fun x _ => if between x.2.1 self id = true then .inr (.inr (.inl ((false, ()), ()))) else .inl ()) (fun _ => .inl ((), ())) hl
    (fun i s hi => by simp only [rlaw08FingerNearsx5, bifF hi])
    (fun i s hi h0 => by
      simp only [rlaw08FingerNearsx5, bifT hi, h0, cond_true, identIn_eq, bS_some, ideq_dec]
      have em : (dget memT l i) = dget ((Ty.int IntKind.i64).pair (Ty.id.pair Ty.unit)) l i := rfl
      rw [em]
      generalize dget ((Ty.int IntKind.i64).pair (Ty.id.pair Ty.unit)) l i = x
      unfold between
      cases decide (x.2.1 = self) <;> cases decide (x.2.1 = id) <;> cases within x.2.1 self id <;> simp) ()
  refine h.trans ?_
  clear h hl
  induction l with
  | nil => rfl
  | cons x l ih =>
    simp only [goL]
    rw [hn x (by simp)]
    exact ih fun y hy => hn y (by simp [hy])

noncomputable def off (x m self id : Id) : Bool := !decide (x = m) && (!decide (x = id) && (!decide (x = self) && within x m id))
theorem nears14 (self id : Id) (m : Mem') : ∀ (l : List Mem'), l.length ≤ 4611686018427387903 → (∀ x ∈ l, off x.2.1 m.2.1 self id = false) →
    whl rlaw08FingerNearsx14 (((), (), (), l, dlen l, 0, ()), id, self, m, ()) = some (.inr (.inl (((), (), (), ()), id, self, m, ()))) := by
  intro l hl hn
  have h := whl_goL (t := memT) (xs := l) (g := rlaw08FingerNearsx14) (fun i (_ : Unit) => (((), (), (), l, dlen l, i, ()), id, self, m, ())) (fun x _ => if off x.2.1 m.2.1 self id = true then .inr (.inl ((false, ()), ())) else .inl ()) (fun _ => .inr (.inl (((), (), (), ()), id, self, m, ()))) hl
    (fun i s hi => by simp only [rlaw08FingerNearsx14, bifF hi])
    (fun i s hi h0 => by
      simp only [rlaw08FingerNearsx14, bifT hi, h0, cond_true, identIn_eq, bS_some, ideq_dec]
      have em : (dget memT l i) = dget ((Ty.int IntKind.i64).pair (Ty.id.pair Ty.unit)) l i := rfl
      rw [em]
      generalize dget ((Ty.int IntKind.i64).pair (Ty.id.pair Ty.unit)) l i = x
      unfold off
      cases decide (x.2.1 = self) <;> cases decide (x.2.1 = id) <;> cases decide (x.2.1 = m.2.1) <;> cases within x.2.1 m.2.1 id <;> simp) ()
  refine h.trans ?_
  clear h hl
  induction l with
  | nil => rfl
  | cons x l ih =>
    simp only [goL]
    rw [hn x (by simp)]
    exact ih fun y hy => hn y (by simp [hy])

theorem way_add {s m x y : Nat} (h1 : s < rM) (h2 : m < rM) (h3 : x < rM) (h4 : y < rM) (a1 : way s m ≠ 0) (a2 : way s m ≤ way s y) (b1 : way m x ≠ 0) (b2 : way m x ≤ way m y) : way s x ≠ 0 ∧ way s x ≤ way s y ∧ way s m < way s x := by
  unfold way at *
  by_cases c1 : s ≤ m <;> by_cases c2 : s ≤ y <;> by_cases c3 : m ≤ x <;> by_cases c4 : m ≤ y <;> by_cases c5 : s ≤ x <;>
    simp only [c1, c2, c3, c4, c5, if_true, if_false] at a1 a2 b1 b2 ⊢ <;> omega
theorem way_back {s m x : Nat} (h1 : s < rM) (h2 : m < rM) (h3 : x < rM) (a0 : m ≠ s) (b1 : way m x ≠ 0) (b2 : way m x ≤ way m s) (hx : x ≠ s) : way s m < way s x := by
  unfold way at *
  by_cases c1 : s ≤ m <;> by_cases c3 : m ≤ x <;> by_cases c4 : m ≤ s <;> by_cases c5 : s ≤ x <;>
    simp only [c1, c3, c4, c5, if_true, if_false] at b1 b2 ⊢ <;> omega
theorem off_none {x m self id : Id} (hm : between m self id = true) (hx : between x self id = true → way self.num x.num ≤ way self.num m.num) : off x m self id = false := by
  unfold off
  by_cases h1 : x = m
  · simp [h1]
  · by_cases h2 : x = id
    · simp [h2]
    · by_cases h3 : x = self
      · simp [h3]
      · simp only [h1, h2, h3, decide_false, Bool.not_false, Bool.true_and]
        cases hw : within x m id with
        | false => rfl
        | true =>
          exfalso
          have n1 := self.num_ltM
          have n2 := x.num_ltM
          have n3 := id.num_ltM
          have n4 := m.num_ltM
          have e1 : x.num ≠ m.num := fun h => h1 (Id.num_inj h)
          have e2 : x.num ≠ id.num := fun h => h2 (Id.num_inj h)
          have e3 : x.num ≠ self.num := fun h => h3 (Id.num_inj h)
          unfold between within at hm hx
          unfold within at hw
          simp only [h2, h3, decide_false, Bool.not_false, Bool.true_and, Bool.and_eq_true, Bool.or_eq_true, Bool.not_eq_true', decide_eq_false_iff_not, decide_eq_true_iff] at hm hx hw
          obtain ⟨g1, g2, g3⟩ := hm
          have e4 : m.num ≠ self.num := fun h => g1 (Id.num_inj h)
          have e5 : m.num ≠ id.num := fun h => g2 (Id.num_inj h)
          have hw2 := hw.resolve_left g2
          by_cases hs : self = id
          · have h9 := hx (.inl hs)
            have := way_back n1 n4 n2 e4 hw2.1 (by rw [hs]; exact hw2.2) e3
            omega
          · have g4 := g3.resolve_left hs
            obtain ⟨k1, k2, k3⟩ := way_add n1 n4 n2 n3 g4.1 g4.2 hw2.1 hw2.2
            have h9 := hx (.inr ⟨k1, k2⟩)
            omega

theorem within_of {x self id : Id} (h : between x self id = true) : within x self id = true := by
  unfold between at h
  simp only [Bool.and_eq_true] at h
  exact h.2.2
theorem way_less {x self id : Id} (hne : id ≠ self) (h : between x self id = true) : way x.num id.num < way self.num id.num := by
  have h1 := self.num_ltM
  have h2 := x.num_ltM
  have h3 := id.num_ltM
  have hw := within_of h
  have e1 : self.num ≠ id.num := fun e => hne (Id.num_inj e).symm
  unfold within at hw
  simp only [Ne.symm hne, decide_false, Bool.false_or, Bool.and_eq_true, decide_eq_true_iff] at hw
  obtain ⟨b1, b2⟩ := hw
  unfold way at b1 b2 ⊢
  by_cases c1 : self.num ≤ x.num <;> by_cases c2 : self.num ≤ id.num <;> by_cases c3 : x.num ≤ id.num <;>
    simp only [c1, c2, c3, if_true, if_false] at b1 b2 ⊢ <;> omega

theorem nears (id self : Id) (l : List Mem') : olaw08FingerNears ((id, self, l, ()), ()) = some ((true, ()), ()) := by
  have hl : (l.take 18).length ≤ 4611686018427387903 := by rw [List.length_take]; omega
  rw [olaw08FingerNears_eq, blaw08FingerNears, few_eq, bS_some]
  simp only [fingerClosest_eq' id self _ hl, bS_some, wlaw08FingerNearsx5_eq, wlaw08FingerNearsx14_eq, alive8, identFar_eq, identCompare_eq, identIn_eq, far_num]
  generalize l.take 18 = k at *
  have hb := best_closest self id k
  generalize closest self id k = s at *
  obtain ⟨m, e⟩ := s
  rcases hb with ⟨h1, h2⟩ | ⟨h1, h2, h3⟩
  · simp only at h1
    subst h1
    rw [nears5 self id k hl h2]
    rfl
  · simp only at h1 h2 h3
    subst h1
    rw [nears14 self id m k hl fun x hx => off_none h2 (h3 x hx)]
    have hw := within_of h2
    have c0 : (bif ieq 0 0 then false else true) = false := rfl
    simp only [c0, cond_false, cond_true, bL_inr, bL_inl, identIn_eq, bS_some, hw, ideq_dec]
    by_cases hne : id = self
    · simp [hne]
    · have hc : ile 0 (cmpN (way m.2.1.num id.num) (way self.num id.num)) = false := by
        rw [ile_f, cmpN_lt]
        exact way_less hne h2
      simp [hne, hc]

end Am
end Go.Proofs.Ytkpojikfadeeeaa
