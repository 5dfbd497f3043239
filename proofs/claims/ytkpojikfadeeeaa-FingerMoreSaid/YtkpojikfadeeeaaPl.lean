/-
  Layer 8: the law FingerChooses.
-/
import Derived.Test.YtkpojikfadeeeaaPk
namespace Go.Proofs.Ytkpojikfadeeeaa
namespace Am
open Go Go.RowKit
set_option linter.unusedVariables false

theorem few_eq (l : List Mem') : olaw08Few ((l, ()), ()) = some ((l.take 18, ()), ()) := by
  rw [olaw08Few_eq, blaw08Few]
  have e : imin (dlen l) 18 = ((min l.length 18 : Nat) : Int) := by rw [imin_eq, dlen_eq]; omega
  have h0 : ile 0 0 = true := rfl
  have h1 : ile 0 ((min l.length 18 : Nat) : Int) = true := ile_nat
  have h2 : ile ((min l.length 18 : Nat) : Int) (dlen l) = true := by rw [ile_t, dlen_eq]; omega
  rw [e]
  have hs : dsub l 0 ((min l.length 18 : Nat) : Int) = l.take 18 := by
    rw [show ((0 : Int) = ((0 : Nat) : Int)) from rfl, dsub_eq, List.drop_zero, Nat.sub_zero, List.take_eq_take_iff]
    omega
  simp only [h0, h1, h2, cond_true, hs]

theorem low_one (v : UInt8) : ∀ n, n < 32 → (Id.zero.set 31 v).low (n + 1) = v.toNat
  | 0, _ => by simp only [Id.low]; rw [Id.get_set _ _ _ _ (by omega)]; simp
  | n + 1, h => by
    rw [Id.low, low_one v n (by omega), Id.get_set _ _ _ _ (by omega), if_neg (by omega), Id.get_zero]
    simp
theorem num_one (n : Nat) (h : n < 256) : (idset Id.zero 31 (iu8 (n : Int))).num = n := by
  rw [idset_eq, Id.num_def, low_one _ 31 (by omega)]
  unfold iu8
  simp only [UInt8.ofInt]
  have h2 : ((n : Int) % 2 ^ 8) = (n : Int) := Int.emod_eq_of_lt (by omega) (by simpa using (by omega : (n : Int) < 256))
  rw [h2]
  simp
  omega

/-- the one that is chosen: there is one if any is between -/
theorem upd_zero (self id : Id) : ∀ (l : List Mem') (s : Mem' × Int), s.2 = 0 → (l.foldl (upd self id) s).2 = 0
  | [], s, h => h
  | m :: l, s, h => by
    refine upd_zero self id l _ ?_
    unfold upd
    rw [if_pos h]
    split
    · split
      · rfl
      · exact h
    · exact h
theorem upd_none (self id : Id) : ∀ (l : List Mem') (s : Mem' × Int), (∀ m ∈ l, between m.2.1 self id = false) → l.foldl (upd self id) s = s
  | [], _, _ => rfl
  | m :: l, s, h => by
    rw [List.foldl_cons, show upd self id s m = s by unfold upd; rw [h m (by simp)]; simp]
    exact upd_none self id l s fun x hx => h x (by simp [hx])
theorem upd_some (self id : Id) : ∀ (l : List Mem') (s : Mem' × Int), (∃ m ∈ l, between m.2.1 self id = true) → (l.foldl (upd self id) s).2 = 0
  | [], _, h => by obtain ⟨m, hm, _⟩ := h; cases hm
  | m :: l, s, h => by
    rw [List.foldl_cons]
    by_cases hb : between m.2.1 self id = true
    · by_cases hs : s.2 = 0
      · exact upd_zero self id l _ (by unfold upd; rw [if_pos hb, if_pos hs]; split <;> simp [hs])
      · exact upd_zero self id l _ (by unfold upd; rw [if_pos hb, if_neg hs])
    · refine upd_some self id l _ ?_
      obtain ⟨x, hx, hxb⟩ := h
      rcases List.mem_cons.1 hx with rfl | hx
      · exact absurd hxb hb
      · exact ⟨x, hx, hxb⟩

theorem alive8 : olaw08Alive ((), ()) = some ((true, ()), ()) := by
  rw [olaw08Alive_eq, blaw08Alive, fingerClosest_eq' _ _ _ (by decide), bS_some]
  have n12 := num_one 12 (by omega)
  have n3 := num_one 3 (by omega)
  have n5 := num_one 5 (by omega)
  have n9 := num_one 9 (by omega)
  rw [show (((12 : Nat) : Int)) = 12 from rfl] at n12
  rw [show (((3 : Nat) : Int)) = 3 from rfl] at n3
  rw [show (((5 : Nat) : Int)) = 5 from rfl] at n5
  rw [show (((9 : Nat) : Int)) = 9 from rfl] at n9
  generalize idset Id.zero 31 (iu8 12) = i12 at *
  generalize idset Id.zero 31 (iu8 3) = i3 at *
  generalize idset Id.zero 31 (iu8 5) = i5 at *
  generalize idset Id.zero 31 (iu8 9) = i9 at *
  have hne : ∀ {a b : Id}, a.num ≠ b.num → decide (a = b) = false := fun h => decide_eq_false fun e => h (by rw [e])
  have w1 : way 3 5 = 2 := rfl
  have w2 : way 3 9 = 6 := rfl
  have w3 : way 3 12 = 9 := rfl
  have b5 : between i5 i3 i12 = true := by
    unfold between within
    rw [hne (show i5.num ≠ i3.num by omega), hne (show i5.num ≠ i12.num by omega), hne (show i3.num ≠ i12.num by omega), n3, n5, n12, w1, w3]
    rfl
  have b9 : between i9 i3 i12 = true := by
    unfold between within
    rw [hne (show i9.num ≠ i3.num by omega), hne (show i9.num ≠ i12.num by omega), hne (show i3.num ≠ i12.num by omega), n3, n9, n12, w2, w3]
    rfl
  have b12 : between i12 i3 i12 = false := by
    unfold between
    simp
  have hc : closest i3 i12 [(1, i5, ()), (2, i9, ()), (3, i12, ())] = ((2, i9, ()), 0) := by
    unfold closest
    simp only [List.foldl_cons, List.foldl_nil]
    have s1 : upd i3 i12 ((0, Id.zero, ()), 6) (1, i5, ()) = ((1, i5, ()), 0) := by unfold upd; rw [if_pos b5]; rfl
    have s2 : upd i3 i12 ((1, i5, ()), 0) (2, i9, ()) = ((2, i9, ()), 0) := by unfold upd; rw [if_pos b9]; simp only [n3, n5, n9, w1, w2]; rfl
    have s3 : upd i3 i12 ((2, i9, ()), 0) (3, i12, ()) = ((2, i9, ()), 0) := by unfold upd; simp only [b12]; rfl
    rw [s1, s2, s3]
  rw [hc]
  rfl

/-- two members, compared -/
def memEq (a b : Mem') : Bool := bif ieq a.1 b.1 then (bif ideq a.2.1 b.2.1 then true else false) else false
theorem memEq_self (a : Mem') : memEq a a = true := by simp [memEq, ieq, ideq]

theorem chooses_loop (self id : Id) (e : Int) (m want : Mem') : ∀ (l : List Mem'), l.length ≤ 4611686018427387903 →
    whl rlaw08FingerChoosesx5 (((), (), (), e, (), l, dlen l, 0, ()), id, self, m, want, ()) =
      if (∃ x ∈ l, between x.2.1 self id = true) then some (.inr (.inl (((bif ieq e 0 then memEq m want else false), ()), ()))) else some (.inl (((), e, ()), m, ())) := by
  intro l hl
  have h := whl_goL (t := memT) (xs := l) (g := rlaw08FingerChoosesx5) (fun i (_ : Unit) => (((), (), (), e, (), l, dlen l, i, ()), id, self, m, want, ())) (fun x _ => if between x.2.1 self id = true then .inr (.inr (.inl (((bif ieq e 0 then memEq m want else false), ()), ()))) else .inl ()) (fun _ => .inl (((), e, ()), m, ())) hl
    (fun i s hi => by simp only [rlaw08FingerChoosesx5, bifF hi])
    (fun i s hi h0 => by
      simp only [rlaw08FingerChoosesx5, bifT hi, h0, cond_true, ref08Between_eq, bS_some, alive8]
      have em : (dget memT l i) = dget ((Ty.int IntKind.i64).pair (Ty.id.pair Ty.unit)) l i := rfl
      rw [em]
      generalize dget ((Ty.int IntKind.i64).pair (Ty.id.pair Ty.unit)) l i = x
      cases between x.2.1 self id with
      | false => simp
      | true => cases he : ieq e 0 <;> simp [memEq]) ()
  refine h.trans ?_
  clear h hl
  induction l with
  | nil => simp [goL]
  | cons x l ih =>
    simp only [goL]
    by_cases hb : between x.2.1 self id = true
    · have hex : ∃ y ∈ x :: l, between y.2.1 self id = true := ⟨x, by simp, hb⟩
      rw [if_pos hex, if_pos hb]
    · simp only [hb, if_false]
      refine ih.trans ?_
      have : (∃ y ∈ x :: l, between y.2.1 self id = true) ↔ (∃ y ∈ l, between y.2.1 self id = true) := by
        simp [hb]
      simp only [this]

theorem chooses (id self : Id) (l : List Mem') : olaw08FingerChooses ((id, self, l, ()), ()) = some ((true, ()), ()) := by
  have hl : (l.take 18).length ≤ 4611686018427387903 := by rw [List.length_take]; omega
  rw [olaw08FingerChooses_eq, blaw08FingerChooses, few_eq, bS_some]
  simp only [fingerClosest_eq' id self _ hl, ref08Closest_eq' id self _ hl, bS_some, wlaw08FingerChoosesx5_eq]
  rw [chooses_loop self id _ _ _ _ hl]
  have hs := side_closest self id (l.take 18)
  by_cases hx : ∃ x ∈ l.take 18, between x.2.1 self id = true
  · rw [if_pos hx]
    have h0 : (closest self id (l.take 18)).2 = 0 := upd_some self id _ _ hx
    rcases hs with ⟨h1, _, _⟩ | ⟨h1, h2, _⟩
    · rw [h0] at h1; cases h1
    · rw [h2, h1]
      simp [memEq_self, ieq]
  · rw [if_neg hx]
    have hn : closest self id (l.take 18) = ((0, Id.zero, ()), 6) := upd_none self id _ _ fun m hm => by
      cases hb : between m.2.1 self id with
      | false => rfl
      | true => exact absurd ⟨m, hm, hb⟩ hx
    rw [hn]
    simp [alive8, ieq, ideq]

end Am
end Go.Proofs.Ytkpojikfadeeeaa
