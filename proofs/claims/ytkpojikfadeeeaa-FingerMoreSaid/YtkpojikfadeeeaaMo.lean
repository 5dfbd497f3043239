/-
  The law FingerMore.
-/
import Derived.Test.YtkpojikfadeeeaaPm
import Derived.Test.YtkpojikfadeeeaaLs
import Derived.Test.YtkpojikfadeeeaaRg
namespace Go.Proofs.Ytkpojikfadeeeaa
namespace Am
open Go Go.RowKit
set_option linter.unusedVariables false

theorem fold_mem (self id : Id) : ∀ (l : List Mem') (s : Mem' × Int), (l.foldl (upd self id) s).1 = s.1 ∨ (l.foldl (upd self id) s).1 ∈ l
  | [], s => .inl rfl
  | m :: l, s => by
    rw [List.foldl_cons]
    have hu : (upd self id s m).1 = s.1 ∨ (upd self id s m).1 = m := by
      unfold upd
      split
      · split
        · split
          · exact .inr rfl
          · exact .inl rfl
        · exact .inr rfl
      · exact .inl rfl
    rcases fold_mem self id l (upd self id s m) with h | h
    · rcases hu with hu | hu
      · exact .inl (h.trans hu)
      · exact .inr (by rw [h, hu]; exact List.mem_cons_self)
    · exact .inr (List.mem_cons_of_mem _ h)
theorem closest_in (self id : Id) (l : List Mem') (h0 : (closest self id l).2 = 0) : (closest self id l).1 ∈ l := by
  -- the first that is between has come into its place
  have key : ∀ (l : List Mem') (s : Mem' × Int), s.2 = 6 → (l.foldl (upd self id) s).2 = 0 → (l.foldl (upd self id) s).1 ∈ l := by
    intro l
    induction l with
    | nil => intro s h1 h2; rw [List.foldl_nil, h1] at h2; cases h2
    | cons m l ih =>
      intro s h1 h2
      rw [List.foldl_cons] at h2 ⊢
      cases hb : between m.2.1 self id with
      | false =>
        have hu : upd self id s m = s := by unfold upd; rw [hb]; rfl
        rw [hu] at h2 ⊢
        exact List.mem_cons_of_mem _ (ih s h1 h2)
      | true =>
        have hu : upd self id s m = (m, 0) := by
          unfold upd
          rw [hb, if_pos rfl, if_neg (by rw [h1]; decide)]
        rw [hu]
        rcases fold_mem self id l (m, 0) with h | h
        · rw [h]; exact List.mem_cons_self
        · exact List.mem_cons_of_mem _ h
  exact key l _ rfl h0
theorem more_turned (self id : Id) (l : List Mem') : (closest self id l).2 = (closest self id l.reverse).2 ∧ (closest self id l).1.2.1 = (closest self id l.reverse).1.2.1 := by
  rcases best_closest self id l with ⟨h1, h2⟩ | ⟨h1, h2, h3⟩
  · have e1 : closest self id l = ((0, Id.zero, ()), 6) := upd_none self id l _ h2
    have e2 : closest self id l.reverse = ((0, Id.zero, ()), 6) := upd_none self id l.reverse _ (fun m hm => h2 m (List.mem_reverse.1 hm))
    rw [e1, e2]
    exact ⟨rfl, rfl⟩
  · have hm := closest_in self id l h1
    rcases best_closest self id l.reverse with ⟨k1, k2⟩ | ⟨k1, k2, k3⟩
    · have := k2 _ (List.mem_reverse.2 hm)
      rw [h2] at this
      cases this
    · have hk := closest_in self id l.reverse k1
      have a1 := k3 _ (List.mem_reverse.2 hm) h2
      have a2 := h3 _ (List.mem_reverse.1 hk) k2
      refine ⟨h1.trans k1.symm, ?_⟩
      exact Id.num_inj (way_inj self.num_ltM (closest self id l).1.2.1.num_ltM (closest self id l.reverse).1.2.1.num_ltM (by omega))
theorem more_one (self id : Id) (l : List Mem') (m : Mem') : closest self id (l ++ [m]) = closest self id l ∨ closest self id (l ++ [m]) = (m, 0) := by
  unfold closest
  rw [List.foldl_append, List.foldl_cons, List.foldl_nil]
  unfold upd
  split
  · split
    · split
      · exact .inr rfl
      · exact .inl rfl
    · exact .inr rfl
  · exact .inl rfl

theorem back_loop (l : List Mem') (hl : l.length ≤ 18) (e f : Int) (id self : Id) (m a b : Mem') (n : Nat) : n ≤ l.length → ∀ acc : List Mem', acc.length + n ≤ 18 →
    whl rlaw08FingerMorex6 ((l, (), (), (), (), e, (), f, acc, (n : Int) - 1, ()), id, self, m, a, b, (), ()) = some (.inl (((), (), (), (), e, (), f, acc ++ (l.take n).reverse, ()), id, self, m, a, b, ())) := by
  induction n with
  | zero =>
    intro _ acc _
    refine whl_inr ?_
    have hc : ile 0 (((0 : Nat) : Int) - 1) = false := ile_f.2 (by omega)
    simp only [rlaw08FingerMorex6, bifF hc, List.take_zero, List.reverse_nil, List.append_nil]
  | succ n ih =>
    intro hn acc ha
    have e0 : ((n + 1 : Nat) : Int) - 1 = (n : Int) := by omega
    have eg : dget ((Ty.int IntKind.i64).pair (Ty.id.pair Ty.unit)) l (n : Int) = l.getD n noM := dget_eq memT l n
    have e4 : iwrap .i64 (isub (n : Int) 1) = (n : Int) - 1 := by unfold isub; rw [iwrap_i64 (by omega) (by omega)]
    have hf : fits (dlen acc) (dlen [l.getD n noM]) 40 = true := fits_of (by simp; omega) (by simp; omega)
    have hr : rlaw08FingerMorex6 ((l, (), (), (), (), e, (), f, acc, (n : Int), ()), id, self, m, a, b, (), ()) = some (.inl ((l, (), (), (), (), e, (), f, acc ++ [l.getD n noM], (n : Int) - 1, ()), id, self, m, a, b, (), ())) := by
      simp only [rlaw08FingerMorex6, bifT ile_nat, bifT (ilt_len (show n < l.length by omega)), eg, hf, cond_true, e4]
      rfl
    rw [e0, whl_inl hr, ih (by omega) _ (by simp; omega), take_getD (d := noM) (by omega), List.reverse_append]
    simp
theorem more (id self : Id) (l0 : List Mem') (m : Mem') : olaw08FingerMore ((id, self, l0, m, ()), ()) = some ((true, ()), ()) := by
  have h18 : (l0.take 18).length ≤ 18 := by rw [List.length_take]; omega
  rw [olaw08FingerMore_eq, blaw08FingerMore, few_eq, bS_some]
  generalize l0.take 18 = l at *
  have hl : l.length ≤ 4611686018427387903 := by omega
  have f1 : fits 0 (dlen l) 40 = true := fits_of (xs := ([] : List Mem')) (by simp; omega) (by simp; omega)
  have f2 : fits (dlen l) (dlen [m]) 40 = true := fits_of (by simp; omega) (by simp; omega)
  have ea : dapp ([] : List Mem') l = l := rfl
  have eb : dapp l [m] = l ++ [m] := rfl
  have e1 : iwrap .i64 (isub (dlen l) 1) = (l.length : Int) - 1 := by rw [dlen_eq]; unfold isub; rw [iwrap_i64 (by omega) (by omega)]
  have hb := back_loop l h18 (closest self id l).2 (closest self id (l ++ [m])).2 id self m (closest self id l).1 (closest self id (l ++ [m])).1 l.length (Nat.le_refl _) [] (by simp; omega)
  rw [List.take_length, List.nil_append] at hb
  have hrl : l.reverse.length ≤ 4611686018427387903 := by simp; omega
  have hc : ofingerClosest ((id, self, l.reverse, ()), ()) = _ := fingerClosest_eq' id self l.reverse hrl
  obtain ⟨t1, t2⟩ := more_turned self id l
  have iee : ∀ a : Int, ieq a a = true := fun a => ieq_t.2 rfl
  have idd : ∀ a : Id, ideq a a = true := fun a => ideq_t.2 rfl
  simp only [ea, eb, f1, f2, cond_true, fingerClosest_eq' id self l hl, fingerClosest_eq' id self (l ++ [m]) (by simp; omega), bS_some, e1, wlaw08FingerMorex6_eq, hb, bL_inl, hc, ← t1, ← t2, iee, idd, cond_false, alive8]
  rcases more_one self id l m with h | h
  · rw [h]
    simp only [iee, idd, cond_true, cond_false]
  · rw [h]
    by_cases k1 : (closest self id l).2 = 0
    · have : ieq (closest self id l).2 0 = true := ieq_t.2 k1
      simp only [this, iee, idd, cond_true, cond_false]
      cases ieq (closest self id l).1.1 m.1 <;> cases ideq (closest self id l).1.2.1 m.2.1 <;> rfl
    · have : ieq (closest self id l).2 0 = false := ieq_f.2 k1
      simp only [this, iee, idd, cond_true, cond_false]

end Am
end Go.Proofs.Ytkpojikfadeeeaa
