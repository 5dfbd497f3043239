/-
  slices.Clone and slices.Delete as contracts (general part): what is to be shown of the code.
-/
import Derived.Test.YtokamjlhdidefaaBm24
import Derived.Laws.CopyRow
namespace Go.Proofs.Ytokamjlhdidefaa
namespace Am
open Go Go.RowKit

theorem Cells.tail {C : Mem} {t : Ty} {x : t.den} {xs : List t.den} {cs : List Value} (h : Cells C t (x :: xs) cs) : TC C t x (cs.take t.size) ∧ Cells C t xs (cs.drop t.size) := by
  refine ⟨?_, ?_, fun v hv => h.2.1 v (List.mem_of_mem_drop hv), fun i y hy => ?_⟩
  · have := h.2.2 0 x rfl
    simpa using this
  · rw [List.length_drop, h.1, List.length_cons, Nat.add_mul]; omega
  · have := h.2.2 (i + 1) y (by simpa using hy)
    rw [List.drop_drop, show t.size + i * t.size = (i + 1) * t.size by rw [Nat.add_mul]; omega]
    exact this
theorem Cells.toL {C : Mem} {t : Ty} : ∀ {xs : List t.den} {cs : List Value}, Cells C t xs cs → CellsL C t xs cs
  | [], cs, h => by
    have := h.1
    simp only [List.length_nil, Nat.zero_mul, List.length_eq_zero_iff] at this
    exact this
  | x :: xs, cs, h => ⟨cs.take t.size, cs.drop t.size, (List.take_append_drop _ _).symm, h.tail.1, Cells.toL h.tail.2⟩

/-- what is to be shown of the code of slices.Clone -/
def CloneOk (P : Program) (f : FuncId) (t : Ty) (e : TypeId) : Prop :=
  ∀ (C : Mem) (w : World) (base : Option Addr) (xs : List t.den) (cap : Nat) (cs : List Value), Cells C t xs cs → xs.length ≤ 1073741824 → (base = none → xs = []) → (∀ ad, base = some ad → ∀ j u, cs[j]? = some u → w.cell? (ad.add j) = some u) →
    Calls P f #[.slice base xs.length cap] w fun ex w' => ∃ v, ex = .returned v ∧ Below w.heap.size w w' ∧ w'.ownsRow w.heap.size e t.size v xs.length cs

noncomputable def oClone (t : Ty) : ((List t.den × Unit) × Unit) → Option (((Int × Int) × Unit) × (List t.den × Unit)) := fun x => if x.1.1.length ≤ 1073741824 then some (((0, (x.1.1.length : Int)), ()), (x.1.1, ())) else none
noncomputable def cClone (t : Ty) (e : TypeId) : Ct := { ash := (.cons (.d (.sl t)) .unit), ms := [], foot := false, up := [], rsh := (.cons (.asl t 0) .unit), ks := [], ms' := [.arr t e], G := fun x => trS (oClone t x) }

theorem spec_clone {P : Program} {f : FuncId} {t : Ty} {e : TypeId} (he : okF P f = true) (ht : (cClone t e).ash.chV = true) (h : CloneOk P f t e) : Spec P f (cClone t e).fc := by
  refine ⟨enterOk_of he, ?_⟩
  intro X w C g mem args vs x r bs hrel hG hargs hx hg
  obtain ⟨e1, e2⟩ := both_some hx
  obtain ⟨b, hb, hbr⟩ := Tr.get_map hg
  simp only [Prod.mk.injEq] at hbr
  obtain ⟨rfl, rfl⟩ := hbr
  have hlen := (decM_get e2 rfl).1
  have hml : mem = [] := by
    cases mem with
    | nil => rfl
    | cons a l => simp [cClone, encM] at hlen
  subst hml
  have hb : (trS (oClone t x)).get = some b := hb
  rw [trS_get] at hb
  unfold oClone at hb
  split at hb
  · rename_i hlim
    cases hb
    have hv := decVL ht hargs e1
    cases hv with
    | cons hv t1 =>
      cases t1
      obtain ⟨base, cap, rfl, hrow, _, h2, h3⟩ := RV_sl hv
      obtain ⟨cs, hcs, hat⟩ := hrow.cells
      refine (h C w base x.1.1 cap cs hcs hlim (fun hb => ?_) (fun ad had j u hj => ?_)).mono ?_
      · rcases Classical.em (x.1.1 = []) with h0 | h0
        · exact h0
        · obtain ⟨ad, had, _⟩ := hat h0
          rw [hb] at had; cases had
      · rcases Classical.em (x.1.1 = []) with h0 | h0
        · have := hcs.1
          rw [h0] at this
          simp only [List.length_nil, Nat.zero_mul, List.length_eq_zero_iff] at this
          rw [this] at hj; simp at hj
        · obtain ⟨ad', had', hA⟩ := hat h0
          rw [had] at had'; cases had'
          rw [show ad.add j = ⟨ad.block, ad.off + j, none⟩ by cases ad; have := hA.1; simp only at this; subst this; exact Addr.add_lit ..]
          exact hrel.sub _ _ (hA.2 j u hj)
      · rintro ex w' ⟨v, rfl, hbel, hcl, hown⟩
        have hg0 : g = [] := by
          have := hrel.len
          cases g with
          | nil => rfl
          | cons a l => simp at this
        subst hg0
        have hkeep : Keeps X.S w w' := ⟨hbel.os, hbel.tape, hbel.output, hbel.size, fun k hk => hbel.block k (hrel.low k hk)⟩
        have mk : ∀ (hh : Gh), BlkRel X C [hh] w' (.arr t e x.1.1) hh → Rel X w C C [hh] [.arr t e x.1.1] w' := by
          intro hh hbl
          refine ⟨hkeep, hrel.low, ?_, Mem.le_refl _, fun _ _ => rfl, rfl, ?_, ?_, ?_⟩
          · intro a v ha
            have h1 := hrel.sub a v ha
            rw [hbel.cell (World.block_lt_of_cell? w a h1)]; exact h1
          · intro b y hy; rw [hG] at hy; simp at hy
          · intro b m y hm hy
            cases b with
            | zero => simp at hm hy; subst hm; subst hy; exact hbl
            | succ b => simp at hm
          · intro b b' m m' y y' k hm _ hm' _ _ _
            cases b with
            | zero => cases b' with
              | zero => rfl
              | succ b' => simp at hm'
            | succ b => simp at hm
        rcases hown with ⟨rfl, hn⟩ | ⟨k, cap', cur, rfl, hk, hheap, hn, hcap, hsz, hcur⟩
        · have hx0 : x.1.1 = [] := List.length_eq_zero_iff.1 hn
          refine ⟨_, C, [.arr none e 0], rfl, mk _ ?_, ?_⟩
          · rw [hx0]; exact .arr0
          · show RV C _ (.asl t 0 0 (x.1.1.length : Int)) _
            rw [hn]
            exact .one (RC.asl (g := [.arr none e 0]) (blk := none) (e := e) (n := 0) (cap := 0) (lo := 0) (hi := 0) rfl ⟨by omega, by omega, by simp, by omega⟩ (by intro h; simp at h)) (fun _ e => by cases e) (fun _ e => by cases e)
        · refine ⟨_, C, [.arr (some k) e x.1.1.length], rfl, mk _ ?_, ?_⟩
          · refine .arr (cap := cap') (cs := cs) (sp := cur.toList.drop (x.1.1.length * t.size)) (fun hS => Nat.lt_irrefl _ (Nat.lt_of_lt_of_le (hrel.low k hS) hk)) ?_ ?_ hcs.toL ⟨hn, hcap, h3⟩ ?_
            · rw [← hcur, List.take_append_drop]; exact hheap
            · rw [← hsz, ← hcur, List.length_take, List.length_drop, Array.length_toList]
              omega
            · intro o s
              cases hc : C ⟨k, o, s⟩ with
              | none => rfl
              | some u =>
                have h1 := World.block_lt_of_cell? w _ (hrel.sub _ _ hc)
                exact absurd h1 (Nat.not_lt.2 hk)
          · show RV C _ (.asl t 0 0 (x.1.1.length : Int)) _
            have := RC.asl (C := C) (t := t) (g := [.arr (some k) e x.1.1.length]) (b := 0) (lo := 0) (hi := (x.1.1.length : Int)) (blk := some k) (e := e) (n := x.1.1.length) (cap := cap') (base := some ⟨k, 0, none⟩) rfl ⟨by omega, by omega, by omega, hn⟩ (fun _ => ⟨k, rfl, by simp⟩)
            simpa using RV.one this (fun _ e => by cases e) (fun _ e => by cases e)
  · cases hb

theorem cell_of_heap {w : World} {k : Nat} {l : List Value} {e : TypeId} {fr : Nat × Nat} (h : w.heap[k]? = some (.cells l.toArray e fr)) (o : Nat) (u : Value) (hu : l[o]? = some u) : w.cell? ⟨k, o, none⟩ = some u := by
  simp only [World.cell?, h]; simpa using hu
theorem frozen_of_heap {w : World} {k : Nat} {l : Array Value} {e : TypeId} (h : w.heap[k]? = some (.cells l e (0, 0))) (o : Nat) : w.frozen? ⟨k, o, none⟩ = false := by
  simp [World.frozen?, h]
theorem setCell_row {w : World} {k o : Nat} {v : Value} {c : Array Value} {e : TypeId} {fr : Nat × Nat} (h : w.heap[k]? = some (.cells c e fr)) : w.setCell ⟨k, o, none⟩ v = w.setRow k (c.setIfInBounds o v) := by
  unfold World.setCell World.setRow
  congr 1
  apply Array.ext_getElem?
  intro j
  simp only [Array.getElem?_modify]
  split
  · rename_i hj; subst hj; rw [h]; simp
  · rfl
theorem setRow_row (w : World) (k : Nat) (a b : Array Value) : (w.setRow k a).setRow k b = w.setRow k b := by
  unfold World.setRow
  congr 1
  apply Array.ext_getElem?
  intro j
  simp only [Array.getElem?_modify]
  split
  · rename_i hj; subst hj
    cases w.heap[k]? with
    | none => rfl
    | some o => cases o <;> rfl
  · rfl
theorem setCells_row {k : Nat} {e : TypeId} {fr : Nat × Nat} : ∀ (vs : List Value) (o : Nat) (w : World) (l : List Value), w.heap[k]? = some (.cells l.toArray e fr) → o + vs.length ≤ l.length → w.setCells k o vs = w.setRow k (l.take o ++ vs ++ l.drop (o + vs.length)).toArray
  | [], o, w, l, h, _ => by
    simp only [World.setCells, List.append_nil, List.length_nil, Nat.add_zero, List.take_append_drop]
    exact (setRow_self w k _ e fr h).symm
  | v :: vs, o, w, l, h, hl => by
    simp only [List.length_cons] at hl
    simp only [World.setCells]
    rw [setCell_row h]
    have h2 : (w.setRow k (l.toArray.setIfInBounds o v)).heap[k]? = some (.cells (l.set o v).toArray e fr) := by
      rw [setRow_heap w k _ _ e fr h]; simp
    rw [setCells_row vs (o + 1) _ (l.set o v) h2 (by rw [List.length_set]; omega), setRow_row]
    congr 2
    apply List.ext_getElem?
    intro j
    have q1 : (List.take o l ++ v :: vs).length = o + (vs.length + 1) := by simp; omega
    have q2 : (List.take (o + 1) (l.set o v) ++ vs).length = o + 1 + vs.length := by simp; omega
    have q3 : (List.take o l ++ v :: vs) = List.take (o + 1) (l.set o v) ++ vs := by
      have : List.take (o + 1) (l.set o v) = List.take o l ++ [v] := by
        rw [List.take_set, List.take_add_one, List.getElem?_eq_getElem (by omega), List.set_append_right _ _ (by simp; omega)]
        simp [show o - min o l.length = 0 by omega]
      rw [this]; simp
    rw [q3, List.length_cons]
    congr 2
    rw [List.drop_set_of_lt (by omega), show o + 1 + vs.length = o + (vs.length + 1) by omega]

/-- what is to be shown of the code of slices.Delete -/
def DelOk (P : Program) (f : FuncId) (sz : Nat) (z : List Value) (e : TypeId) : Prop :=
  (∀ (w : World) (base : Option Addr) (n cap i : Nat), i ≤ n → n ≤ cap → n ≤ 4611686018427387903 → Calls P f #[.slice base n cap, .int .i64 i, .int .i64 i] w fun ex w' => ex = .returned (.slice base n cap) ∧ w' = w) ∧
  ∀ (w : World) (k cap n i j : Nat) (cs sp : List Value) , w.heap[k]? = some (.cells (cs ++ sp).toArray e (0, 0)) → cs.length = n * sz → (∀ v ∈ cs, v.oneCell' = true) → i < j → j ≤ n → n ≤ cap → n ≤ 4611686018427387903 →
    Calls P f #[.slice (some ⟨k, 0, none⟩) n cap, .int .i64 i, .int .i64 j] w fun ex w' => ex = .returned (.slice (some ⟨k, 0, none⟩) (n - (j - i)) cap) ∧ w.grownBy w' (some k) ∧
      w'.heap[k]? = some (.cells (cs.take (i * sz) ++ cs.drop (j * sz) ++ (List.replicate (j - i) z).flatten ++ sp).toArray e (0, 0))

def dDel (t : Ty) (xs : List t.den) (i j : Int) : List t.den := xs.take i.toNat ++ xs.drop j.toNat ++ List.replicate (j.toNat - i.toNat) t.zero
noncomputable def oDel (t : Ty) : (((Int × Int) × Int × Int × Unit) × (List t.den × Unit)) → Option (((Int × Int) × Unit) × (List t.den × Unit)) := fun x =>
  if x.1.1.1 = 0 ∧ x.1.1.2 = x.2.1.length ∧ 0 ≤ x.1.2.1 ∧ x.1.2.1 ≤ x.1.2.2.1 ∧ x.1.2.2.1 ≤ x.2.1.length then some (((0, x.1.1.2 - (x.1.2.2.1 - x.1.2.1)), ()), (dDel t x.2.1 x.1.2.1 x.1.2.2.1, ())) else none
noncomputable def cDel (t : Ty) (e : TypeId) : Ct := { ash := (.cons (.asl t 0) (.cons (.d (.int .i64)) (.cons (.d (.int .i64)) .unit))), ms := [.arr t e], foot := true, up := [], rsh := (.cons (.asl t 0) .unit), ks := [0], ms' := [.arr t e], G := fun x => trS (oDel t x) }

theorem dDel_len (t : Ty) (xs : List t.den) (i j : Int) (h0 : 0 ≤ i) (h1 : i ≤ j) (h2 : j ≤ (xs.length : Int)) : (dDel t xs i j).length = xs.length := by
  simp only [dDel, List.length_append, List.length_take, List.length_drop, List.length_replicate]; omega
theorem decM_arr {t : Ty} {e : TypeId} {mem : List Blk} {y : MSh [.arr t e]} (h : decM [.arr t e] mem = some y) : mem = [.arr t e y.1] := by
  cases mem with
  | nil => simp [decM] at h
  | cons m l =>
    obtain ⟨e1, e2⟩ := both_some h
    cases l with
    | cons _ _ => simp [decM] at e2
    | nil =>
      obtain ⟨xs, u⟩ := y
      cases m with
      | arr t' e' xs' =>
        simp only [BSh.dec] at e1
        cases hn : Nat.beq e' e with
        | false => rw [hn] at e1; cases e1
        | true =>
          rw [hn] at e1
          have := Nat.eq_of_beq_eq_true hn
          subst this
          simp only [cond_true] at e1
          split at e1
          · rename_i he
            subst he
            cases e1; rfl
          · cases e1
      | _ => simp [BSh.dec] at e1
theorem spec_del {P : Program} {f : FuncId} {t : Ty} {e : TypeId} (he : okF P f = true) (ht : (cDel t e).ash.chV = true) (h : DelOk P f t.size (zcells t) e) : Spec P f (cDel t e).fc := by
  refine ⟨enterOk_of he, ?_⟩
  intro X w C g mem args vs x r bs hrel hG hargs hx hg
  obtain ⟨e1, e2⟩ := both_some hx
  obtain ⟨b, hb, hbr⟩ := Tr.get_map hg
  simp only [Prod.mk.injEq] at hbr
  obtain ⟨rfl, rfl⟩ := hbr
  have hm := decM_arr e2
  subst hm
  have hb : (trS (oDel t x)).get = some b := hb
  rw [trS_get] at hb
  obtain ⟨⟨⟨lo, hi⟩, i, j, u⟩, xs, u2⟩ := x
  unfold oDel at hb
  split at hb
  · rename_i hc
    obtain ⟨c1, c2, c3, c4, c5⟩ := hc
    simp only at c1 c2 c3 c4 c5
    cases hb
    subst c1
    have hv := decVL ht hargs e1
    cases hv with
    | cons hv1 t1 => cases t1 with
      | cons hv2 t2 => cases t2 with
        | cons hv3 t3 =>
          cases t3
          have hv1 : RV C g (.asl t 0 0 hi) _ := hv1
          have hi2 := RV_int1 (k := .i64) (n := i) hv2
          have hj2 := RV_int1 (k := .i64) (n := j) hv3
          subst hi2; subst hj2
          obtain ⟨blk, e', n, cap, base, rfl, hg0, h0, hbs⟩ := RV_asl hv1
          have hB := hrel.blk 0 _ _ rfl hg0
          obtain ⟨i, rfl⟩ := Int.eq_ofNat_of_zero_le c3
          obtain ⟨j, rfl⟩ := Int.eq_ofNat_of_zero_le (Int.le_trans c3 c4)
          subst c2
          have c4 : i ≤ j := by omega
          have c5 : j ≤ xs.length := by omega
          show Calls P f #[.slice base ((xs.length : Int) - 0).toNat (cap - (0 : Int).toNat), .int .i64 i, .int .i64 j] w fun ex w' => ∃ v C' g', ex = .returned v ∧ Rel X w C C' g' [.arr t e (dDel t xs i j)] w' ∧ RV C' g' (.asl t 0 0 ((xs.length : Int) - ((j : Int) - (i : Int)))) v
          rw [show ((xs.length : Int) - 0).toNat = xs.length by omega, show cap - (0 : Int).toNat = cap by simp]
          have hres : ∀ (g' : Ghs), g' = g → ∀ m : Nat, m ≤ xs.length → RV C g' (.asl t 0 0 (m : Int)) (.slice base m cap) := by
            rintro g' rfl m hm
            have := RC.asl (C := C) (t := t) (g := g') (b := 0) (lo := 0) (hi := (m : Int)) (blk := blk) (e := e') (n := n) (cap := cap) (base := base) hg0 ⟨by omega, by omega, by omega, h0.2.2.2⟩ (fun hh => hbs hh)
            simpa using RV.one this (fun _ e => by cases e) (fun _ e => by cases e)
          have hnl : xs.length ≤ 4611686018427387903 := by
            cases hB with
            | arr _ _ _ _ g4 _ => exact g4.2.2
            | arr0 => simp
          by_cases hij : i = j
          · subst hij
            have hd : dDel t xs i i = xs := by simp [dDel]
            rw [hd, show (xs.length : Int) - ((i : Int) - (i : Int)) = (xs.length : Int) by omega]
            refine (h.1 w base xs.length cap i c5 (by omega) hnl).mono ?_
            rintro ex w' ⟨rfl, rfl⟩
            exact ⟨_, C, g, rfl, hrel, hres g rfl _ (Nat.le_refl _)⟩
          · obtain ⟨k, rfl, rfl⟩ := hbs (by omega)
            simp only [Int.toNat_zero, Nat.zero_mul] at *
            have hdl := dDel_len t xs i j (by omega) (by omega) (by omega)
            cases hB with
            | arr g0 g1 g2 g3 g4 g5 =>
              rename_i cap1 cs sp
              have hlc := g3.length
              refine (h.2 w k cap xs.length i j cs sp g1 hlc (fun v hv => g3.one v hv) (by omega) c5 (by omega) hnl).mono ?_
              rintro ex w' ⟨rfl, hgr, hheap⟩
              obtain ⟨a1, a23, hcs, k1, k23⟩ := g3.split i
              obtain ⟨b1, b2, hcs2, l1, l2⟩ := g3.split j
              have hA1 := k1.length
              have hB1 := l1.length
              simp only [List.length_take] at hA1 hB1
              rw [Nat.min_eq_left (by omega)] at hA1 hB1
              have e1 : cs.take (i * t.size) = a1 := by rw [hcs, ← hA1]; exact List.take_left
              have e2 : cs.drop (j * t.size) = b2 := by rw [hcs2, ← hB1]; exact List.drop_left
              have kz : CellsL C t (List.replicate (j - i) t.zero) (List.replicate (j - i) (zcells t)).flatten := CellsL.zeros t _
              rw [e1, e2] at hheap
              have hnew : CellsL C t (dDel t xs i j) (a1 ++ b2 ++ (List.replicate (j - i) (zcells t)).flatten) := (k1.append l2).append kz
              have hnl2 := hnew.length
              rw [hdl] at hnl2
              have hb := BlkRel.arr (X := X) (C := C) (g := g) (w := w') (t := t) (e := e) (xs := dDel t xs i j) (k := k) (cap := cap1) (cs := a1 ++ b2 ++ (List.replicate (j - i) (zcells t)).flatten) (sp := sp) g0 hheap (by rw [hnl2, ← hlc]; exact g2) hnew ⟨by rw [hdl]; exact g4.1, g4.2.1, by rw [hdl]; exact g4.2.2⟩ g5
              rw [hdl] at hb
              refine ⟨_, C, g, rfl, hrel.over (m' := .arr t e (dDel t xs i j)) rfl hg0 rfl rfl hgr g5 hb, ?_⟩
              have := hres g rfl (xs.length - (j - i)) (by omega)
              rw [show ((xs.length - (j - i) : Nat) : Int) = (xs.length : Int) - ((j : Int) - (i : Int)) by omega] at this
              exact this
  · cases hb

end Am
end Go.Proofs.Ytokamjlhdidefaa
