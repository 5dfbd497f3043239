/-
  Wire: parsing is the other way of writing; the laws.
-/
import Derived.Test.YthnmiialdjifiaaWz
namespace Go.Proofs.Ythnmiialdjifiaa
namespace Am
open Go Go.RowKit
set_option linter.unusedVariables false
set_option linter.unusedSimpArgs false
set_option maxRecDepth 10000

/- the pieces behind each field -/
def tl4 (m : Wm) : List UInt8 := (if (fl m.1).2.2.2.1 = true then num8 m.2.2.2.2.1.toNat else []) ++ (m.2.2.2.2.2.1 ++ m.2.2.2.2.2.2.1)
def tl3 (m : Wm) : List UInt8 := (if (fl m.1).2.2.1 = true then textS m.2.2.2.1 else []) ++ tl4 m
def tl2 (m : Wm) : List UInt8 := (if (fl m.1).2.1 = true then textS [m.2.2.1] else []) ++ tl3 m
def tl1 (m : Wm) : List UInt8 := (if (fl m.1).1 = true then m.2.1.l else []) ++ tl2 m
theorem bytesM_eq (m : Wm) : bytesM m = iu8 (iwrap IntKind.u8 m.1) :: tl1 m := rfl
theorem kind_byte {m : Wm} (h : RightW m) : (((iu8 (iwrap IntKind.u8 m.1)).toNat : Nat) : Int) = m.1 := by
  obtain ⟨h1, h2⟩ := h.kind
  obtain ⟨n, hn⟩ : ∃ n : Nat, m.1 = (n : Int) := ⟨m.1.toNat, by omega⟩
  rw [hn, iu8_nat (by omega)]
theorem kind_is {m : Wm} (h : RightW m) : isK m.1 = true := by
  obtain ⟨h1, h2⟩ := h.kind
  unfold isK
  simp only [Bool.and_eq_true, decide_eq_true_iff]
  exact ⟨h1, h2⟩
theorem num_of {m : Wm} (h : RightW m) : ∃ n : Nat, m.2.2.2.2.1 = (n : Int) ∧ n ≤ 1099511627776 := ⟨m.2.2.2.2.1.toNat, by have := h.n0; omega, by have := h.n0; have := h.n1; omega⟩

/-- by the program: what is written is read -/
theorem rdMsg_bytes {m : Wm} (h : RightW m) : rdMsg (bytesM m) = some ([], m) := by
  rw [bytesM_eq, rdMsg, kind_byte h, if_pos (kind_is h)]
  obtain ⟨n, hn, hn1⟩ := num_of h
  obtain ⟨h1, h2, h3, h4, h5, h6, h7, h8, h9, h10, h11, h12, h13⟩ := h
  obtain ⟨k, i, t, l, N, non, data, ⟨⟩⟩ := m
  simp only at *
  subst hn
  have s15 : ∀ x : List UInt8, rdData (fl k) data (k, i, t, l, (n : Int), x, [], ()) = ([], (k, i, t, l, (n : Int), x, data, ())) := by
    intro x
    unfold rdData
    cases hf : (fl k).2.2.2.2.2.1 with
    | true => rw [if_pos rfl]
    | false => rw [if_neg (by simp), h12 hf]
  have s13 : rdNon (fl k) (non ++ data) (k, i, t, l, (n : Int), [], [], ()) = some ([], (k, i, t, l, (n : Int), non, data, ())) := by
    unfold rdNon
    cases hf : (fl k).2.2.2.2.1 with
    | true =>
      have hl := h10 hf
      rw [if_pos rfl, if_pos (by rw [List.length_append]; omega)]
      simp only
      rw [← hl, List.take_left, List.drop_left, s15]
    | false =>
      rw [if_neg (by simp), h11 hf, List.nil_append, s15]
  have s11 : rdNum (fl k) (tl4 (k, i, t, l, (n : Int), non, data, ())) (k, i, t, l, 0, [], [], ()) = some ([], (k, i, t, l, (n : Int), non, data, ())) := by
    unfold rdNum tl4
    simp only
    cases hf : (fl k).2.2.2.1 with
    | true =>
      have hl := num8_len n
      simp only [if_true, Int.toNat_natCast]
      rw [if_pos (by rw [List.length_append]; omega)]
      rw [← hl, List.take_left, List.drop_left, numM_num8 n hn1, s13]
    | false =>
      have h0 := h7 hf
      simp only [Bool.false_eq_true, if_false, List.nil_append]
      rw [← s13, h0]
  have s9 : rdStk (fl k) (tl3 (k, i, t, l, (n : Int), non, data, ())) k i t = some ([], (k, i, t, l, (n : Int), non, data, ())) := by
    unfold rdStk tl3
    simp only
    cases hf : (fl k).2.2.1 with
    | true =>
      simp only [if_true, readS_text l (h5 hf), List.drop_left, s11]
    | false =>
      simp only [Bool.false_eq_true, if_false, List.nil_append]
      rw [← s11, h6 hf]
  have s7 : rdTgt (fl k) (tl2 (k, i, t, l, (n : Int), non, data, ())) k i = some ([], (k, i, t, l, (n : Int), non, data, ())) := by
    unfold rdTgt tl2
    simp only
    cases hf : (fl k).2.1 with
    | true =>
      simp only [if_true, readS_text [t] (rightS_one (h3 hf)), List.drop_left]
      exact s9
    | false =>
      simp only [Bool.false_eq_true, if_false, List.nil_append]
      rw [← s9, h4 hf]
  unfold rdId tl1
  simp only
  cases hf : (fl k).1 with
  | true =>
    have hi := i.h
    simp only [if_true]
    rw [if_pos (by rw [List.length_append]; omega), ← hi, List.take_left, List.drop_left]
    rw [show Id.zero.over i.l = i from Id.ext' (over_self _ _ hi), s7]
  | false =>
    simp only [Bool.false_eq_true, if_false, List.nil_append]
    rw [← s7, h2 hf]

theorem fl_one {k : Int} (h : (fl k).2.1 = true) : (fl k).2.2.1 = false := by
  rcases kind_cases k with rfl | rfl | rfl | rfl | rfl | rfl | rfl | rfl | rfl | rfl | ⟨_, h2⟩
  all_goals first | rfl | (cases h) | skip
  rw [fl_not h2]; rfl
theorem fl_some {k : Int} (h : 1 ≤ k ∧ k ≤ 10) : ¬ ((fl k).1 = false ∧ (fl k).2.2.1 = false) := by
  rcases fl_kinds h with rfl | rfl | rfl | rfl | rfl | rfl | rfl | rfl | rfl | rfl <;> simp [fl]
/-- by the document: the head of what is written -/
theorem hd_bytes {m : Wm} (h : RightW m) : hd (bytesM m) = some ((m.1, m.2.1, m.2.2.1, m.2.2.2.1, 0, [], [], ()), tl4 m) := by
  rw [bytesM_eq, hd, kind_byte h, if_neg (fl_some h.kind)]
  obtain ⟨h1, h2, h3, h4, h5, h6, h7, h8, h9, h10, h11, h12, h13⟩ := h
  obtain ⟨k, i, t, l, n, non, data, ⟨⟩⟩ := m
  simp only at *
  have s7 : hdS (fl k) (tl2 (k, i, t, l, n, non, data, ())) k i = some ((k, i, t, l, 0, [], [], ()), tl4 (k, i, t, l, n, non, data, ())) := by
    unfold hdS tl2 tl3
    simp only
    cases hf : (fl k).2.1 with
    | true =>
      have hg := fl_one hf
      simp only [if_true, hg, Bool.false_eq_true, if_false, List.nil_append, readS_text [t] (rightS_one (h3 hf)), List.length_cons, List.length_nil, true_and, List.drop_left, h6 hg]
      rfl
    | false =>
      simp only [Bool.false_eq_true, if_false, List.nil_append]
      cases hg : (fl k).2.2.1 with
      | true => simp only [if_true, readS_text l (h5 hg), List.drop_left, h4 hf]
      | false => simp only [Bool.false_eq_true, if_false, List.nil_append, h4 hf, h6 hg]
  unfold tl1
  simp only
  cases hf : (fl k).1 with
  | true =>
    have hi := i.h
    simp only [if_true]
    rw [if_neg (by rw [List.length_append]; omega)]
    have e1 : (i.l ++ tl2 (k, i, t, l, n, non, data, ())).take 32 = i.l := by rw [← hi]; exact List.take_left
    have e2 : (i.l ++ tl2 (k, i, t, l, n, non, data, ())).drop 32 = tl2 (k, i, t, l, n, non, data, ()) := by rw [← hi]; exact List.drop_left
    rw [e1, e2, show Id.zero.over i.l = i from Id.ext' (over_self _ _ hi), s7]
  | false =>
    simp only [Bool.false_eq_true, if_false, List.nil_append]
    rw [← s7, h2 hf]
theorem refM_bytes {m : Wm} (h : RightW m) : refM (bytesM m) = some m := by
  unfold refM
  rw [hd_bytes h]
  obtain ⟨n, hn, hn1⟩ := num_of h
  have hw := wr_iff.2 h
  obtain ⟨h1, h2, h3, h4, h5, h6, h7, h8, h9, h10, h11, h12, h13⟩ := h
  obtain ⟨k, i, t, l, N, non, data, ⟨⟩⟩ := m
  simp only at *
  subst hn
  have hl8 := num8_len n
  obtain ⟨g1, g2, g3⟩ := numD_num8 n hn1 (non ++ data)
  have hfin : finM (fl k) (k, i, t, l, 0, [], [], ()) (tl4 (k, i, t, l, (n : Int), non, data, ())) = (k, i, t, l, (n : Int), non, data, ()) := by
    unfold finM tl4
    simp only
    cases hf : (fl k).2.2.2.1 with
    | true =>
      have e : (num8 n ++ (non ++ data)).drop 8 = non ++ data := by rw [← hl8]; exact List.drop_left
      simp only [if_true, Int.toNat_natCast, g1, e]
      cases hg : (fl k).2.2.2.2.1 with
      | true =>
        have hd : (fl k).2.2.2.2.2.1 = false := by
          rcases fl_kinds h1 with rfl | rfl | rfl | rfl | rfl | rfl | rfl | rfl | rfl | rfl <;> simp [fl] at hg ⊢
        simp only [if_true, h12 hd, List.append_nil]
      | false => simp only [Bool.false_eq_true, if_false, h11 hg, List.nil_append]
    | false =>
      have h0 := h7 hf
      simp only [Bool.false_eq_true, if_false, List.nil_append]
      cases hg : (fl k).2.2.2.2.1 with
      | true =>
        have hd : (fl k).2.2.2.2.2.1 = false := by
          rcases fl_kinds h1 with rfl | rfl | rfl | rfl | rfl | rfl | rfl | rfl | rfl | rfl <;> simp [fl] at hg ⊢
        simp only [if_true, h12 hd, List.append_nil, h0]
      | false => simp only [Bool.false_eq_true, if_false, h11 hg, List.nil_append, h0]
  rw [hfin, if_pos hw]
  have hlen : (tl4 (k, i, t, l, (n : Int), non, data, ())).length = needF (fl k) + data.length := by
    unfold tl4 needF
    simp only
    cases hf : (fl k).2.2.2.1 <;> cases hg : (fl k).2.2.2.2.1 <;> simp only [Bool.false_eq_true, if_true, if_false, List.length_append, List.length_nil, Int.toNat_natCast, hl8]
    · rw [h11 hg]; simp
    · rw [h10 hg]; omega
    · rw [h11 hg]; simp
    · rw [h10 hg]; omega
  rw [if_neg, if_neg]
  · rintro ⟨hf, hz⟩
    apply hz
    unfold tl4
    simp only [hf, if_true, Int.toNat_natCast]
    exact ⟨g2, g3⟩
  · rw [hlen]
    rintro (hh | ⟨hh, hd⟩)
    · omega
    · rw [h12 hd] at hh
      simp at hh
theorem byte_back (b : UInt8) : iu8 (iwrap IntKind.u8 ((b.toNat : Nat) : Int)) = b := UInt8.toNat_inj.1 (iu8_nat b.toNat_lt)
/-- by the document: what is read was written -/
theorem refM_back {s : List UInt8} {m : Wm} (h : refM s = some m) : RightW m ∧ bytesM m = s := by
  unfold refM at h
  split at h
  · cases h
  · rename_i x hx
    split at h
    · cases h
    · rename_i hlen
      split at h
      · cases h
      · rename_i hz
        split at h
        · rename_i hw
          cases h
          refine ⟨wr_iff.1 hw, ?_⟩
          obtain ⟨⟨k, i, t, l, n, non, data, ⟨⟩⟩, r⟩ := x
          obtain ⟨e1, _, _⟩ := hd_shape hx
          simp only at e1
          cases e1
          simp only at hlen hz
          -- what is behind the head
          have htl : ∀ (i : Id) (t : Ent) (l : List Ent), tl4 (finM (fl k) (k, i, t, l, 0, [], [], ()) r) = r := by
            intro i t l
            unfold tl4 finM
            simp only
            unfold needF at hlen
            cases hf : (fl k).2.2.2.1 with
            | true =>
              simp only [hf, if_true, true_and] at hlen hz ⊢
              have h8 : 8 ≤ r.length := by
                rcases Nat.lt_or_ge r.length 8 with h | h
                · exact absurd (.inl (by omega)) hlen
                · exact h
              have hz' : r.getD 7 0 = 0 ∧ r.getD 6 0 = 0 := Classical.not_not.1 hz
              rw [num8_numD r h8 hz'.1 hz'.2]
              cases hg : (fl k).2.2.2.2.1 with
              | true => simp only [if_true, List.append_nil, List.take_append_drop]
              | false => simp only [Bool.false_eq_true, if_false, List.nil_append, List.take_append_drop]
            | false =>
              simp only [Bool.false_eq_true, if_false, List.nil_append]
              cases hg : (fl k).2.2.2.2.1 with
              | true => simp only [if_true, List.append_nil]
              | false => simp only [Bool.false_eq_true, if_false, List.nil_append]
          have hk1 : ∀ (i : Id) (t : Ent) (l : List Ent), (finM (fl k) (k, i, t, l, 0, [], [], ()) r).1 = k := fun _ _ _ => rfl
          have hS : ∀ (y : List UInt8) (j : Id), hdS (fl k) y k j = some ((k, i, t, l, 0, [], [], ()), r) → j = i ∧ tl2 (finM (fl k) (k, i, t, l, 0, [], [], ()) r) = y := by
            intro y j hy
            have hsp : (readS y).2.2 = 0 → y = textS (readS y).1 ++ y.drop (readS y).2.1 := fun h0 => by
              conv => lhs; rw [← List.take_append_drop (readS y).2.1 y]
              rw [(readS_back y h0).2.1]
            unfold hdS at hy
            unfold tl2 tl3
            simp only [hk1]
            rw [htl]
            split at hy
            · rename_i hf
              split at hy
              · rename_i hc
                simp only [Option.some.injEq, Prod.mk.injEq] at hy
                obtain ⟨⟨_, rfl, ht, hl, _⟩, hr⟩ := hy
                have hg := fl_one hf
                refine ⟨rfl, ?_⟩
                rw [if_pos hf, if_neg (by rw [hg]; simp), List.nil_append]
                have hl1 : [(finM (fl k) (k, j, t, l, 0, [], [], ()) r).2.2.1] = (readS y).1 := by
                  show [t] = _
                  obtain ⟨a, ha⟩ := List.length_eq_one_iff.1 hc.2
                  rw [← ht, ha]; rfl
                rw [hl1, ← hr]
                exact (hsp hc.1).symm
              · cases hy
            · rename_i hf
              split at hy
              · rename_i hg
                split at hy
                · rename_i hc
                  simp only [Option.some.injEq, Prod.mk.injEq] at hy
                  obtain ⟨⟨_, rfl, ht, hl, _⟩, hr⟩ := hy
                  refine ⟨rfl, ?_⟩
                  rw [if_neg hf, if_pos hg, List.nil_append]
                  have hl1 : (finM (fl k) (k, j, t, l, 0, [], [], ()) r).2.2.2.1 = (readS y).1 := hl.symm
                  rw [hl1, ← hr]
                  exact (hsp hc).symm
                · cases hy
              · rename_i hg
                simp only [Option.some.injEq, Prod.mk.injEq] at hy
                obtain ⟨⟨_, rfl, ht, hl, _⟩, hr⟩ := hy
                refine ⟨rfl, ?_⟩
                rw [if_neg hf, if_neg hg, List.nil_append, List.nil_append, hr]
          rw [bytesM_eq]
          cases s with
          | nil => cases hx
          | cons b y =>
            simp only [hd] at hx
            split at hx
            · cases hx
            · have hkb : (b.toNat : Int) = k := by
                have aux : ∀ (f : Fl) (z : List UInt8) (q : Int) (j : Id), hdS f z q j = some ((k, i, t, l, 0, [], [], ()), r) → q = k := by
                  intro f z q j hh
                  unfold hdS at hh
                  split at hh
                  · split at hh
                    · simp only [Option.some.injEq, Prod.mk.injEq] at hh; exact hh.1.1
                    · cases hh
                  · split at hh
                    · split at hh
                      · simp only [Option.some.injEq, Prod.mk.injEq] at hh; exact hh.1.1
                      · cases hh
                    · simp only [Option.some.injEq, Prod.mk.injEq] at hh; exact hh.1.1
                split at hx
                · split at hx
                  · cases hx
                  · exact aux _ _ _ _ hx
                · exact aux _ _ _ _ hx
              rw [hkb] at hx
              have hb : iu8 (iwrap IntKind.u8 (finM (fl k) (k, i, t, l, 0, [], [], ()) r).1) = b := by
                rw [hk1, ← hkb, byte_back]
              rw [hb]
              congr 1
              unfold tl1
              simp only [hk1]
              split at hx
              · rename_i hf
                split at hx
                · cases hx
                · rename_i h32
                  obtain ⟨hj, ht2⟩ := hS _ _ hx
                  rw [if_pos hf, ht2]
                  have hl : (finM (fl k) (k, i, t, l, 0, [], [], ()) r).2.1.l = y.take 32 := by
                    show i.l = _
                    rw [← hj, over_self _ _ (by rw [List.length_take]; omega)]
                  rw [hl, List.take_append_drop]
              · rename_i hf
                obtain ⟨hj, ht2⟩ := hS _ _ hx
                rw [if_neg hf, ht2, List.nil_append]
        · cases h
theorem bytes_inj {m n : Wm} (hm : RightW m) (hn : RightW n) (h : bytesM m = bytesM n) : m = n := by
  have h1 := refM_bytes hm
  rw [h, refM_bytes hn] at h1
  exact (Option.some.inj h1).symm
end Am
end Go.Proofs.Ythnmiialdjifiaa
