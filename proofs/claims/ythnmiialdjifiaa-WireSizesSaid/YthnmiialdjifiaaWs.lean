/-
  Wire: how many bytes; the law of sizes.
-/
import Derived.Test.YthnmiialdjifiaaWu
namespace Go.Proofs.Ythnmiialdjifiaa
namespace Am
open Go Go.RowKit
set_option linter.unusedVariables false
set_option linter.unusedSimpArgs false
set_option maxRecDepth 10000

def cost (e : Ent) : Nat := if e.1 = 1 then 33 else 2
def costs : List Ent → Nat
  | [] => 0
  | e :: l => cost e + costs l
theorem costs_app (k l : List Ent) : costs (k ++ l) = costs k + costs l := by
  induction k with
  | nil => simp [costs]
  | cons e k ih => simp [costs, ih]; omega
theorem costs_le (l : List Ent) : costs l ≤ 33 * l.length := by
  induction l with
  | nil => simp [costs]
  | cons e k ih => simp only [costs, List.length_cons]; unfold cost; split <;> omega
theorem entB_cost {e : Ent} (h : isE e = true) : (entB e).length = cost e := by
  have hi := e.2.1.h
  unfold entB cost
  rcases kind12 h with h | h <;> rw [h] <;> simp [hi]
theorem flat_cost {l : List Ent} (h : ∀ e ∈ l, isE e = true) : (l.flatMap entB).length = costs l := by
  induction l with
  | nil => rfl
  | cons e l ih =>
    rw [List.flatMap_cons, List.length_append, entB_cost (h e (by simp)), ih (fun x hx => h x (by simp [hx]))]
    rfl
/-- a message's entries -/
def ents (m : Wm) : List Ent := m.2.2.2.1 ++ (if m.2.2.1.1 = 0 then [] else [m.2.2.1])
def has8 (k : Int) : Bool := decide (k = 1) || (decide (k = 2) || (decide (k = 4) || decide (8 ≤ k)))
theorem bytesM_len {m : Wm} (h : RightW m) : (bytesM m).length = 1 + m.2.2.2.2.2.1.length + m.2.2.2.2.2.2.1.length + (if m.1 = 1 then 0 else 32) + costs (ents m) + (if 0 < (ents m).length then 1 else 0) + (if has8 m.1 = true then 8 else 0) := by
  obtain ⟨hk, r2, r3, r4, r5, r6, r7, r8, r9, r10, r11, r12, r13⟩ := h
  have hid := m.2.1.h
  have h8 : ∀ n, (num8 n).length = 8 := num8_len
  have tg : (fl m.1).2.1 = true → m.2.2.1.1 ≠ 0 := fun h => by have := kind12 (r3 h); omega
  have tg0 : (fl m.1).2.1 = false → m.2.2.1.1 = 0 := fun h => by rw [r4 h]; rfl
  have tl : (fl m.1).2.1 = true → (textS [m.2.2.1]).length = 1 + cost m.2.2.1 := fun h => by rw [textS_one, List.length_cons, entB_cost (r3 h)]; omega
  have sl : (fl m.1).2.2.1 = true → (textS m.2.2.2.1).length = 1 + costs m.2.2.2.1 ∧ 0 < m.2.2.2.1.length := fun h => by
    have hs := r5 h
    refine ⟨?_, rightS_pos hs⟩
    unfold textS
    unfold rightS at hs
    simp only [Bool.and_eq_true, List.all_eq_true] at hs
    rw [List.length_cons, flat_cost hs.2.2]; omega
  have cz : costs [] = 0 := rfl
  have c1 : ∀ e, costs [e] = cost e := fun e => by simp [costs]
  unfold bytesM ents
  simp only [List.length_cons, List.length_append]
  rcases fl_kinds hk with e | e | e | e | e | e | e | e | e | e
  · have hf : fl m.1 = fl 1 := by rw [e]
    rw [hf] at tg tg0 tl sl r6 ⊢
    obtain ⟨q1, q2⟩ := sl rfl
    have f1 : (fl 1).1 = false := rfl
    have f2 : (fl 1).2.1 = false := rfl
    have f3 : (fl 1).2.2.1 = true := rfl
    have f4 : (fl 1).2.2.2.1 = true := rfl
    have h1 : has8 1 = true := rfl
    simp only [f1, f2, f3, f4, e, h1, tg0 f2, q1, q2, h8, if_true, if_false, Bool.false_eq_true, List.append_nil, List.length_nil, Nat.add_zero, Nat.zero_add]
    omega
  all_goals
    have hn : ¬ (m.1 = 1) := by rw [e]; decide
    rw [if_neg hn]
    generalize hg : fl m.1 = f at *
    rw [e] at hg
    first
      | (have hh : has8 m.1 = true := by rw [e]; rfl
         rw [if_pos hh])
      | (have hh : has8 m.1 = false := by rw [e]; rfl
         rw [if_neg (show ¬ (has8 m.1 = true) by rw [hh]; decide)])
    subst hg
    rw [r6 rfl]
    first
      | (rw [if_neg (tg rfl)]
         have := tl rfl
         simp only [fl, if_true, if_false, Bool.false_eq_true, List.nil_append, c1, hid, h8, List.length_nil, List.length_singleton, show (0 : Nat) < 1 by omega] at this ⊢
         simp [this, hid, h8]
         try omega)
      | (rw [if_pos (tg0 rfl)]
         simp only [fl, if_true, if_false, Bool.false_eq_true, List.nil_append, cz, hid, h8, List.length_nil]
         simp [hid, h8]
         try omega)
theorem addw {a b : Nat} (h : a + b < 4611686018427387904) : iwrap IntKind.i64 (iadd (a : Int) (b : Int)) = ((a + b : Nat) : Int) := by
  unfold iadd
  rw [iwrap_i64 (by omega) (by omega)]
  omega
theorem sizes_loop (m : Wm) (s : List UInt8) (n : Nat) (l : List Ent) (hl : l.length ≤ 1000) (hn : n ≤ 100000) :
    wlaw05WireSizesx12 (((), s, (n : Int), l, l, dlen l, 0, ()), m, (), ()) = some (.inl (((), s, ((n + costs l : Nat) : Int), l, ()), m, (), ())) := by
  rw [wlaw05WireSizesx12_eq]
  have h := whl_up (g := rlaw05WireSizesx12) (fun k => (((), s, ((n + costs (l.take k) : Nat) : Int), l, l, dlen l, (k : Int), ()), m, (), ())) (.inl (((), s, ((n + costs l : Nat) : Int), l, ()), m, (), ())) l.length
    (by simp only [rlaw05WireSizesx12, bifF (ilt_len' (xs := l) (Nat.le_refl _)), List.take_length])
    (fun k hk => by
      have hc := costs_le (l.take k)
      rw [List.length_take] at hc
      have e2 : (2 : Int) = ((2 : Nat) : Int) := rfl
      have e31 : (31 : Int) = ((31 : Nat) : Int) := rfl
      simp only [rlaw05WireSizesx12, bifT (ilt_len hk), bifT ile_nat, entget, inc_nat (show k < 4611686018427387904 by omega), take_getD (d := noE) hk, costs_app]
      generalize costs (l.take k) = c at *
      generalize l.getD k noE = e
      rw [e2, e31, addw (a := n + c) (b := 2) (by omega), addw (by omega), ieq_d]
      unfold costs costs cost
      by_cases h1 : e.1 = 1
      · simp only [h1, decide_true, cond_true, if_true]
        rw [show n + c + 2 + 31 = n + (c + (33 + 0)) by omega]
      · simp only [h1, decide_false, cond_false, if_false]
        rw [show n + c + 2 = n + (c + (2 + 0)) by omega]) l.length 0 (by omega)
  simpa [costs] using h
def moreM (m : Wm) : Wm := (m.1, m.2.1, m.2.2.1, m.2.2.2.1, m.2.2.2.2.1, m.2.2.2.2.2.1, m.2.2.2.2.2.2.1 ++ [120], ())
theorem more_right {m : Wm} (h : RightW m) : wr (moreM m) = (decide (m.1 = 1) && decide (m.2.2.2.2.2.2.1.length < 64)) := by
  rw [Bool.eq_iff_iff, wr_iff]
  simp only [Bool.and_eq_true, decide_eq_true_iff]
  constructor
  · intro g
    have h1 := g.data
    have h2 := g.data1
    have h3 : (m.2.2.2.2.2.2.1 ++ [120]).length ≤ 64 := h2
    rw [List.length_append, List.length_singleton] at h3
    refine ⟨?_, by omega⟩
    have h4 : (fl m.1).2.2.2.2.2.1 = true := by
      cases hf : (fl m.1).2.2.2.2.2.1 with
      | true => rfl
      | false =>
        have h5 : m.2.2.2.2.2.2.1 ++ [120] = [] := h1 hf
        simp at h5
    rcases fl_kinds h.kind with e | e | e | e | e | e | e | e | e | e
    · exact e
    all_goals rw [e] at h4; cases h4
  · rintro ⟨h1, h2⟩
    refine ⟨h.kind, h.id, h.tgt, h.tgt0, h.stk, h.stk0, h.n, h.n0, h.n1, h.non, h.non0, ?_, ?_⟩
    · show (fl m.1).2.2.2.2.2.1 = false → _
      rw [h1]
      intro h; cases h
    · show (m.2.2.2.2.2.2.1 ++ [120]).length ≤ 64
      simp; omega
theorem more_bytes (m : Wm) : bytesM (moreM m) = bytesM m ++ [120] := by
  unfold bytesM moreM
  simp
theorem len64d {α : Type} (l : List α) : ilt (dlen l) 64 = decide (l.length < 64) := by rw [ilt_eq, dlen_eq]; congr 1; rw [eq_iff_iff]; omega
theorem w22 (m : Wm) (ha : CutW m) (hr : RightW m) (n : Int) (hn : n = ((bytesM m).length : Int)) (hb : (bytesM m).length ≤ 90000) : wlaw05WireSizesx1000022 (((), bytesM m, n, ()), m, ()) = some (.inl ((true, ()), ())) := by
  obtain ⟨s1, s2, s3⟩ := ha
  have hmore : owireText ((moreM m, ()), ()) = some (if wr (moreM m) = true then (bytesM (moreM m), 0, ()) else ([], 1, ()), ()) := wireText_eq (moreM m) ⟨by show m.2.2.2.1.length ≤ 1000; omega, by show m.2.2.2.2.2.1.length ≤ 1000; omega, by show (m.2.2.2.2.2.2.1 ++ [120]).length ≤ 1000; simp; omega⟩
  rw [more_right hr, more_bytes] at hmore
  have hmore : owireText (((m.1, m.2.1, m.2.2.1, m.2.2.2.1, m.2.2.2.2.1, m.2.2.2.2.2.1, sapp m.2.2.2.2.2.2.1 [120], ()), ()), ()) = some (if (decide (m.1 = 1) && decide (m.2.2.2.2.2.2.1.length < 64)) = true then (bytesM m ++ [120], 0, ()) else ([], 1, ()), ()) := hmore
  have sh1 : short (dlen m.2.2.2.2.2.2.1) (1 : Int) = true := shortB1 (by omega)
  have sh2 : short (dlen (bytesM m)) (1 : Int) = true := shortB1 (by omega)
  have hz : ∀ b : List UInt8, sapp b [120] = b ++ [120] := fun b => rfl
  have el : ieq (dlen (bytesM m)) n = true := ieq_t.2 (by rw [dlen_eq, hn])
  have z1 : ieq 1 0 = false := rfl
  have b1 : beq true true = true := rfl
  have b2 : beq false false = true := rfl
  rw [wlaw05WireSizesx1000022_eq]
  simp only [rlaw05WireSizesx1000022, sh1, hmore, bS_some, cond_true]
  simp only [alive5, isS_some, getS_some, el, cond_true, cond_false, sh2, hz, ieq_d, len64d]
  by_cases h1 : m.1 = 1
  · by_cases h2 : m.2.2.2.2.2.2.1.length < 64
    · simp only [h1, h2, decide_true, Bool.and_self, if_true, cond_true, cond_false, b1, seq_s, isB_some, getB_some]
    · simp only [h1, h2, decide_true, decide_false, Bool.and_false, Bool.false_eq_true, if_false, cond_true, cond_false, show ¬ ((1 : Int) = 0) by decide, b2, isB_some, getB_some]
  · simp only [h1, decide_false, Bool.false_and, Bool.false_eq_true, if_false, cond_true, cond_false, show ¬ ((1 : Int) = 0) by decide, b2, isB_some, getB_some]
theorem w20 (m : Wm) (ha : CutW m) (hr : RightW m) (n : Nat) (hn : n + (if has8 m.1 = true then 8 else 0) = (bytesM m).length) (hb : (bytesM m).length ≤ 90000) : wlaw05WireSizesx1000020 (((), bytesM m, (n : Int), ()), m, ()) = some (.inl ((true, ()), ())) := by
  have hc : ∀ k : Int, isB (bif bif ieq k 1 then false else true then bif bif ieq k 2 then false else true then bif bif ieq k 4 then false else true then some (ile 8 k) else some true else some true else some true) = true ∧ getB (bif bif ieq k 1 then false else true then bif bif ieq k 2 then false else true then bif bif ieq k 4 then false else true then some (ile 8 k) else some true else some true else some true) = has8 k := by
    intro k
    unfold has8
    simp only [ieq_d, ile_eq]
    cases decide (k = 1) <;> cases decide (k = 2) <;> cases decide (k = 4) <;> exact ⟨rfl, rfl⟩
  rw [wlaw05WireSizesx1000020_eq]
  simp only [rlaw05WireSizesx1000020, (hc m.1).1, (hc m.1).2, cond_true]
  have e8 : (8 : Int) = ((8 : Nat) : Int) := rfl
  cases h8 : has8 m.1 with
  | true =>
    rw [h8, if_pos rfl] at hn
    rw [e8, addw (by omega), cond_true, w22 m ha hr _ (by rw [hn]) hb]
    rfl
  | false =>
    rw [h8, if_neg (by decide)] at hn
    rw [cond_false, w22 m ha hr _ (by omega) hb]
    rfl
theorem w11 (m : Wm) (ha : CutW m) (hr : RightW m) (n : Nat) (hn : n + costs (ents m) + (if 0 < (ents m).length then 1 else 0) + (if has8 m.1 = true then 8 else 0) = (bytesM m).length) (hb : (bytesM m).length ≤ 90000) (he : (ents m).length ≤ 1000) : wlaw05WireSizesx1000011 (((), bytesM m, (n : Int), ents m, ()), m, (), ()) = some (.inl ((true, ()), ())) := by
  rw [wlaw05WireSizesx1000011_eq]
  have i0 : ilt 0 (dlen (ents m)) = decide (0 < (ents m).length) := by rw [ilt_eq, dlen_eq]; congr 1; rw [eq_iff_iff]; omega
  have e1 : (1 : Int) = ((1 : Nat) : Int) := rfl
  simp only [rlaw05WireSizesx1000011]
  rw [sizes_loop m _ n _ he (by omega)]
  simp only [bL_inl, i0]
  by_cases h : 0 < (ents m).length
  · rw [if_pos h] at hn
    simp only [h, decide_true, cond_true]
    rw [e1, addw (by omega), w20 m ha hr _ (by omega) hb]
    rfl
  · rw [if_neg h] at hn
    simp only [h, decide_false, cond_false]
    rw [w20 m ha hr _ (by omega) hb]
    rfl
theorem w8 (m : Wm) (ha : CutW m) (hr : RightW m) (n : Nat) (hn : n + costs (ents m) + (if 0 < (ents m).length then 1 else 0) + (if has8 m.1 = true then 8 else 0) = (bytesM m).length) (hb : (bytesM m).length ≤ 90000) : wlaw05WireSizesx1000008 (((), bytesM m, (n : Int), ()), m, ()) = some (.inl ((true, ()), ())) := by
  rw [wlaw05WireSizesx1000008_eq]
  have s1 := ha.s
  have f0 : fits 0 (dlen m.2.2.2.1) 48 = true := by
    have := fits_of (xs := ([] : List Ent)) (ys := m.2.2.2.1) (b := 48) (by simp; omega) (by simp; omega)
    exact this
  have d0 : dapp [] m.2.2.2.1 = m.2.2.2.1 := rfl
  have f1 : fits (dlen m.2.2.2.1) (1 : Int) 48 = true := by
    have := fits_of (xs := m.2.2.2.1) (ys := [()]) (b := 48) (by simp; omega) (by simp; omega)
    exact this
  have he : (ents m).length ≤ 1000 := by unfold ents; split <;> simp <;> omega
  simp only [rlaw05WireSizesx1000008, f0, d0, f1, cond_true, dapp1, ieq_d]
  have h11 := w11 m ha hr n hn hb he
  unfold ents at h11
  by_cases h : m.2.2.1.1 = 0
  · rw [if_pos h, List.append_nil] at h11
    simp only [h, decide_true, cond_true, cond_false, h11, bL_inl]
  · rw [if_neg h] at h11
    simp only [h, decide_false, cond_true, cond_false, h11, bL_inl]
theorem sizes5 (a : Wm) : olaw05WireSizes ((a, ()), ()) = some ((true, ()), ()) := by
  rw [olaw05WireSizes_eq, blaw05WireSizes]
  have ha := cutM_cut a
  simp only [cut_eq, bS_some]
  generalize cutM a = m at *
  simp only [wireText_eq m ha.small, bS_some, alive5, isS_some, getS_some]
  cases hw : wr m with
  | false => rfl
  | true =>
    have hr := wr_iff.1 hw
    obtain ⟨s1, s2, s3⟩ := ha
    have hlen := bytesM_len hr
    have e1 : (1 : Int) = ((1 : Nat) : Int) := rfl
    have n0 : iwrap IntKind.i64 (iadd (iwrap IntKind.i64 (iadd 1 (dlen m.2.2.2.2.2.1))) (dlen m.2.2.2.2.2.2.1)) = ((1 + m.2.2.2.2.2.1.length + m.2.2.2.2.2.2.1.length : Nat) : Int) := by
      rw [e1, dlen_eq, dlen_eq, addw (by omega), addw (by omega)]
    have n32 : iwrap IntKind.i64 (iadd ((1 + m.2.2.2.2.2.1.length + m.2.2.2.2.2.2.1.length : Nat) : Int) 32) = ((1 + m.2.2.2.2.2.1.length + m.2.2.2.2.2.2.1.length + 32 : Nat) : Int) := addw (b := 32) (by omega)
    have hent : (ents m).length ≤ 7 := by unfold ents; split <;> simp <;> omega
    have hcl := costs_le (ents m)
    have hbb : (bytesM m).length ≤ 90000 := by rw [hlen]; split <;> split <;> split <;> omega
    simp only [if_true, ieq_s, cond_true, cond_false, n0, n32, ieq_d]
    by_cases h1 : m.1 = 1
    · rw [if_pos h1] at hlen
      simp only [h1, decide_true, cond_true, cond_false]
      rw [w8 m ⟨s1, s2, s3⟩ hr _ (by omega) hbb]
      rfl
    · rw [if_neg h1] at hlen
      simp only [h1, decide_false, cond_true, cond_false]
      rw [w8 m ⟨s1, s2, s3⟩ hr _ (by omega) hbb]
      rfl

end Am
end Go.Proofs.Ythnmiialdjifiaa
