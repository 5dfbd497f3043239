/-
  A symbolic machine over the model, part 16: blocks that are handed over and come back.
-/
import Derived.Test.YtkjpoongkdapoaaBmD
namespace Go.Proofs.Ytkjpoongkdapoaa
namespace Am
open Go Go.RowKit
set_option linter.unusedVariables false
set_option linter.unusedSimpArgs false

theorem okKs_spec : ∀ {n : Nat} {ks : List Nat}, okKs n ks = true → (∀ k ∈ ks, k < n) ∧ ks.Nodup
  | n, [], _ => ⟨by simp, List.nodup_nil⟩
  | n, k :: ks, h => by
    simp only [okKs, Bool.and_eq_true] at h
    obtain ⟨⟨h1, h2⟩, h3⟩ := h
    obtain ⟨i1, i2⟩ := okKs_spec h3
    have hk : k < n := by rwa [Nat.blt_eq] at h1
    refine ⟨fun j hj => ?_, List.nodup_cons.2 ⟨fun hm => ?_, i2⟩⟩
    · rcases List.mem_cons.1 hj with rfl | hj
      · exact hk
      · exact i1 j hj
    · have : ∀ (l : List Nat), k ∈ l → idx l k ≠ none := by
        intro l
        induction l with
        | nil => intro hm; simp at hm
        | cons x l ih =>
          intro hm
          simp only [idx]
          cases hx : Nat.beq x k with
          | true => simp
          | false =>
            rw [cond_false]
            rcases List.mem_cons.1 hm with rfl | hm
            · rw [Nat.beq_refl] at hx; cases hx
            · simpa using ih hm
      exact this ks hm (by simpa using h2)

theorem idx_none {ks : List Nat} {b : Nat} (h : idx ks b = none) : b ∉ ks := by
  intro hm
  induction ks with
  | nil => simp at hm
  | cons x l ih =>
    simp only [idx] at h
    cases hx : Nat.beq x b with
    | true => rw [hx] at h; simp at h
    | false =>
      rw [hx, cond_false] at h
      rcases List.mem_cons.1 hm with rfl | hm
      · rw [Nat.beq_refl] at hx; cases hx
      · exact ih (by simpa using h) hm

theorem idx_of {ks : List Nat} (hn : ks.Nodup) {i b : Nat} (h : ks[i]? = some b) : idx ks b = some i := by
  cases hi : idx ks b with
  | none => exact absurd (List.mem_of_getElem? h) (idx_none hi)
  | some j =>
    have hj := idx_get hi
    have := (List.getElem?_inj (lt_of_getElem? h) hn).1 (h.trans hj.symm)
    rw [this]

theorem putL_len {α : Type} : ∀ (ks : List Nat) (as l : List α), (putL ks as l).length = l.length
  | [], _, _ => by simp [putL]
  | _ :: _, [], _ => by simp [putL]
  | k :: r, a :: as, l => by simp only [putL]; rw [putL_len, mset_eq, List.length_set]

theorem putL_other {α : Type} : ∀ (ks : List Nat) (as l : List α) (b : Nat), b ∉ ks → (putL ks as l)[b]? = l[b]?
  | [], _, _, _, _ => by simp [putL]
  | _ :: _, [], _, _, _ => by simp [putL]
  | k :: r, a :: as, l, b, h => by
    simp only [List.mem_cons, not_or] at h
    simp only [putL]
    rw [putL_other r as _ b h.2, mset_eq, List.getElem?_set_ne (Ne.symm h.1)]

theorem putL_at {α : Type} : ∀ (ks : List Nat) (as l : List α) (i b : Nat), ks.Nodup → ks[i]? = some b → b < l.length → ∀ a, as[i]? = some a → (putL ks as l)[b]? = some a
  | [], _, _, _, _, _, h, _, _, _ => by simp at h
  | _ :: _, [], _, _, _, _, _, _, _, h => by simp at h
  | k :: r, x :: as, l, 0, b, hn, hb, hl, a, ha => by
    simp only [List.getElem?_cons_zero, Option.some.injEq] at hb ha
    subst hb; subst ha
    simp only [putL]
    rw [putL_other r as _ k (List.nodup_cons.1 hn).1, mset_eq, List.getElem?_set_self hl]
  | k :: r, x :: as, l, i + 1, b, hn, hb, hl, a, ha => by
    simp only [putL]
    exact putL_at r as _ i b (List.nodup_cons.1 hn).2 (by simpa using hb) (by rw [mset_eq, List.length_set]; exact hl) a (by simpa using ha)

theorem mdrop_eq {α : Type} : ∀ (n : Nat) (l : List α), mdrop n l = l.drop n
  | 0, _ => rfl
  | _ + 1, [] => rfl
  | n + 1, _ :: l => by simp [mdrop, mdrop_eq n l]

/-- rows alone have turned -/
structure Ghs.buts (R : List Nat) (g g' : Ghs) : Prop where
  eq : ∀ (k : Nat) (x : Gh), k ∉ R → g[k]? = some x → g'[k]? = some x
  ex : ∀ b ∈ R, ∃ x, g'[b]? = some x
  fix : ∀ b ∈ R, ∀ (x : Gh), g[b]? = some x → x.fixed = true → g'[b]? = some x

theorem Ghs.buts.step {R : List Nat} {b : Nat} {g g' : Ghs} (h : Ghs.buts (b :: R) g g') (hn : (b :: R).Nodup) : Ghs.but b g (g.set b ((g'[b]?).getD .dead)) ∧ Ghs.buts R (g.set b ((g'[b]?).getD .dead)) g' := by
  have hbR := (List.nodup_cons.1 hn).1
  refine ⟨⟨fun k x hk hx => by rw [List.getElem?_set_ne (Ne.symm hk)]; exact hx, fun x hx hf => ?_⟩, ⟨fun k x hk hx => ?_, fun k hk => h.ex k (by simp [hk]), fun k hk x hx hf => ?_⟩⟩
  · rw [h.fix b (by simp) x hx hf, Option.getD_some, List.getElem?_set_self (lt_of_getElem? hx)]
  · by_cases hkb : k = b
    · subst hkb
      obtain ⟨y, hy⟩ := h.ex k (by simp)
      rw [hy, Option.getD_some] at hx
      rw [List.getElem?_set] at hx
      simp only [if_true] at hx
      split at hx
      · rw [hy]; exact hx
      · cases hx
    · rw [List.getElem?_set_ne (Ne.symm hkb)] at hx
      exact h.eq k x (by simp [hkb, hk]) hx
  · have hkb : k ≠ b := by rintro rfl; exact hbR hk
    rw [List.getElem?_set_ne (Ne.symm hkb)] at hx
    exact h.fix k (by simp [hk]) x hx hf

def demsL : List Nat → List AV → List AV
  | [], l => l
  | b :: R, l => demsL R (AV.demL b l)
def demsO : List Nat → List (List AV) → List (List AV)
  | [], l => l
  | b :: R, l => demsO R (l.map (AV.demL b))
def demsB : List Nat → List Blk → List Blk
  | [], l => l
  | b :: R, l => demsB R (l.map (Blk.dem b))
def Blk.dems : List Nat → Blk → Blk
  | [], m => m
  | b :: R, m => Blk.dems R (m.dem b)
theorem dems_eq : ∀ (R : List Nat) (st : St), St.dems R st = { tmps := demsL R st.tmps, outer := demsO R st.outer, mem := demsB R st.mem }
  | [], st => rfl
  | b :: R, st => by simp only [St.dems]; rw [dems_eq R]; rfl
theorem demsB_get : ∀ (R : List Nat) (l : List Blk) (b : Nat), (demsB R l)[b]? = (l[b]?).map (Blk.dems R)
  | [], l, b => by simp only [demsB]; cases l[b]? <;> rfl
  | c :: R, l, b => by simp only [demsB]; rw [demsB_get R, List.getElem?_map]; cases l[b]? <;> rfl
theorem demsB_len : ∀ (R : List Nat) (l : List Blk), (demsB R l).length = l.length
  | [], _ => rfl
  | c :: R, l => by simp only [demsB]; rw [demsB_len R, List.length_map]

theorem demsL_RVL {C C' : Mem} (hC : C.le C') {g' : Ghs} : ∀ {R : List Nat} {g : Ghs} {l : List AV} {xs : List Value}, R.Nodup → Ghs.buts R g g' → RVL C g l xs → RVL C' g' (demsL R l) xs
  | [], g, l, xs, _, hg, h => RVL.mono hC (fun b x hx => hg.eq b x (by simp) hx) h
  | b :: R, g, l, xs, hn, hg, h => by
    obtain ⟨h1, h2⟩ := hg.step hn
    exact demsL_RVL (R := R) hC (List.nodup_cons.1 hn).2 h2 (RVL.dem (Mem.le_refl C) h1 h)
theorem demsO_OutR {C C' : Mem} (hC : C.le C') {g' : Ghs} : ∀ {R : List Nat} {g : Ghs} {l : List (List AV)} {fs : List (List Value)}, R.Nodup → Ghs.buts R g g' → OutR C g l fs → OutR C' g' (demsO R l) fs
  | [], g, l, xs, _, hg, h => OutR.mono hC (fun b x hx => hg.eq b x (by simp) hx) h
  | b :: R, g, l, xs, hn, hg, h => by
    obtain ⟨h1, h2⟩ := hg.step hn
    exact demsO_OutR (R := R) hC (List.nodup_cons.1 hn).2 h2 (OutR.dem (Mem.le_refl C) h1 h)

theorem ownsRow_at {w w' : World} {B : Nat} {e : TypeId} {sz n n2 k cap : Nat} {xs : List Value} (h : w.ownsRow B e sz (.slice (some ⟨k, 0, none⟩) n2 cap) n xs) (hw : w'.heap[k]? = w.heap[k]?) : w'.ownsRow B e sz (.slice (some ⟨k, 0, none⟩) n2 cap) n xs := by
  obtain ⟨h1, h2⟩ := h
  refine ⟨h1, ?_⟩
  rcases h2 with h2 | ⟨k', cap', cur, hv, hB, hh, r⟩
  · exact .inl h2
  · have hk : k = k' := by simp only [Value.slice.injEq, Option.some.injEq, Addr.mk.injEq] at hv; exact hv.1.1
    exact .inr ⟨k', cap', cur, hv, hB, by rw [← hk, hw, hk]; exact hh, r⟩

/-- a block that nobody has touched -/
theorem BlkRel.dems {X : Ctx} {w w' : World} {C C' : Mem} (hC : C.le C') {g' : Ghs} {h : Gh} : ∀ {R : List Nat} {g : Ghs} {m : Blk}, R.Nodup → Ghs.buts R g g' → BlkRel X C g w m h →
    (∀ k, liveOf m h = some k → w'.heap[k]? = w.heap[k]? ∧ ∀ o s, C' ⟨k, o, s⟩ = C ⟨k, o, s⟩) → BlkRel X C' g' w' (m.dems R) h
  | [], g, m, _, hg, hr, hk => by
    have hle : g.le g' := fun b x hx => hg.eq b x (by simp) hx
    cases hr with
    | box h1 h2 h3 h4 => exact .box h1 (by rw [(hk _ rfl).1]; exact h2) (RC.mono hC hle h3) fun o s => by rw [(hk _ rfl).2]; exact h4 o s
    | fro h1 h2 => exact .fro (h1.mono hC) (RC.mono hC hle h2)
    | own h0 h1 h2 h3 => exact .own h0 (ownsRow_at h1 (hk _ rfl).1) (fun j u hj => hC _ _ (h2 j u hj)) fun o s ho => by rw [(hk _ rfl).2]; exact h3 o s ho
    | clip => exact .clip
    | loop hl => exact .loop hl
    | arr h0 h1 h2 h3 h4 h5 => exact .arr h0 (by rw [(hk _ rfl).1]; exact h1) h2 (h3.mono hC) h4 fun o s => by rw [(hk _ rfl).2]; exact h5 o s
    | arr0 => exact .arr0
    | mp h0 h1 h2 h3 => exact .mp h0 (by rw [(hk _ rfl).1]; exact h1) (h2.mono hC) h3
    | dead => exact .dead
  | b :: R, g, m, hn, hg, hr, hk => by
    obtain ⟨h1, h2⟩ := hg.step hn
    refine BlkRel.dems (R := R) (m := m.dem b) hC (List.nodup_cons.1 hn).2 h2 (hr.dem (row := none) (w' := w) (Mem.le_refl C) h1 ⟨rfl, rfl, rfl, Nat.le_refl _, fun _ _ _ => rfl⟩ fun k _ => ⟨by simp, fun _ _ => rfl⟩) ?_
    intro k hk'
    rw [live_dem] at hk'
    exact hk k hk'
theorem live_dems : ∀ {R : List Nat} {m : Blk} {h : Gh}, liveOf (m.dems R) h = liveOf m h
  | [], _, _ => rfl
  | b :: R, m, h => by simp only [Blk.dems]; rw [live_dems, live_dem]

theorem rowKs_sub (mem : List Blk) : ∀ (ks : List Nat) (b : Nat), b ∈ rowKs mem ks → b ∈ ks
  | [], b, h => by simp [rowKs] at h
  | k :: ks, b, h => by
    simp only [rowKs] at h
    split at h
    · exact List.mem_cons_of_mem _ (rowKs_sub mem ks b h)
    · exact List.mem_cons_of_mem _ (rowKs_sub mem ks b h)
    · exact List.mem_cons_of_mem _ (rowKs_sub mem ks b h)
    · exact List.mem_cons_of_mem _ (rowKs_sub mem ks b h)
    · exact List.mem_cons_of_mem _ (rowKs_sub mem ks b h)
    · rcases List.mem_cons.1 h with rfl | h
      · simp
      · exact List.mem_cons_of_mem _ (rowKs_sub mem ks b h)
theorem rowKs_not (mem : List Blk) : ∀ (ks : List Nat) (b : Nat), b ∈ ks → b ∉ rowKs mem ks → (∃ v, mem[b]? = some (.box v)) ∨ (∃ v, mem[b]? = some (.fro v)) ∨ mem[b]? = some .loop ∨ (∃ t e xs, mem[b]? = some (.arr t e xs)) ∨ ∃ t kv, mem[b]? = some (.mp t kv)
  | [], b, h, _ => by simp at h
  | k :: ks, b, h, hn => by
    simp only [rowKs] at hn
    split at hn
    · rename_i v hm
      rcases List.mem_cons.1 h with rfl | h
      · exact .inl ⟨v, by rw [← mget_eq]; exact hm⟩
      · exact rowKs_not mem ks b h hn
    · rename_i v hm
      rcases List.mem_cons.1 h with rfl | h
      · exact .inr (.inl ⟨v, by rw [← mget_eq]; exact hm⟩)
      · exact rowKs_not mem ks b h hn
    · rename_i hm
      rcases List.mem_cons.1 h with rfl | h
      · exact .inr (.inr (.inl (by rw [← mget_eq]; exact hm)))
      · exact rowKs_not mem ks b h hn
    · rename_i t e xs hm
      rcases List.mem_cons.1 h with rfl | h
      · exact .inr (.inr (.inr (.inl ⟨t, e, xs, by rw [← mget_eq]; exact hm⟩)))
      · exact rowKs_not mem ks b h hn
    · rename_i t kv hm
      rcases List.mem_cons.1 h with rfl | h
      · exact .inr (.inr (.inr (.inr ⟨t, kv, by rw [← mget_eq]; exact hm⟩)))
      · exact rowKs_not mem ks b h hn
    · simp only [List.mem_cons, not_or] at hn
      rcases List.mem_cons.1 h with rfl | h
      · exact absurd rfl hn.1
      · exact rowKs_not mem ks b h hn.2
theorem rowKs_nodup (mem : List Blk) : ∀ (ks : List Nat), ks.Nodup → (rowKs mem ks).Nodup
  | [], _ => List.nodup_nil
  | k :: ks, h => by
    obtain ⟨h1, h2⟩ := List.nodup_cons.1 h
    have ih := rowKs_nodup mem ks h2
    simp only [rowKs]
    split
    · exact ih
    · exact ih
    · exact ih
    · exact ih
    · exact ih
    · exact List.nodup_cons.2 ⟨fun hm => h1 (rowKs_sub mem ks k hm), ih⟩

/-- renumbered and back -/
theorem bk_lt {ks : List Nat} {n i k : Nat} (h : ks[i]? = some k) : bk ks n i = k := by simp [bk, mget_eq, h]
theorem bk_ge {ks : List Nat} {n i : Nat} (h : ks.length ≤ i) : bk ks n i = n + (i - ks.length) := by simp [bk, mget_eq, mlen_eq, List.getElem?_eq_none h]

def Bk (ks : List Nat) (n : Nat) (g2 g' : Ghs) : Prop := ∀ (i : Nat) (x : Gh), g2[i]? = some x → g'[bk ks n i]? = some x
theorem Bk.box {ks : List Nat} {n : Nat} {g2 g' : Ghs} (hb : Bk ks n g2 g') {b k : Nat} (h : Ghs.box g2 b = some k) : Ghs.box g' (bk ks n b) = some k := by
  unfold Ghs.box at *
  cases hg : g2[b]? with
  | none => rw [hg] at h; simp at h
  | some x => rw [hb b x hg]; rw [hg] at h; exact h

mutual
theorem RC.back {C : Mem} {g2 g' : Ghs} {ks : List Nat} {n : Nat} (hb : Bk ks n g2 g') : ∀ {v : AV} {cs : List Value}, RC C g2 v cs → RC C g' (v.back ks n) cs
  | _, _, .int k m => .int k m
  | _, _, .u8 b => .u8 b
  | _, _, .bool b => .bool b
  | _, _, .str b hs => .str b hs
  | _, _, .id a => .id a
  | _, _, .agg h => .agg (RCL.back hb h)
  | _, _, .sl hl h => .sl hl h
  | _, _, .own hl h hg => .own hl h (hb _ _ hg)
  | _, _, .nilsl => .nilsl
  | _, _, .loc h => .loc (hb.box h)
  | _, _, .loci hi h => .loci hi (hb.box h)
  | _, _, .idsl h => .idsl (hb.box h)
  | _, _, .yld h => .yld (hb _ _ h)
  | _, _, .cptr h ha => .cptr (RC.back hb h) ha
  | _, _, .fn h1 h2 => .fn (RVL.back hb h1) (RVL.back hb h2)
  | _, _, .nilfn => .nilfn
  | _, _, .lst ha => .lst ha
  | _, _, .iface h => .iface (RV.back hb h)
  | _, _, .asl h h0 h1 => .asl (hb _ _ h) h0 h1
  | _, _, .elp h h0 => .elp (hb _ _ h) h0
  | _, _, .mref h => .mref (hb _ _ h)
theorem RCL.back {C : Mem} {g2 g' : Ghs} {ks : List Nat} {n : Nat} (hb : Bk ks n g2 g') : ∀ {v : List AV} {cs : List Value}, RCL C g2 v cs → RCL C g' (AV.backL ks n v) cs
  | _, _, .nil => .nil
  | _, _, .cons h t => .cons (RC.back hb h) (RCL.back hb t)
theorem RV.back {C : Mem} {g2 g' : Ghs} {ks : List Nat} {n : Nat} (hb : Bk ks n g2 g') : ∀ {v : AV} {x : Value}, RV C g2 v x → RV C g' (v.back ks n) x
  | _, _, .any v => .any v
  | _, _, .raw hn hg => .raw hn (hb _ _ hg)
  | _, _, .id h => .id (RC.back hb h)
  | _, _, .agg h => .agg (RC.back hb h)
  | _, _, .tup h => .tup (RVL.back hb h)
  | _, _, .one (a := a) h h1 h2 => by
    refine .one (RC.back hb h) ?_ ?_
    · intro x hx
      cases a <;> first | exact h1 _ rfl | exact h2 _ rfl | skip
      all_goals (try simp only [AV.back] at hx)
      all_goals (try (cases hx; done))
      rename_i own
      cases own <;> simp only [AV.back] at hx <;> cases hx
    · intro x hx
      cases a <;> first | exact h1 _ rfl | exact h2 _ rfl | skip
      all_goals (try simp only [AV.back] at hx)
      all_goals (try (cases hx; done))
      rename_i own
      cases own <;> simp only [AV.back] at hx <;> cases hx
theorem RVL.back {C : Mem} {g2 g' : Ghs} {ks : List Nat} {n : Nat} (hb : Bk ks n g2 g') : ∀ {v : List AV} {x : List Value}, RVL C g2 v x → RVL C g' (AV.backL ks n v) x
  | _, _, .nil => .nil
  | _, _, .cons h t => .cons (RV.back hb h) (RVL.back hb t)
end

/-- what is asked of one to whom some blocks are handed over -/
def footX (X : Ctx) (w : World) (g : Ghs) (mem : List Blk) (ks : List Nat) : Ctx :=
  { S := fun k => k < w.heap.size ∧ ∀ (i : Nat) (m : Blk) (h : Gh), i ∈ ks → mem[i]? = some m → g[i]? = some h → liveOf m h ≠ some k, Y := X.Y, G := pick ks g, ds := [] }

theorem pickB_get (mem : List Blk) (all : List Nat) : ∀ (ks : List Nat) (b : Nat) (m : Blk), (pickB mem all ks)[b]? = some m → ∃ k, ks[b]? = some k ∧ m = (match mem[k]? with | some m0 => m0.ren all | none => .dead)
  | [], b, m, h => by simp [pickB] at h
  | k :: ks, 0, m, h => by
    simp only [pickB, List.getElem?_cons_zero, Option.some.injEq] at h
    exact ⟨k, rfl, by rw [← h, mget_eq]; rfl⟩
  | k :: ks, b + 1, m, h => by
    obtain ⟨k', h1, h2⟩ := pickB_get mem all ks b m (by simpa [pickB] using h)
    exact ⟨k', by simpa using h1, h2⟩
theorem pickB_len (mem : List Blk) (all : List Nat) : ∀ (ks : List Nat), (pickB mem all ks).length = ks.length
  | [] => rfl
  | k :: ks => by simp [pickB, pickB_len mem all ks]

section
variable {X : Ctx} {w0 w : World} {C0 C : Mem} {fs : List (List Value)} {g : Ghs} {st : St} {a : Act}

theorem BlkRel.ren {X' : Ctx} {m : Blk} {h : Gh} (hr : BlkRel X C g w m h) (ks : List Nat) (hY : ∀ l, X.Y l → X'.Y l) (hS : ∀ k, liveOf m h = some k → ¬ X'.S k) : BlkRel X' C (pick ks g) w (m.ren ks) h := by
  cases hr with
  | box h1 h2 h3 h4 =>
    rename_i v k T cs
    simp only [Blk.ren]
    split
    · rename_i u hu
      exact .box (hS _ rfl) h2 (RC.ren ks h3 hu) h4
    · exact .dead
  | fro h1 h2 =>
    simp only [Blk.ren]
    split
    · rename_i u hu
      exact .fro h1 (RC.ren ks h2 hu)
    · exact .dead
  | own h0 h1 h2 h3 => exact .own (hS _ rfl) h1 h2 h3
  | clip => exact .clip
  | loop hl => exact .loop (hY _ hl)
  | arr h0 h1 h2 h3 h4 h5 => exact .arr (hS _ rfl) h1 h2 h3 h4 h5
  | arr0 => exact .arr0
  | mp h0 h1 h2 h3 => exact .mp (hS _ rfl) h1 h2 h3
  | dead => exact .dead
theorem live_ren {m : Blk} {h : Gh} {ks : List Nat} {k : Nat} (e : liveOf (m.ren ks) h = some k) : liveOf m h = some k := by
  cases m with
  | box v =>
    simp only [Blk.ren] at e
    split at e
    · cases h <;> exact e
    · cases h <;> simp [liveOf] at e
  | fro v =>
    simp only [Blk.ren] at e
    split at e <;> cases h <;> simp [liveOf] at e
  | _ => exact e

/-- a view: some blocks, each once -/
theorem Rel.view {X' : Ctx} {w1 : World} {C1 : Mem} {mem : List Blk} (h : Rel X w0 C0 C g mem w) {ks : List Nat} (hk : okKs mem.length ks = true) (hY : ∀ l, X.Y l → X'.Y l)
    (hS : ∀ (i : Nat) (m : Blk) (x : Gh) (k : Nat), i ∈ ks → mem[i]? = some m → g[i]? = some x → liveOf m x = some k → ¬ X'.S k)
    (hbelow : Keeps X'.S w1 w) (hlow : ∀ k, X'.S k → k < w1.heap.size) (hbase : C1.le C) (hold : ∀ a : Addr, X'.S a.block → C a = C1 a)
    (hkeep : ∀ (b : Nat) (x : Gh), X'.G[b]? = some x → x.fixed = true → (pick ks g)[b]? = some x) : Rel X' w1 C1 C (pick ks g) (pickB mem ks ks) w := by
  obtain ⟨hlt, hnd⟩ := okKs_spec hk
  have get : ∀ {b : Nat} {m : Blk} {x : Gh}, (pickB mem ks ks)[b]? = some m → (pick ks g)[b]? = some x → ∃ k m0, ks[b]? = some k ∧ mem[k]? = some m0 ∧ g[k]? = some x ∧ m = m0.ren ks := by
    intro b m x hm hx
    obtain ⟨k, h1, h2⟩ := pickB_get mem ks ks b m hm
    have hkl := hlt k (List.mem_of_getElem? h1)
    have hm0 : mem[k]? = some (mem[k]'hkl) := List.getElem?_eq_getElem hkl
    have hg0 : g[k]? = some (g[k]'(by rw [← h.len]; exact hkl)) := List.getElem?_eq_getElem (by rw [← h.len]; exact hkl)
    rw [pick_get h1 hg0] at hx
    rw [hm0] at h2
    exact ⟨k, _, h1, hm0, by rw [hg0]; exact hx, h2⟩
  refine ⟨hbelow, hlow, h.sub, hbase, hold, by rw [pickB_len]; exact (List.length_map _).symm, hkeep, ?_, ?_⟩
  · intro b m x hm hx
    obtain ⟨k, m0, h1, h2, h3, rfl⟩ := get hm hx
    exact (h.blk k m0 x h2 h3).ren ks hY fun j hj => hS k m0 x j (List.mem_of_getElem? h1) h2 h3 hj
  · intro b b' m m' x x' k hm hx hm' hx' hl hl'
    obtain ⟨k1, m1, i1, i2, i3, rfl⟩ := get hm hx
    obtain ⟨k2, m2, j1, j2, j3, rfl⟩ := get hm' hx'
    have := h.sep k1 k2 m1 m2 x x' k i2 i3 j2 j3 (live_ren hl) (live_ren hl')
    subst this
    exact (List.getElem?_inj (lt_of_getElem? i1) hnd).1 (i1.trans j1.symm)

theorem Rel.foot {mem : List Blk} (h : Rel X w0 C0 C g mem w) {ks : List Nat} (hk : okKs mem.length ks = true) : Rel (footX X w g mem ks) w C C (pick ks g) (pickB mem ks ks) w :=
  h.view hk (fun _ hl => hl) (fun i m x k hi hm hx hl hs => hs.2 i m x hi hm hx hl) (Keeps.refl _ _) (fun k hs => hs.1) (Mem.le_refl _) (fun _ _ => rfl) (fun b x hb _ => hb)

/-- the ghosts behind a call -/
def mergeG (ks : List Nat) (g g2 : Ghs) : Ghs := putL ks g2 g ++ g2.drop ks.length

theorem mergeG_other {ks : List Nat} {g g2 : Ghs} {b : Nat} (hb : b ∉ ks) (hl : b < g.length) : (mergeG ks g g2)[b]? = g[b]? := by
  unfold mergeG
  rw [List.getElem?_append_left (by rw [putL_len]; exact hl), putL_other ks g2 g b hb]
theorem mergeG_bk {ks : List Nat} {g g2 : Ghs} (hn : ks.Nodup) (hlt : ∀ k ∈ ks, k < g.length) : Bk ks g.length g2 (mergeG ks g g2) := by
  intro i x hx
  rcases Nat.lt_or_ge i ks.length with hi | hi
  · have hk : ks[i]? = some (ks[i]) := List.getElem?_eq_getElem hi
    have hkl := hlt _ (List.mem_of_getElem? hk)
    rw [bk_lt hk]
    unfold mergeG
    rw [List.getElem?_append_left (by rw [putL_len]; exact hkl)]
    exact putL_at ks g2 g i _ hn hk hkl x hx
  · rw [bk_ge hi]
    unfold mergeG
    rw [List.getElem?_append_right (by rw [putL_len]; omega), putL_len]
    rw [List.getElem?_drop]
    have : ks.length + (g.length + (i - ks.length) - g.length) = i := by omega
    rw [this]; exact hx

theorem merge_mem (ks : List Nat) (bs : List Blk) : (st.merge ks bs).mem = putL ks (bs.map (Blk.back ks st.mem.length)) (demsB (rowKs st.mem ks) st.mem) ++ (bs.drop ks.length).map (Blk.back ks st.mem.length) := by
  unfold St.merge
  rw [dems_eq]
  simp only [mapp_eq, mdrop_eq, mlen_eq]
theorem merge_tmps (ks : List Nat) (bs : List Blk) : (st.merge ks bs).tmps = demsL (rowKs st.mem ks) st.tmps := by
  unfold St.merge
  rw [dems_eq]
theorem merge_outer (ks : List Nat) (bs : List Blk) : (st.merge ks bs).outer = demsO (rowKs st.mem ks) st.outer := by
  unfold St.merge
  rw [dems_eq]

theorem live_back {m : Blk} {h : Gh} {ks : List Nat} {n : Nat} : liveOf (m.back ks n) h = liveOf m h := by
  cases m <;> cases h <;> rfl

theorem BlkRel.back {X' : Ctx} {C' : Mem} {g2 g' : Ghs} {w' : World} {ks : List Nat} {n : Nat} (hb : Bk ks n g2 g') {m : Blk} {h : Gh} (hr : BlkRel X C' g2 w' m h) (hY : ∀ l, X.Y l → X'.Y l) (hS : ∀ k, liveOf m h = some k → ¬ X'.S k) :
    BlkRel X' C' g' w' (m.back ks n) h := by
  cases hr with
  | box h1 h2 h3 h4 => exact .box (hS _ rfl) h2 (RC.back hb h3) h4
  | fro h1 h2 => exact .fro h1 (RC.back hb h2)
  | own h0 h1 h2 h3 => exact .own (hS _ rfl) h1 h2 h3
  | clip => exact .clip
  | loop hl => exact .loop (hY _ hl)
  | arr h0 h1 h2 h3 h4 h5 => exact .arr (hS _ rfl) h1 h2 h3 h4 h5
  | arr0 => exact .arr0
  | mp h0 h1 h2 h3 => exact .mp (hS _ rfl) h1 h2 h3
  | dead => exact .dead

theorem Rel.merge {C' : Mem} {g2 : Ghs} {bs : List Blk} {w' : World} {ks : List Nat} (h : Rel X w0 C0 C g st.mem w) (hk : okKs st.mem.length ks = true) (h2 : Rel (footX X w g st.mem ks) w C C' g2 bs w') (hbs : ks.length ≤ bs.length) :
    Rel X w0 C0 C' (mergeG ks g g2) (st.merge ks bs).mem w' ∧ Ghs.buts (rowKs st.mem ks) g (mergeG ks g g2) ∧ Bk ks st.mem.length g2 (mergeG ks g g2) := by
  obtain ⟨hlt, hnd⟩ := okKs_spec hk
  have hltg : ∀ k ∈ ks, k < g.length := fun k hk' => by rw [← h.len]; exact hlt k hk'
  have hlen2 : g2.length = bs.length := h2.len.symm
  have hbk : Bk ks st.mem.length g2 (mergeG ks g g2) := by rw [h.len]; exact mergeG_bk hnd hltg
  -- a block that was handed over is what it was, if it is no row
  have hfix : ∀ (b : Nat) (x : Gh), b ∈ ks → g[b]? = some x → x.fixed = true → (mergeG ks g g2)[b]? = some x := by
    intro b x hb hx hf
    obtain ⟨i, hi⟩ := List.getElem?_of_mem hb
    have h3 := h2.keep i x (pick_get hi hx) hf
    have h4 := hbk i x h3
    rw [bk_lt hi] at h4
    exact h4
  have hex : ∀ b ∈ ks, ∃ x, (mergeG ks g g2)[b]? = some x := by
    intro b hb
    obtain ⟨i, hi⟩ := List.getElem?_of_mem hb
    have hil := lt_of_getElem? hi
    have := hbk i _ (List.getElem?_eq_getElem (by omega))
    rw [bk_lt hi] at this
    exact ⟨_, this⟩
  have hbuts : Ghs.buts (rowKs st.mem ks) g (mergeG ks g g2) := by
    refine ⟨fun b x hb hx => ?_, fun b hb => hex b (rowKs_sub _ _ _ hb), fun b hb x hx hf => hfix b x (rowKs_sub _ _ _ hb) hx hf⟩
    by_cases hbk' : b ∈ ks
    · refine hfix b x hbk' hx ?_
      rcases rowKs_not st.mem ks b hbk' hb with ⟨v, hm⟩ | ⟨v, hm⟩ | hm | ⟨t, e, xs, hm⟩ | ⟨t, kv, hm⟩
      · cases h.blk b _ x hm hx with | box => rfl
      · cases h.blk b _ x hm hx with | fro => rfl
      · cases h.blk b _ x hm hx with | loop => rfl
      · cases h.blk b _ x hm hx <;> rfl
      · cases h.blk b _ x hm hx with | mp => rfl
    · rw [mergeG_other hbk' (lt_of_getElem? hx)]; exact hx
  refine ⟨?_, hbuts, hbk⟩
  have hC : C.le C' := h2.base
  have hnr := rowKs_nodup st.mem ks hnd
  have hout : ∀ {b : Nat} {m : Blk} {x : Gh} {k : Nat}, b ∉ ks → st.mem[b]? = some m → g[b]? = some x → liveOf m x = some k → (footX X w g st.mem ks).S k := by
    intro b m x k hb hm hx hl
    refine ⟨(live_lt (h.blk b m x hm hx) hl).2, fun i m' x' hi hm' hx' hl' => ?_⟩
    have := h.sep b i m m' x x' k hm hx hm' hx' hl hl'
    subst this
    exact hb hi
  have hfoot : ∀ k, ¬ (footX X w g st.mem ks).S k → ¬ X.S k := by
    intro k hk hs
    apply hk
    refine ⟨h.lt hs, fun i m x hi hm hx hl => (live_lt (h.blk i m x hm hx) hl).1 hs⟩
  have hml : (demsB (rowKs st.mem ks) st.mem).length = st.mem.length := demsB_len _ _
  -- what stands at a place
  have get : ∀ {b : Nat} {m : Blk} {x : Gh}, (st.merge ks bs).mem[b]? = some m → (mergeG ks g g2)[b]? = some x →
      (b ∉ ks ∧ ∃ m0, st.mem[b]? = some m0 ∧ g[b]? = some x ∧ m = m0.dems (rowKs st.mem ks)) ∨
      (∃ i m0, bk ks st.mem.length i = b ∧ bs[i]? = some m0 ∧ g2[i]? = some x ∧ m = m0.back ks st.mem.length) := by
    intro b m x hm hx
    rw [merge_mem] at hm
    rcases Nat.lt_or_ge b st.mem.length with hb | hb
    · rw [List.getElem?_append_left (by rw [putL_len, hml]; exact hb)] at hm
      by_cases hbk' : b ∈ ks
      · right
        obtain ⟨i, hi⟩ := List.getElem?_of_mem hbk'
        have hil := lt_of_getElem? hi
        have hbi : bs[i]? = some (bs[i]'(by omega)) := List.getElem?_eq_getElem (by omega)
        have hgi : g2[i]? = some (g2[i]'(by omega)) := List.getElem?_eq_getElem (by omega)
        have h3 := putL_at ks (bs.map (Blk.back ks st.mem.length)) (demsB (rowKs st.mem ks) st.mem) i b hnd hi (by rw [hml]; exact hb) _ (by rw [List.getElem?_map, hbi]; rfl)
        rw [h3] at hm
        simp only [Option.some.injEq] at hm
        have h4 := hbk i _ hgi
        rw [bk_lt hi, hx] at h4
        exact ⟨i, _, bk_lt hi, hbi, by rw [hgi]; exact h4.symm, hm.symm⟩
      · left
        rw [putL_other _ _ _ _ hbk', demsB_get, Option.map_eq_some_iff] at hm
        obtain ⟨m0, h3, h4⟩ := hm
        rw [mergeG_other hbk' (by rw [← h.len]; exact hb)] at hx
        exact ⟨hbk', m0, h3, hx, h4.symm⟩
    · right
      rw [List.getElem?_append_right (by rw [putL_len, hml]; exact hb), putL_len, hml, List.getElem?_map, List.getElem?_drop, Option.map_eq_some_iff] at hm
      obtain ⟨m0, h3, h4⟩ := hm
      have hge : ks.length ≤ ks.length + (b - st.mem.length) := by omega
      have hb2 : bk ks st.mem.length (ks.length + (b - st.mem.length)) = b := by rw [bk_ge hge]; omega
      have hgi : g2[ks.length + (b - st.mem.length)]? = some (g2[ks.length + (b - st.mem.length)]'(by rw [hlen2]; exact lt_of_getElem? h3)) := List.getElem?_eq_getElem _
      have h5 := hbk _ _ hgi
      rw [hb2, hx] at h5
      exact ⟨_, m0, hb2, h3, by rw [hgi]; exact h5.symm, h4.symm⟩
  refine ⟨h.below.trans (h2.below.mono fun k hs => ?_), h.low, h2.sub, Mem.le_trans h.base hC, fun a ha => ?_, ?_, fun b x hb hf => ?_, ?_, ?_⟩
  · exact ⟨h.lt hs, fun i m x hi hm hx hl => (live_lt (h.blk i m x hm hx) hl).1 hs⟩
  · rw [h2.old a ⟨h.lt ha, fun i m x hi hm hx hl => (live_lt (h.blk i m x hm hx) hl).1 ha⟩]
    exact h.old a ha
  · rw [merge_mem]
    simp only [mergeG, List.length_append, putL_len, hml, List.length_map, List.length_drop, hlen2, h.len]
  · have hx := h.keep b x hb hf
    by_cases hbk' : b ∈ ks
    · exact hfix b x hbk' hx hf
    · rw [mergeG_other hbk' (lt_of_getElem? hx)]; exact hx
  · intro b m x hm hx
    rcases get hm hx with ⟨hbk', m0, i1, i2, rfl⟩ | ⟨i, m0, _, i2, i3, rfl⟩
    · refine (h.blk b m0 x i1 i2).dems hC hnr hbuts fun k hl => ?_
      have hs := hout hbk' i1 i2 hl
      exact ⟨h2.below.block k hs, fun o s => h2.old ⟨k, o, s⟩ hs⟩
    · exact (h2.blk i m0 x i2 i3).back hbk (fun _ hl => hl) fun k hl => hfoot k (live_lt (h2.blk i m0 x i2 i3) hl).1
  · intro b b' m m' x x' k hm hx hm' hx' hl hl'
    rcases get hm hx with ⟨i0, m0, i1, i2, rfl⟩ | ⟨i, m0, i1, i2, i3, rfl⟩ <;> rcases get hm' hx' with ⟨j0, m1, j1, j2, rfl⟩ | ⟨j, m1, j1, j2, j3, rfl⟩
    · rw [live_dems] at hl hl'
      exact h.sep b b' m0 m1 x x' k i1 i2 j1 j2 hl hl'
    · rw [live_dems] at hl
      rw [live_back] at hl'
      exact absurd (hout i0 i1 i2 hl) (live_lt (h2.blk j m1 x' j2 j3) hl').1
    · rw [live_back] at hl
      rw [live_dems] at hl'
      exact absurd (hout j0 j1 j2 hl') (live_lt (h2.blk i m0 x i2 i3) hl).1
    · rw [live_back] at hl hl'
      have := h2.sep i j m0 m1 x x' k i2 i3 j2 j3 hl hl'
      subst this
      rw [← i1, ← j1]

/-- the state behind a call -/
theorem SR.merge {C' : Mem} {g2 : Ghs} {bs : List Blk} {w' : World} {ks : List Nat} (h : SR X w0 C0 fs C g st a w) (hk : okKs st.mem.length ks = true) (h2 : Rel (footX X w g st.mem ks) w C C' g2 bs w') (hbs : ks.length ≤ bs.length) :
    SR X w0 C0 fs C' (mergeG ks g g2) (st.merge ks bs) a w' ∧ Bk ks st.mem.length g2 (mergeG ks g g2) := by
  obtain ⟨h3, h4, h5⟩ := h.rel.merge hk h2 hbs
  have hnr := rowKs_nodup st.mem ks (okKs_spec hk).2
  refine ⟨⟨h3, ?_, ?_, h.df⟩, h5⟩
  · rw [merge_tmps]; exact demsL_RVL h2.base hnr h4 h.tm
  · rw [merge_outer]; exact demsO_OutR h2.base hnr h4 h.out

end
end Am
end Go.Proofs.Ytkjpoongkdapoaa
