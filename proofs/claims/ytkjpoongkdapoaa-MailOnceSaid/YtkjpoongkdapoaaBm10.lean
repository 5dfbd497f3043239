/-
  A symbolic machine over the model, part 10: memory that turns.
-/
import Derived.Test.YtkjpoongkdapoaaBm9
import Derived.Laws.CopyOwn
namespace Go.Proofs.Ytkjpoongkdapoaa
namespace Am
open Go Go.RowKit
set_option linter.unusedVariables false
set_option linter.unusedSimpArgs false

theorem RC_none_of {w : World} {C : Mem} (hs : ∀ a v, C a = some v → w.cell? a = some v) {k : Nat} (hk : w.heap.size ≤ k) (o : Nat) (s : Option Nat) : C ⟨k, o, s⟩ = none := by
  cases h : C ⟨k, o, s⟩ with
  | none => rfl
  | some v =>
    have := World.block_lt_of_cell? w _ (hs _ _ h)
    simp only at this
    omega

mutual
theorem RC_one {C : Mem} {g : Ghs} : ∀ {v : AV} {cs : List Value}, RC C g v cs → ∀ x ∈ cs, x.oneCell' = true
  | _, _, .int _ _ => by simp [Value.oneCell']
  | _, _, .u8 _ => by simp [u8v, Value.oneCell']
  | _, _, .bool _ => by simp [Value.oneCell']
  | _, _, .str _ _ => by simp [Value.oneCell']
  | _, _, .id a => by intro x hx; obtain ⟨b, _, rfl⟩ := List.mem_map.1 hx; rfl
  | _, _, .agg h => RCL_one h
  | _, _, .sl _ _ => by simp [Value.oneCell']
  | _, _, .own _ _ _ => by simp [Value.oneCell']
  | _, _, .nilsl => by simp [Value.oneCell']
  | _, _, .loc _ => by simp [Value.oneCell']
  | _, _, .loci _ _ => by simp [Value.oneCell']
  | _, _, .idsl _ => by simp [Value.oneCell']
  | _, _, .yld _ => by simp [Value.oneCell']
  | _, _, .cptr _ _ => by simp [Value.oneCell']
  | _, _, .fn _ _ => by simp [Value.oneCell']
  | _, _, .nilfn => by simp [Value.oneCell']
  | _, _, .lst _ => by simp [Value.oneCell']
  | _, _, .iface _ => by simp [Value.oneCell']
  | _, _, .asl _ _ _ => by simp [Value.oneCell']
  | _, _, .elp _ _ => by simp [Value.oneCell']
  | _, _, .mref _ => by simp [Value.oneCell']
theorem RCL_one {C : Mem} {g : Ghs} : ∀ {v : List AV} {cs : List Value}, RCL C g v cs → ∀ x ∈ cs, x.oneCell' = true
  | _, _, .nil => by simp
  | _, _, .cons h t => by
    intro x hx
    rcases List.mem_append.1 hx with hx | hx
    · exact RC_one h x hx
    · exact RCL_one t x hx
end

theorem BlkRel.mono {X : Ctx} {w : World} {C C' : Mem} {g g' : Ghs} {m : Blk} {h : Gh} (hr : BlkRel X C g w m h) (hC : C.le C') (hg : g.le g') (hk : ∀ k, liveOf m h = some k → ∀ o s, C' ⟨k, o, s⟩ = C ⟨k, o, s⟩) : BlkRel X C' g' w m h := by
  cases hr with
  | box h1 h2 h3 h4 => exact .box h1 h2 (RC.mono hC hg h3) fun o s => by rw [hk _ rfl]; exact h4 o s
  | fro h1 h2 => exact .fro (h1.mono hC) (RC.mono hC hg h2)
  | own h0 h1 h2 h3 => exact .own h0 h1 (fun j u hj => hC _ _ (h2 j u hj)) fun o s ho => by rw [hk _ rfl]; exact h3 o s ho
  | clip => exact .clip
  | loop hl => exact .loop hl
  | arr h0 h1 h2 h3 h4 h5 => exact .arr h0 h1 h2 (h3.mono hC) h4 fun o s => by rw [hk _ rfl]; exact h5 o s
  | arr0 => exact .arr0
  | mp h0 h1 h2 h3 => exact .mp h0 h1 (h2.mono hC) h3
  | dead => exact .dead

theorem BlkRel.grown {X : Ctx} {w w' : World} {C : Mem} {g : Ghs} {m : Blk} {h : Gh} {row : Option Nat} (hr : BlkRel X C g w m h) (hw : w.grownBy w' row) (hk : ∀ k, liveOf m h = some k → some k ≠ row) : BlkRel X C g w' m h := by
  cases hr with
  | box h1 h2 h3 h4 => exact .box h1 (by rw [hw.block _ (blk_lt h2) (hk _ rfl)]; exact h2) h3 h4
  | fro h1 h2 => exact .fro h1 h2
  | own h0 h1 h2 h3 => exact .own h0 (h1.kept hw (.inr (hk _ rfl))) h2 h3
  | clip => exact .clip
  | loop hl => exact .loop hl
  | arr h0 h1 h2 h3 h4 h5 => exact .arr h0 (by rw [hw.block _ (blk_lt h1) (hk _ rfl)]; exact h1) h2 h3 h4 h5
  | arr0 => exact .arr0
  | mp h0 h1 h2 h3 => exact .mp h0 (by rw [hw.block _ (blk_lt h1) (hk _ rfl)]; exact h1) h2 h3
  | dead => exact .dead

theorem live_lt {X : Ctx} {w : World} {C : Mem} {g : Ghs} {m : Blk} {h : Gh} (hr : BlkRel X C g w m h) {k : Nat} (hk : liveOf m h = some k) : ¬ X.S k ∧ k < w.heap.size := by
  cases hr with
  | box h1 h2 h3 h4 => simp [liveOf] at hk; subst hk; exact ⟨h1, blk_lt h2⟩
  | fro h1 h2 => simp [liveOf] at hk
  | own h0 h1 h2 h3 => simp only [liveOf, Value.ownBlock, Option.some.injEq] at hk; subst hk; exact ⟨h0, (h1.lt _ (by simp [Value.ownBlock])).2⟩
  | clip => simp [liveOf] at hk
  | loop hl => simp [liveOf] at hk
  | arr h0 h1 h2 h3 h4 h5 => simp [liveOf] at hk; subst hk; exact ⟨h0, blk_lt h1⟩
  | arr0 => simp [liveOf] at hk
  | mp h0 h1 h2 _ => simp [liveOf] at hk; subst hk; exact ⟨h0, blk_lt h1⟩
  | dead => simp [liveOf] at hk

theorem getElem?_snoc {α : Type} {l : List α} {x y : α} {b : Nat} (h : (l ++ [x])[b]? = some y) : (b < l.length ∧ l[b]? = some y) ∨ (b = l.length ∧ y = x) := by
  rcases Nat.lt_or_ge b l.length with hb | hb
  · rw [List.getElem?_append_left hb] at h; exact .inl ⟨hb, h⟩
  · rw [List.getElem?_append_right hb] at h
    cases hd : b - l.length with
    | zero => rw [hd] at h; simp at h; exact .inr ⟨by omega, h.symm⟩
    | succ n => rw [hd] at h; simp at h

theorem lt_of_getElem? {α : Type} {l : List α} {b : Nat} {x : α} (h : l[b]? = some x) : b < l.length := by
  rcases Nat.lt_or_ge b l.length with h' | h'
  · exact h'
  · rw [List.getElem?_eq_none h'] at h; cases h

section
variable {X : Ctx} {w0 w : World} {C0 C : Mem} {g : Ghs} {mem : List Blk}

/-- a block more, of a world that only grew -/
theorem Rel.snoc (h : Rel X w0 C0 C g mem w) {w' : World} {C' : Mem} {m : Blk} {x : Gh} (hw : Below w.heap.size w w') (hC : C.le C') (hsub : ∀ a v, C' a = some v → w'.cell? a = some v) (hold : ∀ a : Addr, a.block < w.heap.size → C' a = C a)
    (hb : BlkRel X C' (g ++ [x]) w' m x) (hl : ∀ k, liveOf m x = some k → w.heap.size ≤ k) : Rel X w0 C0 C' (g ++ [x]) (mem ++ [m]) w' := by
  refine ⟨h.below.trans (.below hw fun k hk => h.lt hk), h.low, hsub, Mem.le_trans h.base hC, fun a ha => ?_, by simp [h.len], fun b y hb hf => Ghs.le_append _ _ _ _ (h.keep b y hb hf), ?_, ?_⟩
  · rw [hold a (h.lt ha)]; exact h.old a ha
  · intro b m' x' hm hx
    rcases getElem?_snoc hm with ⟨hlt, hm⟩ | ⟨rfl, rfl⟩
    · rcases getElem?_snoc hx with ⟨_, hx⟩ | ⟨he, _⟩
      · have hr := h.blk b m' x' hm hx
        exact (hr.ext hw).mono hC (Ghs.le_append _ _) fun k hk o s => hold ⟨k, o, s⟩ (live_lt hr hk).2
      · rw [h.len] at hlt; omega
    · rw [h.len] at hx
      rcases getElem?_snoc hx with ⟨hlt, _⟩ | ⟨_, rfl⟩
      · omega
      · exact hb
  · intro b b' m1 m2 x1 x2 k hm1 hx1 hm2 hx2 hk1 hk2
    have old : ∀ {b : Nat} {m' : Blk} {x' : Gh}, mem[b]? = some m' → g[b]? = some x' → liveOf m' x' = some k → k < w.heap.size := fun hm hx hk => (live_lt (h.blk _ _ _ hm hx) hk).2
    rcases getElem?_snoc hm1 with ⟨hlt1, hn1⟩ | ⟨rfl, rfl⟩ <;> rcases getElem?_snoc hm2 with ⟨hlt2, hn2⟩ | ⟨rfl, rfl⟩
    · rw [List.getElem?_append_left (by rw [← h.len]; exact hlt1)] at hx1
      rw [List.getElem?_append_left (by rw [← h.len]; exact hlt2)] at hx2
      exact h.sep b b' m1 m2 x1 x2 k hn1 hx1 hn2 hx2 hk1 hk2
    · exfalso
      rw [List.getElem?_append_left (by rw [← h.len]; exact hlt1)] at hx1
      have h1 := old hn1 hx1 hk1
      rw [h.len] at hx2
      rcases getElem?_snoc hx2 with ⟨hlt, _⟩ | ⟨_, rfl⟩
      · omega
      · have := hl k hk2; omega
    · exfalso
      rw [List.getElem?_append_left (by rw [← h.len]; exact hlt2)] at hx2
      have h1 := old hn2 hx2 hk2
      rw [h.len] at hx1
      rcases getElem?_snoc hx1 with ⟨hlt, _⟩ | ⟨_, rfl⟩
      · omega
      · have := hl k hk1; omega
    · rfl

theorem Rel.box (h : Rel X w0 C0 C g mem w) {v : AV} {cs : List Value} (T : TypeId) (hv : RC C g v cs) : Rel X w0 C0 C (g ++ [.box w.heap.size T]) (mem ++ [.box v]) (w.alloc (.cells cs.toArray T)) := by
  have hw : Below w.heap.size w (w.alloc (.cells cs.toArray T)) := (Below.refl _ _).alloc (Nat.le_refl _) _
  refine h.snoc hw (Mem.le_refl _) (fun a u e => Below.lives hw (h.sub a u e)) (fun _ _ => rfl) ?_ ?_
  · exact .box (fun hs => by have := h.lt hs; omega) (heap_alloc_new w _) (RC.mono (Mem.le_refl _) (Ghs.le_append _ _) hv) fun o s => RC_none_of h.sub (Nat.le_refl _) o s
  · intro k hk; simp [liveOf] at hk; omega

theorem Rel.nilrow (h : Rel X w0 C0 C g mem w) (e : TypeId) (sz : Nat) (base : Option Addr) (n : Nat) : Rel X w0 C0 C (g ++ [.row (.slice base n n) false]) (mem ++ [.row e sz]) w := by
  refine h.snoc (Below.refl _ _) (Mem.le_refl _) h.sub (fun _ _ => rfl) .clip ?_
  intro k hk; simp [liveOf] at hk

/-- memory with a row more that stays -/
def Mem.row (C : Mem) (k : Nat) (cs : List Value) : Mem := fun a => if a.block = k ∧ a.spot = none then cs[a.off]? else C a

theorem Mem.row_at {C : Mem} {k : Nat} {cs : List Value} : At (C.row k cs) ⟨k, 0, none⟩ cs := ⟨rfl, fun j v hj => by simp [Mem.row, hj]⟩
theorem Mem.row_other {C : Mem} {k : Nat} {cs : List Value} {a : Addr} (h : a.block ≠ k) : C.row k cs a = C a := by simp [Mem.row, h]
theorem Mem.le_row {C : Mem} {k : Nat} {cs : List Value} (h : ∀ (o : Nat) (v : Value), C ⟨k, o, none⟩ = some v → cs[o]? = some v) : C.le (C.row k cs) := by
  intro a v e
  unfold Mem.row
  split
  · rename_i hk
    obtain ⟨b, o, s⟩ := a
    simp only at hk
    obtain ⟨rfl, rfl⟩ := hk
    exact h o v e
  · exact e

/-- a new row, all of it told -/
theorem Rel.newrow (h : Rel X w0 C0 C g mem w) {e : TypeId} {sz n : Nat} {cs : List Value} (hl : cs.length = n * sz) (hn : n ≤ maxLen) :
    Rel X w0 C0 (C.row w.heap.size cs) (g ++ [.row (.slice (some ⟨w.heap.size, 0, none⟩) n n) true]) (mem ++ [.row e sz]) (w.alloc (.cells cs.toArray e)) := by
  have hw : Below w.heap.size w (w.alloc (.cells cs.toArray e)) := (Below.refl _ _).alloc (Nat.le_refl _) _
  have hnone := fun o s => RC_none_of h.sub (Nat.le_refl w.heap.size) o s
  have hC : C.le (C.row w.heap.size cs) := Mem.le_row fun o v e => by rw [hnone o none] at e; cases e
  refine h.snoc hw hC ?_ (fun a ha => Mem.row_other (by omega)) ?_ ?_
  · intro a v e
    unfold Mem.row at e
    split at e
    · rename_i hk
      obtain ⟨b, o, s⟩ := a
      simp only at hk e
      obtain ⟨rfl, rfl⟩ := hk
      rw [cell_of_row _ _ _ _ _ _ (heap_alloc_new w _)]
      simpa using e
    · exact Below.lives hw (h.sub a v e)
  · refine .own (fun hs => by have := h.lt hs; omega) ⟨hl, .inr ⟨w.heap.size, n, cs.toArray, rfl, Nat.zero_le _, heap_alloc_new w _, Nat.le_refl _, hn, by simpa using hl, ?_⟩⟩ ?_ ?_
    · rw [← hl]; simp
    · intro j u hj; simp [Mem.row, hj]
    · intro o s ho
      unfold Mem.row
      split
      · simp only
        exact List.getElem?_eq_none (by omega)
      · exact hnone o s
  · intro k hk
    simp [liveOf, Value.ownBlock] at hk
    omega

/-- a row that stands still from the start -/
theorem Rel.frow (h : Rel X w0 C0 C g mem w) {e : TypeId} {cs : List Value} : C.le (C.row w.heap.size cs) ∧ Rel X w0 C0 (C.row w.heap.size cs) g mem (w.alloc (.cells cs.toArray e)) := by
  have hw : Below w.heap.size w (w.alloc (.cells cs.toArray e)) := (Below.refl _ _).alloc (Nat.le_refl _) _
  have hnone := fun o s => RC_none_of h.sub (Nat.le_refl w.heap.size) o s
  have hC : C.le (C.row w.heap.size cs) := Mem.le_row fun o v e => by rw [hnone o none] at e; cases e
  refine ⟨hC, h.below.trans (.below hw fun k hk => h.lt hk), h.low, ?_, Mem.le_trans h.base hC, fun a ha => ?_, h.len, h.keep, fun b m x hm hx => ?_, h.sep⟩
  · intro a v e
    unfold Mem.row at e
    split at e
    · rename_i hk
      obtain ⟨b, o, s⟩ := a
      simp only at hk e
      obtain ⟨rfl, rfl⟩ := hk
      rw [cell_of_row _ _ _ _ _ _ (heap_alloc_new w _)]
      simpa using e
    · exact Below.lives hw (h.sub a v e)
  · have := h.lt ha
    rw [Mem.row_other (by omega)]; exact h.old a ha
  · have hr := h.blk b m x hm hx
    exact (hr.ext hw).mono hC (Ghs.le_refl _) fun k hk o s => Mem.row_other (by have := (live_lt hr hk).2; simp only; omega)

/-- a new row, in a world that is told of so far alone -/
theorem Rel.brow (h : Rel X w0 C0 C g mem w) {w' : World} (hw : Below w.heap.size w w') {cs : List Value} (hcs : ∀ (j : Nat) (v : Value), cs[j]? = some v → w'.cell? ⟨w.heap.size, j, none⟩ = some v) : C.le (C.row w.heap.size cs) ∧ Rel X w0 C0 (C.row w.heap.size cs) g mem w' := by
  have hnone := fun o s => RC_none_of h.sub (Nat.le_refl w.heap.size) o s
  have hC : C.le (C.row w.heap.size cs) := Mem.le_row fun o v e => by rw [hnone o none] at e; cases e
  refine ⟨hC, h.below.trans (.below hw fun k hk => h.lt hk), h.low, ?_, Mem.le_trans h.base hC, fun a ha => ?_, h.len, h.keep, fun b m x hm hx => ?_, h.sep⟩
  · intro a v e
    unfold Mem.row at e
    split at e
    · rename_i hk
      obtain ⟨b, o, s⟩ := a
      simp only at hk e
      obtain ⟨rfl, rfl⟩ := hk
      exact hcs o v e
    · exact Below.lives hw (h.sub a v e)
  · have := h.lt ha
    rw [Mem.row_other (by omega)]; exact h.old a ha
  · have hr := h.blk b m x hm hx
    exact (hr.ext hw).mono hC (Ghs.le_refl _) fun k hk o s => Mem.row_other (by have := (live_lt hr hk).2; simp only; omega)

/-- a variable is written -/
theorem Rel.store (h : Rel X w0 C0 C g mem w) {b k : Nat} {u u' : AV} {cs' : List Value} (hb : mem[b]? = some (.box u)) (hk : Ghs.box g b = some k) (hu : RC C g u' cs') :
    ∃ T cs, w.heap[k]? = some (.cells cs.toArray T (0, 0)) ∧ RC C g u cs ∧ Rel X w0 C0 C g (mem.set b (.box u')) (w.setRow k cs'.toArray) := by
  unfold Ghs.box at hk
  split at hk
  · rename_i k' T hg
    simp only [Option.some.injEq] at hk
    subst hk
    have hr := h.blk b _ _ hb hg
    cases hr with
    | box h1 h2 h3 h4 =>
      rename_i cs
      refine ⟨T, cs, h2, h3, ?_⟩
      have hgrow : w.grownBy (w.setRow k' cs'.toArray) (some k') := ⟨rfl, rfl, rfl, by simp, fun j _ hj => setRow_other w k' j _ (fun e => hj (by rw [e]))⟩
      have hblt := lt_of_getElem? hb
      refine ⟨h.below.trans (.grown hgrow (fun k hk => h.lt hk) fun k hk => by cases hk; exact h1), h.low, ?_, h.base, h.old, by simp [h.len], h.keep, ?_, ?_⟩
      · intro a v e
        have hne : a.block ≠ k' := by
          rintro rfl
          obtain ⟨bb, oo, ss⟩ := a
          rw [h4 oo ss] at e; cases e
        rw [cell_setRow_other w k' _ a hne]
        exact h.sub a v e
      · intro b' m x hm hx
        by_cases hbb : b' = b
        · subst hbb
          rw [List.getElem?_set_self hblt] at hm
          rw [hg] at hx
          simp only [Option.some.injEq] at hm hx
          subst hm; subst hx
          exact .box h1 (setRow_heap w k' _ _ T _ h2) hu h4
        · rw [List.getElem?_set_ne (Ne.symm hbb)] at hm
          refine (h.blk b' m x hm hx).grown hgrow fun j hj e => ?_
          simp only [Option.some.injEq] at e
          subst e
          exact hbb (h.sep b' b m _ x _ j hm hx hb hg hj rfl)
      · intro b1 b2 m1 m2 x1 x2 j hm1 hx1 hm2 hx2 hj1 hj2
        have fix : ∀ {bb : Nat} {m : Blk} {x : Gh}, (mem.set b (Blk.box u'))[bb]? = some m → g[bb]? = some x → liveOf m x = some j → ∃ m', mem[bb]? = some m' ∧ liveOf m' x = some j := by
          intro bb m x hm hx hj
          by_cases hbb : bb = b
          · subst hbb
            rw [List.getElem?_set_self hblt] at hm
            simp only [Option.some.injEq] at hm
            subst hm
            rw [hg] at hx
            simp only [Option.some.injEq] at hx
            subst hx
            exact ⟨_, hb, hj⟩
          · rw [List.getElem?_set_ne (Ne.symm hbb)] at hm
            exact ⟨m, hm, hj⟩
        obtain ⟨m1', hm1', hj1'⟩ := fix hm1 hx1 hj1
        obtain ⟨m2', hm2', hj2'⟩ := fix hm2 hx2 hj2
        exact h.sep b1 b2 m1' m2' x1 x2 j hm1' hx1 hm2' hx2 hj1' hj2'
  · cases hk

/-- a block that is written over -/
theorem Rel.over (h : Rel X w0 C0 C g mem w) {b k : Nat} {m m' : Blk} {x : Gh} {w' : World} (hb : mem[b]? = some m) (hg : g[b]? = some x) (hl : liveOf m x = some k) (hl' : liveOf m' x = some k) (hgrow : w.grownBy w' (some k))
    (hC : ∀ o s, C ⟨k, o, s⟩ = none) (hnew : BlkRel X C g w' m' x) : Rel X w0 C0 C g (mem.set b m') w' := by
  have hblt := lt_of_getElem? hb
  have h1 := (live_lt (h.blk b _ _ hb hg) hl).1
  refine ⟨h.below.trans (.grown hgrow (fun k hk => h.lt hk) fun k hk => by cases hk; exact h1), h.low, ?_, h.base, h.old, by simp [h.len], h.keep, ?_, ?_⟩
  · intro a v e
    have hne : a.block ≠ k := by
      rintro rfl
      obtain ⟨bb, oo, ss⟩ := a
      rw [hC oo ss] at e; cases e
    have h2 := h.sub a v e
    have hlt := World.block_lt_of_cell? w a h2
    rw [World.cell?_of_block (hgrow.block a.block hlt fun e => hne (by simpa using e))]
    exact h2
  · intro b' m0 y hm hx
    by_cases hbb : b' = b
    · subst hbb
      rw [List.getElem?_set_self hblt] at hm
      rw [hg] at hx
      simp only [Option.some.injEq] at hm hx
      subst hm; subst hx
      exact hnew
    · rw [List.getElem?_set_ne (Ne.symm hbb)] at hm
      refine (h.blk b' m0 y hm hx).grown hgrow fun j hj e => ?_
      simp only [Option.some.injEq] at e
      subst e
      exact hbb (h.sep b' b m0 _ y _ j hm hx hb hg hj hl)
  · intro b1 b2 m1 m2 x1 x2 j hm1 hx1 hm2 hx2 hj1 hj2
    have fix : ∀ {bb : Nat} {m0 : Blk} {y : Gh}, (mem.set b m')[bb]? = some m0 → g[bb]? = some y → liveOf m0 y = some j → ∃ m3, mem[bb]? = some m3 ∧ liveOf m3 y = some j := by
      intro bb m0 y hm hx hj
      by_cases hbb : bb = b
      · subst hbb
        rw [List.getElem?_set_self hblt] at hm
        simp only [Option.some.injEq] at hm
        subst hm
        rw [hg] at hx
        simp only [Option.some.injEq] at hx
        subst hx
        exact ⟨_, hb, by rw [hl, ← hj, hl']⟩
      · rw [List.getElem?_set_ne (Ne.symm hbb)] at hm
        exact ⟨m0, hm, hj⟩
    obtain ⟨m1', hm1', hj1'⟩ := fix hm1 hx1 hj1
    obtain ⟨m2', hm2', hj2'⟩ := fix hm2 hx2 hj2
    exact h.sep b1 b2 m1' m2' x1 x2 j hm1' hx1 hm2' hx2 hj1' hj2'
/-- a block that is given up -/
theorem Rel.kill (h : Rel X w0 C0 C g mem w) {b : Nat} : Rel X w0 C0 C g (mem.set b .dead) w := by
  refine ⟨h.below, h.low, h.sub, h.base, h.old, by simp [h.len], h.keep, ?_, ?_⟩
  · intro b' m0 y hm hx
    by_cases hbb : b' = b
    · subst hbb
      rw [List.getElem?_set] at hm
      simp only [if_true] at hm
      split at hm
      · simp only [Option.some.injEq] at hm
        subst hm
        exact .dead
      · cases hm
    · rw [List.getElem?_set_ne (Ne.symm hbb)] at hm
      exact h.blk b' m0 y hm hx
  · intro b1 b2 m1 m2 x1 x2 j hm1 hx1 hm2 hx2 hj1 hj2
    have fix : ∀ {bb : Nat} {m0 : Blk} {y : Gh}, (mem.set b .dead)[bb]? = some m0 → g[bb]? = some y → liveOf m0 y = some j → mem[bb]? = some m0 := by
      intro bb m0 y hm hx hj
      by_cases hbb : bb = b
      · subst hbb
        rw [List.getElem?_set] at hm
        simp only [if_true] at hm
        split at hm
        · simp only [Option.some.injEq] at hm
          subst hm
          cases y <;> simp [liveOf] at hj
        · cases hm
      · rw [List.getElem?_set_ne (Ne.symm hbb)] at hm
        exact hm
    exact h.sep b1 b2 m1 m2 x1 x2 j (fix hm1 hx1 hj1) hx1 (fix hm2 hx2 hj2) hx2 hj1 hj2
/-- a row that is written no more: it stands still from here on -/
theorem Rel.still (h : Rel X w0 C0 C g mem w) {b k n : Nat} {t : Ty} {e e2 : TypeId} {xs : List t.den} (hb : mem[b]? = some (.arr t e xs)) (hg : g[b]? = some (.arr (some k) e2 n)) :
    ∃ cs, CellsL C t xs cs ∧ (n = xs.length ∧ xs.length ≤ lim) ∧ C.le (C.row k cs) ∧ Rel X w0 C0 (C.row k cs) g (mem.set b .dead) w := by
  cases h.blk b _ _ hb hg with
  | arr h0 h1 h2 h3 h4 h5 =>
    rename_i cap cs sp
    have hC : C.le (C.row k cs) := Mem.le_row fun o v e => by rw [h5 o none] at e; cases e
    have hblt := lt_of_getElem? hb
    refine ⟨cs, h3, ⟨rfl, h4.2.2⟩, hC, ?_⟩
    have hk := h.kill (b := b)
    refine ⟨hk.below, hk.low, ?_, Mem.le_trans h.base hC, fun a ha => ?_, hk.len, hk.keep, ?_, hk.sep⟩
    · intro a v e
      unfold Mem.row at e
      split at e
      · rename_i hk
        obtain ⟨bb, o, s⟩ := a
        simp only at hk e
        obtain ⟨rfl, rfl⟩ := hk
        unfold World.cell?
        have hlt := CellsL.row.lt_of_get e
        simp only [h1, Option.isSome_none, Bool.false_eq_true, if_false]
        rw [List.getElem?_toArray, List.getElem?_append_left hlt]
        exact e
      · exact h.sub a v e
    · rw [Mem.row_other (fun e : a.block = k => h0 (by rw [← e]; exact ha))]; exact h.old a ha
    · intro b' m x hm hx
      by_cases hbb : b' = b
      · subst hbb
        rw [List.getElem?_set_self hblt] at hm
        simp only [Option.some.injEq] at hm
        subst hm
        exact .dead
      · have hm' := hm
        rw [List.getElem?_set_ne (Ne.symm hbb)] at hm
        have hr' := h.blk b' m x hm hx
        refine hr'.mono hC (Ghs.le_refl _) fun j hj o s => Mem.row_other ?_
        rintro rfl
        exact hbb (h.sep b' b m _ x _ j hm hx hb hg hj rfl)
/-- a new map -/
theorem Rel.newmap (h : Rel X w0 C0 C g mem w) (t : Ty) : Rel X w0 C0 C (g ++ [.mp w.heap.size]) (mem ++ [.mp t []]) (w.alloc (.map #[] 0)) := by
  have hw : Below w.heap.size w (w.alloc (.map #[] 0)) := (Below.refl _ _).alloc (Nat.le_refl _) _
  refine h.snoc hw (Mem.le_refl _) (fun a u e => Below.lives hw (h.sub a u e)) (fun _ _ => rfl) ?_ ?_
  · exact .mp (fun hs => by have := h.lt hs; omega) (heap_alloc_new w _) rfl ⟨by simp, by simp⟩
  · intro k hk; simp [liveOf] at hk; omega

/-- a variable that stands still from here on -/
theorem Rel.freeze (h : Rel X w0 C0 C g mem w) {b k : Nat} {u : AV} (hb : mem[b]? = some (.box u)) (hk : Ghs.box g b = some k) :
    ∃ cs, RC C g u cs ∧ C.le (C.row k cs) ∧ Rel X w0 C0 (C.row k cs) g (mem.set b (.fro u)) w := by
  unfold Ghs.box at hk
  split at hk
  · rename_i k' T hg
    simp only [Option.some.injEq] at hk
    subst hk
    have hr := h.blk b _ _ hb hg
    cases hr with
    | box h1 h2 h3 h4 =>
      rename_i cs
      have hC : C.le (C.row k' cs) := Mem.le_row fun o v e => by rw [h4 o none] at e; cases e
      have hblt := lt_of_getElem? hb
      refine ⟨cs, h3, hC, h.below, h.low, ?_, Mem.le_trans h.base hC, fun a ha => ?_, by simp [h.len], h.keep, ?_, ?_⟩
      · intro a v e
        unfold Mem.row at e
        split at e
        · rename_i hk
          obtain ⟨bb, o, s⟩ := a
          simp only at hk e
          obtain ⟨rfl, rfl⟩ := hk
          rw [cell_of_row _ _ _ _ _ _ h2]
          simpa using e
        · exact h.sub a v e
      · rw [Mem.row_other (fun e : a.block = k' => h1 (by rw [← e]; exact ha))]; exact h.old a ha
      · intro b' m x hm hx
        by_cases hbb : b' = b
        · subst hbb
          rw [List.getElem?_set_self hblt] at hm
          rw [hg] at hx
          simp only [Option.some.injEq] at hm hx
          subst hm; subst hx
          exact .fro Mem.row_at (RC.mono hC (Ghs.le_refl _) h3)
        · rw [List.getElem?_set_ne (Ne.symm hbb)] at hm
          have hr' := h.blk b' m x hm hx
          refine hr'.mono hC (Ghs.le_refl _) fun j hj o s => Mem.row_other ?_
          rintro rfl
          exact hbb (h.sep b' b m _ x _ j hm hx hb hg hj rfl)
      · intro b1 b2 m1 m2 x1 x2 j hm1 hx1 hm2 hx2 hj1 hj2
        have fix : ∀ {bb : Nat} {m : Blk} {x : Gh}, (mem.set b (Blk.fro u))[bb]? = some m → g[bb]? = some x → liveOf m x = some j → mem[bb]? = some m := by
          intro bb m x hm hx hj
          by_cases hbb : bb = b
          · subst hbb
            rw [List.getElem?_set_self hblt] at hm
            simp only [Option.some.injEq] at hm
            subst hm
            simp [liveOf] at hj
          · rw [List.getElem?_set_ne (Ne.symm hbb)] at hm
            exact hm
        exact h.sep b1 b2 m1 m2 x1 x2 j (fix hm1 hx1 hj1) hx1 (fix hm2 hx2 hj2) hx2 hj1 hj2
  · cases hk

end
end Am
end Go.Proofs.Ytkjpoongkdapoaa
