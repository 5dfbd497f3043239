/-
  A symbolic machine over the model, part 11: a row that is appended to.
-/
import Derived.Test.YtkjpoongkdapoaaBm10
namespace Go.Proofs.Ytkjpoongkdapoaa
namespace Am
open Go Go.RowKit
set_option linter.unusedVariables false
set_option linter.unusedSimpArgs false

section
variable {C : Mem}

/-- the cells of a row's elements, one behind the other -/
def Cells (C : Mem) (t : Ty) (xs : List t.den) (cs : List Value) : Prop :=
  cs.length = xs.length * t.size ∧ (∀ v ∈ cs, v.oneCell' = true) ∧ ∀ (i : Nat) (x : t.den), xs[i]? = some x → TC C t x ((cs.drop (i * t.size)).take t.size)

theorem Cells.nil {t : Ty} : Cells C t [] [] := ⟨by simp, by simp, fun i x h => by simp at h⟩

theorem Cells.mono {C' : Mem} (hC : C.le C') {t : Ty} {xs : List t.den} {cs : List Value} (h : Cells C t xs cs) : Cells C' t xs cs := ⟨h.1, h.2.1, fun i x hx => TC.mono hC _ _ _ (h.2.2 i x hx)⟩

theorem Cells.append {t : Ty} {xs ys : List t.den} {cs ds : List Value} (h : Cells C t xs cs) (k : Cells C t ys ds) : Cells C t (xs ++ ys) (cs ++ ds) := by
  refine ⟨by simp [h.1, k.1, Nat.add_mul], fun v hv => ?_, fun i x hx => ?_⟩
  · rcases List.mem_append.1 hv with hv | hv
    · exact h.2.1 v hv
    · exact k.2.1 v hv
  · rcases Nat.lt_or_ge i xs.length with hi | hi
    · rw [List.getElem?_append_left hi] at hx
      have := h.2.2 i x hx
      have hle : (i + 1) * t.size ≤ cs.length := by rw [h.1]; exact Nat.mul_le_mul_right _ hi
      have h1 : i * t.size + t.size ≤ cs.length := by rw [Nat.add_mul] at hle; omega
      rw [List.drop_append_of_le_length (by omega), List.take_append_of_le_length (by simp; omega)]
      exact this
    · rw [List.getElem?_append_right hi] at hx
      have := k.2.2 _ x hx
      have h1 : i * t.size = cs.length + (i - xs.length) * t.size := by rw [h.1, ← Nat.add_mul]; congr 1; omega
      rw [h1, List.drop_append, List.drop_eq_nil_of_le (by omega), List.nil_append]
      simpa using this

theorem Cells.row {t : Ty} {xs : List t.den} {cs : List Value} (h : Cells C t xs cs) {ad : Addr} (ha : At C ad cs) : Row C t (some ad) xs := by
  intro i x hx
  refine ⟨ad, _, rfl, h.2.2 i x hx, ha.1, fun j v hj => ?_⟩
  rw [List.getElem?_take] at hj
  split at hj
  · rw [List.getElem?_drop] at hj
    have := ha.2 (i * t.size + j) v hj
    rw [← this]
    congr 2
    simp only
    omega
  · cases hj

theorem Row.cells {t : Ty} {xs : List t.den} {base : Option Addr} (h : Row C t base xs) : ∃ cs, Cells C t xs cs ∧ (xs ≠ [] → ∃ ad, base = some ad ∧ At C ad cs) := by
  by_cases hx : xs = []
  · subst hx; exact ⟨[], Cells.nil, fun h => absurd rfl h⟩
  · obtain ⟨ad, cs, hb, _, hl, ha, h1, hp⟩ := Row_cells xs base h hx
    exact ⟨cs, ⟨hl, h1, fun i x hx => by obtain ⟨ci, hci, hd⟩ := hp i x hx; rw [hd]; exact hci⟩, fun _ => ⟨ad, hb, ha⟩⟩

/-- where what is appended comes from -/
structure Src (P : Program) (w : World) (sz : Nat) (y : Value) (m : Nat) (news : List Value) : Prop where
  len : ∀ w' : World, (Builtin.lenOf y).run P w' = .ok m w'
  cells : ∀ w' : World, Below w.heap.size w w' → (Builtin.firstCells sz m y).run P w' = .ok news.toArray w'

def plainT (P : Program) (xT : TypeId) : Prop := (∃ e', P.underlying xT = some (.slice e')) ∨ P.underlying xT = some .string

theorem below_drew {w : World} : Below w.heap.size w w.drew := (Below.refl _ _).drew

theorem append_room {P : Program} {w : World} {tT xT ty e : TypeId} {i : TypeInfo} (ht : P.underlying tT = some (.slice e)) (hx : plainT P xT) (hi : P.info? e = some i) {y : Value} {n m cap : Nat} {news : List Value} {base : Option Addr} (hs : Src P w i.size y m news) (hr : n + m ≤ cap) :
    (Builtin.append_ #[tT, xT] ty #[.slice base n cap, y]).run P w = (match base with | some a => (storeCells (a.add (n * i.size)) news).run P w | none => .ok () w).andThen fun _ w' => .ok (.slice base (n + m) cap) w' := by
  have hc := hs.cells w (Below.refl _ _)
  have hl := hs.len w
  rcases hx with ⟨e', hd⟩ | hd
  all_goals
    cases base <;> simp [Builtin.append_, run_underlying ht, run_underlying hd, sizeOf, typeInfo, hi, hl, hr, hc]

theorem append_grow {P : Program} {w : World} {tT xT ty e : TypeId} {i : TypeInfo} {z : Value} (ht : P.underlying tT = some (.slice e)) (hx : plainT P xT) (hi : P.info? e = some i) (hz : i.zero = some z) {y : Value} {n m cap : Nat} {olds news : List Value} {base : Option Addr} (hs : Src P w i.size y m news)
    (ho : ∀ w' : World, Below w.heap.size w w' → (Builtin.firstCells i.size n (.slice base n cap)).run P w' = .ok olds.toArray w') (hr : ¬ n + m ≤ cap) (h63 : n + m < 4611686018427387904) (hb : (n + m) * i.bytes ≤ 140737488355328) :
    (Builtin.append_ #[tT, xT] ty #[.slice base n cap, y]).run P w =
      .ok (.slice (some ⟨w.heap.size, 0, none⟩) (n + m) (grownCap w (n + m) cap e)) (w.drew.alloc (.cells ((olds ++ news).toArray ++ Builtin.zeroCells z.cells (grownCap w (n + m) cap e - (n + m))) e)) := by
  have hc := hs.cells w.drew below_drew
  have hoo := ho w.drew below_drew
  have hl := hs.len w
  have h63' : ¬ (9223372036854775807 < ((n : Int) + (m : Int))) := by omega
  have h48 := growslice_fits (need := n + m) (old := cap) (bytes := i.bytes) (by omega) hb
  have h48' : ¬ (281474976710656 < Builtin.nextslicecap (n + m) cap * i.bytes) := by omega
  rcases hx with ⟨e', hd⟩ | hd
  all_goals
    simp [Builtin.append_, run_underlying ht, run_underlying hd, sizeOf, typeInfo, zeroValue, hi, hz, hl, hr, h63', h48', Question.forced, hc, hoo, newRow, grownCap]
    congr 2
    rw [← Array.toList_inj]
    simp

theorem BlkRel.dem {X : Ctx} {w w' : World} {C C' : Mem} {g g' : Ghs} {b : Nat} {m : Blk} {h : Gh} {row : Option Nat} (hr : BlkRel X C g w m h) (hC : C.le C') (hg : Ghs.but b g g') (hw : w.grownBy w' row)
    (hk : ∀ k, liveOf m h = some k → some k ≠ row ∧ ∀ o s, C' ⟨k, o, s⟩ = C ⟨k, o, s⟩) : BlkRel X C' g' w' (m.dem b) h := by
  cases hr with
  | box h1 h2 h3 h4 => exact .box h1 (by rw [hw.block _ (blk_lt h2) (hk _ rfl).1]; exact h2) (RC.dem hC hg h3) fun o s => by rw [(hk _ rfl).2]; exact h4 o s
  | fro h1 h2 => exact .fro (h1.mono hC) (RC.dem hC hg h2)
  | own h0 h1 h2 h3 => exact .own h0 (h1.kept hw (.inr (hk _ rfl).1)) (fun j u hj => hC _ _ (h2 j u hj)) fun o s ho => by rw [(hk _ rfl).2]; exact h3 o s ho
  | clip => exact .clip
  | loop hl => exact .loop hl
  | arr h0 h1 h2 h3 h4 h5 => exact .arr h0 (by rw [hw.block _ (blk_lt h1) (hk _ rfl).1]; exact h1) h2 (h3.mono hC) h4 fun o s => by rw [(hk _ rfl).2]; exact h5 o s
  | arr0 => exact .arr0
  | mp h0 h1 h2 h3 => exact .mp h0 (by rw [hw.block _ (blk_lt h1) (hk _ rfl).1]; exact h1) (h2.mono hC) h3
  | dead => exact .dead

theorem live_dem {m : Blk} {h : Gh} {b : Nat} : liveOf (m.dem b) h = liveOf m h := by
  cases m <;> cases h <;> rfl

theorem Rel.turn {X : Ctx} {w0 w w' : World} {C0 C C' : Mem} {g g' : Ghs} {mem : List Blk} (h : Rel X w0 C0 C g mem w) {b : Nat} {e : TypeId} {sz : Nat} {row : Option Nat} {v' : Value} {x : Gh}
    (hm : mem[b]? = some (.row e sz)) (hgb : g[b]? = some x) (hg' : g' = g.set b (.row v' true)) (hbut : Ghs.but b g g') (hC : C.le C') (hsub : ∀ a v, C' a = some v → w'.cell? a = some v) (hw : w.grownBy w' row)
    (hold : ∀ k, some k ≠ v'.ownBlock → ∀ o s, C' ⟨k, o, s⟩ = C ⟨k, o, s⟩) (hrow : ∀ k, row = some k → liveOf (.row e sz) x = some k) (hv : ∀ k, v'.ownBlock = some k → liveOf (.row e sz) x = some k ∨ w.heap.size ≤ k)
    (hb : BlkRel X C' g' w' (.row e sz) (.row v' true)) : Rel X w0 C0 C' g' (mem.map (Blk.dem b)) w' := by
  have hlt := lt_of_getElem? hgb
  have hlx : ∀ k, liveOf (.row e sz) x = some k → ¬ X.S k ∧ k < w.heap.size := fun k hk => live_lt (h.blk b _ _ hm hgb) hk
  have hv0 : ∀ k, v'.ownBlock = some k → ¬ X.S k := fun k hk => (hv k hk).elim (fun h' => (hlx k h').1) (fun h' hs => by have := h.lt hs; omega)
  refine ⟨h.below.trans (.grown hw (fun k hk => h.lt hk) fun k hk => (hlx k (hrow k hk)).1), h.low, hsub, Mem.le_trans h.base hC, fun a ha => ?_, by simp [hg', h.len], fun c y hc hf => ?_, ?_, ?_⟩
  · obtain ⟨ab, ao, as⟩ := a
    rw [hold ab (fun e => hv0 ab e.symm ha)]
    exact h.old _ ha
  · have h1 := h.keep c y hc hf
    exact hbut.fixed h1 hf
  · intro b' m x' hm' hx'
    rw [List.getElem?_map, Option.map_eq_some_iff] at hm'
    obtain ⟨m0, hm0, rfl⟩ := hm'
    by_cases hbb : b' = b
    · subst hbb
      rw [hm] at hm0
      simp only [Option.some.injEq] at hm0
      subst hm0
      rw [hg', List.getElem?_set_self hlt] at hx'
      simp only [Option.some.injEq] at hx'
      subst hx'
      exact hb
    · rw [hg', List.getElem?_set_ne (Ne.symm hbb)] at hx'
      have hr := h.blk b' m0 x' hm0 hx'
      refine hr.dem hC hbut hw fun k hk => ?_
      have hnx : liveOf (.row e sz) x ≠ some k := fun hkx => hbb (h.sep b' b m0 _ x' x k hm0 hx' hm hgb hk hkx)
      refine ⟨fun e' => hnx (hrow k e'.symm), hold k fun e' => ?_⟩
      rcases hv k e'.symm with h1 | h1
      · exact hnx h1
      · have := (live_lt hr hk).2; omega
  · intro b1 b2 m1 m2 x1 x2 k hm1 hx1 hm2 hx2 hk1 hk2
    rw [List.getElem?_map, Option.map_eq_some_iff] at hm1 hm2
    obtain ⟨m1', hm1, rfl⟩ := hm1
    obtain ⟨m2', hm2, rfl⟩ := hm2
    rw [live_dem] at hk1 hk2
    have key : ∀ {c : Nat} {m : Blk} {y : Gh}, c ≠ b → mem[c]? = some m → g'[c]? = some y → liveOf m y = some k → v'.ownBlock = some k → False := by
      intro c m y hc hmc hyc hkc hvk
      rw [hg', List.getElem?_set_ne (Ne.symm hc)] at hyc
      rcases hv k hvk with h1 | h1
      · exact hc (h.sep c b m _ y x k hmc hyc hm hgb hkc h1)
      · have := (live_lt (h.blk c m y hmc hyc) hkc).2; omega
    have atb : ∀ {m : Blk} {y : Gh}, mem[b]? = some m → g'[b]? = some y → liveOf m y = some k → v'.ownBlock = some k := by
      intro m y hmb hyb hkb
      rw [hm] at hmb
      simp only [Option.some.injEq] at hmb
      subst hmb
      rw [hg', List.getElem?_set_self hlt] at hyb
      simp only [Option.some.injEq] at hyb
      subst hyb
      exact hkb
    by_cases h1 : b1 = b
    · by_cases h2 : b2 = b
      · rw [h1, h2]
      · subst h1
        exact (key h2 hm2 hx2 hk2 (atb hm1 hx1 hk1)).elim
    · by_cases h2 : b2 = b
      · subst h2
        exact (key h1 hm1 hx1 hk1 (atb hm2 hx2 hk2)).elim
      · rw [hg', List.getElem?_set_ne (Ne.symm h1)] at hx1
        rw [hg', List.getElem?_set_ne (Ne.symm h2)] at hx2
        exact h.sep b1 b2 m1' m2' x1 x2 k hm1 hx1 hm2 hx2 hk1 hk2

theorem Rel.append {P : Program} {X : Ctx} {w0 w : World} {C0 : Mem} {g : Ghs} {mem : List Blk} (h : Rel X w0 C0 C g mem w) {t : Ty} {xs ys : List t.den} {b : Nat} {x y z : Value} {tT xT ty e : TypeId} {i : TypeInfo} {news : List Value}
    (hm : mem[b]? = some (.row e t.size)) (hx : RC C g (.sl t xs (some b)) [x]) (ht : P.underlying tT = some (.slice e)) (hp : plainT P xT) (hi : P.info? e = some i) (hz : i.zero = some z) (hsz : i.size = t.size) (hzs : z.cells.size = i.size)
    (hs : Src P w i.size y ys.length news) (hn : Cells C t ys news) (h63 : xs.length + ys.length < 4611686018427387904) (hb : (xs.length + ys.length) * i.bytes ≤ 140737488355328) :
    ∃ v' w' C' g', (Builtin.append_ #[tT, xT] ty #[x, y]).run P w = .ok v' w' ∧ C.le C' ∧ Ghs.but b g g' ∧ Rel X w0 C0 C' g' (mem.map (Blk.dem b)) w' ∧ RC C' g' (.sl t (xs ++ ys) (some b)) [v'] ∧
      ∀ k, k < w.heap.size → (∀ v, g[b]? = some (.row v true) → v.ownBlock ≠ some k) → w'.heap[k]? = w.heap[k]? := by
  cases hx with
  | own hl hrow hg =>
    rename_i base cap o
    have hltb := lt_of_getElem? hg
    have hbox : ∀ (g' : Ghs) (x : Gh), g[b]? = some x → x.fixed = true → g'[b]? = some x := fun g' x hx hf => by rw [hg] at hx; cases hx; cases hf
    have hbut : ∀ v', Ghs.but b g (g.set b (.row v' true)) := fun v' => ⟨fun k x hk hx => by rw [List.getElem?_set_ne (Ne.symm hk)]; exact hx, hbox _⟩
    obtain ⟨olds, hcs, hat⟩ := hrow.cells
    have hblk := h.blk b _ _ hm hg
    have hlen : (xs ++ ys).length = xs.length + ys.length := List.length_append
    by_cases hr : xs.length + ys.length ≤ cap
    · have hrun := append_room (ty := ty) ht hp hi (n := xs.length) (base := base) hs hr
      by_cases hy : ys = []
      · subst hy
        have hnews : news = [] := List.eq_nil_of_length_eq_zero (by rw [hn.1]; simp)
        subst hnews
        refine ⟨.slice base xs.length cap, w, C, g, ?_, Mem.le_refl _, ⟨fun k x _ hx => hx, hbox _⟩, ?_, ?_, fun _ _ _ => rfl⟩
        · rw [hrun]; cases base <;> simp [storeCells]
        · refine ⟨h.below, h.low, h.sub, h.base, h.old, by simp [h.len], h.keep, ?_, ?_⟩
          · intro b' m' x' hm' hx'
            rw [List.getElem?_map, Option.map_eq_some_iff] at hm'
            obtain ⟨m0, hm0, rfl⟩ := hm'
            exact (h.blk b' m0 x' hm0 hx').dem (row := none) (Mem.le_refl _) ⟨fun k x _ hx => hx, hbox _⟩ ⟨rfl, rfl, rfl, Nat.le_refl _, fun _ _ _ => rfl⟩ fun k _ => ⟨by simp, fun _ _ => rfl⟩
          · intro b1 b2 m1 m2 x1 x2 k hm1 hx1 hm2 hx2 hk1 hk2
            rw [List.getElem?_map, Option.map_eq_some_iff] at hm1 hm2
            obtain ⟨m1', hm1, rfl⟩ := hm1
            obtain ⟨m2', hm2, rfl⟩ := hm2
            rw [live_dem] at hk1 hk2
            exact h.sep b1 b2 m1' m2' x1 x2 k hm1 hx1 hm2 hx2 hk1 hk2
        · rw [List.append_nil]; exact .own hl hrow hg
      · have hypos : 0 < ys.length := List.length_pos_iff.2 hy
        cases hblk with
        | clip => omega
        | own hS ho hox hoC =>
          rename_i ovals k
          obtain ⟨hol, ho2⟩ := ho
          rcases ho2 with ⟨hbad, _⟩ | ⟨k', cap', cur, hv, hBk, hh, hnc, hcm, hcz, htake⟩
          · cases hbad
          · simp only [Value.slice.injEq, Option.some.injEq, Addr.mk.injEq, and_true, true_and] at hv
            obtain ⟨rfl, rfl⟩ := hv
            have hov : ovals = olds := by
              by_cases hxe : xs = []
              · subst hxe
                rw [List.eq_nil_of_length_eq_zero (l := ovals) (by rw [hol]; simp), List.eq_nil_of_length_eq_zero (l := olds) (by rw [hcs.1]; simp)]
              · obtain ⟨ad, had, hat⟩ := hat hxe
                simp only [Option.some.injEq] at had
                subst had
                apply List.ext_getElem?
                intro j
                cases hj : olds[j]? with
                | none =>
                  rw [List.getElem?_eq_none]
                  rw [hol, ← hcs.1]
                  simpa using hj
                | some v =>
                  have h1 := hat.2 j v hj
                  simp only [Nat.zero_add] at h1
                  cases hj2 : ovals[j]? with
                  | none =>
                    exfalso
                    have h3 : ovals.length ≤ j := by simpa using hj2
                    have h4 := lt_of_getElem? hj
                    rw [hol, ← hcs.1] at h3
                    omega
                  | some v2 =>
                    have h2 := hox j v2 hj2
                    rw [h1] at h2
                    exact h2.symm
            subst hov
            have hstore := run_storeCells_at P k (xs.length * i.size) e news 0 cur w hh (by rw [hn.1, hcz, hsz, Nat.add_zero, ← Nat.add_mul]; exact Nat.mul_le_mul_right _ hr) hn.2.1
            simp only [Nat.add_zero] at hstore
            rw [hsz, htake] at hstore
            have hnl : (ovals ++ news).length = (xs.length + ys.length) * t.size := by rw [List.length_append, hol, hn.1, Nat.add_mul]
            let C' : Mem := fun a => if a.block = k ∧ a.spot = none ∧ xs.length * t.size ≤ a.off then news[a.off - xs.length * t.size]? else C a
            have hCk : ∀ j v, (ovals ++ news)[j]? = some v → C' ⟨k, j, none⟩ = some v := by
              intro j v hj
              simp only [C']
              rcases Nat.lt_or_ge j ovals.length with hjl | hjl
              · rw [List.getElem?_append_left hjl] at hj
                rw [if_neg (by rw [← hol]; omega)]
                exact hox j v hj
              · rw [List.getElem?_append_right hjl] at hj
                rw [if_pos ⟨trivial, trivial, by rw [← hol]; exact hjl⟩, ← hol]
                exact hj
            have hC : C.le C' := by
              intro a v e
              simp only [C']
              split
              · rename_i hk
                obtain ⟨ab, ao, as⟩ := a
                simp only at hk
                obtain ⟨rfl, rfl, hle⟩ := hk
                rw [hoC _ _ hle] at e; cases e
              · exact e
            refine ⟨.slice (some ⟨k, 0, none⟩) (xs.length + ys.length) cap, w.setRow k (ovals ++ news ++ cur.toList.drop (xs.length * t.size + news.length)).toArray, C', g.set b (.row (.slice (some ⟨k, 0, none⟩) (xs.length + ys.length) cap) true), ?_, hC, hbut _, ?_, ?_, fun j _ hj => setRow_other w k j _ (fun e => hj _ hg (by subst e; rfl))⟩
            · rw [hrun]
              simp only [Addr.add_lit, Nat.zero_add, hsz, hstore, Result.andThen_ok]
            · have hcellk : ∀ j v, (ovals ++ news)[j]? = some v → (w.setRow k (ovals ++ news ++ cur.toList.drop (xs.length * t.size + news.length)).toArray).cell? ⟨k, j, none⟩ = some v := by
                intro j v hj
                rw [cell_setRow_same w k j cur _ e _ hh]
                rw [List.getElem?_toArray, List.getElem?_append_left (lt_of_getElem? hj)]
                exact hj
              refine h.turn (row := some k) hm hg rfl (hbut _) hC ?_ ⟨rfl, rfl, rfl, by simp, fun j _ hj => setRow_other w k j _ (fun e => hj (by rw [e]))⟩ ?_ ?_ ?_ ?_
              · intro a v e
                obtain ⟨ab, ao, as⟩ := a
                by_cases hab : ab = k
                · subst hab
                  cases as with
                  | none =>
                    have : (ovals ++ news)[ao]? = some v := by
                      simp only [C'] at e
                      split at e
                      · rename_i hk
                        rw [List.getElem?_append_right (by rw [hol]; exact hk.2.2), hol]; exact e
                      · rename_i hk
                        have hlt : ao < ovals.length := by
                          rw [hol]
                          rcases Nat.lt_or_ge ao (xs.length * t.size) with h' | h'
                          · exact h'
                          · exact absurd ⟨trivial, trivial, h'⟩ hk
                        rw [List.getElem?_append_left hlt]
                        have h1 := hox ao _ (List.getElem?_eq_getElem hlt)
                        rw [e] at h1
                        rw [List.getElem?_eq_getElem hlt]; exact h1.symm
                    exact hcellk ao v this
                  | some q =>
                    exfalso
                    simp only [C'] at e
                    rw [if_neg (by simp)] at e
                    have := h.sub _ _ e
                    simp [World.cell?, hh] at this
                · rw [cell_setRow_other w k _ _ hab]
                  apply h.sub
                  simp only [C'] at e
                  rw [if_neg (by simp [hab])] at e
                  exact e
              · intro j hj o s
                simp only [C']
                rw [if_neg]
                rintro ⟨rfl, _⟩
                exact hj rfl
              · intro j hj; simpa [liveOf, Value.ownBlock] using hj
              · intro j hj; left; simpa [liveOf, Value.ownBlock] using hj
              · refine .own hS ⟨hnl, .inr ⟨k, cap, _, rfl, hBk, setRow_heap w k cur _ e _ hh, hr, hcm, ?_, ?_⟩⟩ hCk ?_
                · simp only [List.size_toArray, List.length_append, List.length_drop, Array.length_toList, hcz]
                  rw [hol, hn.1]
                  have : xs.length * t.size + ys.length * t.size ≤ cap * t.size := by rw [← Nat.add_mul]; exact Nat.mul_le_mul_right _ hr
                  omega
                · rw [← hnl]
                  exact List.take_left
                · intro o s ho
                  simp only [C']
                  split
                  · exact List.getElem?_eq_none (by rw [hn.1]; rw [Nat.add_mul] at ho; omega)
                  · rename_i hk
                    exact hoC o s (by rw [Nat.add_mul] at ho; omega)
            · have hA : At C' ⟨k, 0, none⟩ (ovals ++ news) := ⟨rfl, fun j v hj => by simpa using hCk j v hj⟩
              have hrow' := ((hcs.append hn).mono hC).row hA
              have := RC.own (C := C') (g := g.set b (.row (.slice (some ⟨k, 0, none⟩) (xs.length + ys.length) cap) true)) (b := b) (cap := cap) (o := true) ⟨by rw [hlen]; exact hr, by rw [hlen]; simp only [lim]; omega⟩ hrow' (by rw [hlen, List.getElem?_set_self hltb])
              rw [hlen] at this
              exact this
    · have hyn : ys ≠ [] := by rintro rfl; simp at hr; omega
      have hold : ∀ w' : World, Below w.heap.size w w' → (Builtin.firstCells i.size xs.length (.slice base xs.length cap)).run P w' = .ok olds.toArray w' := by
        intro w' hw'
        by_cases hxe : xs = []
        · subst hxe
          have : olds = [] := List.eq_nil_of_length_eq_zero (by rw [hcs.1]; simp)
          subst this
          cases base <;> simp [Builtin.firstCells, loadCells, loadCellsFrom]
        · obtain ⟨ad, hbase, hat'⟩ := hat hxe
          subst hbase
          exact run_firstCells_some (P := P) w' i.size xs.length ad xs.length cap olds (by rw [hcs.1, hsz]) (At_lives h.sub hw' hat')
      have hrun := append_grow (ty := ty) ht hp hi hz hs hold hr h63 hb
      have hge := grownCap_ge w (xs.length + ys.length) cap e
      have hml : xs.length + ys.length ≤ maxLen := by simp only [maxLen]; omega
      have hcm := grownCap_le_maxLen w (xs.length + ys.length) cap e hml
      have hnl : (olds ++ news).length = (xs.length + ys.length) * t.size := by rw [List.length_append, hcs.1, hn.1, Nat.add_mul]
      generalize hGC : grownCap w (xs.length + ys.length) cap e = gc at hrun hge hcm
      have hnone := fun o s => RC_none_of h.sub (Nat.le_refl w.heap.size) o s
      have hC : C.le (C.row w.heap.size (olds ++ news)) := Mem.le_row fun o v e => by rw [hnone o none] at e; cases e
      have hnew : (w.drew.alloc (.cells ((olds ++ news).toArray ++ Builtin.zeroCells z.cells (gc - (xs.length + ys.length))) e)).heap[w.heap.size]? = some (.cells ((olds ++ news).toArray ++ Builtin.zeroCells z.cells (gc - (xs.length + ys.length))) e (0, 0)) := heap_alloc_new w.drew _
      have hgrow : w.grownBy (w.drew.alloc (.cells ((olds ++ news).toArray ++ Builtin.zeroCells z.cells (gc - (xs.length + ys.length))) e)) none := ⟨rfl, rfl, rfl, by simp, fun k hk _ => Below.heap_alloc w.drew _ k hk⟩
      refine ⟨_, _, C.row w.heap.size (olds ++ news), g.set b (.row (.slice (some ⟨w.heap.size, 0, none⟩) (xs.length + ys.length) gc) true), hrun, hC, hbut _, ?_, ?_, fun k hk _ => Below.heap_alloc w.drew _ k hk⟩
      · refine h.turn (row := none) hm hg rfl (hbut _) hC ?_ hgrow ?_ ?_ ?_ ?_
        · intro a v e'
          unfold Mem.row at e'
          split at e'
          · rename_i hk
            obtain ⟨bb, o', s⟩ := a
            simp only at hk e'
            obtain ⟨rfl, rfl⟩ := hk
            rw [cell_of_row _ _ _ _ _ _ hnew, Array.getElem?_append_left (by simpa using lt_of_getElem? e')]
            simpa using e'
          · exact hgrow.cell (h.sub a v e') (by simp)
        · intro k hk o' s
          exact Mem.row_other (fun e' => hk (by simp only at e'; simp [Value.ownBlock, e']))
        · intro k hk; cases hk
        · intro k hk; right; simp [Value.ownBlock] at hk; omega
        · refine .own (fun hs => by have := h.lt hs; omega) ⟨hnl, .inr ⟨w.heap.size, gc, _, rfl, Nat.zero_le _, hnew, hge, hcm, ?_, ?_⟩⟩ ?_ ?_
          · simp only [Array.size_append, List.size_toArray, size_zeroCells, hzs, hsz, hnl, ← Nat.add_mul]
            congr 1
            omega
          · simp only [Array.toList_append]
            rw [← hnl]
            exact List.take_left
          · intro j u hj; simp [Mem.row, hj]
          · intro o' s ho'
            unfold Mem.row
            split
            · simp only
              exact List.getElem?_eq_none (by omega)
            · exact hnone o' s
      · have hA : At (C.row w.heap.size (olds ++ news)) ⟨w.heap.size, 0, none⟩ (olds ++ news) := Mem.row_at
        have hrow' := ((hcs.append hn).mono hC).row hA
        have := RC.own (C := C.row w.heap.size (olds ++ news)) (g := g.set b (.row (.slice (some ⟨w.heap.size, 0, none⟩) (xs.length + ys.length) gc) true)) (b := b) (cap := gc) (o := true) ⟨by rw [hlen]; exact hge, by rw [hlen]; simp only [lim]; omega⟩ hrow' (by rw [hlen, List.getElem?_set_self hltb])
        rw [hlen] at this
        exact this

end
end Am
end Go.Proofs.Ytkjpoongkdapoaa
