/-
  slices.Clone and slices.Delete, walked by hand (printed by mkhd.py).
-/
import Derived.Test.YtdicedlgaknkoaaHg
import Derived.Test.YtdicedlgaknkoaaProg
import Derived.WalkKit
import Derived.Deep.LoopGhost
import Derived.Deep.RegionLaw
import Derived.Lib.Walk
import Derived.Lib.SliceRun
import Derived.Shelf.RegionOpenPlain
namespace Go.Proofs.Ytdicedlgaknkoaa
namespace Am
open Go Go.RowKit Go.Lib


set_option maxHeartbeats 2000000 in
set_option maxRecDepth 100000 in
theorem clone43 : CloneOk Try.prog 43 (.pair .id (.pair (.int .i64) .unit)) 59 := by
  intro C w base xs cap cs hcs hlim hnil hat
  obtain ⟨i0, z, hi, hz0, hzc, hz1, _⟩ := zeroOk_spec (show zeroOk Try.prog 59 (.pair .id (.pair (.int .i64) .unit)) = true by kernel_rfl)
  have hby : i0.bytes = 40 := by
    have : (Try.prog.info? 59).map (fun j => j.bytes) = some 40 := by kernel_rfl
    rw [hi] at this; exact Option.some.inj this
  have q : ∀ (w : World) (a : Option Addr) (n c n' c' : Nat), (binOp .eql 22 (.slice a n c) (.slice none n' c')).run Try.prog w = .ok (.bool a.isNone) w := fun w a n c n' c' => Lib.run_eql_slice_nil w _ _ a n c n' c' Try.underlying22
  have hzn : z.cells.size = 33 := by rw [← Array.length_toList, hzc]; rfl
  have hl := hcs.1
  have h1 := hcs.2.1
  cases base with
  | none =>
    have := hnil rfl
    subst this
    have hc0 : cs = [] := by simpa using hl
    subst hc0
    refine (show Calls Try.prog 43 #[.slice none 0 cap] w (fun ex w' => ex = .returned (.slice none 0 0) ∧ w' = w) from ?_).mono ?_
    · clear hat hcs
      go_enter Try.func43, Try.ntmps43
      go_wp2
      go_ret
      exact ⟨rfl, rfl⟩
    · rintro ex w' ⟨rfl, rfl⟩
      exact ⟨_, rfl, Below.refl _ _, by simp, .inl ⟨rfl, rfl⟩⟩
  | some ad =>
    have A : Aside (∀ j u, cs[j]? = some u → w.cell? (ad.add j) = some u) := hat ad rfl
    have hl' : cs.length = xs.length * 33 := hl
    generalize xs.length = n at *
    clear hat hnil hcs
    go_enter Try.func43, Try.ntmps43
    go_wp2_with (at_builtin; refine wpList_append_own _ rfl _ _ 22 rfl w.heap.size 59 i0 z 33 40 Try.underlying22 hi hz0 hz1 hby hzn (by decide) _ _ _ rfl (World.ownsRow_made w #[] 0 (Nat.le_refl _) (Nat.zero_le _) rfl) ad n cap cs rfl hl' ?qc2 h1 ?qc4 ?qc5 ?qc6 ?_)
    case qc2 =>
      intro j u hj
      exact Lib.cell?_alloc_some _ (A.out j u hj)
    case qc4 => unfold maxLen; omega
    case qc5 => omega
    case qc6 => simp
    intro v' w1 hown hgrow hnil
    go_wp2
    go_ret
    refine ⟨v', rfl, ?_, (show w1.ownsRow w.heap.size 59 33 v' n cs by simpa using hown)⟩
    exact ((Below.refl _ w).alloc (Nat.le_refl _) _).grown hgrow (by simp) (by intro k hk; simp [Value.ownBlock] at hk; omega)


set_option maxHeartbeats 4000000 in
set_option maxRecDepth 1000000 in
theorem del42 : DelOk Try.prog 42 33 (zcells (.pair .id (.pair (.int .i64) .unit))) 59 := by
  have mixed : Try.prog.follows .mixedOrders = true := rfl
  obtain ⟨i0, z, hi, hz0, hzc, hz1, _⟩ := zeroOk_spec (show zeroOk Try.prog 59 (.pair .id (.pair (.int .i64) .unit)) = true by kernel_rfl)
  constructor
  · intro w base n cap i h1 h2 h3
    go_enter Try.func42, Try.ntmps42
    go_wp2
    all_goals (go_ret; exact ⟨rfl, rfl⟩)
  · intro w k cap n i j cs sp hheap hl hone hij hj hcap hn
    have hnl : (cs.drop (j * 33)).length = (n - j) * 33 := by rw [List.length_drop, hl, Nat.sub_mul]
    obtain ⟨news, hnews⟩ : ∃ news, news = cs.drop (j * 33) := ⟨_, rfl⟩
    rw [← hnews] at hnl
    have hcell : ∀ o u, (cs ++ sp)[o]? = some u → w.drew.cell? ⟨k, o, none⟩ = some u := by
      intro o u hu
      show w.cell? _ = _
      exact cell_of_heap hheap o u hu
    obtain ⟨A, hA, hsrc⟩ : ∃ A : Addr, (if cap = j then some (⟨k, 0, none⟩ : Addr) else some ⟨k, j * 33, none⟩) = some A ∧ Hid (∀ t u, news[t]? = some u → w.drew.cell? (A.add t) = some u) := by
      by_cases h : cap = j
      · refine ⟨⟨k, 0, none⟩, by simp [h], fun t u hu => ?_⟩
        have h0 : news.length = 0 := by rw [hnl, show n - j = 0 by omega, Nat.zero_mul]
        rw [List.length_eq_zero_iff.1 h0] at hu
        simp at hu
      · refine ⟨⟨k, j * 33, none⟩, by simp [h], fun t u hu => ?_⟩
        rw [Addr.add_lit]
        refine hcell _ _ ?_
        rw [hnews, List.getElem?_drop] at hu
        rw [List.getElem?_append_left (by have := (List.getElem?_eq_some_iff.1 hu).1; omega)]
        exact hu
    have s1 : Hid (news.length = (n - j) * 33) := hnl
    have s2 : Hid (∀ u ∈ news, u.oneCell' = true) := by
      intro u hu
      rw [hnews] at hu
      exact hone u (List.mem_of_mem_drop hu)
    have s3 : Hid (∀ t, t < news.length → (w.drew.cell? ⟨k, 0 + i * 33 + t, none⟩).isSome = true ∧ w.drew.frozen? ⟨k, 0 + i * 33 + t, none⟩ = false) := by
      intro t ht
      rw [hnl] at ht
      have hlt : i * 33 + t < (cs ++ sp).length := by rw [List.length_append, hl]; omega
      refine ⟨?_, ?_⟩
      · rw [Nat.zero_add, hcell _ _ (List.getElem?_eq_getElem hlt)]; rfl
      · show w.frozen? _ = _
        exact frozen_of_heap hheap _
    obtain ⟨W1, hW1⟩ : ∃ W1, W1 = w.drew.setCells k (0 + i * 33) news := ⟨_, rfl⟩
    obtain ⟨L1, hL1⟩ : ∃ L1, L1 = cs.take (i * 33) ++ news ++ ((cs ++ sp).drop (i * 33 + news.length)) := ⟨_, rfl⟩
    have hW1' : W1 = w.drew.setRow k L1.toArray := by
      rw [hW1, hL1, Nat.zero_add]
      rw [setCells_row (fr := (0, 0)) news (i * 33) w.drew (cs ++ sp) hheap (by rw [List.length_append, hl, hnl]; omega)]
      rw [List.take_append_of_le_length (by rw [hl]; omega)]
    have hL1l : L1.length = (cs ++ sp).length := by
      rw [hL1]; simp only [List.length_append, List.length_take, List.length_drop, hnl, hl]; omega
    have hheap1 : W1.heap[k]? = some (.cells L1.toArray 59 (0, 0)) := by
      rw [hW1']; exact setRow_heap w.drew k _ _ 59 (0, 0) hheap
    have hcl : ∀ ty off cp, off = (i + (n - j)) * 33 → (Builtin.clear_ #[22] ty #[.slice (some ⟨k, off, none⟩) (n - (i + (n - j))) cp]).run Try.prog W1 = .ok (.tuple #[]) (W1.setRow k (cs.take (i * 33) ++ cs.drop (j * 33) ++ (List.replicate (j - i) (zcells (.pair .id (.pair (.int .i64) .unit)))).flatten ++ sp).toArray) := by
      rintro ty off cp rfl
      have hzcl : (Builtin.zeroCells z.cells (n - (i + (n - j)))).toList = (List.replicate (j - i) (zcells (.pair .id (.pair (.int .i64) .unit)))).flatten := by
        rw [zeroCells_flat, hzc, show n - (i + (n - j)) = j - i by omega]
      have hzl : ((List.replicate (j - i) (zcells (.pair .id (.pair (.int .i64) .unit)))).flatten).length = (j - i) * 33 := by
        have := (CellsL.zeros (C := fun _ => none) (.pair .id (.pair (.int .i64) .unit)) (j - i)).length
        rw [List.length_replicate] at this
        exact this
      have hst := run_storeCells_at Try.prog k ((i + (n - j)) * 33) 59 (List.replicate (j - i) (zcells (.pair .id (.pair (.int .i64) .unit)))).flatten 0 L1.toArray W1 hheap1 (by simp only [List.size_toArray, hL1l, List.length_append, Nat.add_zero, hzl, hl]; omega) (fun v hv => (CellsL.zeros (C := fun _ => none) (.pair .id (.pair (.int .i64) .unit)) (j - i)).one v hv)
      have f1 : (L1.toArray.toList.take ((i + (n - j)) * 33 + 0)) = cs.take (i * 33) ++ cs.drop (j * 33) := by
        rw [hL1, ← hnews]
        show List.take _ (cs.take (i * 33) ++ news ++ _) = _
        rw [List.take_left' (by simp only [List.length_append, List.length_take, hl, hnl]; omega)]
      have f2 : (L1.toArray.toList.drop ((i + (n - j)) * 33 + 0 + (List.replicate (j - i) (zcells (.pair .id (.pair (.int .i64) .unit)))).flatten.length)) = sp := by
        rw [hzl, hL1]
        show List.drop _ (cs.take (i * 33) ++ news ++ _) = _
        rw [List.drop_append, List.drop_eq_nil_of_le (by simp only [List.length_append, List.length_take, hl, hnl]; omega), List.nil_append, List.drop_drop, List.drop_append, List.drop_eq_nil_of_le (by simp only [List.length_append, List.length_take, hl, hnl]; omega), List.nil_append]
        rw [show (i * 33 + news.length + ((i + (n - j)) * 33 + 0 + (j - i) * 33 - (cs.take (i * 33) ++ news).length)) - cs.length = 0 by simp only [List.length_append, List.length_take, hl, hnl]; omega]
        rfl
      rw [f1, f2] at hst
      obtain ⟨m, hm2⟩ : ∃ m, n - (i + (n - j)) = m + 1 := ⟨n - (i + (n - j)) - 1, by omega⟩
      rw [hm2] at hzcl ⊢
      simp only [Builtin.clear_, List.getElem?_toArray, List.getElem?_cons_zero, Sem.run_bind, run_underlying Try.underlying22, Result.andThen_ok, run_zeroValue hi hz0, hzcl, hst, Sem.run_pure]
    have H1 : Aside (W1.heap[k]? = some (.cells L1.toArray 59 (0, 0))) := hheap1
    have X : Aside (W1 = w.drew.setRow k L1.toArray) := hW1'
    have hW : Hid (W1 = w.drew.setCells k (0 + i * 33) news) := hW1
    have hic : i ≤ cap := by omega
    have hjc : j ≤ cap := by omega
    clear hW1 hW1' hcell hnews hnl hl hone hL1 hL1l hheap hheap1
    go_enter Try.func42, Try.ntmps42
    go_wp2_with fail
    go_region_law_o (refine step_append_room rfl (.tmp 22) (.tmp 25) 22 rfl 59 i0 33 Try.underlying22 hi hz1 k 0 i cap (by simp [Act.eval, Act.put]) A (n - j) (cap - j) news (by simp [Act.eval, Act.put]) s1.out hsrc.out s2.out (by omega) s3.out ?_; rw [← hW.out])
    go_wp2
    go_ret
    refine ⟨by rw [show n - (j - i) = i + (n - j) by omega]; rfl, ?_, ?_⟩
    · rw [X.out]
      exact ⟨rfl, rfl, rfl, by show w.heap.size ≤ ((w.drew.setRow k _).setRow k _).heap.size; simp [World.setRow], fun k' _ hk' => by
        rw [setRow_other _ k k' _ (fun e => hk' (by rw [e])), setRow_other _ k k' _ (fun e => hk' (by rw [e]))]; rfl⟩
    · simp only [List.append_assoc]
      exact setRow_heap W1 k L1.toArray _ 59 (0, 0) H1.out


set_option maxHeartbeats 2000000 in
set_option maxRecDepth 100000 in
theorem clone76 : CloneOk Try.prog 76 (.pair .id (.pair (.int .i64) (.pair (.int .i64) .unit))) 76 := by
  intro C w base xs cap cs hcs hlim hnil hat
  obtain ⟨i0, z, hi, hz0, hzc, hz1, _⟩ := zeroOk_spec (show zeroOk Try.prog 76 (.pair .id (.pair (.int .i64) (.pair (.int .i64) .unit))) = true by kernel_rfl)
  have hby : i0.bytes = 48 := by
    have : (Try.prog.info? 76).map (fun j => j.bytes) = some 48 := by kernel_rfl
    rw [hi] at this; exact Option.some.inj this
  have q : ∀ (w : World) (a : Option Addr) (n c n' c' : Nat), (binOp .eql 23 (.slice a n c) (.slice none n' c')).run Try.prog w = .ok (.bool a.isNone) w := fun w a n c n' c' => Lib.run_eql_slice_nil w _ _ a n c n' c' Try.underlying23
  have hzn : z.cells.size = 34 := by rw [← Array.length_toList, hzc]; rfl
  have hl := hcs.1
  have h1 := hcs.2.1
  cases base with
  | none =>
    have := hnil rfl
    subst this
    have hc0 : cs = [] := by simpa using hl
    subst hc0
    refine (show Calls Try.prog 76 #[.slice none 0 cap] w (fun ex w' => ex = .returned (.slice none 0 0) ∧ w' = w) from ?_).mono ?_
    · clear hat hcs
      go_enter Try.func76, Try.ntmps76
      go_wp2
      go_ret
      exact ⟨rfl, rfl⟩
    · rintro ex w' ⟨rfl, rfl⟩
      exact ⟨_, rfl, Below.refl _ _, by simp, .inl ⟨rfl, rfl⟩⟩
  | some ad =>
    have A : Aside (∀ j u, cs[j]? = some u → w.cell? (ad.add j) = some u) := hat ad rfl
    have hl' : cs.length = xs.length * 34 := hl
    generalize xs.length = n at *
    clear hat hnil hcs
    go_enter Try.func76, Try.ntmps76
    go_wp2_with (at_builtin; refine wpList_append_own _ rfl _ _ 23 rfl w.heap.size 76 i0 z 34 48 Try.underlying23 hi hz0 hz1 hby hzn (by decide) _ _ _ rfl (World.ownsRow_made w #[] 0 (Nat.le_refl _) (Nat.zero_le _) rfl) ad n cap cs rfl hl' ?qc2 h1 ?qc4 ?qc5 ?qc6 ?_)
    case qc2 =>
      intro j u hj
      exact Lib.cell?_alloc_some _ (A.out j u hj)
    case qc4 => unfold maxLen; omega
    case qc5 => omega
    case qc6 => simp
    intro v' w1 hown hgrow hnil
    go_wp2
    go_ret
    refine ⟨v', rfl, ?_, (show w1.ownsRow w.heap.size 76 34 v' n cs by simpa using hown)⟩
    exact ((Below.refl _ w).alloc (Nat.le_refl _) _).grown hgrow (by simp) (by intro k hk; simp [Value.ownBlock] at hk; omega)


set_option maxHeartbeats 4000000 in
set_option maxRecDepth 1000000 in
theorem del75 : DelOk Try.prog 75 34 (zcells (.pair .id (.pair (.int .i64) (.pair (.int .i64) .unit)))) 76 := by
  have mixed : Try.prog.follows .mixedOrders = true := rfl
  obtain ⟨i0, z, hi, hz0, hzc, hz1, _⟩ := zeroOk_spec (show zeroOk Try.prog 76 (.pair .id (.pair (.int .i64) (.pair (.int .i64) .unit))) = true by kernel_rfl)
  constructor
  · intro w base n cap i h1 h2 h3
    go_enter Try.func75, Try.ntmps75
    go_wp2
    all_goals (go_ret; exact ⟨rfl, rfl⟩)
  · intro w k cap n i j cs sp hheap hl hone hij hj hcap hn
    have hnl : (cs.drop (j * 34)).length = (n - j) * 34 := by rw [List.length_drop, hl, Nat.sub_mul]
    obtain ⟨news, hnews⟩ : ∃ news, news = cs.drop (j * 34) := ⟨_, rfl⟩
    rw [← hnews] at hnl
    have hcell : ∀ o u, (cs ++ sp)[o]? = some u → w.drew.cell? ⟨k, o, none⟩ = some u := by
      intro o u hu
      show w.cell? _ = _
      exact cell_of_heap hheap o u hu
    obtain ⟨A, hA, hsrc⟩ : ∃ A : Addr, (if cap = j then some (⟨k, 0, none⟩ : Addr) else some ⟨k, j * 34, none⟩) = some A ∧ Hid (∀ t u, news[t]? = some u → w.drew.cell? (A.add t) = some u) := by
      by_cases h : cap = j
      · refine ⟨⟨k, 0, none⟩, by simp [h], fun t u hu => ?_⟩
        have h0 : news.length = 0 := by rw [hnl, show n - j = 0 by omega, Nat.zero_mul]
        rw [List.length_eq_zero_iff.1 h0] at hu
        simp at hu
      · refine ⟨⟨k, j * 34, none⟩, by simp [h], fun t u hu => ?_⟩
        rw [Addr.add_lit]
        refine hcell _ _ ?_
        rw [hnews, List.getElem?_drop] at hu
        rw [List.getElem?_append_left (by have := (List.getElem?_eq_some_iff.1 hu).1; omega)]
        exact hu
    have s1 : Hid (news.length = (n - j) * 34) := hnl
    have s2 : Hid (∀ u ∈ news, u.oneCell' = true) := by
      intro u hu
      rw [hnews] at hu
      exact hone u (List.mem_of_mem_drop hu)
    have s3 : Hid (∀ t, t < news.length → (w.drew.cell? ⟨k, 0 + i * 34 + t, none⟩).isSome = true ∧ w.drew.frozen? ⟨k, 0 + i * 34 + t, none⟩ = false) := by
      intro t ht
      rw [hnl] at ht
      have hlt : i * 34 + t < (cs ++ sp).length := by rw [List.length_append, hl]; omega
      refine ⟨?_, ?_⟩
      · rw [Nat.zero_add, hcell _ _ (List.getElem?_eq_getElem hlt)]; rfl
      · show w.frozen? _ = _
        exact frozen_of_heap hheap _
    obtain ⟨W1, hW1⟩ : ∃ W1, W1 = w.drew.setCells k (0 + i * 34) news := ⟨_, rfl⟩
    obtain ⟨L1, hL1⟩ : ∃ L1, L1 = cs.take (i * 34) ++ news ++ ((cs ++ sp).drop (i * 34 + news.length)) := ⟨_, rfl⟩
    have hW1' : W1 = w.drew.setRow k L1.toArray := by
      rw [hW1, hL1, Nat.zero_add]
      rw [setCells_row (fr := (0, 0)) news (i * 34) w.drew (cs ++ sp) hheap (by rw [List.length_append, hl, hnl]; omega)]
      rw [List.take_append_of_le_length (by rw [hl]; omega)]
    have hL1l : L1.length = (cs ++ sp).length := by
      rw [hL1]; simp only [List.length_append, List.length_take, List.length_drop, hnl, hl]; omega
    have hheap1 : W1.heap[k]? = some (.cells L1.toArray 76 (0, 0)) := by
      rw [hW1']; exact setRow_heap w.drew k _ _ 76 (0, 0) hheap
    have hcl : ∀ ty off cp, off = (i + (n - j)) * 34 → (Builtin.clear_ #[23] ty #[.slice (some ⟨k, off, none⟩) (n - (i + (n - j))) cp]).run Try.prog W1 = .ok (.tuple #[]) (W1.setRow k (cs.take (i * 34) ++ cs.drop (j * 34) ++ (List.replicate (j - i) (zcells (.pair .id (.pair (.int .i64) (.pair (.int .i64) .unit))))).flatten ++ sp).toArray) := by
      rintro ty off cp rfl
      have hzcl : (Builtin.zeroCells z.cells (n - (i + (n - j)))).toList = (List.replicate (j - i) (zcells (.pair .id (.pair (.int .i64) (.pair (.int .i64) .unit))))).flatten := by
        rw [zeroCells_flat, hzc, show n - (i + (n - j)) = j - i by omega]
      have hzl : ((List.replicate (j - i) (zcells (.pair .id (.pair (.int .i64) (.pair (.int .i64) .unit))))).flatten).length = (j - i) * 34 := by
        have := (CellsL.zeros (C := fun _ => none) (.pair .id (.pair (.int .i64) (.pair (.int .i64) .unit))) (j - i)).length
        rw [List.length_replicate] at this
        exact this
      have hst := run_storeCells_at Try.prog k ((i + (n - j)) * 34) 76 (List.replicate (j - i) (zcells (.pair .id (.pair (.int .i64) (.pair (.int .i64) .unit))))).flatten 0 L1.toArray W1 hheap1 (by simp only [List.size_toArray, hL1l, List.length_append, Nat.add_zero, hzl, hl]; omega) (fun v hv => (CellsL.zeros (C := fun _ => none) (.pair .id (.pair (.int .i64) (.pair (.int .i64) .unit))) (j - i)).one v hv)
      have f1 : (L1.toArray.toList.take ((i + (n - j)) * 34 + 0)) = cs.take (i * 34) ++ cs.drop (j * 34) := by
        rw [hL1, ← hnews]
        show List.take _ (cs.take (i * 34) ++ news ++ _) = _
        rw [List.take_left' (by simp only [List.length_append, List.length_take, hl, hnl]; omega)]
      have f2 : (L1.toArray.toList.drop ((i + (n - j)) * 34 + 0 + (List.replicate (j - i) (zcells (.pair .id (.pair (.int .i64) (.pair (.int .i64) .unit))))).flatten.length)) = sp := by
        rw [hzl, hL1]
        show List.drop _ (cs.take (i * 34) ++ news ++ _) = _
        rw [List.drop_append, List.drop_eq_nil_of_le (by simp only [List.length_append, List.length_take, hl, hnl]; omega), List.nil_append, List.drop_drop, List.drop_append, List.drop_eq_nil_of_le (by simp only [List.length_append, List.length_take, hl, hnl]; omega), List.nil_append]
        rw [show (i * 34 + news.length + ((i + (n - j)) * 34 + 0 + (j - i) * 34 - (cs.take (i * 34) ++ news).length)) - cs.length = 0 by simp only [List.length_append, List.length_take, hl, hnl]; omega]
        rfl
      rw [f1, f2] at hst
      obtain ⟨m, hm2⟩ : ∃ m, n - (i + (n - j)) = m + 1 := ⟨n - (i + (n - j)) - 1, by omega⟩
      rw [hm2] at hzcl ⊢
      simp only [Builtin.clear_, List.getElem?_toArray, List.getElem?_cons_zero, Sem.run_bind, run_underlying Try.underlying23, Result.andThen_ok, run_zeroValue hi hz0, hzcl, hst, Sem.run_pure]
    have H1 : Aside (W1.heap[k]? = some (.cells L1.toArray 76 (0, 0))) := hheap1
    have X : Aside (W1 = w.drew.setRow k L1.toArray) := hW1'
    have hW : Hid (W1 = w.drew.setCells k (0 + i * 34) news) := hW1
    have hic : i ≤ cap := by omega
    have hjc : j ≤ cap := by omega
    clear hW1 hW1' hcell hnews hnl hl hone hL1 hL1l hheap hheap1
    go_enter Try.func75, Try.ntmps75
    go_wp2_with fail
    go_region_law_o (refine step_append_room rfl (.tmp 22) (.tmp 25) 23 rfl 76 i0 34 Try.underlying23 hi hz1 k 0 i cap (by simp [Act.eval, Act.put]) A (n - j) (cap - j) news (by simp [Act.eval, Act.put]) s1.out hsrc.out s2.out (by omega) s3.out ?_; rw [← hW.out])
    go_wp2
    go_ret
    refine ⟨by rw [show n - (j - i) = i + (n - j) by omega]; rfl, ?_, ?_⟩
    · rw [X.out]
      exact ⟨rfl, rfl, rfl, by show w.heap.size ≤ ((w.drew.setRow k _).setRow k _).heap.size; simp [World.setRow], fun k' _ hk' => by
        rw [setRow_other _ k k' _ (fun e => hk' (by rw [e])), setRow_other _ k k' _ (fun e => hk' (by rw [e]))]; rfl⟩
    · simp only [List.append_assoc]
      exact setRow_heap W1 k L1.toArray _ 76 (0, 0) H1.out

end Am
end Go.Proofs.Ytdicedlgaknkoaa
