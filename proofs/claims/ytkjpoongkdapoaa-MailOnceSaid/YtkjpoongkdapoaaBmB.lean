/-
  A symbolic machine over the model, part 14b: rows that are made long, and parts that stay rows.
-/
import Derived.Test.YtkjpoongkdapoaaBm14
import Derived.Lib.AppendZerosOnto
namespace Go.Proofs.Ytkjpoongkdapoaa
namespace Am
open Go Go.RowKit
set_option linter.unusedVariables false
set_option linter.unusedSimpArgs false

section
variable {X : Ctx} {w0 w : World} {C0 C : Mem} {fs : List (List Value)} {g : Ghs} {st : St} {a : Act}

theorem inat_cast (k : Nat) : inat (k : Int) = k := by simp [inat]

theorem slice_to_run {P : Program} {t e : TypeId} (hu : P.underlying t = some (.slice e)) (hz : P.cellsOf e ≠ 0) (base : Option Addr) (len cap : Nat) (j : Nat) (hj : j ≤ cap) (w : World) :
    (Instr.sliceAt t (.slice base len cap) none (some (.int .i64 (j : Int))) none).run P w = .ok (.slice base j cap) w := by
  simp only [Instr.sliceAt, Sem.run_bind, run_underlying hu, Result.andThen_ok, Instr.slice]
  have hb : (Instr.sliceBounds true len cap none (some (.int .i64 (j : Int))) none).run P w = .ok (0, j, cap) w := by
    simp [Instr.sliceBounds, Instr.sliceBound, asIntOf, hj]
  rw [hb]
  simp only [Result.andThen_ok, run_sizeOf0 hz w, Sem.run_pure, Nat.zero_mul, Nat.sub_zero]
  cases base <;> simp [Addr.add]

theorem slice_clip_run {P : Program} {t e : TypeId} (hu : P.underlying t = some (.slice e)) (hz : P.cellsOf e ≠ 0) (base : Option Addr) (len cap : Nat) (hj : len ≤ cap) (w : World) :
    (Instr.sliceAt t (.slice base len cap) none (some (.int .i64 (len : Int))) (some (.int .i64 (len : Int)))).run P w = .ok (.slice base len len) w := by
  simp only [Instr.sliceAt, Sem.run_bind, run_underlying hu, Result.andThen_ok, Instr.slice]
  have hb : (Instr.sliceBounds true len cap none (some (.int .i64 (len : Int))) (some (.int .i64 (len : Int)))).run P w = .ok (0, len, len) w := by
    simp [Instr.sliceBounds, Instr.sliceBound, asIntOf, hj]
  rw [hb]
  simp only [Result.andThen_ok, run_sizeOf0 hz w, Sem.run_pure, Nat.zero_mul, Nat.sub_zero]
  cases base <;> simp [Addr.add]

theorem slice_zero_run {P : Program} {t e : TypeId} (hu : P.underlying t = some (.slice e)) (hz : P.cellsOf e ≠ 0) (base : Option Addr) (len cap : Nat) (w : World) :
    (Instr.sliceAt t (.slice base len cap) none (some (.int .i64 0)) (some (.int .i64 0))).run P w = .ok (.slice base 0 0) w := by
  simp only [Instr.sliceAt, Sem.run_bind, run_underlying hu, Result.andThen_ok, Instr.slice]
  have hb : (Instr.sliceBounds true len cap none (some (.int .i64 0)) (some (.int .i64 0))).run P w = .ok (0, 0, 0) w := by
    simp [Instr.sliceBounds, Instr.sliceBound, asIntOf]
  rw [hb]
  simp only [Result.andThen_ok, run_sizeOf0 hz w, Sem.run_pure, Nat.zero_mul, Nat.sub_zero]
  cases base <;> simp [Addr.add]
theorem isZeroC_spec {p : Operand} (h : isZeroC p = true) : p = .const (.int .i64 0) := by
  unfold isZeroC at h
  split at h
  · rw [ieq_iff] at h
    subst h
    rfl
  · cases h

theorem growAV_run {E : Env} {tT xT ty : TypeId} {n : Int} {ρ : Type} {K : AV → St → Option ρ} {r : ρ} (h : SR X w0 C0 fs C g st a w) (hxT : E.P.underlying xT = some (.int .i64)) (e1 : growAV E st tT n K = some r) :
    ∃ z w' av st', (Builtin.append_ #[tT, xT] ty #[.slice none 0 0, .int .i64 n]).run E.P w = .ok z w' ∧ (∃ C' g', SR X w0 C0 fs C' g' st' a w' ∧ RV C' g' av z) ∧ K av st' = some r := by
  unfold growAV at e1
  cases he : elemT E.P tT with
  | none => simp [he] at e1
  | some e =>
    cases hty : E.ty e with
    | none => simp [he, hty] at e1
    | some t =>
      simp only [he, hty] at e1
      obtain ⟨h1, e2⟩ := cond_some e1
      obtain ⟨h2, e3⟩ := cond_some e2
      simp only [Bool.and_eq_true, decide_eq_true_eq] at h1
      rw [Bool.and_eq_true, ile_iff, fits_iff] at h2
      obtain ⟨i, z, hi, hz, hc, hsz, _⟩ := zeroOk_spec h1.1.1
      have hu := elemT_spec he
      obtain ⟨k, rfl⟩ : ∃ k : Nat, n = (k : Int) := ⟨n.toNat, by omega⟩
      have hby : bytesT E.P e = i.bytes := by simp [bytesT, hi]
      rw [hby] at h2
      have hfit : (k : Int) * i.bytes ≤ 140737488355328 := by have := h2.2.1; rwa [Int.add_zero] at this
      have hfit' : k * i.bytes ≤ 140737488355328 := by
        have h' : ((k * i.bytes : Nat) : Int) ≤ 140737488355328 := by rw [Int.natCast_mul]; exact hfit
        omega
      have hk : (k : Int) < 4611686018427387904 := by have := h2.2.2; rwa [Int.add_zero] at this
      have hs : 0 < i.size := by rw [hsz]; exact h1.2
      have hcap : Builtin.nextslicecap (0 + k) 0 = k := by
        unfold Builtin.nextslicecap
        rw [Nat.zero_add, if_pos (by omega)]
      have hold : (Builtin.firstCells i.size 0 (.slice none 0 0)).run E.P w.drew = .ok ([] : List Value).toArray w.drew := rfl
      have hrun := Go.Lib.run_append_grow_zeros (P := E.P) w tT xT ty e i z .i64 .i64 hu hxT hi hz none 0 0 [] hold k (by omega) hs (by omega) (by omega) (by omega) (by rw [hcap]; omega)
      have hge := grownCap_ge w (0 + k) 0 e
      have hml : 0 + k ≤ maxLen := by simp only [maxLen]; omega
      have hcm := grownCap_le_maxLen w (0 + k) 0 e hml
      generalize hGC : grownCap w (0 + k) 0 e = gc at hrun hge hcm
      have hnone := fun o s => RC_none_of h.rel.sub (Nat.le_refl w.heap.size) o s
      have hzs : z.cells.size = i.size := zero_size hc hsz h1.1.2
      generalize hcur : (([] : List Value).toArray ++ Builtin.zeroCells z.cells k ++ Builtin.zeroCells z.cells (gc - (0 + k))) = cur at hrun
      have hcs : cur.size = gc * t.size := by
        rw [← hcur]
        simp only [Array.size_append, List.size_toArray, List.length_nil, size_zeroCells, hzs, hsz]
        rw [Nat.zero_add, ← Nat.add_mul]
        congr 1
        omega
      have hnew : (w.drew.alloc (.cells cur e)).heap[w.heap.size]? = some (.cells cur e (0, 0)) := heap_alloc_new w.drew _
      have hbel : Below w.heap.size w (w.drew.alloc (.cells cur e)) := (Below.refl _ _).drew.alloc (Nat.le_refl _) _
      have hrel : Rel X w0 C0 C (g ++ [.row (.slice (some ⟨w.heap.size, 0, none⟩) 0 gc) true]) (st.mem ++ [Blk.row e t.size]) (w.drew.alloc (.cells cur e)) := by
        refine h.rel.snoc hbel (Mem.le_refl _) (fun a v e' => ?_) (fun _ _ => rfl) ?_ ?_
        · have h1 := h.rel.sub a v e'
          rw [hbel.cell (World.block_lt_of_cell? w a h1)]
          exact h1
        · refine .own (xs := []) (fun hs => by have := h.rel.lt hs; omega) ⟨by simp, .inr ⟨w.heap.size, gc, cur, rfl, Nat.zero_le _, hnew, Nat.zero_le _, hcm, hcs, by simp⟩⟩ (fun j u hj => by simp at hj) (fun o s _ => hnone o s)
        · intro k' hk'
          simp only [liveOf, Value.ownBlock, Option.some.injEq] at hk'
          omega
      have h3 := h.up (Mem.le_refl _) (Ghs.le_append g [.row (.slice (some ⟨w.heap.size, 0, none⟩) 0 gc) true]) hrel
      rw [mapp_eq, mlen_eq, inat_cast] at e3
      refine ⟨_, _, _, _, hrun, ⟨C, _, h3, ?_⟩, e3⟩
      rw [Nat.zero_add] at hge ⊢
      refine .raw hge (o := true) ?_
      rw [h.rel.len]; simp

theorem doOp2_sound {E : Env} {ρ : Type} [Pan ρ] {call : CallT ρ} (hcall : CallOk E X call) {o : Oper} {K : St → Option ρ} {r : ρ} (h : SR X w0 C0 fs C g st a w)
    (e : doOp2 E call o st K = some r) {next : Act → World → Prop} {Q : Exit → Act → World → Prop} (hP : PanOk X w0 C0 r Q)
    (hn : ∀ st' a' w', Good X w0 C0 fs st' a' w' → K st' = some r → next a' w') : o.wp E.P a w next Q := by
  obtain ⟨dst, op, ty, pos, after, guard⟩ := o
  unfold doOp2 at e
  split at e
  · rename_i t x hi hop
    simp only at hop
    subst hop
    split at e
    · rename_i el ty' n b j hu hx hj
      obtain ⟨h1, e2⟩ := cond_some e
      obtain ⟨h2, e3⟩ := cond_some e2
      have := ieq_iff.mp h2
      subst this
      obtain ⟨base, cap, o', hxe, _, hg⟩ := RV_raw (evalOp_RV h.tm hx)
      have hje := RV_int1 (evalOp_RV h.tm hj)
      have hrun := fun w => slice_to_run (P := E.P) hu (by simpa using h1) base n cap 0 (Nat.zero_le _) w
      refine wp_value (z := .slice base 0 cap) (w' := w) ?_ (hn _ _ _ ⟨C, g, h.put ?_ dst⟩ e3)
      · simp only [execOp, hxe, hje, Option.map_none, Option.map_some, Sem.run_bind]
        have := hrun w
        simp only [Int.cast_ofNat_Int] at this
        rw [this]
        rfl
      · exact .one (.own (xs := []) ⟨Nat.zero_le _, Nat.zero_le _⟩ (fun i x hx => by simp at hx) hg) (by simp) (by simp)
    · exact doOp_sound hcall h e hP hn
  · rename_i t x hi mx hop
    simp only at hop
    subst hop
    split at e
    · rename_i el ty' xs o' j k hu hx hj hk
      obtain ⟨h1, e2⟩ := cond_some e
      simp only [Bool.and_eq_true, beq_iff_eq, decide_eq_true_eq] at h1
      obtain ⟨base, cap, hxe, hr, _, hcap, hlim⟩ := RV_sl (evalOp_RV h.tm hx)
      cases hzz : (isZeroC hi && isZeroC mx) with
      | true =>
        rw [hzz, cond_true] at e2
        rw [Bool.and_eq_true] at hzz
        have h5 := isZeroC_spec hzz.1
        have h6 := isZeroC_spec hzz.2
        subst h5 h6
        have hrun := slice_zero_run (P := E.P) hu (by omega) base xs.length cap w
        have hrel := h.rel.nilrow el ty'.size base 0
        have h3 := h.up (Mem.le_refl _) (Ghs.le_append g [.row (.slice base 0 0) false]) hrel
        rw [mapp_eq, mlen_eq] at e2
        refine wp_value (z := .slice base 0 0) (w' := w) ?_ (hn _ _ _ ⟨C, _, h3.put ?_ dst⟩ e2)
        · have h7 : a.eval (.const (.int .i64 0)) = .int .i64 0 := rfl
          simp only [execOp, hxe, h7, Option.map_none, Option.map_some, Sem.run_bind]
          rw [hrun]
          rfl
        · refine .one (.own (o := false) (xs := []) ⟨Nat.le_refl _, Nat.zero_le _⟩ (fun i x hx => by simp at hx) ?_) (by simp) (by simp)
          rw [h.rel.len]; simp
      | false =>
      rw [hzz, cond_false] at e2
      obtain ⟨h2, e3⟩ := cond_some e2
      rw [Bool.and_eq_true, ieq_iff, ieq_iff] at h2
      obtain ⟨rfl, rfl⟩ := h2
      have hje := RV_int1 (evalOp_RV h.tm hj)
      have hke := RV_int1 (evalOp_RV h.tm hk)
      have hrun := slice_clip_run (P := E.P) hu (by omega) base xs.length cap hcap w
      have hrel := h.rel.nilrow el ty'.size base xs.length
      have h3 := h.up (Mem.le_refl _) (Ghs.le_append g [.row (.slice base xs.length xs.length) false]) hrel
      rw [mapp_eq, mlen_eq] at e3
      refine wp_value (z := .slice base xs.length xs.length) (w' := w) ?_ (hn _ _ _ ⟨C, _, h3.put ?_ dst⟩ e3)
      · simp only [execOp, hxe, hje, hke, Option.map_none, Option.map_some, Sem.run_bind, dlen]
        rw [hrun]
        rfl
      · refine .one (.own (o := false) ⟨Nat.le_refl _, hlim⟩ hr ?_) (by simp) (by simp)
        rw [h.rel.len]; simp
    · rename_i el j k hu hx hj hk
      obtain ⟨h1, e2⟩ := cond_some e
      obtain ⟨h2, e3⟩ := cond_some e2
      rw [Bool.and_eq_true, ieq_iff, ieq_iff] at h2
      obtain ⟨rfl, rfl⟩ := h2
      have hxe := RV_nilsl (evalOp_RV h.tm hx)
      have hje := RV_int1 (evalOp_RV h.tm hj)
      have hke := RV_int1 (evalOp_RV h.tm hk)
      have hrun := slice_clip_run (P := E.P) hu (by simpa using h1) none 0 0 (Nat.le_refl _) w
      refine wp_value (z := .slice none 0 0) (w' := w) ?_ (hn _ _ _ ⟨C, g, h.put (.one .nilsl (by simp) (by simp)) dst⟩ e3)
      simp only [execOp, hxe, hje, hke, Option.map_none, Option.map_some, Sem.run_bind]
      simp only [Int.cast_ofNat_Int] at hrun
      rw [hrun]
      rfl
    · cases e
  · rename_i args ats hop
    simp only at hop
    subst hop
    split at e
    · rename_i s x tT xT ha ht
      split at e
      · rename_i n hxT hs hx
        obtain ⟨z, w', av, st', hrun, ⟨C', g', hsr, hrv⟩, hk⟩ := growAV_run (ty := ty) h hxT e
        have hse := RV_nilsl (evalOp_RV h.tm hs)
        have hxe := RV_int1 (evalOp_RV h.tm hx)
        obtain rfl : args = #[s, x] := by cases args; simp_all
        obtain rfl : ats = #[tT, xT] := by cases ats; simp_all
        refine wp_value (z := z) (w' := w') ?_ (hn _ _ _ ⟨C', g', hsr.put hrv dst⟩ hk)
        simp [execOp, resolve, invoke, builtin, hse, hxe, hrun]
      · exact doOp_sound hcall h e hP hn
    · exact doOp_sound hcall h e hP hn
  · exact doOp_sound hcall h e hP hn

end
end Am
end Go.Proofs.Ytkjpoongkdapoaa
