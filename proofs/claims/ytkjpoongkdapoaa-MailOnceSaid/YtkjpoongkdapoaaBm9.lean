/-
  A symbolic machine over the model, part 9: every pure operation is the model's.
-/
import Derived.Test.YtkjpoongkdapoaaBmM
namespace Go.Proofs.Ytkjpoongkdapoaa
namespace Am
open Go Go.RowKit
set_option linter.unusedVariables false
set_option linter.unusedSimpArgs false

section
variable {C : Mem} {g : Ghs}

theorem toList_two {α : Type} {a : Array α} {x y : α} (h : a.toList = [x, y]) : a = #[x, y] := by rw [← Array.toList_inj, h]
theorem toList_one {α : Type} {a : Array α} {x : α} (h : a.toList = [x]) : a = #[x] := by rw [← Array.toList_inj, h]
theorem toList_map {α β : Type} (a : Array α) (f : α → β) : a.map f = (a.toList.map f).toArray := by rw [← Array.toList_inj]; simp

theorem elp_load {P : Program} {X : Ctx} {w0 w : World} {C0 : Mem} {st : St} {t : TypeId} {ty : Ty} {b : Nat} {i : Int} {e : TypeId} {xs : List ty.den} {x : Value} (hrel : Rel X w0 C0 C g st.mem w) (hm : mget st.mem b = some (.arr ty e xs)) (hv : RV C g (.elp ty b i) x)
    (hT : okT P t = true) (hok : ty.ok = true) (hs : (enc ty (dget ty xs i)).size = sizeT P t) (hc : (enc ty (dget ty xs i)).cls = clsT P t) :
    ∃ (k : Addr) (z : Value), x = .pointer (some k) ∧ RV C g (enc ty (dget ty xs i)) z ∧ ∀ w' : World, w'.heap[k.block]? = w.heap[k.block]? → (loadVar t k).run P w' = .ok z w' := by
  obtain ⟨k, e', n, hx, hg, hi0, hi1⟩ := RV_elp hv
  rw [mget_eq] at hm
  cases hrel.blk b _ _ hm hg with
  | arr hns hb hcz hxs hl hC =>
    have hlt : i.toNat < xs.length := by omega
    obtain ⟨pre, mid, post, hcs, hpl, htc⟩ := hxs.get i.toNat (xs[i.toNat]) (by simp)
    have hd : dget ty xs i = xs[i.toNat] := by simp [dget, List.getD, List.getElem?_eq_getElem hlt]
    rw [hd] at hs hc ⊢
    have hrc : RC C g (enc ty (xs[i.toNat])) mid := RC_enc' hok htc
    obtain ⟨z, hz, hr⟩ := loadVar_run (P := P) hT hrc hc (by rw [RC_size hrc, hs]; rfl)
    refine ⟨_, z, hx, hz, fun w' hw => hr _ w' fun j v hj => ?_⟩
    rw [Addr.add_lit, ← hpl]
    simp only at hw
    unfold World.cell?
    simp only [hw, hb]
    have hjl : j < mid.length := CellsL.row.lt_of_get hj
    simp only [Option.isSome_none, Bool.false_eq_true, if_false, hcs]
    rw [List.getElem?_toArray, List.getElem?_append_left (by simp; omega), List.append_assoc, List.getElem?_append_right (by omega), List.getElem?_append_left (by omega), show pre.length + j - pre.length = j by omega]
    exact hj
theorem elp_lt {X : Ctx} {w0 w : World} {C0 : Mem} {st : St} {ty : Ty} {b : Nat} {i : Int} {e : TypeId} {xs : List ty.den} {x : Value} {k : Addr} (hrel : Rel X w0 C0 C g st.mem w) (hm : mget st.mem b = some (.arr ty e xs)) (hv : RV C g (.elp ty b i) x) (hx : x = .pointer (some k)) : k.block < w.heap.size := by
  obtain ⟨k', e', n, hx', hg, hi0, hi1⟩ := RV_elp hv
  rw [mget_eq] at hm
  rw [hx] at hx'
  simp only [Value.pointer.injEq, Option.some.injEq] at hx'
  subst hx'
  cases hrel.blk b _ _ hm hg with
  | arr hns hb hcz hxs hl hC => exact blk_lt hb
theorem iface_RV {t : TypeId} {v : AV} {x : Value} (h : RV C g v x) : RV C g (.iface t v) (.iface t x) := .one (.iface h) (by simp) (by simp)
theorem iface_run {P : Program} {t : TypeId} {x : Value} {w : World} (h : notIface P t = true) : (Instr.makeInterface t x).run P w = .ok (.iface t x) w := by
  unfold notIface at h
  split at h
  · cases h
  · rename_i d hne hu
    unfold Instr.makeInterface
    simp only [Sem.run_bind, run_underlying hu, Result.andThen_ok]
    simp
  · cases h

theorem pureOp_run {E : Env} {X : Ctx} {w0 w : World} {C0 : Mem} {st : St} {a : Act} {o : Oper} {v : AV} {ok : Bool} (hrel : Rel X w0 C0 C g st.mem w) (ht : RVL C g st.tmps a.tmps.toList) (h : pureOp E st o = some (ok, v)) (hok : ok = true) :
    ∃ z, RV C g v z ∧ ∀ w' : World, Below w.heap.size w w' → (execOp a.eval o).run E.P w' = .ok (.value z) w' := by
  obtain ⟨dst, op, ty, pos, after, guard⟩ := o
  unfold pureOp at h
  cases op with
  | move x =>
    simp only [Option.map_eq_some_iff, Prod.mk.injEq] at h
    obtain ⟨u, hu, _, rfl⟩ := h
    exact ⟨_, evalOp_RV ht hu, fun w' _ => by simp [execOp]⟩
  | assign x =>
    simp only [Option.map_eq_some_iff, Prod.mk.injEq] at h
    obtain ⟨u, hu, _, rfl⟩ := h
    exact ⟨_, evalOp_RV ht hu, fun w' _ => by simp [execOp]⟩
  | pick c x y =>
    cases hc : evalOp st c with
    | none => simp [hc] at h
    | some vc =>
      cases vc with
      | bool b =>
        have hcv := RV_bool (evalOp_RV ht hc)
        simp only [hc] at h
        have key : ∀ z : Value, (if b then a.eval x else a.eval y) = z → ∀ w' : World, (execOp a.eval ⟨dst, .pick c x y, ty, pos, after, guard⟩).run E.P w' = .ok (.value z) w' := by
          intro z hz w'
          simp [execOp, hcv, asBool, hz]
        unfold pickAV at h
        split at h
        · rename_i p q hbb
          unfold bothBool at hbb
          split at hbb
          · rename_i p' q' hx hy
            simp only [Option.some.injEq, Prod.mk.injEq] at hbb
            obtain ⟨rfl, rfl⟩ := hbb
            have hxv := RV_bool (evalOp_RV ht hx)
            have hyv := RV_bool (evalOp_RV ht hy)
            simp only [Option.some.injEq, Prod.mk.injEq] at h
            refine ⟨.bool (cond b p' q'), by rw [← h.2]; exact RV_boolv _, fun w' _ => key _ ?_ w'⟩
            rw [hxv, hyv]
            cases b <;> rfl
          · simp at hbb
        · cases b with
          | true =>
            simp only [cond_true, Option.map_eq_some_iff, Prod.mk.injEq] at h
            obtain ⟨u, hu, _, rfl⟩ := h
            exact ⟨_, evalOp_RV ht hu, fun w' _ => key _ rfl w'⟩
          | false =>
            simp only [cond_false, Option.map_eq_some_iff, Prod.mk.injEq] at h
            obtain ⟨u, hu, _, rfl⟩ := h
            exact ⟨_, evalOp_RV ht hu, fun w' _ => key _ rfl w'⟩
      | _ => simp [hc] at h
  | build t parts =>
    cases he : evalParts st parts.toList with
    | none => simp [he] at h
    | some ps =>
      simp only [he] at h
      obtain ⟨z, hz, hr⟩ := build_run ht he h
      refine ⟨z, hz, fun w' _ => ?_⟩
      have : (parts.map fun (p : Nat × Operand) => (p.1, a.eval p.2)) = (parts.toList.map fun p => (p.1, a.eval p.2)).toArray := toList_map _ _
      simp only [execOp]
      rw [show (Array.map (fun x : Nat × Operand => match x with | (i, x) => (i, a.eval x)) parts) = parts.map fun (p : Nat × Operand) => (p.1, a.eval p.2) from rfl, this]
      simp only [Sem.run_bind, hr, Result.andThen_ok, Sem.run_pure]
  | load t p =>
    cases hp : evalOp st p with
    | none => simp [hp] at h
    | some vp =>
      have hpv := evalOp_RV ht hp
      cases vp with
      | loc b off =>
        simp only [hp] at h
        obtain ⟨h1, h2⟩ := cond_some h
        simp only [Option.map_eq_some_iff, Prod.mk.injEq] at h2
        obtain ⟨u, hu, _, rfl⟩ := h2
        obtain ⟨k, hk, hx⟩ := RV_loc hpv
        obtain ⟨mid, hm, hl, hc, hcell⟩ := box_of hrel hu hk
        obtain ⟨z, hz, hr⟩ := loadVar_run (P := E.P) h1 hm hc hl
        refine ⟨z, hz, fun w' hw => ?_⟩
        have := hr ⟨k, off, none⟩ w' (fun j v hj => by rw [Addr.add_lit]; exact hcell w' hw j v hj)
        simp [execOp, Instr.loadAt, hx, Instr.sureAddr, this]
      | loci b off i =>
        simp only [hp] at h
        cases hm0 : memAt st b off 32 1 with
        | none => simp [hm0] at h
        | some u =>
          cases u with
          | id x =>
            simp only [hm0] at h
            obtain ⟨h1, h2⟩ := cond_some h
            simp only [Option.some.injEq, Prod.mk.injEq] at h2
            obtain ⟨k, hk, hx, hi⟩ := RV_loci hpv
            obtain ⟨mid, hm, hl, hc, hcell⟩ := box_of hrel hm0 hk
            cases hm
            have hu8 := isU8_under h1
            refine ⟨u8v (x.get i), by rw [← h2.2]; exact .one (.u8 _) (by simp) (by simp), fun w' hw => ?_⟩
            have hcl := hcell w' hw i (u8v (x.get i)) (by rw [List.getElem?_map, Id_get hi]; rfl)
            have hagg : (isAgg t).run E.P w' = .ok false w' := by simp [isAgg, run_underlying hu8]
            simp [execOp, Instr.loadAt, hx, Instr.sureAddr, loadVar, hagg, run_load, hcl]
          | _ => simp [hm0] at h
      | cptr u =>
        simp only [hp] at h
        obtain ⟨h1, h2⟩ := cond_some h
        simp only [Bool.and_eq_true, beq_iff_eq] at h1
        simp only [Option.some.injEq, Prod.mk.injEq] at h2
        obtain ⟨ad, cs, hx, hrc, hat⟩ := RV_cptr hpv
        obtain ⟨z, hz, hr⟩ := loadVar_run (P := E.P) h1.2 hrc h1.1.2 (by rw [RC_size hrc, h1.1.1]; rfl)
        refine ⟨z, by rw [← h2.2]; exact hz, fun w' hw => ?_⟩
        have := hr ad w' (At_lives hrel.sub hw hat)
        simp [execOp, Instr.loadAt, hx, Instr.sureAddr, this]
      | elp ty' b i =>
        simp only [hp] at h
        cases hm : mget st.mem b with
        | none => simp [hm] at h
        | some m =>
          cases m with
          | arr t2 e xs =>
            simp only [hm] at h
            split at h
            · rename_i ht
              subst ht
              obtain ⟨h1, h2⟩ := cond_some h
              simp only [Bool.and_eq_true, beq_iff_eq] at h1
              simp only [Option.some.injEq, Prod.mk.injEq] at h2
              obtain ⟨k, z, hx, hz, hr⟩ := elp_load (P := E.P) hrel hm hpv h1.1.2 h1.2 h1.1.1.1 h1.1.1.2
              refine ⟨z, by rw [← h2.2]; exact hz, fun w' hw => ?_⟩
              have := hr w' (hw.block k.block (elp_lt hrel hm hpv hx))
              simp [execOp, Instr.loadAt, hx, Instr.sureAddr, this]
            · cases h
          | _ => simp [hm] at h
      | _ => simp [hp] at h
  | lookup t m k cok =>
    cases hm : evalOp st m with
    | none => simp [hm] at h
    | some vm =>
      cases hk : evalOp st k with
      | none => cases vm <;> simp [hm, hk] at h
      | some vk =>
        have hmv := evalOp_RV ht hm
        have hkv := evalOp_RV ht hk
        simp only [hm, hk] at h
        split at h
        · rename_i b n e1 e2
          simp only [Option.some.injEq] at e1 e2
          subst e1; subst e2
          split at h
          · rename_i ty' kv hmm
            obtain ⟨h1, h2⟩ := cond_some h
            simp only [Option.some.injEq, Prod.mk.injEq] at h2
            obtain ⟨kk, hx, hg⟩ := RV_mref hmv
            have hy := RV_int1 hkv
            rw [mget_eq] at hmm
            cases hrel.blk b _ _ hmm hg with
            | mp hns hb he _ =>
              obtain ⟨z, hz, hr⟩ := lookup_run (P := E.P) (g := g) (n := n) (k := kk) h1 he cok
              refine ⟨z, by rw [← h2.2]; exact hz, fun w' hw => ?_⟩
              have := hr w' (by rw [hw.block kk (blk_lt hb)]; exact hb)
              simp only [execOp, hx, hy, Sem.run_bind, this, Result.andThen_ok, Sem.run_pure]
          · cases h
        · cases h
  | makeInterface t x =>
    cases hx : evalOp st x with
    | none => simp [hx] at h
    | some v' =>
      simp only [hx] at h
      obtain ⟨h1, h2⟩ := cond_some h
      simp only [Bool.and_eq_true] at h1
      simp only [Option.some.injEq, Prod.mk.injEq] at h2
      refine ⟨_, by rw [← h2.2]; exact iface_RV (evalOp_RV ht hx), fun w' _ => ?_⟩
      simp only [execOp, Sem.run_bind, iface_run h1.1, Result.andThen_ok, Sem.run_pure]
  | binOp op t x y yt =>
    cases hx : evalOp st x with
    | none => simp [hx] at h
    | some vx =>
      cases hy : evalOp st y with
      | none => simp [hx, hy] at h
      | some vy =>
        simp only [hx, hy] at h
        obtain ⟨z, hz, hr⟩ := binAV_run (evalOp_RV ht hx) (evalOp_RV ht hy) h hok x y
        refine ⟨z, hz, fun w' _ => ?_⟩
        have := hr w'
        simp only [execOp, Sem.run_bind, this, Result.andThen_ok, Sem.run_pure]
  | unOp op t x =>
    cases hx : evalOp st x with
    | none => simp [hx] at h
    | some vx =>
      simp only [hx] at h
      obtain ⟨z, hz, hr⟩ := unAV_run (P := E.P) (evalOp_RV ht hx) h hok
      exact ⟨z, hz, fun w' _ => by simp only [execOp, Sem.run_bind, hr, Result.andThen_ok, Sem.run_pure]⟩
  | convert s d x =>
    cases hx : evalOp st x with
    | none => simp [hx] at h
    | some vx =>
      have hxv := evalOp_RV ht hx
      cases vx with
      | idsl b off =>
        simp only [hx, convIdsl] at h
        split at h
        · rename_i e h1 h2
          split at h
          · rename_i a' hm
            obtain ⟨hu, h3⟩ := cond_some h
            simp only [Option.some.injEq, Prod.mk.injEq] at h3
            have he := isU8_under hu
            obtain ⟨k, hk, hxe⟩ := RV_idsl hxv
            obtain ⟨mid, hmid, _, _, hcell⟩ := box_of hrel hm hk
            cases hmid
            refine ⟨.string ⟨a'.l.toArray⟩, by rw [← h3.2]; exact .one (.str _ (by rw [a'.h]; simp [lim])) (by simp) (by simp), fun w' hw => ?_⟩
            have := run_convert_bytes_back (P := E.P) w' s d e ⟨k, off, none⟩ 32 a'.l h1 he h2 (fun j hj => by
              have := hcell w' hw j (u8v (a'.l[j])) (by rw [List.getElem?_map, List.getElem?_eq_getElem hj]; rfl)
              rw [Addr.add_lit]
              simpa [u8v] using this)
            rw [a'.h] at this
            simp only [execOp, hxe]
            simp only [Sem.run_bind, this, Result.andThen_ok, Sem.run_pure]
          · cases h
        · cases h
      | _ =>
        simp only [hx] at h
        obtain ⟨z, hz, hr⟩ := convAV_run hrel.sub hxv h hok
        exact ⟨z, hz, fun w' hw => by simp only [execOp, Sem.run_bind, hr w' hw, Result.andThen_ok, Sem.run_pure]⟩
  | makeFunc f first captured =>
    cases h1 : evalAll st first.toList with
    | none => simp [h1] at h
    | some fs =>
      cases h2 : evalAll st captured.toList with
      | none => simp [h1, h2] at h
      | some ks =>
        simp only [h1, h2, Option.some.injEq, Prod.mk.injEq] at h
        refine ⟨.func f (first.map a.eval) (captured.map a.eval), ?_, fun w' _ => by simp [execOp, Instr.makeFunc]⟩
        rw [← h.2, toList_map first, toList_map captured]
        exact .one (.fn (evalAll_RV ht h1) (evalAll_RV ht h2)) (by simp) (by simp)
  | slice t x lo hi mx =>
    cases hx : evalOp st x with
    | none => simp [hx] at h
    | some vx =>
      simp only [hx] at h
      obtain ⟨z, hz, hr⟩ := sliceAV_run ht (evalOp_RV ht hx) h hok
      exact ⟨z, hz, fun w' _ => by simp only [execOp, Sem.run_bind, hr, Result.andThen_ok, Sem.run_pure]⟩
  | fieldAddr s x f =>
    cases hx : evalOp st x with
    | none => simp [hx] at h
    | some vx =>
      simp only [hx] at h
      obtain ⟨z, hz, hr⟩ := fieldAddr_run (evalOp_RV ht hx) h
      exact ⟨z, hz, fun w' _ => by simp only [execOp, Sem.run_bind, hr, Result.andThen_ok, Sem.run_pure]⟩
  | field s x f =>
    cases hx : evalOp st x with
    | none => simp [hx] at h
    | some vx =>
      cases hf : fieldOff E.P s f with
      | none => simp [hx, hf] at h
      | some p =>
        obtain ⟨o, t⟩ := p
        cases vx with
        | agg ps =>
          simp only [hx, hf] at h
          obtain ⟨h1, h2⟩ := cond_some h
          simp only [Option.map_eq_some_iff, Prod.mk.injEq] at h2
          obtain ⟨u, hu, _, rfl⟩ := h2
          obtain ⟨fs, fd, hun, hfi, ho, hty⟩ := fieldOff_spec hf
          have hxv := evalOp_RV ht hx
          obtain ⟨⟨d, hd⟩, hone⟩ := okT_under h1
          obtain ⟨cs, hxe, hrc⟩ := RV_agg hxv
          obtain ⟨pre, mid, post, rfl, hp, hm, hs, hc⟩ := at_spec _ hrc hu
          have hl : mid.length = E.P.cellsOf t := by rw [RC_size hm, hs]; rfl
          have hvf : ∃ z, RV C g u z ∧ VF E.P t mid z := by
            by_cases h0 : clsT E.P t = 0
            · obtain ⟨z, rfl, hz⟩ := RC_RV0 hm (hc.trans h0) (by rw [hl]; exact hone h0)
              exact ⟨z, hz, .inl ⟨h0, rfl⟩⟩
            · have h12 : u.cls = 1 ∨ u.cls = 2 := by
                rw [hc]
                unfold clsT at h0 ⊢
                split <;> simp_all
              exact ⟨_, RC_RV1 hm h12, .inr ⟨h0, rfl⟩⟩
          obtain ⟨z, hz, hvf⟩ := hvf
          refine ⟨z, hz, fun w' _ => ?_⟩
          have hpart := part_run (P := E.P) (t := t) (d := d) (pre := pre) (mid := mid) (post := post) (off := o) hd hp.symm hl hvf w' (info_of_under hd)
          simp only [execOp, Instr.field, Sem.run_bind, run_underlying hun, Result.andThen_ok, hfi, hxe, asAgg, Sem.run_pure, hty, ho, hpart]
        | _ => simp [hx, hf] at h
  | indexAddr t x i =>
    cases hx : evalOp st x with
    | none => simp [hx] at h
    | some vx =>
      cases hi : evalOp st i with
      | none => simp [hx, hi] at h
      | some vi =>
        simp only [hx, hi] at h
        obtain ⟨z, hz, hr⟩ := indexAddr_run (evalOp_RV ht hx) (evalOp_RV ht hi) h hok
        exact ⟨z, hz, fun w' _ => by simp only [execOp, Sem.run_bind, hr, Result.andThen_ok, Sem.run_pure]⟩
  | index t x i =>
    cases hx : evalOp st x with
    | none => simp [hx] at h
    | some vx =>
      cases hi : evalOp st i with
      | none => simp [hx, hi] at h
      | some vi =>
        simp only [hx, hi] at h
        obtain ⟨z, hz, hr⟩ := indexAV_run (evalOp_RV ht hx) (evalOp_RV ht hi) h hok
        exact ⟨z, hz, fun w' _ => by simp only [execOp, Sem.run_bind, hr, Result.andThen_ok, Sem.run_pure]⟩
  | extract t i =>
    cases hx : evalOp st t with
    | none => simp [hx] at h
    | some vx =>
      cases vx with
      | tup vs =>
        simp only [hx, Option.map_eq_some_iff, Prod.mk.injEq] at h
        obtain ⟨u, hu, _, rfl⟩ := h
        obtain ⟨ws, hxe, hrl⟩ := RV_tup (evalOp_RV ht hx)
        obtain ⟨z, hz, hr⟩ := RVL_at hrl hu
        exact ⟨z, hr, fun w' _ => by simp [execOp, Instr.extract, hxe, hz]⟩
      | _ => simp [hx] at h
  | nilCheck x =>
    cases hx : evalOp st x with
    | none => simp [hx] at h
    | some vx =>
      have hxv := evalOp_RV ht hx
      cases vx with
      | loc b off =>
        simp only [hx, Option.some.injEq, Prod.mk.injEq] at h
        obtain ⟨k, hk, hxe⟩ := RV_loc hxv
        exact ⟨_, by rw [← h.2]; exact hxv, fun w' _ => by simp [execOp, hxe]⟩
      | cptr u =>
        simp only [hx, Option.some.injEq, Prod.mk.injEq] at h
        obtain ⟨ad, cs, hxe, _, _⟩ := RV_cptr hxv
        exact ⟨_, by rw [← h.2]; exact hxv, fun w' _ => by simp [execOp, hxe]⟩
      | _ => simp [hx] at h
  | call c =>
    obtain ⟨cal, args, ats⟩ := c
    cases cal with
    | builtin b =>
      cases b with
      | len =>
        simp only at h
        split at h
        · rename_i x t e1 e2
          cases hx : evalOp st x with
          | none => simp [hx] at h
          | some vx =>
            simp only [hx, Option.map_eq_some_iff, Prod.mk.injEq] at h
            obtain ⟨n, hn, _, rfl⟩ := h
            have a1 := toList_one e1
            have a2 := toList_one e2
            subst a1; subst a2
            refine ⟨.int .i64 n, RV_intv _ _, fun w' _ => ?_⟩
            have := lenAV_run (P := E.P) (ty := ty) (evalOp_RV ht hx) hn w'
            simp [execOp, resolve, invoke, builtin, this]
        · simp at h
      | cap =>
        simp only at h
        split at h
        · rename_i x t e1 e2
          split at h
          · rename_i e hx hu
            have a1 := toList_one e1
            have a2 := toList_one e2
            subst a1; subst a2
            simp only [Option.some.injEq, Prod.mk.injEq] at h
            have hxv := RV_nilsl (evalOp_RV ht hx)
            exact ⟨.int .i64 0, by rw [← h.2]; exact RV_intv _ _, fun w' _ => by simp [execOp, resolve, invoke, builtin, Builtin.cap_, run_underlying hu, hxv, goInt]⟩
          · simp at h
        · simp at h
      | min =>
        simp only at h
        split at h
        · rename_i k x r hx
          obtain ⟨h1, h2⟩ := cond_some h
          simp only [Option.map_eq_some_iff, Prod.mk.injEq] at h2
          obtain ⟨u, hu, _, rfl⟩ := h2
          have hall := evalAll_RV ht hx
          generalize hys : args.toList.map a.eval = ys at hall
          cases hall with
          | cons h3 h4 =>
            have e := RV_int1 h3
            subst e
            obtain ⟨z, hz, hr⟩ := minAll_run (P := E.P) (F := Builtin.min2) min2_int _ k x u _ h1 hu h4
            refine ⟨z, hz, fun w' _ => ?_⟩
            simp only [execOp, resolve, invoke, builtin, Sem.run_bind, Sem.run_pure, Result.andThen_ok, Builtin.min_, Array.toList_map, hys, hr]
        · simp at h
      | max =>
        simp only at h
        split at h
        · rename_i k x r hx
          obtain ⟨h1, h2⟩ := cond_some h
          simp only [Option.map_eq_some_iff, Prod.mk.injEq] at h2
          obtain ⟨u, hu, _, rfl⟩ := h2
          have hall := evalAll_RV ht hx
          generalize hys : args.toList.map a.eval = ys at hall
          cases hall with
          | cons h3 h4 =>
            have e := RV_int1 h3
            subst e
            obtain ⟨z, hz, hr⟩ := minAll_run (P := E.P) (F := Builtin.max2) max2_int _ k x u _ h1 hu h4
            refine ⟨z, hz, fun w' _ => ?_⟩
            simp only [execOp, resolve, invoke, builtin, Sem.run_bind, Sem.run_pure, Result.andThen_ok, Builtin.max_, Array.toList_map, hys, hr]
        · simp at h
      | _ => simp at h
    | _ => simp at h
  | _ => simp at h

end
end Am
end Go.Proofs.Ytkjpoongkdapoaa
