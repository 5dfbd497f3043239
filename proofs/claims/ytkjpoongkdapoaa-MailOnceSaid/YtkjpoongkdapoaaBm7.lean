/-
  A symbolic machine over the model, part 7: addresses, parts of slices, structs that are built.
-/
import Derived.Test.YtkjpoongkdapoaaBm6
namespace Go.Proofs.Ytkjpoongkdapoaa
namespace Am
open Go Go.RowKit
set_option linter.unusedVariables false
set_option linter.unusedSimpArgs false

section
variable {C : Mem} {g : Ghs}

theorem RV_locv {b off k : Nat} (h : Ghs.box g b = some k) : RV C g (.loc b off) (.pointer (some ⟨k, off, none⟩)) := .one (.loc h) (by simp) (by simp)
theorem RV_lociv {b off i k : Nat} (hi : i < 32) (h : Ghs.box g b = some k) : RV C g (.loci b off i) (.pointer (some ⟨k, off + i, none⟩)) := .one (.loci hi h) (by simp) (by simp)
theorem RV_cptrv {u : AV} {ad : Addr} {cs : List Value} (h : RC C g u cs) (ha : At C ad cs) : RV C g (.cptr u) (.pointer (some ad)) := .one (.cptr h ha) (by simp) (by simp)

theorem At_part {ad : Addr} {pre mid post : List Value} (h : At C ad (pre ++ mid ++ post)) : At C ⟨ad.block, ad.off + pre.length, ad.spot⟩ mid := by
  refine ⟨h.1, fun j v hj => ?_⟩
  have hlt : j < mid.length := by
    rcases Nat.lt_or_ge j mid.length with h | h
    · exact h
    · rw [List.getElem?_eq_none h] at hj; cases hj
  have := h.2 (pre.length + j) v (by
    rw [List.append_assoc, List.getElem?_append_right (by omega), List.getElem?_append_left (by omega)]
    simpa using hj)
  rw [← this]
  congr 2
  simp only
  omega

theorem fieldOff_spec {P : Program} {s : TypeId} {i o : Nat} {t : TypeId} (h : fieldOff P s i = some (o, t)) : ∃ fs f, P.underlying s = some (.struct fs) ∧ fs[i]? = some f ∧ f.offset = o ∧ f.type = t := by
  unfold fieldOff at h
  split at h
  · rename_i fs hu
    cases hf : fs[i]? with
    | none => simp [hf] at h
    | some f => simp [hf] at h; exact ⟨fs, f, hu, hf, h.1, h.2⟩
  · simp at h

theorem cells_info {P : Program} {t : TypeId} (h : P.cellsOf t ≠ 0) : ∃ i, P.info? t = some i := by
  cases hi : P.info? t with
  | none => simp [Program.cellsOf, hi] at h
  | some i => exact ⟨i, rfl⟩

theorem run_sizeOf0 {P : Program} {t : TypeId} (h : P.cellsOf t ≠ 0) (w : World) : (sizeOf t).run P w = .ok (P.cellsOf t) w := by
  obtain ⟨i, hi⟩ := cells_info h
  simp [sizeOf, typeInfo, hi, Program.cellsOf]

theorem fieldAddr_run {E : Env} {s : TypeId} {a v : AV} {x : Value} {i : Nat} {ok : Bool} (ha : RV C g a x) (h : fieldAddrAV E s a i = some (ok, v)) : ∃ z, RV C g v z ∧ ∀ w : World, (Instr.fieldAt s x i).run E.P w = .ok z w := by
  unfold fieldAddrAV at h
  cases hf : fieldOff E.P s i with
  | none => simp [hf] at h
  | some p =>
    obtain ⟨o, t⟩ := p
    obtain ⟨fs, f, hu, hfi, ho, ht⟩ := fieldOff_spec hf
    cases a with
    | loc b off =>
      simp only [hf] at h
      obtain ⟨h1, h2⟩ := cond_some h
      simp only [Option.some.injEq, Prod.mk.injEq] at h2
      obtain ⟨k, hk, rfl⟩ := RV_loc ha
      refine ⟨.pointer (some ⟨k, off + o, none⟩), by rw [← h2.2]; exact RV_locv hk, fun w => ?_⟩
      have hz : E.P.cellsOf f.type ≠ 0 := by rw [ht]; simpa [sizeT] using h1
      simp [Instr.fieldAt, run_underlying hu, hfi, Instr.sureAddr, fieldPlace, run_sizeOf0 hz w, hz, Addr.add_lit, ho]
    | cptr u =>
      simp only [hf] at h
      obtain ⟨h1, h2⟩ := cond_some h
      simp only [Option.map_eq_some_iff, Prod.mk.injEq] at h2
      obtain ⟨u', hu', _, rfl⟩ := h2
      obtain ⟨ad, cs, rfl, hr, hat⟩ := RV_cptr ha
      obtain ⟨pre, mid, post, rfl, hp, hm, hs, hc⟩ := at_spec _ hr hu'
      have hat' := At_part hat
      refine ⟨.pointer (some ⟨ad.block, ad.off + pre.length, ad.spot⟩), RV_cptrv hm hat', fun w => ?_⟩
      have hz : E.P.cellsOf f.type ≠ 0 := by rw [ht]; simpa [sizeT] using h1
      have hadd : ad.add f.offset = ⟨ad.block, ad.off + pre.length, ad.spot⟩ := by
        rw [At_add hat, ho, hp, hat.1]
      simp [Instr.fieldAt, run_underlying hu, hfi, Instr.sureAddr, fieldPlace, run_sizeOf0 hz w, hz, hadd]
    | _ => simp only [hf, reduceCtorEq] at h

theorem arr32 {P : Program} {len : Nat} {e : TypeId} (h : (len == 32 && isU8 P e && P.cellsOf e == 1) = true) : len = 32 ∧ P.underlying e = some (.int .u8) ∧ P.cellsOf e = 1 := by
  simp only [Bool.and_eq_true, beq_iff_eq] at h
  exact ⟨h.1.1, isU8_under h.1.2, h.2⟩

theorem Id_get {x : Id} {i : Nat} (h : i < 32) : x.l[i]? = some (x.get i) := by
  have : i < x.l.length := by rw [x.h]; exact h
  simp [Id.get, List.getD, List.getElem?_eq_getElem this]

theorem indexAddr_run {E : Env} {t : TypeId} {a ix v : AV} {x y : Value} {ok : Bool} (ha : RV C g a x) (hi : RV C g ix y) (h : indexAddrAV E t a ix = some (ok, v)) (hok : ok = true) :
    ∃ z, RV C g v z ∧ ∀ w : World, (Instr.indexAt t x y).run E.P w = .ok z w := by
  subst hok
  unfold indexAddrAV at h
  cases hai : asInt ix with
  | none => simp [hai] at h
  | some p =>
    obtain ⟨k, i⟩ := p
    obtain ⟨rfl, _⟩ := RV_int hi hai
    cases hu : E.P.underlying t with
    | none => simp [hu] at h
    | some d =>
      cases d with
      | slice e =>
        cases a with
        | sl ty xs own =>
          simp only [hu, hai] at h
          obtain ⟨h1, h2⟩ := cond_some h
          simp only [Bool.and_eq_true, beq_iff_eq, decide_eq_true_eq] at h1
          simp only [Option.some.injEq, Prod.mk.injEq] at h2
          obtain ⟨hb, rfl⟩ := h2
          simp only [Bool.and_eq_true, ile_iff, ilt_iff, dlen] at hb
          obtain ⟨base, cap, rfl, hr, _, _⟩ := RV_sl ha
          have hlt : i.toNat < xs.length := by omega
          obtain ⟨ad, csi, rfl, htc, hat⟩ := hr i.toNat (xs.get ⟨i.toNat, hlt⟩) (by simp)
          have hd : dget ty xs i = xs.get ⟨i.toNat, hlt⟩ := by simp [dget, List.getD, List.getElem?_eq_getElem hlt]
          rw [hd]
          refine ⟨_, RV_cptrv (RC_enc' h1.1.2 htc) hat, fun w => ?_⟩
          have hsz : (sizeOf e).run E.P w = .ok (E.P.cellsOf e) w := run_sizeOf0 (by rw [h1.1.1]; omega) w
          have hadd : ad.add (i.toNat * E.P.cellsOf e) = ⟨ad.block, ad.off + i.toNat * ty.size, ad.spot⟩ := by
            have hs : ad.spot = none := hat.1
            rw [h1.1.1]
            unfold Addr.add
            split
            · rename_i h0; cases ad; simp [h0]
            · rw [hs]
          simp only [Instr.indexAt, asIntOf, Sem.run_bind, Sem.run_pure, Result.andThen_ok, run_underlying hu, Sem.run_ite]
          have hb2 : i < (xs.length : Int) := hb.2
          simp [hb.1, hb2, hsz, hadd]
        | asl ty b l r =>
          simp only [hu, hai] at h
          obtain ⟨h1, h2⟩ := cond_some h
          simp only [Bool.and_eq_true, beq_iff_eq, decide_eq_true_eq] at h1
          simp only [Option.some.injEq, Prod.mk.injEq] at h2
          obtain ⟨hb, rfl⟩ := h2
          simp only [Bool.and_eq_true, ile_iff, ilt_iff, isub] at hb
          obtain ⟨blk, e', n, cap, base, rfl, hg, h0, hbs⟩ := RV_asl ha
          obtain ⟨k', rfl, rfl⟩ := hbs (by omega)
          refine ⟨.pointer (some ⟨k', (iadd l i).toNat * ty.size, none⟩), .one (.elp hg ⟨by unfold iadd; omega, by unfold iadd; omega⟩) (by simp) (by simp), fun w => ?_⟩
          have hsz : (sizeOf e).run E.P w = .ok (E.P.cellsOf e) w := run_sizeOf0 (by rw [h1.1.1]; omega) w
          have hadd : (⟨k', l.toNat * ty.size, none⟩ : Addr).add (i.toNat * E.P.cellsOf e) = ⟨k', (iadd l i).toNat * ty.size, none⟩ := by
            rw [Addr.add_lit, h1.1.1, ← Nat.add_mul]
            unfold iadd
            rw [show (l + i).toNat = l.toNat + i.toNat by omega]
          simp only [Instr.indexAt, asIntOf, Sem.run_bind, Sem.run_pure, Result.andThen_ok, run_underlying hu, Sem.run_ite]
          have hb2 : i < ((r - l).toNat : Int) := by omega
          rw [if_pos ⟨hb.1, hb2⟩]
          simp only [hsz, Result.andThen_ok, hadd]
        | _ => simp only [hu, hai, reduceCtorEq] at h
      | array len e =>
        cases a with
        | loc b off =>
          simp only [hu, hai] at h
          obtain ⟨h1, h2⟩ := cond_some h
          obtain ⟨rfl, he, hc⟩ := arr32 h1
          simp only [Option.some.injEq, Prod.mk.injEq] at h2
          obtain ⟨hb, rfl⟩ := h2
          simp only [Bool.and_eq_true, ile_iff, ilt_iff] at hb
          obtain ⟨kb, hkb, rfl⟩ := RV_loc ha
          refine ⟨.pointer (some ⟨kb, off + i.toNat, none⟩), RV_lociv (by simp only [inat]; omega) hkb, fun w => ?_⟩
          simp [Instr.indexAt, asIntOf, run_underlying hu, Instr.sureAddr, hb.1, hb.2, run_sizeOf' he w, hc, Addr.add_lit]
        | cptr u =>
          cases u with
          | id x' =>
            simp only [hu, hai] at h
            obtain ⟨h1, h2⟩ := cond_some h
            obtain ⟨rfl, he, hc⟩ := arr32 h1
            simp only [Option.some.injEq, Prod.mk.injEq] at h2
            obtain ⟨hb, rfl⟩ := h2
            simp only [Bool.and_eq_true, ile_iff, ilt_iff] at hb
            obtain ⟨ad, cs, rfl, hr, hat⟩ := RV_cptr ha
            cases hr
            have hi32 : i.toNat < 32 := by omega
            have hat' : At C ⟨ad.block, ad.off + i.toNat, ad.spot⟩ [u8v (x'.get i.toNat)] := by
              refine ⟨hat.1, fun j v hj => ?_⟩
              cases j with
              | zero =>
                simp at hj
                subst hj
                have := hat.2 i.toNat (u8v (x'.get i.toNat)) (by rw [List.getElem?_map, Id_get hi32]; rfl)
                simpa using this
              | succ j => simp at hj
            refine ⟨_, RV_cptrv (.u8 _) hat', fun w => ?_⟩
            have hadd : ad.add i.toNat = ⟨ad.block, ad.off + i.toNat, ad.spot⟩ := by rw [At_add hat, hat.1]
            simp [Instr.indexAt, asIntOf, run_underlying hu, Instr.sureAddr, hb.1, hb.2, run_sizeOf' he w, hc, hadd]
          | _ => simp only [hu, hai, reduceCtorEq] at h
        | _ => simp only [hu, hai, reduceCtorEq] at h
      | _ => simp only [hu, hai, reduceCtorEq] at h

/- parts of slices and strings -/
theorem optInt_run {st : St} {a : Act} (ht : RVL C g st.tmps a.tmps.toList) {x : Operand} {n d : Int} (h : optInt st (some x) d = some n) : ∃ k, a.eval x = .int k n := by
  unfold optInt at h
  cases hv : evalOp st x with
  | none => simp [hv] at h
  | some v =>
    cases hi : asInt v with
    | none => simp [hv, hi] at h
    | some p =>
      obtain ⟨k, m⟩ := p
      simp [hv, hi] at h
      subst h
      exact ⟨k, (RV_int (evalOp_RV ht hv) hi).1⟩

theorem optInt_none {st : St} {d n : Int} (h : optInt st none d = some n) : n = d := by simpa [optInt] using h.symm

theorem bounds_run {P : Program} {st : St} {a : Act} (ht : RVL C g st.tmps a.tmps.toList) {lo hi : Option Operand} {i j n : Int} {len cap : Nat} (hl : optInt st lo 0 = some i) (hh : optInt st hi n = some j) (hn : n = len) (h0 : 0 ≤ i) (h1 : i ≤ j) (h2 : j ≤ n) (hc : len ≤ cap) (isS : Bool) (w : World) :
    (Instr.sliceBounds isS len cap (lo.map a.eval) (hi.map a.eval) none).run P w = .ok (i.toNat, j.toNat, cap) w := by
  have hj : j ≤ (cap : Int) := by omega
  have hj0 : 0 ≤ j := by omega
  have hij : i ≤ ((j.toNat : Nat) : Int) := by omega
  cases lo with
  | none =>
    have e1 := optInt_none hl
    cases hi with
    | none =>
      have e2 := optInt_none hh
      simp [Instr.sliceBounds]
      omega
    | some y =>
      obtain ⟨k, hk⟩ := optInt_run ht hh
      simp [Instr.sliceBounds, Instr.sliceBound, asIntOf, hk, hj0, hj]
      omega
  | some x =>
    obtain ⟨k', hk'⟩ := optInt_run ht hl
    cases hi with
    | none =>
      have e2 := optInt_none hh
      have hil : i ≤ (len : Int) := by omega
      simp [Instr.sliceBounds, Instr.sliceBound, asIntOf, hk', h0, hil]
      omega
    | some y =>
      obtain ⟨k, hk⟩ := optInt_run ht hh
      simp [Instr.sliceBounds, Instr.sliceBound, asIntOf, hk, hk', hj0, hj, h0]
      intro hm
      exfalso
      omega

theorem extract_bytes (l : List UInt8) (i j : Nat) : (⟨l.toArray⟩ : ByteArray).extract i j = ⟨((l.drop i).take (j - i)).toArray⟩ := by
  apply ByteArray.ext
  simp [ByteArray.data_extract]

theorem sliceAV_run {E : Env} {st : St} {a : Act} (ht : RVL C g st.tmps a.tmps.toList) {t : TypeId} {b v : AV} {x : Value} {lo hi mx : Option Operand} {ok : Bool} (hb : RV C g b x) (h : sliceAV E st t b lo hi mx = some (ok, v)) (hok : ok = true) :
    ∃ z, RV C g v z ∧ ∀ w : World, (Instr.sliceAt t x (lo.map a.eval) (hi.map a.eval) (mx.map a.eval)).run E.P w = .ok z w := by
  subst hok
  unfold sliceAV at h
  cases mx with
  | some m => simp at h
  | none =>
    cases hu : E.P.underlying t with
    | none => simp [hu] at h
    | some d =>
      cases d with
      | string =>
        cases b with
        | str l =>
          simp only [hu] at h
          cases hl : optInt st lo 0 with
          | none => simp [hl] at h
          | some i =>
            cases hh : optInt st hi (dlen l) with
            | none => simp [hl, hh] at h
            | some j =>
              simp only [hl, hh, Option.some.injEq, Prod.mk.injEq] at h
              obtain ⟨hc, rfl⟩ := h
              simp only [Bool.and_eq_true, ile_iff] at hc
              have hbl := RV_strl hb
              have ex := RV_str hb
              subst ex
              have hz : (⟨l.toArray⟩ : ByteArray).size = l.length := rfl
              refine ⟨.string ⟨(dsub l i j).toArray⟩, .one (.str _ (Nat.le_trans (show (dsub l i j).length ≤ l.length by simp only [dsub, List.length_take, List.length_drop]; omega) hbl)) (by simp) (by simp), fun w => ?_⟩
              have hbd := bounds_run (P := E.P) ht hl hh (len := l.length) (cap := l.length) rfl hc.1.1 hc.1.2 hc.2 (Nat.le_refl _) false w
              simp only [Instr.sliceAt, Sem.run_bind, run_underlying hu, Result.andThen_ok, Instr.slice, Option.map_none, Option.isSome_none, Bool.false_eq_true, if_false, hz, Sem.run_pure]
              rw [hbd]
              simp only [Result.andThen_ok, extract_bytes]
              rfl
        | _ => simp only [hu, reduceCtorEq] at h
      | slice e =>
        cases b with
        | sl ty xs own =>
          simp only [hu] at h
          cases hl : optInt st lo 0 with
          | none => simp [hl] at h
          | some i =>
            cases hh : optInt st hi (dlen xs) with
            | none => simp [hl, hh] at h
            | some j =>
              simp only [hl, hh] at h
              obtain ⟨h1, h2⟩ := cond_some h
              simp only [Bool.and_eq_true, beq_iff_eq, decide_eq_true_eq] at h1
              simp only [Option.some.injEq, Prod.mk.injEq] at h2
              obtain ⟨hc, rfl⟩ := h2
              simp only [Bool.and_eq_true, ile_iff] at hc
              obtain ⟨base, cap, rfl, hr, hrc, hcap, hlim⟩ := RV_sl hb
              have hj2 : j ≤ (xs.length : Int) := hc.2
              have hz : E.P.cellsOf e ≠ 0 := by omega
              have hlen : j.toNat - i.toNat = (dsub xs i j).length := by simp [dsub]; omega
              refine ⟨.slice (if cap = i.toNat then base else base.map (·.add (i.toNat * E.P.cellsOf e))) (dsub xs i j).length (cap - i.toNat), .one (.sl ⟨by rw [← hlen]; omega, by rw [← hlen]; omega⟩ ?_) (by simp) (by simp), fun w => ?_⟩
              · by_cases hne : dsub xs i j = []
                · rw [hne]; exact Row_nil
                · have hlt : i.toNat < xs.length := by
                    rcases Nat.lt_or_ge i.toNat xs.length with h | h
                    · exact h
                    · exfalso; apply hne; simp [dsub, List.drop_eq_nil_of_le h]
                  rw [if_neg (by omega)]
                  obtain ⟨ad, csi, rfl, _, hat⟩ := hr 0 (xs.get ⟨0, by omega⟩) (by simp)
                  have hs : ad.spot = none := hat.1
                  have hadd : ad.add (i.toNat * E.P.cellsOf e) = ⟨ad.block, ad.off + i.toNat * ty.size, ad.spot⟩ := by
                    rw [h1.1]
                    unfold Addr.add
                    split
                    · rename_i h0; cases ad; simp [h0]
                    · rw [hs]
                  simp only [Option.map_some, hadd]
                  exact Row_take (Row_drop hr i.toNat) _
              · have hbd := bounds_run (P := E.P) ht hl hh (len := xs.length) (cap := cap) rfl hc.1.1 hc.1.2 hc.2 hcap true w
                simp only [Instr.sliceAt, Sem.run_bind, run_underlying hu, Result.andThen_ok, Instr.slice, Option.map_none]
                rw [hbd]
                simp only [Result.andThen_ok, run_sizeOf0 hz w, Sem.run_pure, hlen]
        | asl ty bb l r =>
          simp only [hu] at h
          cases hl : optInt st lo 0 with
          | none => simp [hl] at h
          | some i =>
            cases hh : optInt st hi (isub r l) with
            | none => simp [hl, hh] at h
            | some j =>
              simp only [hl, hh] at h
              obtain ⟨h1, h2⟩ := cond_some h
              simp only [Bool.and_eq_true, beq_iff_eq, decide_eq_true_eq] at h1
              simp only [Option.some.injEq, Prod.mk.injEq] at h2
              obtain ⟨hc, rfl⟩ := h2
              simp only [Bool.and_eq_true, ile_iff] at hc
              obtain ⟨blk, e', n, cap, base, rfl, hg, h0, hbs⟩ := RV_asl hb
              have hz : E.P.cellsOf e ≠ 0 := by omega
              have hc2 : j ≤ r - l := hc.2
              have el : (iadd l j - iadd l i).toNat = j.toNat - i.toNat := by unfold iadd; omega
              have ec : cap - (iadd l i).toNat = cap - l.toNat - i.toNat := by unfold iadd; omega
              refine ⟨.slice (if cap - l.toNat = i.toNat then base else base.map (·.add (i.toNat * E.P.cellsOf e))) (iadd l j - iadd l i).toNat (cap - (iadd l i).toNat), .one (.asl hg ⟨by unfold iadd; omega, by unfold iadd; omega, by unfold iadd; omega, h0.2.2.2⟩ fun hlt => ?_) (by simp) (by simp), fun w => ?_⟩
              · unfold iadd at hlt
                obtain ⟨k', rfl, rfl⟩ := hbs (by omega)
                refine ⟨k', rfl, ?_⟩
                rw [if_neg (by omega), Option.map_some, Addr.add_lit, h1.1, ← Nat.add_mul]
                unfold iadd
                rw [show (l + i).toNat = l.toNat + i.toNat by omega]
              · have hbd := bounds_run (P := E.P) ht hl hh (len := (r - l).toNat) (cap := cap - l.toNat) (by unfold isub; omega) hc.1.1 hc.1.2 hc.2 (by omega) true w
                simp only [Instr.sliceAt, Sem.run_bind, run_underlying hu, Result.andThen_ok, Instr.slice, Option.map_none]
                rw [hbd]
                simp only [Result.andThen_ok, run_sizeOf0 hz w, Sem.run_pure, el, ec]
        | nilsl =>
          simp only [hu] at h
          cases hl : optInt st lo 0 with
          | none => simp [hl] at h
          | some i =>
            cases hh : optInt st hi 0 with
            | none => simp [hl, hh] at h
            | some j =>
              simp only [hl, hh] at h
              obtain ⟨h1, h2⟩ := cond_some h
              simp only [Option.some.injEq, Prod.mk.injEq] at h2
              obtain ⟨hc, rfl⟩ := h2
              simp only [Bool.and_eq_true, ieq_iff] at hc
              have ex := RV_nilsl hb
              subst ex
              refine ⟨_, hb, fun w => ?_⟩
              have hbd := bounds_run (P := E.P) ht hl hh (len := 0) (cap := 0) rfl (by omega) (by omega) (by omega) (Nat.le_refl _) true w
              simp only [Instr.sliceAt, Sem.run_bind, run_underlying hu, Result.andThen_ok, Instr.slice, Option.map_none]
              rw [hbd]
              simp [hc.1, hc.2, run_sizeOf0 (by simpa using h1) w]
        | _ => simp only [hu, reduceCtorEq] at h
      | array len e =>
        cases b with
        | loc b off =>
          cases lo with
          | some _ => simp [hu] at h
          | none =>
            cases hi with
            | some _ => simp [hu] at h
            | none =>
              simp only [hu] at h
              obtain ⟨h1, h2⟩ := cond_some h
              obtain ⟨rfl, he, hc⟩ := arr32 h1
              simp only [Option.some.injEq, Prod.mk.injEq, true_and] at h2
              subst h2
              obtain ⟨kb, hkb, rfl⟩ := RV_loc hb
              exact ⟨_, .one (.idsl hkb) (by simp) (by simp), fun w => by simp [Instr.sliceAt, run_underlying hu, Instr.sureAddr, Instr.sliceBounds, run_sizeOf' he w, Addr.add_zero']⟩
        | cptr u =>
          cases u with
          | id x' =>
            cases lo with
            | some _ => simp [hu] at h
            | none =>
              cases hi with
              | some _ => simp [hu] at h
              | none =>
                simp only [hu] at h
                obtain ⟨h1, h2⟩ := cond_some h
                obtain ⟨rfl, he, hc⟩ := arr32 h1
                simp only [Option.some.injEq, Prod.mk.injEq, true_and] at h2
                subst h2
                obtain ⟨ad, cs, rfl, hr, hat⟩ := RV_cptr hb
                cases hr
                have hrow : Row C .u8 (some ad) x'.l := TC_u8s hat
                have := RC.sl (C := C) (g := g) (cap := 32) ⟨Nat.le_of_eq x'.h, by rw [show List.length (x'.l : List Ty.u8.den) = 32 from x'.h]; simp [lim]⟩ hrow
                rw [show List.length (x'.l : List Ty.u8.den) = 32 from x'.h] at this
                exact ⟨_, .one this (by simp) (by simp), fun w => by simp [Instr.sliceAt, run_underlying hu, Instr.sureAddr, Instr.sliceBounds, run_sizeOf' he w, Addr.add_zero']⟩
          | _ => cases lo <;> cases hi <;> simp only [hu, reduceCtorEq] at h
        | _ => cases lo <;> cases hi <;> simp only [hu, reduceCtorEq] at h
      | _ => simp only [hu, reduceCtorEq] at h

end
end Am
end Go.Proofs.Ytkjpoongkdapoaa
