/-
  A symbolic machine over the model, part 23: what a law's arguments read as; the law's row.
-/
import Derived.Test.YtkjpoongkdapoaaBm22
import Derived.ProofKit
import Derived.OpenShut
import Derived.ShutString
import Derived.ChangeOld
import Derived.Below
import Derived.Carry
import Derived.Deep.Slices
import Derived.JoinedOf
import Derived.SizedLaws
namespace Go.Proofs.Ytkjpoongkdapoaa
namespace Am
open Go Go.RowKit Go.ChangeShapes Go.WideShapes Go.ChangeAt
set_option linter.unusedVariables false
set_option linter.unusedSimpArgs false

/-- the sort of a type that a law's argument has -/
def rFields (P : Program) (rec : TypeId → Option Ty) : Nat → List Field → Option Ty
  | _, [] => some .unit
  | off, f :: fs => cond (f.offset == off) (match rec f.type with
    | some a => cond (P.cellsOf f.type == a.size) (match rFields P rec (off + a.size) fs with
      | some b => some (.pair a b)
      | none => none) none
    | none => none) none
def rTy (P : Program) : Nat → TypeId → Option Ty
  | 0, _ => none
  | n + 1, t =>
    match P.underlying t with
    | some (.int k) => some (intTy k)
    | some .bool => some .bool
    | some .string => some .str
    | some (.slice e) => (match rTy P n e with
      | some a => cond (P.cellsOf e == a.size && decide (0 < a.size) && decide (0 < P.bytesOf e)) (some (.sl a)) none
      | none => none)
    | some (.array len e) => cond (len == 32 && isU8 P e && P.cellsOf e == 1 && P.cellsOf t == 32) (some .id) none
    | some (.struct fs) => (match rFields P (rTy P n) 0 fs.toList with
      | some ty => cond (P.cellsOf t == ty.size) (some ty) none
      | none => none)
    | _ => none

/-- what is known of a value that came in -/
def Ty.wf : (t : Ty) → t.den → Prop
  | .int k, n => (Lit.int k n).wf = true
  | .u8, _ => True
  | .bool, _ => True
  | .str, l => List.length (l : List UInt8) ≤ reachBytes
  | .id, _ => True
  | .unit, _ => True
  | .pair s t, x => s.wf x.1 ∧ t.wf x.2
  | .sl e, xs => List.length (xs : List e.den) ≤ reachBytes ∧ ∀ x ∈ (xs : List e.den), e.wf x

section
variable {H : Type} {enc0 : TypeId × Value → H} {P : Program} {w : World} {spare : Nat → Bool} {held : Bool}

def CW (w : World) : Mem := fun a => w.cell? a

theorem At_cells {base : Nat} {a : Addr} {n : Nat} {cs : List Value} (h : w.cells? base a n = some cs) (hn : cs ≠ []) : a.spot = none ∧ At (CW w) ⟨a.block, a.off, none⟩ cs := by
  obtain ⟨_, hl, hc⟩ := World.cells?_some h
  have hspot : a.spot = none := by
    cases cs with
    | nil => exact absurd rfl hn
    | cons c cs =>
      have := hc 0 (by rw [← hl]; simp)
      have := World.cell?_spot this
      simpa [Addr.add] using this
  refine ⟨hspot, rfl, fun j v hj => ?_⟩
  have hlt := lt_of_getElem? hj
  have := hc j (by omega)
  rw [hj] at this
  obtain ⟨b, o, s⟩ := a
  simp only at hspot
  subst hspot
  rw [Addr.add_lit] at this
  exact this

theorem rTy_ok : ∀ (n : Nat) (t : TypeId) (ty : Ty), rTy P n t = some ty → ty.ok = true
  | 0, _, _, h => by simp [rTy] at h
  | n + 1, t, ty, h => by
    have hf : ∀ (fs : List Field) (off : Nat) (ty : Ty), rFields P (rTy P n) off fs = some ty → ty.ok = true ∧ ty.chain = true := by
      intro fs
      induction fs with
      | nil => intro off ty h; simp only [rFields, Option.some.injEq] at h; subst h; exact ⟨rfl, rfl⟩
      | cons f fs ih =>
        intro off ty h
        simp only [rFields] at h
        obtain ⟨_, h⟩ := cond_some h
        split at h
        · rename_i a ha
          obtain ⟨_, h⟩ := cond_some h
          split at h
          · rename_i b hb
            simp only [Option.some.injEq] at h
            subst h
            have h1 := rTy_ok n _ _ ha
            have h2 := ih _ _ hb
            exact ⟨by simp [Ty.ok, h1, h2.1, h2.2], by simp [Ty.chain, h2.2]⟩
          · cases h
        · cases h
    simp only [rTy] at h
    split at h
    · rename_i k _; simp only [Option.some.injEq] at h; subst h; cases k <;> rfl
    · simp only [Option.some.injEq] at h; subst h; rfl
    · simp only [Option.some.injEq] at h; subst h; rfl
    · split at h
      · rename_i a ha
        obtain ⟨_, h⟩ := cond_some h
        simp only [Option.some.injEq] at h
        subst h
        simpa [Ty.ok] using rTy_ok n _ _ ha
      · cases h
    · obtain ⟨_, h⟩ := cond_some h
      simp only [Option.some.injEq] at h; subst h; rfl
    · split at h
      · rename_i ty' hty
        obtain ⟨_, h⟩ := cond_some h
        simp only [Option.some.injEq] at h
        subst h
        exact (hf _ _ _ hty).1
      · cases h
    · cases h

theorem u8v_of {n : Int} (h : (Lit.int .u8 n).wf = true) : Value.int .u8 n = u8v (iu8 n) := by
  simp only [Lit.wf, Bool.and_eq_true, decide_eq_true_eq] at h
  rw [u8v_iu8]
  · exact h.1
  · have := h.2
    simp [IntKind.max, IntKind.bits] at this
    omega

theorem read_u8s {cs : List Value} (h : ∀ i, i < cs.length → ∃ n, cs[i]? = some (.int .u8 n) ∧ (Lit.int .u8 n).wf = true) : ∃ l : List UInt8, cs = l.map u8v := by
  induction cs with
  | nil => exact ⟨[], rfl⟩
  | cons c cs ih =>
    obtain ⟨n, hn, hw⟩ := h 0 (by simp)
    simp only [List.getElem?_cons_zero, Option.some.injEq] at hn
    obtain ⟨l, rfl⟩ := ih (fun i hi => by simpa using h (i + 1) (by simpa using hi))
    exact ⟨iu8 n :: l, by rw [hn, u8v_of hw]; rfl⟩

theorem reach_lim : reachBytes ≤ lim := by decide
theorem weights_all {P : Program} {e : TypeId} {d : DataW H} : ∀ {l : List (DataW H)}, d ∈ l → ∀ n ∈ d.weights P e, n ∈ DataW.weightsAll P e l
  | [], h, _, _ => by simp at h
  | x :: l, h, n, hn => by
    simp only [DataW.weightsAll, List.mem_append]
    rcases List.mem_cons.1 h with rfl | h
    · exact .inl hn
    · exact .inr (weights_all h n hn)

theorem read_TC : ∀ (n : Nat) (t : TypeId) (ty : Ty), rTy P n t = some ty → ∀ (fuel : Nat) (cs : List Value) (x : DataW H × List MemPlace), DataW.trod enc0 P w 0 spare held fuel t cs = some x → (∀ n ∈ x.1.weights P t, n ≤ reachBytes) → ∃ y : ty.den, ty.wf y ∧ TC (CW w) ty y cs
  | 0, _, _, h => by simp [rTy] at h
  | n + 1, t, ty, h => by
    intro fuel cs x hx hwt
    simp only [rTy] at h
    split at h
    · rename_i k hk
      simp only [Option.some.injEq] at h; subst h
      obtain ⟨m, rfl, _, hw⟩ := DataW.trod_int hk hx
      by_cases h8 : k = .u8
      · subst h8
        exact ⟨iu8 m, trivial, by rw [u8v_of hw]; rfl⟩
      · cases k <;> first | exact absurd rfl h8 | exact ⟨m, hw, rfl⟩
    · rename_i hk
      simp only [Option.some.injEq] at h; subst h
      obtain ⟨b, rfl, _⟩ := DataW.trod_bool hk hx
      exact ⟨b, trivial, rfl⟩
    · rename_i hk
      simp only [Option.some.injEq] at h; subst h
      obtain ⟨s, rfl, rfl, hs⟩ := DataW.trod_string hk hx
      have hb := hwt s.data.toList.length (by simp [DataW.weights])
      exact ⟨s.data.toList, hb, ⟨rfl, Nat.le_trans hb reach_lim⟩⟩
    · rename_i e hk
      split at h
      · rename_i a ha
        obtain ⟨hsz, h⟩ := cond_some h
        simp only [Option.some.injEq] at h
        subst h
        simp only [Bool.and_eq_true, beq_iff_eq, decide_eq_true_eq] at hsz
        rcases DataW.trod_slice hk hx with ⟨rfl, _⟩ | ⟨ad, len, cap, elems, rest, m, _, rfl, rfl, _, hlen, hcap, hel, hread, _⟩
        · exact ⟨([] : List a.den), ⟨Nat.zero_le _, fun x hx => by simp at hx⟩, none, 0, rfl, ⟨Nat.le_refl _, Nat.zero_le _⟩, fun i x hx => by simp at hx⟩
        · have hwl : len ≤ reachBytes := by
            have h1 := hwt ((elems.length + rest.length) * P.bytesOf e) (by simp [DataW.weights, hk])
            have h2 : (elems.length + rest.length) * 1 ≤ (elems.length + rest.length) * P.bytesOf e := Nat.mul_le_mul_left _ hsz.2
            omega
          have each : ∀ i, i < len → ∃ (y : a.den) (csi : List Value), a.wf y ∧ TC (CW w) a y csi ∧ w.cells? 0 (ad.add (i * P.cellsOf e)) (P.cellsOf e) = some csi := by
            intro i hi
            have := hread i hi
            rw [List.getElem?_eq_getElem (by omega)] at this
            cases hc : w.cells? 0 (ad.add (i * P.cellsOf e)) (P.cellsOf e) with
            | none => simp [hc] at this
            | some csi =>
              rw [hc] at this
              have hmem : elems[i] ∈ elems := List.getElem_mem _
              obtain ⟨y, hw, hy⟩ := read_TC n e a ha _ _ _ this (fun q hq => hwt q (by
                simp only [DataW.weights, hk, List.mem_cons, List.mem_append]
                exact .inr (.inl (weights_all (List.mem_map.2 ⟨_, hmem, rfl⟩) q hq))))
              exact ⟨y, csi, hw, hy, rfl⟩
          obtain ⟨f, hf⟩ := Deep.choose_lt (α := a.den) (p := fun i y => ∃ csi, a.wf y ∧ TC (CW w) a y csi ∧ w.cells? 0 (ad.add (i * P.cellsOf e)) (P.cellsOf e) = some csi) each
          refine ⟨(List.range len).map f, ⟨by simpa using hwl, fun x hx => ?_⟩, some ad, cap, by simp, ⟨by simpa using hlen, by simpa using Nat.le_trans hwl reach_lim⟩, ?_⟩
          · simp only [List.mem_map, List.mem_range] at hx
            obtain ⟨i, hi, rfl⟩ := hx
            obtain ⟨_, h1, _⟩ := hf i hi
            exact h1
          · intro i x hx
            have hi : i < len := by simpa using lt_of_getElem? hx
            have hxe : x = f i := by
              simp only [List.getElem?_map, List.getElem?_range hi, Option.map_some, Option.some.injEq] at hx
              exact hx.symm
            subst hxe
            obtain ⟨csi, _, h2, h3⟩ := hf i hi
            have hne : csi ≠ [] := by
              rintro rfl
              have := (World.cells?_some h3).2.1
              simp at this
              omega
            obtain ⟨hs, hat⟩ := At_cells h3 hne
            refine ⟨ad, csi, rfl, h2, ?_⟩
            rw [← hsz.1.1]
            obtain ⟨b, o, sp⟩ := ad
            have hsp : sp = none := by
              obtain ⟨c0, _, h20, h30⟩ := hf 0 (by omega)
              have hne0 : c0 ≠ [] := by
                rintro rfl
                have := (World.cells?_some h30).2.1
                simp at this
                omega
              have := (At_cells h30 hne0).1
              simpa [Addr.add] using this
            subst hsp
            rw [Addr.add_lit] at hat
            exact hat
      · cases h
    · rename_i len e hk
      obtain ⟨hc, h⟩ := cond_some h
      simp only [Option.some.injEq] at h
      subst h
      simp only [Bool.and_eq_true, beq_iff_eq] at hc
      obtain ⟨xs, m, _, _, hl, hxl, hread⟩ := DataW.trod_array hk hx
      obtain ⟨⟨⟨hl32, hu8⟩, hc1⟩, hct⟩ := hc
      subst hl32
      have hu : P.underlying e = some (.int .u8) := by
        unfold isU8 at hu8
        split at hu8
        · assumption
        · cases hu8
      have hcl : cs.length = 32 := hl.trans hct
      obtain ⟨l, rfl⟩ := read_u8s (cs := cs) (fun i hi => by
        have := hread i (by omega)
        rw [List.getElem?_eq_getElem (by omega), hc1, Nat.mul_one] at this
        obtain ⟨k, hk1, _, hk3⟩ := DataW.trod_int hu this
        refine ⟨k, ?_, hk3⟩
        rw [List.drop_eq_getElem_cons hi] at hk1
        simp only [List.take_succ_cons, List.take_zero, List.cons.injEq, and_true] at hk1
        rw [List.getElem?_eq_getElem hi, hk1])
      exact ⟨⟨l, by simpa using hcl⟩, trivial, rfl⟩
    · rename_i fs hk
      split at h
      · rename_i ty' hty
        obtain ⟨hsz, h⟩ := cond_some h
        simp only [Option.some.injEq] at h
        subst h
        simp only [beq_iff_eq] at hsz
        obtain ⟨xs, m, _, rfl, hl, hxl, hread⟩ := DataW.trod_struct hk hx
        have key : ∀ (l : List Field) (off : Nat) (tl : Ty), rFields P (rTy P n) off l = some tl → (∀ f ∈ l, ∃ x, DataW.trod enc0 P w 0 spare held m f.type ((cs.drop f.offset).take (P.cellsOf f.type)) = some x ∧ ∀ q ∈ x.1.weights P f.type, q ≤ reachBytes) →
            ∃ y : tl.den, tl.wf y ∧ TC (CW w) tl y ((cs.drop off).take tl.size) := by
          intro l
          induction l with
          | nil =>
            intro off tl h _
            simp only [rFields, Option.some.injEq] at h
            subst h
            exact ⟨(), trivial, by simp [TC, Ty.size]⟩
          | cons f l ih =>
            intro off tl h hr
            simp only [rFields] at h
            obtain ⟨ho, h⟩ := cond_some h
            simp only [beq_iff_eq] at ho
            split at h
            · rename_i a ha
              obtain ⟨hs, h⟩ := cond_some h
              simp only [beq_iff_eq] at hs
              split at h
              · rename_i b hb
                simp only [Option.some.injEq] at h
                subst h
                obtain ⟨x, hx, hxw⟩ := hr f (by simp)
                obtain ⟨y1, w1, t1⟩ := read_TC n _ a ha _ _ _ hx hxw
                obtain ⟨y2, w2, t2⟩ := ih _ _ hb (fun f hf => hr f (by simp [hf]))
                refine ⟨(y1, y2), ⟨w1, w2⟩, _, _, ?_, t1, t2⟩
                rw [ho, hs, Ty.size, List.take_add, List.drop_drop]
              · cases h
            · cases h
        obtain ⟨y, h1, h2⟩ := key fs.toList 0 ty' hty (fun f hf => by
          obtain ⟨i, hi, rfl⟩ := List.getElem_of_mem hf
          have := hread i _ (by rw [← Array.getElem?_toList]; exact List.getElem?_eq_getElem hi)
          rw [List.getElem?_eq_getElem (by rw [hxl]; simpa using hi)] at this
          refine ⟨_, this, fun q hq => hwt q ?_⟩
          simp only [DataW.weights, hk]
          refine DataW.weights_mem_each (j := i) (t := fs.toList[i].type) (d := (xs[i]'(by rw [hxl]; simpa using hi)).1) ?_ ?_ q hq
          · rw [List.getElem?_map, List.getElem?_eq_getElem hi]; rfl
          · rw [List.getElem?_map, List.getElem?_eq_getElem (by rw [hxl]; simpa using hi)]; rfl)
        refine ⟨y, h1, ?_⟩
        rw [List.drop_zero, List.take_of_length_le (by omega)] at h2
        exact h2
      · cases h
    · cases h

theorem read_RV {n : Nat} {t : TypeId} {ty : Ty} (h : rTy P n t = some ty) {r : Reach} {b0 : Nat} {v : Value} {d : DataW H} {ps : List MemPlace} (hok : Value.okWide P w r b0 t v) (hd : DataW.Trod enc0 P w 0 spare held t v d ps) (hwt : ∀ q ∈ d.weights P t, q ≤ reachBytes) :
    ∃ y : ty.den, ty.wf y ∧ RV (CW w) [] (enc ty y) v := by
  obtain ⟨fuel, hf⟩ := hd
  obtain ⟨y, hw, hy⟩ := read_TC n t ty h fuel _ _ hf hwt
  have hrc := RC_enc' (g := []) (rTy_ok n t ty h) hy
  refine ⟨y, hw, ?_⟩
  cases n with
  | zero => simp [rTy] at h
  | succ n =>
    simp only [rTy] at h
    split at h
    · rename_i k hk
      obtain ⟨m, rfl⟩ := okWide_int hk hok
      simp only [Option.some.injEq] at h; subst h
      cases k <;> exact .one hrc (by simp [enc, enc2, intTy]) (by simp [enc, enc2, intTy])
    · rename_i hk
      obtain ⟨m, rfl⟩ := okWide_bool hk hok
      simp only [Option.some.injEq] at h; subst h
      exact .one hrc (by simp [enc, enc2]) (by simp [enc, enc2])
    · rename_i hk
      obtain ⟨m, rfl⟩ := okWide_string hk hok
      simp only [Option.some.injEq] at h; subst h
      exact .one hrc (by simp [enc, enc2]) (by simp [enc, enc2])
    · rename_i e hk
      obtain ⟨m, len, cap, rfl⟩ := okWide_slice hk hok
      split at h
      · rename_i a ha
        obtain ⟨_, h⟩ := cond_some h
        simp only [Option.some.injEq] at h
        subst h
        exact .one hrc (by simp [enc, enc2]) (by simp [enc, enc2])
      · cases h
    · rename_i len e hk
      obtain ⟨_, h⟩ := cond_some h
      simp only [Option.some.injEq] at h
      subst h
      simp only [Value.okWide, hk] at hok
      obtain ⟨cs, rfl, _, _⟩ := hok
      have := RV.id (a := y) hrc
      simp only [Value.cells] at this
      exact this
    · rename_i fs hk
      obtain ⟨cs, rfl, _⟩ := okWide_struct hk hok
      split at h
      · rename_i ty' hty
        obtain ⟨_, h⟩ := cond_some h
        simp only [Option.some.injEq] at h
        subst h
        have hagg : ∃ l, enc ty' y = .agg l := by
          cases hfs : fs.toList with
          | nil => rw [hfs] at hty; simp only [rFields, Option.some.injEq] at hty; subst hty; exact ⟨_, rfl⟩
          | cons f l =>
            rw [hfs] at hty
            simp only [rFields] at hty
            obtain ⟨_, h⟩ := cond_some hty
            split at h
            · obtain ⟨_, h⟩ := cond_some h
              split at h
              · simp only [Option.some.injEq] at h; subst h; exact ⟨_, rfl⟩
              · cases h
            · cases h
        obtain ⟨l, hl⟩ := hagg
        rw [hl] at hrc ⊢
        have := RV.agg hrc
        simpa [Value.cells] using this
      · cases h
    · cases h

/-- the sorts of a law's arguments -/
def rAll (P : Program) : List TypeId → Option Ty
  | [] => some .unit
  | t :: ts => match rTy P 12 t, rAll P ts with
    | some a, some b => some (.pair a b)
    | _, _ => none

theorem read_all {r : Reach} {b0 : Nat} : ∀ {ts : List TypeId} {tys : Ty} {vs : List Value} {ds : List (DataW H)} {ps : List MemPlace}, rAll P ts = some tys → DataW.TrodAll enc0 P w 0 spare held ts vs ds ps →
    (∀ (j : Nat) (t : TypeId) (v : Value), ts[j]? = some t → vs[j]? = some v → Value.okWide P w r b0 t v) → (∀ q ∈ DataW.weightsEach P ts ds, q ≤ reachBytes) → ∃ ys : tys.den, tys.wf ys ∧ RVL (CW w) [] (enc2 tys ys).2 vs
  | [], tys, vs, ds, ps, h, hd, _, _ => by
    simp only [rAll, Option.some.injEq] at h
    subst h
    obtain ⟨rfl, _⟩ := trodAll_nil hd
    exact ⟨(), trivial, .nil⟩
  | t :: ts, tys, vs, ds, ps, h, hd, hv, hwt => by
    simp only [rAll] at h
    split at h
    · rename_i a b ha hb
      simp only [Option.some.injEq] at h
      subst h
      obtain ⟨v, vs', d, ds', p, q, rfl, rfl, rfl, h1, h2⟩ := trodAll_cons hd
      simp only [DataW.weightsEach, List.mem_append] at hwt
      obtain ⟨y, hw, hy⟩ := read_RV ha (hv 0 t v rfl rfl) h1 (fun q hq => hwt q (.inl hq))
      obtain ⟨ys, hws, hys⟩ := read_all hb h2 (fun j t v ht hv' => hv (j + 1) t v (by simpa using ht) (by simpa using hv')) (fun q hq => hwt q (.inr hq))
      exact ⟨(y, ys), ⟨hw, hws⟩, .cons hy hys⟩
    · cases h

theorem trodAll_len : ∀ {ts : List TypeId} {vs : List Value} {ds : List (DataW H)} {ps : List MemPlace} {b : Nat}, DataW.TrodAll enc0 P w b spare held ts vs ds ps → ds.length = ts.length
  | [], _, _, _, _, h => by obtain ⟨_, rfl, _⟩ := trodAll_nil h; rfl
  | _ :: ts, _, _, _, _, h => by
    obtain ⟨v, vs', d, ds', p, q, rfl, rfl, rfl, h1, h2⟩ := trodAll_cons h
    simp [trodAll_len h2]

theorem trodAll_below (hl : laidOutB P = true) {w' : World} (hb : Below w.heap.size w w') : ∀ {ts : List TypeId} {vs : List Value} {ds : List (DataW H)} {ps : List MemPlace}, (ts.all fun t => P.readableRec t && decide (t < P.types.size)) = true →
    DataW.TrodAll enc0 P w 0 (fun _ => true) true ts vs ds ps → DataW.TrodAll enc0 P w' 0 (fun b => decide (b < w.heap.size)) true ts vs ds ps
  | [], _, _, _, _, h => by obtain ⟨rfl, rfl, rfl⟩ := trodAll_nil h; exact trodAll_mk0
  | t :: ts, _, _, _, hr, h => by
    obtain ⟨v, vs', d, ds', p, q, rfl, rfl, rfl, h1, h2⟩ := trodAll_cons h
    simp only [List.all_cons, Bool.and_eq_true, decide_eq_true_eq] at hr
    have lt : ∀ x ∈ p, x.block < w.heap.size := by obtain ⟨m, hm⟩ := h1; exact DataW.trod_lt m _ _ _ hm
    exact trodAll_cons_mk (Below.trod hl hr.1.1 hr.1.2 h1 hb lt) (trodAll_below hl hb (by simpa using hr.2) h2)

end

/-- A LAW: the machine's contract says true of all arguments that may come in. -/
theorem law_lifted {C : Checked} {os : Os} {f : FuncId} {fn : Func} {s : ChangeSpec} {handsOn : Bool} {H : Type} {enc0 : TypeId × Value → H} {fc : Fc} {tys : Ty} {k : Nat} {tb : TypeId} {conds : List PathCond}
    (own : ownKnob C.prog.godebug = none) (started : os.Started) (noInit : C.prog.inits.idxOf? f = none) (hfn : C.prog.funcs[f]? = some fn) (laid : laidOutB C.prog = true)
    (hread : (fn.params.toList.all fun t => C.prog.readableRec t && decide (t < C.prog.types.size)) = true) (hk : fn.params.toList.length = k) (hvars : s.vars = [])
    (hres : fn.resultTypes = #[tb]) (htb : C.prog.underlying tb = some .bool)
    (hsfn : ∀ (H : Type) (ds : List (DataW H)), ds.length = k → s.fn H (ds ++ []) = { results := [.lit (.bool true)], args := ds, vars := [] })
    (witness : ∃ (w : World) (tape : Tape) (i : Input), w.os = os ∧ (w.forCall tape i).Shaped C.prog ∧ i.vars = [] ∧ Input.okWide C.prog (w.forCall tape i) .any w.heap.size f i ∧
      s.pre6 enc0 C.prog fn conds false (w.forCall tape i).memory i.args ∧ ({} : Assume).holds C.prog (lone (Frame.enter C.prog f i.args .normal) [] (w.forCall tape i)))
    (htys : rAll C.prog fn.params.toList = some tys) (hspec : Spec C.prog f fc) (hF : ∀ ys : tys.den, tys.wf ys → ∃ x, fc.dec (enc2 tys ys).2 [] = some x ∧ (fc.G x).get = some (.bool true, [])) :
    ReturnsInHanded {} C os f .any (s.pre6 enc0 C.prog fn conds false) (s.post enc0 C.prog fn false true handsOn false) := by
  refine returnsInHanded_of_change_sized own started noInit hfn witness ?_
  intro W base args ds gs before hval0 hW hcnd hsz _
  have hW' := hW
  obtain ⟨p, q, hA, hV, rfl, hfz, hnd⟩ := hW
  rw [hvars] at hV
  obtain ⟨rfl, rfl⟩ := trodVars_none hV
  have hA' : DataW.TrodAll enc0 C.prog W 0 (fun _ => true) true fn.params.toList args.toList ds p := hA
  have hwt : ∀ q ∈ DataW.weightsEach C.prog fn.params.toList ds, q ≤ reachBytes := by
    intro q hq
    have hpv : s.plain.varTypes C.prog = [] := by
      have h1 : s.plain.vars = [] := hvars
      simp [DataSpec.varTypes, h1]
    rw [hpv, List.append_nil, List.append_nil] at hsz
    have := List.all_eq_true.1 hsz q hq
    simpa using this
  obtain ⟨ys, hw, hr⟩ := read_all htys hA' (fun j t v ht hv => hval0 j t v (by simpa using ht) (by simpa using hv)) hwt
  obtain ⟨x, hx, hg⟩ := hF ys hw
  have hcalls := hspec.2.1 (ctx0 W) W (CW W) [] [] _ _ x (.bool true) [] (Rel.start (fun a v h => h)) rfl hr hx hg
  rw [Array.toArray_toList] at hcalls
  refine hcalls.mono ?_
  rintro e W' ⟨v, C', g', rfl, hrel, hrv⟩
  have := RV_bool hrv
  subst this
  have hbel := Keeps.toBelow hrel.below
  refine ⟨_, rfl, ds, [], _, [], p, [], hW', ?_, ?_, ?_, hbel.frame _, fun h => by cases h⟩
  · rw [hsfn H ds ((trodAll_len hA').trans hk), hres]
    exact trodAll_mk1 (shut_bool htb true)
  · rw [hsfn H ds ((trodAll_len hA').trans hk)]
    exact trodAll_below laid hbel hread hA'
  · rw [hsfn H ds ((trodAll_len hA').trans hk), hvars]
    rfl

end Am
end Go.Proofs.Ytkjpoongkdapoaa
