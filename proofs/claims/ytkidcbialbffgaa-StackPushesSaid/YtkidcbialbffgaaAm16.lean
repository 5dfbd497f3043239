/-
  A symbolic machine over the model, part 16: loops are forgotten into what is kept.
-/
import Derived.Test.YtkidcbialbffgaaAm15
namespace Go.Proofs.Ytkidcbialbffgaa
namespace Am
open Go Go.RowKit

section
variable {w0 w : World} {C0 C : Mem} {fs : List (List Value)} {g : Ghs} {st : St} {a : Act}

theorem mtake_eq {α : Type} : ∀ (n : Nat) (l : List α), mtake n l = l.take n
  | 0, _ => rfl
  | _ + 1, [] => rfl
  | n + 1, a :: l => by simp [mtake, mtake_eq n l]

theorem blt_lt {b n : Nat} (h : Nat.blt b n = true) : b < n := by rwa [Nat.blt_eq] at h
theorem take_get {g : Ghs} {n b : Nat} {x : Gh} (hb : Nat.blt b n = true) (h : g[b]? = some x) : (g.take n)[b]? = some x := by
  rw [List.getElem?_take_of_lt (blt_lt hb)]; exact h
theorem take_box {g : Ghs} {n b k : Nat} (hb : Nat.blt b n = true) (h : Ghs.box g b = some k) : Ghs.box (g.take n) b = some k := by
  unfold Ghs.box at *
  rw [List.getElem?_take_of_lt (blt_lt hb)]; exact h

mutual
theorem RC.take {C : Mem} {g : Ghs} (n : Nat) : ∀ {v : AV} {cs : List Value}, RC C g v cs → v.within n = true → RC C (g.take n) v cs
  | _, _, .int k m, _ => .int k m
  | _, _, .u8 b, _ => .u8 b
  | _, _, .bool b, _ => .bool b
  | _, _, .str b, _ => .str b
  | _, _, .id a, _ => .id a
  | _, _, .agg h, e => .agg (RCL.take n h (by simpa [AV.within] using e))
  | _, _, .sl hl h, _ => .sl hl h
  | _, _, .own hl h hg, e => .own hl h (take_get (by simpa [AV.within] using e) hg)
  | _, _, .nilsl, _ => .nilsl
  | _, _, .loc h, e => .loc (take_box (by simpa [AV.within] using e) h)
  | _, _, .loci hi h, e => .loci hi (take_box (by simpa [AV.within] using e) h)
  | _, _, .idsl h, e => .idsl (take_box (by simpa [AV.within] using e) h)
  | _, _, .cptr h ha, e => .cptr (RC.take n h (by simpa [AV.within] using e)) ha
  | _, _, .fn h1 h2, e => by
    simp only [AV.within, Bool.and_eq_true] at e
    exact .fn (RVL.take n h1 e.1) (RVL.take n h2 e.2)
  | _, _, .nilfn, _ => .nilfn
theorem RCL.take {C : Mem} {g : Ghs} (n : Nat) : ∀ {v : List AV} {cs : List Value}, RCL C g v cs → AV.withins n v = true → RCL C (g.take n) v cs
  | _, _, .nil, _ => .nil
  | _, _, .cons h t, e => by
    simp only [AV.withins, Bool.and_eq_true] at e
    exact .cons (RC.take n h e.1) (RCL.take n t e.2)
theorem RV.take {C : Mem} {g : Ghs} (n : Nat) : ∀ {v : AV} {x : Value}, RV C g v x → v.within n = true → RV C (g.take n) v x
  | _, _, .any v, _ => .any v
  | _, _, .raw hn hg, e => .raw hn (take_get (by simpa [AV.within] using e) hg)
  | _, _, .id h, e => .id (RC.take n h e)
  | _, _, .agg h, e => .agg (RC.take n h e)
  | _, _, .tup h, e => .tup (RVL.take n h (by simpa [AV.within] using e))
  | _, _, .one h h1 h2, e => .one (RC.take n h e) h1 h2
theorem RVL.take {C : Mem} {g : Ghs} (n : Nat) : ∀ {v : List AV} {x : List Value}, RVL C g v x → AV.withins n v = true → RVL C (g.take n) v x
  | _, _, .nil, _ => .nil
  | _, _, .cons h t, e => by
    simp only [AV.withins, Bool.and_eq_true] at e
    exact .cons (RV.take n h e.1) (RVL.take n t e.2)
end

theorem withins_get {n : Nat} : ∀ {l : List Blk} {b : Nat} {m : Blk}, Blk.withins n l = true → l[b]? = some m → m.within n = true
  | x :: l, 0, m, h, e => by
    simp only [Blk.withins, Bool.and_eq_true] at h
    simp at e; subst e; exact h.1
  | x :: l, b + 1, m, h, e => by
    simp only [Blk.withins, Bool.and_eq_true] at h
    exact withins_get h.2 (by simpa using e)
  | [], b, m, _, e => by simp at e

theorem get_take {α : Type} {l : List α} {n b : Nat} {x : α} (h : (l.take n)[b]? = some x) : l[b]? = some x := by
  rw [List.getElem?_take] at h
  split at h
  · exact h
  · cases h

theorem Rel.take {mem : List Blk} (h : Rel w0 C0 C g mem w) (n : Nat) (hw : Blk.withins n (mem.take n) = true) : Rel w0 C0 C (g.take n) (mem.take n) w := by
  refine ⟨h.below, h.sub, h.base, h.old, by simp [h.len], ?_, ?_⟩
  · intro b m x hm hx
    have hwi := withins_get hw hm
    cases h.blk b m x (get_take hm) (get_take hx) with
    | box hk hb hv hC => exact .box hk hb (hv.take n hwi) hC
    | fro ha hv => exact .fro ha (hv.take n hwi)
    | own ho hx' hC => exact .own ho hx' hC
    | clip => exact .clip
    | dead => exact .dead
  · intro b b' m m' x x' k h1 h2 h3 h4 h5 h6
    exact h.sep b b' m m' x x' k (get_take h1) (get_take h2) (get_take h3) (get_take h4) h5 h6

theorem upL_spec : ∀ (l : List (Nat × Ty × TypeId)) {g : Ghs} {st : St}, SR w0 C0 fs C g st a w → ∃ g', g.le g' ∧ SR w0 C0 fs C g' (upL st l) a w
  | [], g, st, h => ⟨g, Ghs.le_refl _, h⟩
  | (i, t, e) :: r, g, st, h => by
    simp only [upL]
    split
    · rename_i hm
      rw [mget_eq] at hm
      obtain ⟨x, hx, hr⟩ := RVL.get h.tm i _ hm
      have := RV_nilsl hr
      subst this
      have hrel := h.rel.nilrow e t.size none 0
      have h1 := h.up (Mem.le_refl _) (Ghs.le_append g [.row (.slice none 0 0) false]) hrel
      rw [mset_eq, mapp_eq, mlen_eq]
      have hv : RV C (g ++ [.row (.slice none 0 0) false]) (.sl t [] (some st.mem.length)) (.slice none 0 0) := by
        refine .one (.own (t := t) (xs := []) (base := none) (cap := 0) (by simp) (fun i x hx => by simp at hx) (o := false) ?_) (by simp) (by simp)
        rw [h.rel.len]; simp
      have h2 : SR w0 C0 fs C (g ++ [.row (.slice none 0 0) false]) { st with tmps := st.tmps.set i (.sl t [] (some st.mem.length)), mem := st.mem ++ [Blk.row e t.size] } a w :=
        ⟨hrel, RVL_refine h1.tm hx hv, h1.out, h1.df⟩
      obtain ⟨g', hg', h3⟩ := upL_spec r h2
      exact ⟨g', Ghs.le_trans (Ghs.le_append _ _) hg', h3⟩
    · exact upL_spec r h

theorem upL_outer : ∀ (l : List (Nat × Ty × TypeId)) (st : St), (upL st l).outer = st.outer
  | [], _ => rfl
  | (i, t, e) :: r, st => by
    simp only [upL]
    split
    · rw [upL_outer r]
    · exact upL_outer r st

theorem fill_foldl {xs : List Value} : ∀ (l : List (Nat × AV)) (ts : List AV), RVL C g ts xs → (∀ p ∈ l, ∃ x, xs[p.1]? = some x ∧ RV C g p.2 x) → RVL C g (l.foldl (fun ts p => mset ts p.1 p.2) ts) xs
  | [], ts, h, _ => h
  | p :: l, ts, h, hp => by
    obtain ⟨x, hx, hr⟩ := hp p (by simp)
    refine fill_foldl l _ ?_ (fun q hq => hp q (by simp [hq]))
    show RVL C g (mset ts p.1 p.2) xs
    rw [mset_eq]
    exact RVL_refine h hx hr

theorem fill_RVL {xs : List Value} {l : List (Nat × AV)} {n : Nat} (hn : n = xs.length) (hp : ∀ p ∈ l, ∃ x, xs[p.1]? = some x ∧ RV C g p.2 x) : RVL C g (fill n l) xs := by
  unfold fill
  refine fill_foldl l _ ?_ hp
  rw [mrep_eq, hn]
  exact RVL.anys xs

theorem keepL_RVL {ts : List AV} {xs : List Value} (h : RVL C g ts xs) : ∀ {ks : List Nat} {vs : List AV}, keepL ts ks = some vs → ∀ p ∈ ks.zip vs, ∃ x, xs[p.1]? = some x ∧ RV C g p.2 x
  | [], vs, e => by simp
  | i :: r, vs, e => by
    simp only [keepL] at e
    split at e
    · rename_i v vs' hv hvs
      simp only [Option.some.injEq] at e
      subst e
      intro p hp
      simp only [List.zip_cons_cons, List.mem_cons] at hp
      rcases hp with rfl | hp
      · rw [mget_eq] at hv
        exact RVL.get h i v hv
      · exact keepL_RVL h hvs p hp
    · cases e

theorem keepL_within {n : Nat} {ks : List Nat} : ∀ {vs : List AV}, AV.withins n vs = true → ∀ p ∈ ks.zip vs, p.2.within n = true := by
  induction ks with
  | nil => intro vs _ p hp; simp at hp
  | cons i ks ih =>
    intro vs h p hp
    cases vs with
    | nil => simp at hp
    | cons v vs =>
      simp only [AV.withins, Bool.and_eq_true] at h
      simp only [List.zip_cons_cons, List.mem_cons] at hp
      rcases hp with rfl | hp
      · exact h.1
      · exact ih h.2 p hp

theorem tmps_len (h : SR w0 C0 fs C g st a w) {m : Nat} (hm : Nat.beq (mlen st.tmps) m = true) : m = a.tmps.toList.length := by
  have := RVL.length h.tm
  rw [← this, ← mlen_eq]
  exact (Nat.eq_of_beq_eq_true hm).symm

theorem enter_good {l : Lp} {k : List AV → List Blk → Option Res} {r : Res} (h : Good w0 C0 fs st a w) (e : enter l st k = some r) :
    ∃ vs mem, Good w0 C0 fs { tmps := fill l.m (l.keep.zip vs), outer := [], mem } a w ∧ k vs mem = some r := by
  obtain ⟨C, g, h⟩ := h
  unfold enter at e
  split at e
  · rename_i ho
    obtain ⟨hm, e⟩ := cond_some e
    split at e
    · rename_i vs hk
      obtain ⟨g', hg', h1⟩ := upL_spec l.up h
      refine ⟨vs, _, ⟨C, g', h1.rel, fill_RVL (tmps_len h hm) (keepL_RVL h1.tm hk), ?_, h1.df⟩, e⟩
      have := h1.out
      rw [upL_outer, ho] at this
      exact this
    · cases e
  · cases e

theorem again_good {l : Lp} {n : Nat} {k : List AV → List Blk → Option Res} {r : Res} (h : Good w0 C0 fs st a w) (e : again l n st k = some r) :
    ∃ vs mem, Good w0 C0 fs { tmps := fill l.m (l.keep.zip vs), outer := [], mem } a w ∧ k vs mem = some r := by
  obtain ⟨C, g, h⟩ := h
  unfold again enter at e
  split at e
  · rename_i ho
    obtain ⟨hm, e⟩ := cond_some e
    split at e
    · rename_i vs hk
      obtain ⟨hw, e⟩ := cond_some e
      simp only [Bool.and_eq_true] at hw
      obtain ⟨g', hg', h1⟩ := upL_spec l.up h
      rw [mtake_eq] at hw e
      have hkk := keepL_RVL h1.tm hk
      refine ⟨vs, _, ⟨C, g'.take n, h1.rel.take n hw.2, fill_RVL (tmps_len h hm) (fun p hp => ?_), ?_, h1.df⟩, e⟩
      · obtain ⟨x, hx, hr⟩ := hkk p hp
        exact ⟨x, hx, hr.take n (keepL_within hw.1 p hp)⟩
      · have := h1.out
        rw [upL_outer, ho] at this
        cases this with
        | nil => exact .nil
    · cases e
  · cases e

theorem cut_good {l : Lp} {n : Nat} {K : K} {x : Ex} {r : Res} (h : Good w0 C0 fs st a w) (e : cut l n K x st = some r) : ∃ st', Good w0 C0 fs st' a w ∧ K x st' = some r := by
  obtain ⟨C, g, h⟩ := h
  unfold cut at e
  split at e
  · rename_i ho
    obtain ⟨hm, e⟩ := cond_some e
    have hout := h.out
    rw [ho] at hout
    have hnil : ∀ g', OutR C g' [] fs := fun g' => by cases hout with | nil => exact .nil
    split at e
    · rename_i vs hk
      have hkk := keepL_RVL h.tm hk
      cases ht : l.trim with
      | true =>
        rw [ht, cond_true] at e
        obtain ⟨hw, e⟩ := cond_some e
        simp only [Bool.and_eq_true] at hw
        rw [mtake_eq] at hw e
        refine ⟨_, ?_, e⟩
        refine ⟨C, g.take n, h.rel.take n hw.2, fill_RVL (tmps_len h hm) (fun p hp => ?_), hnil _, h.df⟩
        obtain ⟨x, hx, hr⟩ := hkk p hp
        exact ⟨x, hx, hr.take n (keepL_within hw.1 p hp)⟩
      | false =>
        rw [ht, cond_false] at e
        refine ⟨_, ?_, e⟩
        exact ⟨C, g, h.rel, fill_RVL (tmps_len h hm) hkk, hnil _, h.df⟩
    · cases e
  · cases e

def toExit : Ex → Exit
  | .normal => .normal
  | .exit i => .exit i
  | .ret => .ret

def LoopOk (E : Env) (call : FuncId → List AV → St → (AV → St → Option Res) → Option Res) (fn : FuncId) (l : Lp) (b : Code) : Prop :=
  ∀ (vs : List AV) (mem : List Blk) (K : K) (r : Res), (l.sum vs mem).elim l.m K = some r → ∃ n, rounds E call fn l b K n vs mem = some r

def ExecOk (E : Env) (call : FuncId → List AV → St → (AV → St → Option Res) → Option Res) (fn : FuncId) (c : Code) : Prop :=
  ∀ (w0 : World) (C0 : Mem) (fs : List (List Value)) (K : K) (r : Res) (Q : Exit → Act → World → Prop), (∀ e st' a' w', Good w0 C0 fs st' a' w' → K e st' = some r → Q (toExit e) a' w') →
    ∀ (st : St) (a : Act) (w : World), Good w0 C0 fs st a w → exec E call fn c st K = some r → c.wp E.P Q a w

theorem rounds_sound {E : Env} {call : FuncId → List AV → St → (AV → St → Option Res) → Option Res} {fn : FuncId} {l : Lp} {b : Code} (hb : ExecOk E call fn b) {K : K} {r : Res} {Q : Exit → Act → World → Prop}
    (hK : ∀ e st' a' w', Good w0 C0 fs st' a' w' → K e st' = some r → Q (toExit e) a' w') : ∀ (n : Nat) (vs : List AV) (mem : List Blk) (a : Act) (w : World),
      Good w0 C0 fs { tmps := fill l.m (l.keep.zip vs), outer := [], mem } a w → rounds E call fn l b K n vs mem = some r → Code.rounds E.P b Q n a w
  | 0, vs, mem, a, w, h, e => by simp [rounds] at e
  | n + 1, vs, mem, a, w, h, e => by
    simp only [rounds] at e
    rw [rounds_succ]
    refine hb w0 C0 fs _ r _ ?_ _ a w h e
    intro x st' a' w' h' e'
    cases x with
    | normal =>
      obtain ⟨vs', mem', h2, e2⟩ := again_good h' e'
      exact rounds_sound hb hK n vs' mem' a' w' h2 e2
    | exit i =>
      obtain ⟨st2, h2, e2⟩ := cut_good h' e'
      exact hK (.exit i) _ _ _ h2 e2
    | ret =>
      obtain ⟨st2, h2, e2⟩ := cut_good h' e'
      exact hK .ret _ _ _ h2 e2

theorem exec_sound {E : Env} {call : FuncId → List AV → St → (AV → St → Option Res) → Option Res} {fn : FuncId} (hm : E.P.follows .mixedOrders = true) (hcon : ∀ f F, E.con f = some F → Spec E.P f F) (hcall : CallOk E call) :
    ∀ (c : Code), (∀ b ∈ loopsOf c, ∀ l, E.lp fn (key b) = some l → LoopOk E call fn l b) → ExecOk E call fn c := by
  intro c
  induction c with
  | skip => exact fun _ w0 C0 fs K r Q hQ st a w h e => wp_skip (hQ .normal _ _ _ h e)
  | label _ => exact fun _ w0 C0 fs K r Q hQ st a w h e => wp_label (hQ .normal _ _ _ h e)
  | exit id => exact fun _ w0 C0 fs K r Q hQ st a w h e => wp_exit (hQ (.exit id) _ _ _ h e)
  | ret => exact fun _ w0 C0 fs K r Q hQ st a w h e => wp_ret (hQ .ret _ _ _ h e)
  | region id ops draw =>
    intro _ w0 C0 fs K r Q hQ st a w h e
    simp only [exec] at e
    cases draw with
    | true =>
      simp only [cond_true] at e
      obtain ⟨hB, e⟩ := cond_some e
      obtain ⟨C, g, h⟩ := h
      refine wp_region_quiet (C := fun w' => Below w.heap.size w w') hm hB (Below.refl _ _).drew ?_
      refine execQ_sound (K := fun st => K .normal st) hcon (fun st' a' h' e' w' hw => ?_) _ st a h e
      exact hQ .normal _ _ _ ⟨C, g, h'.rel.ext hw, h'.tm, h'.out, h'.df⟩ e'
    | false =>
      simp only [cond_false] at e
      exact wp_region_list (execOps_sound (K := fun st => K .normal st) hcall (fun st' a' w' h' e' => hQ .normal _ _ _ h' e') _ st a w h e)
  | seq x y ihx ihy =>
    intro hl w0 C0 fs K r Q hQ st a w h e
    simp only [exec] at e
    simp only [loopsOf, mapp_eq, List.mem_append] at hl
    refine wp_seq (ihx (fun b hb => hl b (.inl hb)) w0 C0 fs _ r _ ?_ st a w h e)
    intro x' st' a' w' h' e'
    cases x' with
    | normal => exact ihy (fun b hb => hl b (.inr hb)) w0 C0 fs K r Q hQ st' a' w' h' e'
    | exit i => exact hQ (.exit i) _ _ _ h' e'
    | ret => exact hQ .ret _ _ _ h' e'
  | cond c x y ihx ihy =>
    intro hl w0 C0 fs K r Q hQ st a w h e
    simp only [exec] at e
    simp only [loopsOf, mapp_eq, List.mem_append] at hl
    have ihx := ihx (fun b hb => hl b (.inl hb)) w0 C0 fs K r Q hQ
    have ihy := ihy (fun b hb => hl b (.inr hb)) w0 C0 fs K r Q hQ
    cases c with
    | tmp t =>
      cases hmt : mget st.tmps t with
      | none => simp [hmt] at e
      | some v =>
        cases v with
        | bool b =>
          simp only [hmt] at e
          obtain ⟨C, g, h⟩ := h
          have hs := slot_bool h hmt
          have hev : a.eval (.tmp t) = .bool b := by
            rw [Array.getElem?_eq_some_iff] at hs
            obtain ⟨hlt, he⟩ := hs
            simp [Act.eval, Array.getD, hlt, he]
          refine wp_cond hev ?_
          cases b with
          | true => exact ihx _ a w ⟨C, g, h.refine hmt rfl⟩ e
          | false => exact ihy _ a w ⟨C, g, h.refine hmt rfl⟩ e
        | _ => simp [hmt] at e
    | const v =>
      cases v with
      | bool b =>
        simp only at e
        refine wp_cond (t := b) rfl ?_
        cases b with
        | true => exact ihx _ a w h e
        | false => exact ihy _ a w h e
      | _ => simp at e
    | _ => simp at e
  | block id b ih =>
    intro hl w0 C0 fs K r Q hQ st a w h e
    simp only [exec] at e
    refine wp_block (ih hl w0 C0 fs _ r _ ?_ st a w h e)
    intro x' st' a' w' h' e'
    cases x' with
    | normal => exact hQ .normal _ _ _ h' e'
    | exit i =>
      simp only [toExit, Exit.inBlock]
      simp only at e'
      by_cases hi : i = id
      · subst hi
        simp only [beq_self_eq_true, cond_true] at e'
        rw [if_pos rfl]
        exact hQ .normal _ _ _ h' e'
      · rw [if_neg hi]
        rw [beq_eq_false_iff_ne.2 hi, cond_false] at e'
        exact hQ (.exit i) _ _ _ h' e'
    | ret => exact hQ .ret _ _ _ h' e'
  | loop b ih =>
    intro hl w0 C0 fs K r Q hQ st a w h e
    simp only [exec] at e
    cases hlp : E.lp fn (key b) with
    | none => simp [hlp] at e
    | some l =>
      simp only [hlp] at e
      have hb : ExecOk E call fn b := ih (fun b' hb' => hl b' (by simp [loopsOf, hb']))
      obtain ⟨vs, mem, h1, e1⟩ := enter_good h e
      obtain ⟨n, e2⟩ := hl b (by simp [loopsOf]) l hlp vs mem K r e1
      exact wp_loop_rounds n (rounds_sound hb hQ n vs mem a w h1 e2)
  | _ => intro _ w0 C0 fs K r Q hQ st a w h e; simp [exec] at e

end
end Am
end Go.Proofs.Ytkidcbialbffgaa
