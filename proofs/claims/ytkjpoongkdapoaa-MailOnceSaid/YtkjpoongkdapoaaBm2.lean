/-
  A symbolic machine over the model, part 2: parts of values, what stays when memory grows.
-/
import Derived.Test.YtkjpoongkdapoaaBm1
namespace Go.Proofs.Ytkjpoongkdapoaa
namespace Am
open Go Go.RowKit
set_option linter.unusedVariables false
set_option linter.unusedSimpArgs false

mutual
theorem RC_size {C : Mem} {g : Ghs} : ∀ {v : AV} {cs : List Value}, RC C g v cs → cs.length = v.size
  | _, _, .int _ _ => rfl
  | _, _, .u8 _ => rfl
  | _, _, .bool _ => rfl
  | _, _, .str _ _ => rfl
  | _, _, .id a => by simp [AV.size, a.h]
  | _, _, .agg h => by simpa [AV.size] using RCL_size h
  | _, _, .sl _ _ => rfl
  | _, _, .own _ _ _ => rfl
  | _, _, .nilsl => rfl
  | _, _, .loc _ => rfl
  | _, _, .loci _ _ => rfl
  | _, _, .idsl _ => rfl
  | _, _, .yld _ => rfl
  | _, _, .cptr _ _ => rfl
  | _, _, .fn _ _ => rfl
  | _, _, .nilfn => rfl
  | _, _, .lst _ => rfl
  | _, _, .iface _ => rfl
  | _, _, .asl _ _ _ => rfl
  | _, _, .elp _ _ => rfl
  | _, _, .mref _ => rfl
theorem RCL_size {C : Mem} {g : Ghs} : ∀ {vs : List AV} {cs : List Value}, RCL C g vs cs → cs.length = AV.sizes vs
  | _, _, .nil => rfl
  | _, _, .cons h t => by simp [AV.sizes, RC_size h, RCL_size t]
end

/-- what an address of a part needs -/
theorem at_plain {v : AV} (h : ∀ ps, v ≠ .agg ps) (off n c : Nat) : v.at off n c = if off == 0 && v.cls == c && v.size == n then some v else none := by
  cases v <;> first | rfl | exact absurd rfl (h _)
theorem put_plain {v : AV} (h : ∀ ps, v ≠ .agg ps) (off n c : Nat) (u : AV) : v.put off n c u = if off == 0 && v.cls == c && v.size == n then some u else none := by
  cases v <;> first | rfl | exact absurd rfl (h _)

mutual
theorem at_spec {C : Mem} {g : Ghs} : ∀ (v : AV) {cs : List Value} {off n c : Nat} {u : AV}, RC C g v cs → v.at off n c = some u →
    ∃ pre mid post, cs = pre ++ mid ++ post ∧ pre.length = off ∧ RC C g u mid ∧ u.size = n ∧ u.cls = c := by
  intro v cs off n c u h e
  by_cases hv : ∃ ps, v = .agg ps
  · obtain ⟨ps, rfl⟩ := hv
    cases h with
    | agg h =>
      simp only [AV.at] at e
      split at e
      · rename_i hc
        simp at hc e
        subst e
        exact ⟨[], cs, [], by simp, by simp [hc.1.1], RC.agg h, by simp [AV.size, hc.2], by simp [AV.cls, hc.1.2]⟩
      · exact atL_spec ps h e
  · have hp := at_plain (v := v) (fun ps hps => hv ⟨ps, hps⟩) off n c
    rw [hp] at e
    split at e
    · rename_i hc
      simp at hc e
      subst e
      exact ⟨[], cs, [], by simp, by simp [hc.1.1], h, hc.2, hc.1.2⟩
    · simp at e
theorem atL_spec {C : Mem} {g : Ghs} : ∀ (vs : List AV) {cs : List Value} {off n c : Nat} {u : AV}, RCL C g vs cs → AV.atL vs off n c = some u →
    ∃ pre mid post, cs = pre ++ mid ++ post ∧ pre.length = off ∧ RC C g u mid ∧ u.size = n ∧ u.cls = c
  | [], _, _, _, _, _, _, e => by simp [AV.atL] at e
  | p :: ps, _, off, n, c, u, .cons (c := c1) (cs := c2) h t, e => by
    simp only [AV.atL] at e
    have hs := RC_size h
    split at e
    · obtain ⟨pre, mid, post, hcs, hl, hu, hsz, hcl⟩ := atL_spec ps t e
      exact ⟨c1 ++ pre, mid, post, by simp [hcs], by simp [hl]; omega, hu, hsz, hcl⟩
    · obtain ⟨pre, mid, post, hcs, hl, hu, hsz, hcl⟩ := at_spec p h e
      exact ⟨pre, mid, post ++ c2, by simp [hcs], hl, hu, hsz, hcl⟩
end

mutual
theorem put_spec {C : Mem} {g : Ghs} : ∀ (v : AV) {cs : List Value} {off n c : Nat} {u v' : AV} {new : List Value}, RC C g v cs → v.put off n c u = some v' → RC C g u new → new.length = n →
    ∃ pre mid post, cs = pre ++ mid ++ post ∧ pre.length = off ∧ mid.length = n ∧ RC C g v' (pre ++ new ++ post) := by
  intro v cs off n c u v' new h e hu hl
  by_cases hv : ∃ ps, v = .agg ps
  · obtain ⟨ps, rfl⟩ := hv
    cases h with
    | agg h =>
      simp only [AV.put] at e
      split at e
      · rename_i hc
        simp at hc e
        subst e
        exact ⟨[], cs, [], by simp, by simp [hc.1.1], by rw [RCL_size h, hc.2], by simpa using hu⟩
      · simp only [Option.map_eq_some_iff] at e
        obtain ⟨ps', e, rfl⟩ := e
        obtain ⟨pre, mid, post, hcs, hl1, hl2, hr⟩ := putL_spec ps h e hu hl
        exact ⟨pre, mid, post, hcs, hl1, hl2, RC.agg hr⟩
  · rw [put_plain (v := v) (fun ps hps => hv ⟨ps, hps⟩) off n c u] at e
    split at e
    · rename_i hc
      simp at hc e
      subst e
      exact ⟨[], cs, [], by simp, by simp [hc.1.1], by rw [RC_size h, hc.2], by simpa using hu⟩
    · simp at e
theorem putL_spec {C : Mem} {g : Ghs} : ∀ (vs : List AV) {cs : List Value} {off n c : Nat} {u : AV} {vs' : List AV} {new : List Value}, RCL C g vs cs → AV.putL vs off n c u = some vs' → RC C g u new → new.length = n →
    ∃ pre mid post, cs = pre ++ mid ++ post ∧ pre.length = off ∧ mid.length = n ∧ RCL C g vs' (pre ++ new ++ post)
  | [], _, _, _, _, _, _, _, _, e, _, _ => by simp [AV.putL] at e
  | p :: ps, _, off, n, c, u, vs', new, .cons (c := c1) (cs := c2) h t, e, hu, hl => by
    simp only [AV.putL] at e
    have hs := RC_size h
    split at e
    · simp only [Option.map_eq_some_iff] at e
      obtain ⟨ps', e, rfl⟩ := e
      obtain ⟨pre, mid, post, hcs, hl1, hl2, hr⟩ := putL_spec ps t e hu hl
      refine ⟨c1 ++ pre, mid, post, by simp [hcs], by simp [hl1]; omega, hl2, ?_⟩
      have := RCL.cons h hr
      simpa using this
    · simp only [Option.map_eq_some_iff] at e
      obtain ⟨p', e, rfl⟩ := e
      obtain ⟨pre, mid, post, hcs, hl1, hl2, hr⟩ := put_spec p h e hu hl
      refine ⟨pre, mid, post ++ c2, by simp [hcs], hl1, hl2, ?_⟩
      have := RCL.cons hr t
      simpa using this
end

/-- memory that stays grows -/
def Mem.le (C C' : Mem) : Prop := ∀ a v, C a = some v → C' a = some v
theorem Mem.le_refl (C : Mem) : C.le C := fun _ _ h => h
theorem Mem.le_trans {C C' C'' : Mem} (h : C.le C') (h' : C'.le C'') : C.le C'' := fun a v e => h' a v (h a v e)

theorem At.mono {C C' : Mem} (hC : C.le C') {a : Addr} {cs : List Value} (h : At C a cs) : At C' a cs := ⟨h.1, fun j v e => hC _ _ (h.2 j v e)⟩

theorem TC.mono {C C' : Mem} (hC : C.le C') : ∀ (t : Ty) (x : t.den) (cs : List Value), TC C t x cs → TC C' t x cs := by
  intro t
  induction t with
  | pair s t ihs iht => intro x cs h; obtain ⟨c1, c2, rfl, h1, h2⟩ := h; exact ⟨c1, c2, rfl, ihs _ _ h1, iht _ _ h2⟩
  | str => intro x cs h; exact h
  | sl e ih =>
    intro x cs h
    obtain ⟨b, c, rfl, hl, h⟩ := h
    exact ⟨b, c, rfl, hl, fun i y hy => by obtain ⟨ad, csi, hb, h1, h2⟩ := h i y hy; exact ⟨ad, csi, hb, ih _ _ h1, h2.mono hC⟩⟩
  | _ => intro x cs h; exact h

theorem Row.mono {C C' : Mem} (hC : C.le C') {e : Ty} {base : Option Addr} {xs : List e.den} (h : Row C e base xs) : Row C' e base xs :=
  fun i y hy => by obtain ⟨ad, csi, hb, h1, h2⟩ := h i y hy; exact ⟨ad, csi, hb, TC.mono hC _ _ _ h1, h2.mono hC⟩

/-- every block that is known is known as it was -/
def Ghs.le (g g' : Ghs) : Prop := ∀ (b : Nat) (x : Gh), g[b]? = some x → g'[b]? = some x
theorem Ghs.le_refl (g : Ghs) : g.le g := fun _ _ h => h
theorem Ghs.le_trans {g g' g'' : Ghs} (h : g.le g') (h' : g'.le g'') : g.le g'' := fun b x e => h' b x (h b x e)
theorem Ghs.le_append (g l : Ghs) : g.le (g ++ l) := fun b x h => by
  have hb : b < g.length := by
    rcases Nat.lt_or_ge b g.length with hb | hb
    · exact hb
    · rw [List.getElem?_eq_none hb] at h; cases h
  rw [List.getElem?_append_left hb]; exact h
theorem Ghs.le.box {g g' : Ghs} (hg : g.le g') {b k : Nat} (h : Ghs.box g b = some k) : Ghs.box g' b = some k := by
  unfold Ghs.box at *
  cases hb : g[b]? with
  | none => rw [hb] at h; simp at h
  | some x => rw [hb] at h; rw [hg b x hb]; exact h

mutual
theorem RC.mono {C C' : Mem} {g g' : Ghs} (hC : C.le C') (hg : g.le g') : ∀ {v : AV} {cs : List Value}, RC C g v cs → RC C' g' v cs
  | _, _, .int k n => .int k n
  | _, _, .u8 b => .u8 b
  | _, _, .bool b => .bool b
  | _, _, .str b hs => .str b hs
  | _, _, .id a => .id a
  | _, _, .agg h => .agg (RCL.mono hC hg h)
  | _, _, .sl hl h => .sl hl (h.mono hC)
  | _, _, .own hl h hb => .own hl (h.mono hC) (hg _ _ hb)
  | _, _, .nilsl => .nilsl
  | _, _, .loc h => .loc (hg.box h)
  | _, _, .loci hi h => .loci hi (hg.box h)
  | _, _, .idsl h => .idsl (hg.box h)
  | _, _, .yld h => .yld (hg _ _ h)
  | _, _, .cptr h ha => .cptr (RC.mono hC hg h) (ha.mono hC)
  | _, _, .fn h1 h2 => .fn (RVL.mono hC hg h1) (RVL.mono hC hg h2)
  | _, _, .nilfn => .nilfn
  | _, _, .lst ha => .lst (ha.mono hC)
  | _, _, .iface h => .iface (RV.mono hC hg h)
  | _, _, .asl h h0 hb => .asl (hg _ _ h) h0 hb
  | _, _, .elp h h0 => .elp (hg _ _ h) h0
  | _, _, .mref h => .mref (hg _ _ h)
theorem RCL.mono {C C' : Mem} {g g' : Ghs} (hC : C.le C') (hg : g.le g') : ∀ {v : List AV} {cs : List Value}, RCL C g v cs → RCL C' g' v cs
  | _, _, .nil => .nil
  | _, _, .cons h t => .cons (RC.mono hC hg h) (RCL.mono hC hg t)
theorem RV.mono {C C' : Mem} {g g' : Ghs} (hC : C.le C') (hg : g.le g') : ∀ {v : AV} {x : Value}, RV C g v x → RV C' g' v x
  | _, _, .any v => .any v
  | _, _, .raw hn hb => .raw hn (hg _ _ hb)
  | _, _, .id h => .id (RC.mono hC hg h)
  | _, _, .agg h => .agg (RC.mono hC hg h)
  | _, _, .tup h => .tup (RVL.mono hC hg h)
  | _, _, .one h h1 h2 => .one (RC.mono hC hg h) h1 h2
theorem RVL.mono {C C' : Mem} {g g' : Ghs} (hC : C.le C') (hg : g.le g') : ∀ {v : List AV} {x : List Value}, RVL C g v x → RVL C' g' v x
  | _, _, .nil => .nil
  | _, _, .cons h t => .cons (RV.mono hC hg h) (RVL.mono hC hg t)
end

/-- the same but at block b, which is what it is if it is a variable -/
def Ghs.but (b : Nat) (g g' : Ghs) : Prop := (∀ (k : Nat) (x : Gh), k ≠ b → g[k]? = some x → g'[k]? = some x) ∧ ∀ (x : Gh), g[b]? = some x → x.fixed = true → g'[b]? = some x
theorem Ghs.but.fixed {b : Nat} {g g' : Ghs} (hg : Ghs.but b g g') {k : Nat} {x : Gh} (h : g[k]? = some x) (hf : x.fixed = true) : g'[k]? = some x := by
  by_cases hk : k = b
  · subst hk; exact hg.2 x h hf
  · exact hg.1 k _ hk h
theorem Ghs.but.loop {b : Nat} {g g' : Ghs} (hg : Ghs.but b g g') {k l : Nat} (h : g[k]? = some (.loop l)) : g'[k]? = some (.loop l) := hg.fixed h rfl
theorem Ghs.but.box {b : Nat} {g g' : Ghs} (hg : Ghs.but b g g') {k n : Nat} (h : Ghs.box g k = some n) : Ghs.box g' k = some n := by
  unfold Ghs.box at *
  cases hb : g[k]? with
  | none => rw [hb] at h; simp at h
  | some x =>
    rw [hb] at h
    cases x with
    | box q T => rw [hg.fixed hb rfl]; exact h
    | _ => simp at h

mutual
theorem RC.dem {C C' : Mem} {g g' : Ghs} {b : Nat} (hC : C.le C') (hg : Ghs.but b g g') : ∀ {v : AV} {cs : List Value}, RC C g v cs → RC C' g' (v.dem b) cs
  | _, _, .int k n => .int k n
  | _, _, .u8 b => .u8 b
  | _, _, .bool b => .bool b
  | _, _, .str b hs => .str b hs
  | _, _, .id a => .id a
  | _, _, .agg h => .agg (RCL.dem hC hg h)
  | _, _, .sl hl h => .sl hl (h.mono hC)
  | _, _, .own (b := k) hl h hb => by
    simp only [AV.dem]
    split
    · exact .sl hl (h.mono hC)
    · rename_i hk
      exact .own hl (h.mono hC) (hg.1 _ _ (by simpa using hk) hb)
  | _, _, .nilsl => .nilsl
  | _, _, .loc h => .loc (hg.box h)
  | _, _, .loci hi h => .loci hi (hg.box h)
  | _, _, .idsl h => .idsl (hg.box h)
  | _, _, .yld h => .yld (hg.loop h)
  | _, _, .cptr h ha => .cptr (RC.dem hC hg h) (ha.mono hC)
  | _, _, .fn h1 h2 => .fn (RVL.dem hC hg h1) (RVL.dem hC hg h2)
  | _, _, .nilfn => .nilfn
  | _, _, .lst ha => .lst (ha.mono hC)
  | _, _, .iface h => .iface (RV.dem hC hg h)
  | _, _, .asl h h0 hb => .asl (hg.fixed h rfl) h0 hb
  | _, _, .elp h h0 => .elp (hg.fixed h rfl) h0
  | _, _, .mref h => .mref (hg.fixed h rfl)
theorem RCL.dem {C C' : Mem} {g g' : Ghs} {b : Nat} (hC : C.le C') (hg : Ghs.but b g g') : ∀ {v : List AV} {cs : List Value}, RCL C g v cs → RCL C' g' (AV.demL b v) cs
  | _, _, .nil => .nil
  | _, _, .cons h t => .cons (RC.dem hC hg h) (RCL.dem hC hg t)
theorem RV.dem {C C' : Mem} {g g' : Ghs} {b : Nat} (hC : C.le C') (hg : Ghs.but b g g') : ∀ {v : AV} {x : Value}, RV C g v x → RV C' g' (v.dem b) x
  | _, _, .any v => .any v
  | _, _, .raw (b := k) hn hb => by
    simp only [AV.dem]
    split
    · exact .any _
    · rename_i hk
      exact .raw hn (hg.1 _ _ (by simpa using hk) hb)
  | _, _, .id h => .id (RC.dem hC hg h)
  | _, _, .agg h => .agg (RC.dem hC hg h)
  | _, _, .tup h => .tup (RVL.dem hC hg h)
  | _, _, .one (a := a) h h1 h2 => by
    refine .one (RC.dem hC hg h) ?_ ?_
    · intro x hx
      cases a <;> first | exact h1 _ rfl | exact h2 _ rfl | skip
      all_goals (try simp only [AV.dem] at hx)
      all_goals (try (cases hx; done))
      · rename_i own
        cases own <;> simp only [AV.dem] at hx <;> try (cases hx; done)
        split at hx <;> cases hx
      · split at hx <;> cases hx
    · intro x hx
      cases a <;> first | exact h1 _ rfl | exact h2 _ rfl | skip
      all_goals (try simp only [AV.dem] at hx)
      all_goals (try (cases hx; done))
      · rename_i own
        cases own <;> simp only [AV.dem] at hx <;> try (cases hx; done)
        split at hx <;> cases hx
      · split at hx <;> cases hx
theorem RVL.dem {C C' : Mem} {g g' : Ghs} {b : Nat} (hC : C.le C') (hg : Ghs.but b g g') : ∀ {v : List AV} {x : List Value}, RVL C g v x → RVL C' g' (AV.demL b v) x
  | _, _, .nil => .nil
  | _, _, .cons h t => .cons (RV.dem hC hg h) (RVL.dem hC hg t)
end

theorem RVL.length {C : Mem} {g : Ghs} : ∀ {vs : List AV} {xs : List Value}, RVL C g vs xs → vs.length = xs.length
  | _, _, .nil => rfl
  | _, _, .cons _ t => by simp [RVL.length t]
theorem RVL.get {C : Mem} {g : Ghs} : ∀ {vs : List AV} {xs : List Value}, RVL C g vs xs → ∀ (i : Nat) (v : AV), vs[i]? = some v → ∃ x, xs[i]? = some x ∧ RV C g v x
  | _, _, .nil, i, v, h => by simp at h
  | _, _, .cons (v := x) h t, 0, v, e => by simp at e; subst e; exact ⟨x, rfl, h⟩
  | _, _, .cons h t, i + 1, v, e => by simp at e; obtain ⟨x, hx, hr⟩ := RVL.get t i v e; exact ⟨x, by simpa using hx, hr⟩
theorem RVL.append {C : Mem} {g : Ghs} : ∀ {vs : List AV} {xs : List Value} {us : List AV} {ys : List Value}, RVL C g vs xs → RVL C g us ys → RVL C g (vs ++ us) (xs ++ ys)
  | _, _, _, _, .nil, h => h
  | _, _, _, _, .cons h t, h' => .cons h (RVL.append t h')
theorem RVL.set {C : Mem} {g : Ghs} : ∀ {vs : List AV} {xs : List Value}, RVL C g vs xs → ∀ (i : Nat) (v : AV) (x : Value), RV C g v x → RVL C g (vs.set i v) (xs.set i x)
  | _, _, .nil, _, _, _, _ => .nil
  | _, _, .cons _ t, 0, _, _, h' => .cons h' t
  | _, _, .cons h t, i + 1, _, _, h' => .cons h (RVL.set t i _ _ h')
theorem RVL.anys {C : Mem} {g : Ghs} : ∀ (xs : List Value), RVL C g (List.replicate xs.length .any) xs
  | [] => .nil
  | x :: xs => .cons (.any x) (RVL.anys xs)

end Am
end Go.Proofs.Ytkjpoongkdapoaa
