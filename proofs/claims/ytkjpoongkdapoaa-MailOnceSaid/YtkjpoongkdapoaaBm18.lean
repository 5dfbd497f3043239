/-
  A symbolic machine over the model, part 18: forms; views.
-/
import Derived.Test.YtkjpoongkdapoaaBmS
namespace Go.Proofs.Ytkjpoongkdapoaa
namespace Am
open Go Go.RowKit
set_option linter.unusedVariables false
set_option linter.unusedSimpArgs false

theorem both_some {α β : Type} {x : Option α} {y : Option β} {r : α × β} (h : both x y = some r) : x = some r.1 ∧ y = some r.2 := by
  cases x <;> cases y <;> simp [both] at h
  subst h
  exact ⟨rfl, rfl⟩
theorem Fn.same_eq {a b : Fn} (h : Fn.same a b = true) : a = b := by
  cases a <;> cases b <;> simp [Fn.same] at h
  subst h; rfl
theorem sameFs_eq : ∀ {a b : List Nat}, sameFs a b = true → a = b
  | [], [], _ => rfl
  | [], _ :: _, h => by simp [sameFs] at h
  | _ :: _, [], h => by simp [sameFs] at h
  | x :: a, y :: b, h => by
    simp only [sameFs, Bool.and_eq_true] at h
    rw [Nat.eq_of_beq_eq_true h.1, sameFs_eq h.2]

section
variable {C : Mem} {g : Ghs}

theorem RV_enc {t : Ty} (hok : t.ok = true) {v : AV} {x : Value} {y : t.den} (h : RV C g v x) (e : dec t v = some y) : RV C [] (enc t y) x := by
  have htc := TC_dec' (RV_solid h (dec_solid e)) e
  have hrc : RC C [] (enc t y) x.cells.toList := RC_enc' hok htc
  have hagg : ∀ (t : Ty) (y : t.den), (∃ l, enc t y = .agg l) → (∃ ps, v = .agg ps) → RC C [] (enc t y) x.cells.toList → RV C [] (enc t y) x := by
    rintro t y ⟨l, hl⟩ ⟨ps, rfl⟩ hrc
    obtain ⟨cs, rfl, _⟩ := RV_agg h
    rw [hl] at hrc ⊢
    exact .agg (by simpa [Value.cells] using hrc)
  cases t with
  | int k =>
    cases v with
    | int k' n =>
      have := RV_int1 h
      subst this
      exact .one hrc (by simp [enc, enc2]) (by simp [enc, enc2])
    | _ => simp [dec, dec2] at e
  | u8 =>
    cases v with
    | u8 b =>
      have := RV_u8 h
      subst this
      exact .one hrc (by simp [enc, enc2]) (by simp [enc, enc2])
    | _ => simp [dec, dec2] at e
  | bool =>
    cases v with
    | bool b =>
      have := RV_bool h
      subst this
      exact .one hrc (by simp [enc, enc2]) (by simp [enc, enc2])
    | _ => simp [dec, dec2] at e
  | str =>
    cases v with
    | str b =>
      have := RV_str h
      subst this
      exact .one hrc (by simp [enc, enc2]) (by simp [enc, enc2])
    | _ => simp [dec, dec2] at e
  | id =>
    cases v with
    | id a =>
      have := RV_id h
      subst this
      exact RV.id (a := y) (by simpa [Value.cells, enc, enc2] using hrc)
    | _ => simp [dec, dec2] at e
  | unit =>
    refine hagg .unit y ⟨_, rfl⟩ ?_ hrc
    cases v with
    | agg ps => exact ⟨_, rfl⟩
    | _ => simp [dec, dec2] at e
  | pair s t =>
    refine hagg (.pair s t) y ⟨_, rfl⟩ ?_ hrc
    cases v with
    | agg ps => exact ⟨_, rfl⟩
    | _ => simp [dec, dec2] at e
  | sl t =>
    cases v with
    | nilsl =>
      have := RV_nilsl h
      subst this
      exact .one hrc (by simp [enc, enc2]) (by simp [enc, enc2])
    | sl t' xs o =>
      obtain ⟨base, cap, rfl, _, _, _, _⟩ := RV_sl h
      exact .one hrc (by simp [enc, enc2]) (by simp [enc, enc2])
    | _ => simp [dec, dec2] at e

mutual
theorem decC {C : Mem} {g : Ghs} : ∀ {s : Sh} {v : AV} {cs : List Value} {y : s.den}, s.okC = true → RC C g v cs → (decS2 s).1 v = some y → RC C g (encS2 s y).1 cs
  | .d t, v, cs, y, hok, h, e => RC_enc' hok (TC_dec' h e)
  | .own t b, v, cs, y, hok, h, e => by
    simp only [decS2] at e
    split at e
    · rename_i t' xs b'
      obtain ⟨hb, e⟩ := cond_some e
      split at e
      · rename_i ht
        subst ht
        simp only [Option.some.injEq] at e
        subst e
        have := Nat.eq_of_beq_eq_true hb
        subst this
        exact h
      · cases e
    · cases e
  | .agg c, v, cs, y, hok, h, e => by
    simp only [decS2] at e
    split at e
    · cases h with
      | agg h => exact .agg (decCL (by simpa [Sh.okC] using hok) h e)
    · cases e
  | .tup c, _, _, _, hok, _, _ => by simp [Sh.okC] at hok
  | .cptr s, v, cs, y, hok, h, e => by
    simp only [decS2] at e
    split at e
    · cases h with
      | cptr h ha => exact .cptr (decC (by simpa [Sh.okC] using hok) h e) ha
    · cases e
  | .fn f a c, v, cs, y, hok, h, e => by
    simp only [Sh.okC, Bool.and_eq_true] at hok
    simp only [decS2] at e
    split at e
    · rename_i f' x z
      obtain ⟨hf, e⟩ := cond_some e
      have := Fn.same_eq hf
      subst this
      obtain ⟨e1, e2⟩ := both_some e
      cases h with
      | fn h1 h2 => exact .fn (decVL hok.1 h1 e1) (decVL hok.2 h2 e2)
    · cases e
  | .loc b o, v, cs, y, hok, h, e => by
    simp only [decS2] at e
    split at e
    · obtain ⟨hb, _⟩ := cond_some e
      simp only [Bool.and_eq_true] at hb
      rw [Nat.eq_of_beq_eq_true hb.1, Nat.eq_of_beq_eq_true hb.2] at h
      exact h
    · cases e
  | .idsl b o, v, cs, y, hok, h, e => by
    simp only [decS2] at e
    split at e
    · obtain ⟨hb, _⟩ := cond_some e
      simp only [Bool.and_eq_true] at hb
      rw [Nat.eq_of_beq_eq_true hb.1, Nat.eq_of_beq_eq_true hb.2] at h
      exact h
    · cases e
  | .nil, v, cs, y, hok, h, e => by
    simp only [decS2] at e
    split at e
    · exact h
    · cases e
  | .nilfn, v, cs, y, hok, h, e => by
    simp only [decS2] at e
    split at e
    · exact h
    · cases e
  | .any, _, _, _, hok, _, _ => by simp [Sh.okC] at hok
  | .yld b, v, cs, y, hok, h, e => by
    simp only [decS2] at e
    split at e
    · obtain ⟨hb, _⟩ := cond_some e
      rw [Nat.eq_of_beq_eq_true hb] at h
      exact h
    · cases e
  | .lst fs, v, cs, y, hok, h, e => by
    simp only [decS2] at e
    split at e
    · obtain ⟨hb, _⟩ := cond_some e
      rw [sameFs_eq hb] at h
      exact h
    · cases e
  | .asl t b, v, cs, y, hok, h, e => by
    simp only [decS2] at e
    split at e
    · rename_i t' b' lo hi
      obtain ⟨hb, e⟩ := cond_some e
      split at e
      · rename_i ht
        subst ht
        simp only [Option.some.injEq] at e
        subst e
        rw [Nat.eq_of_beq_eq_true hb] at h
        exact h
      · cases e
    · cases e
  | .mref b, v, cs, y, hok, h, e => by
    simp only [decS2] at e
    split at e
    · obtain ⟨hb, _⟩ := cond_some e
      rw [Nat.eq_of_beq_eq_true hb] at h
      exact h
    · cases e
  | .unit, _, _, _, hok, _, _ => by simp [Sh.okC] at hok
  | .cons _ _, _, _, _, hok, _, _ => by simp [Sh.okC] at hok
theorem decCL {C : Mem} {g : Ghs} : ∀ {s : Sh} {v : List AV} {cs : List Value} {y : s.den}, s.chC = true → RCL C g v cs → (decS2 s).2 v = some y → RCL C g (encS2 s y).2 cs
  | .unit, v, cs, y, hok, h, e => by
    cases h with
    | nil => exact .nil
    | cons _ _ => simp [decS2] at e
  | .cons s c, v, cs, y, hok, h, e => by
    simp only [Sh.chC, Bool.and_eq_true] at hok
    cases h with
    | nil => simp [decS2] at e
    | cons h1 h2 =>
      simp only [decS2] at e
      obtain ⟨e1, e2⟩ := both_some e
      exact .cons (decC hok.1 h1 e1) (decCL hok.2 h2 e2)
  | .d _, _, _, _, hok, _, _ | .own _ _, _, _, _, hok, _, _ | .agg _, _, _, _, hok, _, _ | .tup _, _, _, _, hok, _, _ | .cptr _, _, _, _, hok, _, _ | .fn _ _ _, _, _, _, hok, _, _ | .loc _ _, _, _, _, hok, _, _
  | .idsl _ _, _, _, _, hok, _, _ | .nil, _, _, _, hok, _, _ | .nilfn, _, _, _, hok, _, _ | .any, _, _, _, hok, _, _ | .yld _, _, _, _, hok, _, _ | .lst _, _, _, _, hok, _, _ | .asl _ _, _, _, _, hok, _, _ | .mref _, _, _, _, hok, _, _ => by simp [Sh.chC] at hok
theorem decV {C : Mem} {g : Ghs} : ∀ {s : Sh} {v : AV} {x : Value} {y : s.den}, s.okV = true → RV C g v x → (decS2 s).1 v = some y → RV C g (encS2 s y).1 x
  | .d t, v, x, y, hok, h, e => RV.mono (Mem.le_refl C) (Ghs.nil_le g) (RV_enc hok h e)
  | .own t b, v, x, y, hok, h, e => by
    simp only [decS2] at e
    split at e
    · rename_i t' xs b'
      obtain ⟨hb, e⟩ := cond_some e
      split at e
      · rename_i ht
        subst ht
        simp only [Option.some.injEq] at e
        subst e
        have := Nat.eq_of_beq_eq_true hb
        subst this
        exact h
      · cases e
    · cases e
  | .agg c, v, x, y, hok, h, e => by
    simp only [decS2] at e
    split at e
    · obtain ⟨cs, rfl, hc⟩ := RV_agg h
      cases hc with
      | agg hc => exact .agg (.agg (decCL (by simpa [Sh.okV] using hok) hc e))
    · cases e
  | .tup c, v, x, y, hok, h, e => by
    simp only [decS2] at e
    split at e
    · obtain ⟨ws, rfl, hw⟩ := RV_tup h
      exact .tup (decVL (by simpa [Sh.okV] using hok) hw e)
    · cases e
  | .cptr s, v, x, y, hok, h, e => by
    simp only [decS2] at e
    split at e
    · obtain ⟨ad, cs, rfl, hc, ha⟩ := RV_cptr h
      exact .one (.cptr (decC (by simpa [Sh.okV] using hok) hc e) ha) (by simp [encS2]) (by simp [encS2])
    · cases e
  | .fn f a c, v, x, y, hok, h, e => by
    simp only [Sh.okV, Bool.and_eq_true] at hok
    simp only [decS2] at e
    split at e
    · rename_i f' x' z
      obtain ⟨hf, e⟩ := cond_some e
      have := Fn.same_eq hf
      subst this
      obtain ⟨e1, e2⟩ := both_some e
      obtain ⟨us, ks, rfl, h1, h2⟩ := RV_fn h
      exact .one (.fn (decVL hok.1 h1 e1) (decVL hok.2 h2 e2)) (by simp [encS2]) (by simp [encS2])
    · cases e
  | .loc b o, v, x, y, hok, h, e => by
    simp only [decS2] at e
    split at e
    · obtain ⟨hb, _⟩ := cond_some e
      simp only [Bool.and_eq_true] at hb
      rw [Nat.eq_of_beq_eq_true hb.1, Nat.eq_of_beq_eq_true hb.2] at h
      exact h
    · cases e
  | .idsl b o, v, x, y, hok, h, e => by
    simp only [decS2] at e
    split at e
    · obtain ⟨hb, _⟩ := cond_some e
      simp only [Bool.and_eq_true] at hb
      rw [Nat.eq_of_beq_eq_true hb.1, Nat.eq_of_beq_eq_true hb.2] at h
      exact h
    · cases e
  | .nil, v, x, y, hok, h, e => by
    simp only [decS2] at e
    split at e
    · exact h
    · cases e
  | .nilfn, v, x, y, hok, h, e => by
    simp only [decS2] at e
    split at e
    · exact h
    · cases e
  | .any, v, x, y, hok, h, e => .any x
  | .yld b, v, x, y, hok, h, e => by
    simp only [decS2] at e
    split at e
    · obtain ⟨hb, _⟩ := cond_some e
      rw [Nat.eq_of_beq_eq_true hb] at h
      exact h
    · cases e
  | .lst fs, v, x, y, hok, h, e => by
    simp only [decS2] at e
    split at e
    · obtain ⟨hb, _⟩ := cond_some e
      rw [sameFs_eq hb] at h
      exact h
    · cases e
  | .asl t b, v, x, y, hok, h, e => by
    simp only [decS2] at e
    split at e
    · rename_i t' b' lo hi
      obtain ⟨hb, e⟩ := cond_some e
      split at e
      · rename_i ht
        subst ht
        simp only [Option.some.injEq] at e
        subst e
        rw [Nat.eq_of_beq_eq_true hb] at h
        exact h
      · cases e
    · cases e
  | .mref b, v, x, y, hok, h, e => by
    simp only [decS2] at e
    split at e
    · obtain ⟨hb, _⟩ := cond_some e
      rw [Nat.eq_of_beq_eq_true hb] at h
      exact h
    · cases e
  | .unit, _, _, _, hok, _, _ => by simp [Sh.okV] at hok
  | .cons _ _, _, _, _, hok, _, _ => by simp [Sh.okV] at hok
theorem decVL {C : Mem} {g : Ghs} : ∀ {s : Sh} {v : List AV} {xs : List Value} {y : s.den}, s.chV = true → RVL C g v xs → (decS2 s).2 v = some y → RVL C g (encS2 s y).2 xs
  | .unit, v, cs, y, hok, h, e => by
    cases h with
    | nil => exact .nil
    | cons _ _ => simp [decS2] at e
  | .cons s c, v, cs, y, hok, h, e => by
    simp only [Sh.chV, Bool.and_eq_true] at hok
    cases h with
    | nil => simp [decS2] at e
    | cons h1 h2 =>
      simp only [decS2] at e
      obtain ⟨e1, e2⟩ := both_some e
      exact .cons (decV hok.1 h1 e1) (decVL hok.2 h2 e2)
  | .d _, _, _, _, hok, _, _ | .own _ _, _, _, _, hok, _, _ | .agg _, _, _, _, hok, _, _ | .tup _, _, _, _, hok, _, _ | .cptr _, _, _, _, hok, _, _ | .fn _ _ _, _, _, _, hok, _, _ | .loc _ _, _, _, _, hok, _, _
  | .idsl _ _, _, _, _, hok, _, _ | .nil, _, _, _, hok, _, _ | .nilfn, _, _, _, hok, _, _ | .any, _, _, _, hok, _, _ | .yld _, _, _, _, hok, _, _ | .lst _, _, _, _, hok, _, _ | .asl _ _, _, _, _, hok, _, _ | .mref _, _, _, _, hok, _, _ => by simp [Sh.chV] at hok
end

theorem renA_RVL (ks : List Nat) : ∀ {vs : List AV} {xs : List Value}, RVL C g vs xs → RVL C (pick ks g) (AV.renA ks vs) xs
  | [], _, .nil => .nil
  | v :: vs, _, .cons h t => by
    refine .cons ?_ (renA_RVL ks t)
    cases hr : v.ren ks with
    | none => exact .any _
    | some u => exact RV.ren ks h hr

theorem decB_blk {X : Ctx} {w : World} {b : BSh} {m : Blk} {x : Gh} {y : b.den} (hok : b.ok = true) (h : BlkRel X C g w m x) (e : b.dec m = some y) : BlkRel X C g w (b.enc y) x := by
  cases b with
  | box s =>
    cases m <;> simp [BSh.dec] at e
    cases h with
    | box h1 h2 h3 h4 => exact .box h1 h2 (decC hok h3 e) h4
  | fro s =>
    cases m <;> simp [BSh.dec] at e
    cases h with
    | fro h1 h2 => exact .fro h1 (decC hok h2 e)
  | row e' sz =>
    cases m <;> simp only [BSh.dec, reduceCtorEq] at e
    obtain ⟨hb, _⟩ := cond_some e
    simp only [Bool.and_eq_true] at hb
    rw [Nat.eq_of_beq_eq_true hb.1, Nat.eq_of_beq_eq_true hb.2] at h
    exact h
  | loop => cases m <;> simp [BSh.dec] at e; exact h
  | arr t e' =>
    cases m <;> simp only [BSh.dec, reduceCtorEq] at e
    obtain ⟨hb, e⟩ := cond_some e
    split at e
    · rename_i ht
      subst ht
      simp only [Option.some.injEq] at e
      subst e
      rw [Nat.eq_of_beq_eq_true hb] at h
      exact h
    · cases e
  | mp t =>
    cases m <;> simp only [BSh.dec, reduceCtorEq] at e
    split at e
    · rename_i ht
      subst ht
      simp only [Option.some.injEq] at e
      subst e
      exact h
    · cases e
  | dead => exact .dead
theorem decB_live {b : BSh} {m : Blk} {x : Gh} {y : b.den} {k : Nat} (e : b.dec m = some y) (h : liveOf (b.enc y) x = some k) : liveOf m x = some k := by
  cases b with
  | box s => cases m <;> simp [BSh.dec] at e; cases x <;> exact h
  | fro s => cases x <;> simp [BSh.enc, liveOf] at h
  | row e' sz =>
    cases m <;> simp [BSh.dec] at e
    cases x with
    | row v o => cases o <;> exact h
    | _ => exact h
  | loop => cases x <;> simp [BSh.enc, liveOf] at h
  | arr t e' =>
    cases m <;> simp only [BSh.dec, reduceCtorEq] at e
    cases x with
    | arr k _ _ => cases k <;> exact h
    | _ => cases h
  | mp t =>
    cases m <;> simp only [BSh.dec, reduceCtorEq] at e
    cases x with
    | mp _ => exact h
    | _ => cases h
  | dead => cases x <;> simp [BSh.enc, liveOf] at h

theorem decM_get : ∀ {l : List BSh} {ms : List Blk} {y : MSh l}, decM l ms = some y → okM l = true → (encM l y).length = ms.length ∧ ∀ (b : Nat) (m' : Blk), (encM l y)[b]? = some m' → ∃ m s z, ms[b]? = some m ∧ BSh.ok s = true ∧ s.dec m = some z ∧ m' = s.enc z
  | [], [], y, _, _ => ⟨rfl, fun b m' h => by simp [encM] at h⟩
  | [], _ :: _, y, e, _ => by simp [decM] at e
  | s :: l, [], y, e, _ => by simp [decM] at e
  | s :: l, m :: ms, y, e, hok => by
    simp only [okM, Bool.and_eq_true] at hok
    simp only [decM] at e
    obtain ⟨e1, e2⟩ := both_some e
    obtain ⟨h1, h2⟩ := decM_get e2 hok.2
    refine ⟨by simp [encM, h1], fun b m' hb => ?_⟩
    cases b with
    | zero => simp [encM] at hb; exact ⟨m, s, y.1, rfl, hok.1, e1, hb.symm⟩
    | succ b => simpa using h2 b m' (by simpa [encM] using hb)

/-- memory in its form -/
theorem Rel.form {X : Ctx} {w0 w : World} {C0 : Mem} {ms : List Blk} {l : List BSh} {y : MSh l} (h : Rel X w0 C0 C g ms w) (hok : okM l = true) (e : decM l ms = some y) : Rel X w0 C0 C g (encM l y) w := by
  obtain ⟨h1, h2⟩ := decM_get e hok
  refine ⟨h.below, h.low, h.sub, h.base, h.old, by rw [h1, h.len], h.keep, ?_, ?_⟩
  · intro b m x hm hx
    obtain ⟨m0, s, z, i1, i2, i3, rfl⟩ := h2 b m hm
    exact decB_blk i2 (h.blk b m0 x i1 hx) i3
  · intro b b' m m' x x' k hm hx hm' hx' hl hl'
    obtain ⟨m0, s, z, i1, _, i3, rfl⟩ := h2 b m hm
    obtain ⟨m1, t, u, j1, _, j3, rfl⟩ := h2 b' m' hm'
    exact h.sep b b' m0 m1 x x' k i1 hx j1 hx' (decB_live i3 hl) (decB_live j3 hl')
end

section
variable {X : Ctx} {w0 w : World} {C0 C : Mem} {fs : List (List Value)} {g : Ghs} {st : St} {a : Act}

theorem prefixOk_spec : ∀ {n i : Nat} {ks : List Nat}, prefixOk n i ks = true → ∀ j, j < n → ks[j]? = some (i + j)
  | 0, i, ks, _, j, hj => by omega
  | n + 1, i, [], h, j, hj => by simp [prefixOk] at h
  | n + 1, i, k :: ks, h, j, hj => by
    simp only [prefixOk, Bool.and_eq_true] at h
    cases j with
    | zero => simpa using Nat.eq_of_beq_eq_true h.1
    | succ j =>
      have := prefixOk_spec h.2 j (by omega)
      simp only [List.getElem?_cons_succ, this]
      congr 1
      omega

/-- the values in some slots -/
theorem keepL_vals {ts : List AV} {xs : List Value} (h : RVL C g ts xs) : ∀ {ks : List Nat} {vs : List AV}, keepL ts ks = some vs → ∃ zs, RVL C g vs zs ∧ zs.length = ks.length ∧ ∀ (j i : Nat), ks[j]? = some i → xs[i]? = zs[j]?
  | [], vs, e => by simp only [keepL, Option.some.injEq] at e; subst e; exact ⟨[], .nil, rfl, fun j i hj => by simp at hj⟩
  | i :: r, vs, e => by
    simp only [keepL] at e
    split at e
    · rename_i v vs' hv hvs
      simp only [Option.some.injEq] at e
      subst e
      rw [mget_eq] at hv
      obtain ⟨x, hx, hr⟩ := RVL.get h i v hv
      obtain ⟨zs, h1, h2, h3⟩ := keepL_vals h hvs
      refine ⟨x :: zs, .cons hr h1, by simp [h2], fun j i' hj => ?_⟩
      cases j with
      | zero => simp at hj; subst hj; simpa using hx
      | succ j => simpa using h3 j i' (by simpa using hj)
    · cases e

theorem viewK_spec {nf : Nat} {ks keep : List Nat} {sh : Sh} {ms : List BSh} {x : sh.den × MSh ms} (h : SR X w0 C0 fs C g st a w) (hnf : X.G.length = nf) (e : viewK nf ks keep sh ms st = some x) :
    ∃ g' zs, Rel X w0 C0 C g' (encM ms x.2) w ∧ RVL C g' (encL sh x.1) zs ∧ zs.length = keep.length ∧ ∀ (j i : Nat), keep[j]? = some i → a.tmps.toList[i]? = zs[j]? := by
  unfold viewK at e
  obtain ⟨hc, e⟩ := cond_some e
  simp only [Bool.and_eq_true, mlen_eq] at hc
  obtain ⟨⟨⟨hk, hp⟩, hv⟩, hm⟩ := hc
  split at e
  · rename_i vs hvs
    obtain ⟨e1, e2⟩ := both_some e
    obtain ⟨zs, h1, h2, h3⟩ := keepL_vals h.tm hvs
    have hrel : Rel X w0 C0 C (pick ks g) (pickB st.mem ks ks) w := by
      refine h.rel.view hk (fun _ hl => hl) (fun i m y k hi hm hx hl => (live_lt (h.rel.blk i m y hm hx) hl).1) h.rel.below h.rel.low h.rel.base h.rel.old (fun b y hb hf => ?_)
      have hbl := lt_of_getElem? hb
      have := prefixOk_spec hp b (by omega)
      rw [Nat.zero_add] at this
      exact pick_get this (h.rel.keep b y hb hf)
    exact ⟨_, zs, hrel.form hm e2, decVL hv (renA_RVL ks h1) e1, h2, h3⟩
  · cases e

theorem fill_foldl {xs : List Value} : ∀ (l : List (Nat × AV)) (ts : List AV), RVL C g ts xs → (∀ p ∈ l, ∃ x, xs[p.1]? = some x ∧ RV C g p.2 x) → RVL C g (l.foldl (fun ts p => mset ts p.1 p.2) ts) xs
  | [], ts, h, _ => h
  | p :: l, ts, h, hp => by
    obtain ⟨x, hx, hr⟩ := hp p (by simp)
    refine fill_foldl l _ ?_ (fun q hq => hp q (by simp [hq]))
    show RVL C g (mset ts p.1 p.2) xs
    rw [mset_eq]
    exact RVL_refine h hx hr
theorem fill_RVL {xs : List Value} {l : List (Nat × AV)} {n : Nat} (hn : n = xs.length) (hp : ∀ p ∈ l, ∃ x, xs[p.1]? = some x ∧ RV C g p.2 x) : RVL C g (fill n l) xs := by
  unfold fill
  refine fill_foldl l _ ?_ hp
  rw [mrep_eq, hn]
  exact RVL.anys xs

/-- a frame of which some slots are known -/
theorem fill_vals {g' : Ghs} {m : Nat} {xs : List Value} (hm : m = xs.length) {keep : List Nat} {vs : List AV} {zs : List Value} (hv : RVL C g' vs zs) (h2 : ∀ (j i : Nat), keep[j]? = some i → xs[i]? = zs[j]?) : RVL C g' (fill m (keep.zip vs)) xs := by
  refine fill_RVL hm fun p hp => ?_
  obtain ⟨j, hj⟩ := List.getElem?_of_mem hp
  rw [List.getElem?_zip_eq_some] at hj
  obtain ⟨z, hz, hr⟩ := RVL.get hv j p.2 hj.2
  exact ⟨z, (h2 j p.1 hj.1).trans hz, hr⟩

theorem tmps_len (h : SR X w0 C0 fs C g st a w) {m : Nat} (hm : Nat.beq (mlen st.tmps) m = true) : m = a.tmps.toList.length := by
  have := RVL.length h.tm
  rw [← this, ← mlen_eq]
  exact (Nat.eq_of_beq_eq_true hm).symm

theorem view_spec {nf : Nat} {ks keep : List Nat} {sh : Sh} {ms : List BSh} {x : sh.den × MSh ms} (h : SR X w0 C0 fs C g st a w) (hnf : X.G.length = nf) (e : view nf ks keep sh ms st = some x) :
    ∃ g' zs, Rel X w0 C0 C g' (encM ms x.2) w ∧ RVL C g' (encL sh x.1) zs ∧ zs.length = keep.length ∧ ∀ (j i : Nat), keep[j]? = some i → a.tmps.toList[i]? = zs[j]? := viewK_spec h hnf e
theorem stOf_good {nf m : Nat} {ks keep : List Nat} {sh : Sh} {ms : List BSh} {x : sh.den × MSh ms} (h : SR X w0 C0 fs C g st a w) (ho : st.outer = []) (hm : m = a.tmps.toList.length) (hnf : X.G.length = nf) (e : view nf ks keep sh ms st = some x) :
    Good X w0 C0 fs (stOf m keep sh ms x) a w := by
  obtain ⟨g', zs, h1, h2, _, h3⟩ := view_spec h hnf e
  refine ⟨C, g', h1, fill_vals hm h2 h3, ?_, h.df⟩
  have := h.out
  rw [ho] at this
  cases this with
  | nil => exact .nil

/-- another telling of what a block holds -/
theorem Rel.retell {mem : List Blk} (h : Rel X w0 C0 C g mem w) {b : Nat} {v v' : AV} (hb : mem[b]? = some (.box v)) (hv : ∀ cs, RC C g v cs → RC C g v' cs) : Rel X w0 C0 C g (mem.set b (.box v')) w := by
  have hbl := lt_of_getElem? hb
  have get : ∀ {c : Nat} {m : Blk}, (mem.set b (Blk.box v'))[c]? = some m → (c = b ∧ m = .box v') ∨ (c ≠ b ∧ mem[c]? = some m) := by
    intro c m hc
    by_cases hcb : c = b
    · subst hcb
      rw [List.getElem?_set_self hbl] at hc
      simp only [Option.some.injEq] at hc
      exact .inl ⟨rfl, hc.symm⟩
    · rw [List.getElem?_set_ne (Ne.symm hcb)] at hc
      exact .inr ⟨hcb, hc⟩
  have live : ∀ {c : Nat} {m : Blk} {x : Gh} {k : Nat}, (mem.set b (Blk.box v'))[c]? = some m → g[c]? = some x → liveOf m x = some k → ∃ m0, mem[c]? = some m0 ∧ liveOf m0 x = some k := by
    intro c m x k hc hx hl
    rcases get hc with ⟨rfl, rfl⟩ | ⟨_, hm⟩
    · exact ⟨_, hb, by cases x <;> exact hl⟩
    · exact ⟨m, hm, hl⟩
  refine ⟨h.below, h.low, h.sub, h.base, h.old, by simp [h.len], h.keep, ?_, ?_⟩
  · intro c m x hc hx
    rcases get hc with ⟨rfl, rfl⟩ | ⟨_, hm⟩
    · cases h.blk c _ x hb hx with
      | box h1 h2 h3 h4 => exact .box h1 h2 (hv _ h3) h4
    · exact h.blk c m x hm hx
  · intro c c' m m' x x' k hc hx hc' hx' hl hl'
    obtain ⟨m0, i1, i2⟩ := live hc hx hl
    obtain ⟨m1, j1, j2⟩ := live hc' hx' hl'
    exact h.sep c c' m0 m1 x x' k i1 hx j1 hx' i2 j2

theorem up_cells {t : Ty} {n : Nat} {v v' : AV} {off : Nat} {cs : List Value} (h : RC C g v cs) (hat : v.at off 1 0 = some .nilsl) (hput : v.put off 1 0 (.sl t [] (some n)) = some v') (hn : RC C g (.sl t [] (some n)) [.slice none 0 0]) : RC C g v' cs := by
  obtain ⟨pre, mid, post, rfl, hp, hmid, _, _⟩ := at_spec v h hat
  cases hmid
  obtain ⟨pre2, mid2, post2, hcs, hp2, hm2, hr⟩ := put_spec v h hput hn rfl
  have : pre2 = pre ∧ post2 = post := by
    rw [List.append_assoc, List.append_assoc] at hcs
    obtain ⟨e1, e2⟩ := List.append_inj hcs (by omega)
    obtain ⟨e3, e4⟩ := List.append_inj e2 (by simp [hm2])
    exact ⟨e1.symm, e4.symm⟩
  rw [this.1, this.2] at hr
  exact hr

theorem up1_spec (u : Up) (h : SR X w0 C0 fs C g st a w) : ∃ g', g.le g' ∧ SR X w0 C0 fs C g' (up1 st u) a w := by
  have hnew : ∀ (t : Ty), RC C (g ++ [.row (.slice none 0 0) false]) (.sl t [] (some st.mem.length)) [.slice none 0 0] := fun t =>
    RC.own (t := t) (xs := []) (base := none) (cap := 0) (o := false) ⟨Nat.le_refl _, Nat.zero_le _⟩ Row_nil (by rw [h.rel.len]; simp)
  cases u with
  | slot i off t e =>
    simp only [up1]
    split
    · rename_i v hm
      split
      · rename_i hat
        split
        · rename_i v' hput
          rw [mlen_eq] at hput
          rw [mget_eq] at hm
          have hrel := h.rel.nilrow e t.size none 0
          have h1 := h.up (Mem.le_refl _) (Ghs.le_append g [.row (.slice none 0 0) false]) hrel
          rw [mset_eq, mapp_eq]
          obtain ⟨x, hx, hr⟩ := RVL.get h1.tm i v hm
          have hcls : v.solid = true := by
            cases v <;> first | rfl | simp [AV.at, AV.cls] at hat
          have hcells := up_cells (RV_solid hr hcls) hat hput (hnew t)
          have hrv : RV C (g ++ [.row (.slice none 0 0) false]) v' x := by
            by_cases hv : ∃ ps, v = .agg ps
            · obtain ⟨ps, rfl⟩ := hv
              obtain ⟨cs, rfl, _⟩ := RV_agg hr
              simp only [AV.put] at hput
              rw [if_neg (by simp)] at hput
              simp only [Option.map_eq_some_iff] at hput
              obtain ⟨q, _, rfl⟩ := hput
              exact .agg (by simpa [Value.cells] using hcells)
            · rw [at_plain (fun ps hp => hv ⟨ps, hp⟩)] at hat
              rw [put_plain (fun ps hp => hv ⟨ps, hp⟩)] at hput
              split at hat
              · rename_i hc
                rw [if_pos hc] at hput
                simp only [Option.some.injEq] at hat hput
                subst hat; subst hput
                have := RV_nilsl hr
                subst this
                exact .one (hnew t) (by simp) (by simp)
              · cases hat
          exact ⟨_, Ghs.le_append _ _, hrel, RVL_refine h1.tm hx hrv, h1.out, h1.df⟩
        · exact ⟨g, Ghs.le_refl _, h⟩
      · exact ⟨g, Ghs.le_refl _, h⟩
    · exact ⟨g, Ghs.le_refl _, h⟩
  | box b off t e =>
    simp only [up1]
    split
    · rename_i v hm
      split
      · rename_i hat
        split
        · rename_i v' hput
          rw [mlen_eq] at hput
          rw [mget_eq] at hm
          have hrel := h.rel.nilrow e t.size none 0
          have hbl := lt_of_getElem? hm
          have hrel2 := hrel.retell (b := b) (v := v) (v' := v') (by rw [List.getElem?_append_left hbl]; exact hm) (fun cs hc => up_cells hc hat hput (hnew t))
          rw [List.set_append_left _ _ hbl] at hrel2
          rw [mset_eq, mapp_eq]
          exact ⟨_, Ghs.le_append _ _, h.up (Mem.le_refl _) (Ghs.le_append _ _) hrel2⟩
        · exact ⟨g, Ghs.le_refl _, h⟩
      · exact ⟨g, Ghs.le_refl _, h⟩
    · exact ⟨g, Ghs.le_refl _, h⟩
theorem upL_spec : ∀ (l : List Up) {g : Ghs} {st : St}, SR X w0 C0 fs C g st a w → ∃ g', g.le g' ∧ SR X w0 C0 fs C g' (upL st l) a w
  | [], g, st, h => ⟨g, Ghs.le_refl _, h⟩
  | u :: r, g, st, h => by
    obtain ⟨g1, h1, h2⟩ := up1_spec u h
    obtain ⟨g2, h3, h4⟩ := upL_spec r h2
    exact ⟨g2, Ghs.le_trans h1 h3, h4⟩
theorem up1_outer (st : St) (u : Up) : (up1 st u).outer = st.outer := by
  cases u <;> simp only [up1] <;> (repeat' split) <;> rfl
theorem upL_outer : ∀ (l : List Up) (st : St), (upL st l).outer = st.outer
  | [], _ => rfl
  | u :: r, st => by simp only [upL]; rw [upL_outer r, up1_outer]

end
end Am
end Go.Proofs.Ytkjpoongkdapoaa
