/-
  A symbolic machine over the model, part 20: words about data.
-/
import Derived.Test.YtkidcbialbffgaaAm19
namespace Go.Proofs.Ytkidcbialbffgaa
namespace Am
open Go Go.RowKit

/-- short enough that no counting overflows -/
def small (n : Int) : Bool := ile n 1152921504606846975

theorem ilt_false {a b : Int} : ilt a b = false ↔ b ≤ a := by rw [ilt_eq]; simp
theorem ile_false {a b : Int} : ile a b = false ↔ b < a := by rw [ile_eq]; simp
theorem ieq_false {a b : Int} : ieq a b = false ↔ a ≠ b := by simp [ieq]
theorem ieq_self (a : Int) : ieq a a = true := by simp [ieq]
theorem ideq_iff {a b : Id} : ideq a b = true ↔ a = b := by simp [ideq]
theorem u8eq_iff {a b : UInt8} : u8eq a b = true ↔ a = b := by simp [u8eq]
theorem seq_iff {a b : List UInt8} : seq a b = true ↔ a = b := by simp [seq]
theorem small_iff {n : Int} : small n = true ↔ n < 1152921504606846976 := by unfold small; rw [ile_iff]; omega
theorem short_iff {n m : Int} : short n m = true ↔ n + m < 4611686018427387904 := by unfold short; rw [ile_iff]; omega

theorem iwrap_id {x : Int} (h0 : -9223372036854775808 ≤ x) (h1 : x < 9223372036854775808) : iwrap .i64 x = x := by
  have e : iwrap .i64 x = IntKind.wrap .i64 x := rfl
  rw [e]
  unfold IntKind.wrap
  simp [IntKind.bits, IntKind.signed]
  omega

section
variable {α : Type} {xs : List α} {i : Nat}
theorem dlen_nat : dlen xs = (xs.length : Int) := rfl
theorem ilt_ge (h : xs.length ≤ i) : ilt (i : Int) (dlen xs) = false := by rw [ilt_false, dlen_nat]; omega
theorem ilt_lt (h : i < xs.length) : ilt (i : Int) (dlen xs) = true := by rw [ilt_iff, dlen_nat]; omega
theorem ile0 : ile 0 (i : Int) = true := by rw [ile_iff]; omega
theorem inc {n : Int} (hs : small n = true) (h : (i : Int) < n) : iwrap .i64 (iadd (i : Int) 1) = ((i + 1 : Nat) : Int) := by
  rw [small_iff] at hs
  have e : iadd (i : Int) 1 = ((i + 1 : Nat) : Int) := by simp [iadd]
  rw [e, iwrap_id] <;> omega
theorem inc' (hs : small (dlen xs) = true) (h : i < xs.length) : iwrap .i64 (iadd (i : Int) 1) = ((i + 1 : Nat) : Int) :=
  inc hs (by rw [dlen_nat]; omega)
theorem inat_nat : inat (i : Int) = i := by simp [inat]
theorem dget_nat {t : Ty} {xs : List t.den} : dget t xs (i : Int) = xs.getD i t.zero := by simp [dget]
theorem sget_nat {xs : List UInt8} : sget xs (i : Int) = xs.getD i 0 := by simp [sget]
theorem drop_getD {xs : List α} {d : α} (h : i < xs.length) : xs.drop i = xs.getD i d :: xs.drop (i + 1) := by
  rw [List.drop_eq_getElem_cons h]
  simp [h]
/-- from the end on down to the place -/
theorem down_to {P : Nat → Prop} {n : Nat} (h0 : P n) (hs : ∀ i, i < n → P (i + 1) → P i) : ∀ i, i ≤ n → P i := by
  intro i hi
  obtain ⟨k, rfl⟩ : ∃ k, i = n - k := ⟨n - i, by omega⟩
  have : ∀ k, P (n - k) := by
    intro k
    induction k with
    | zero => exact h0
    | succ k ih =>
      by_cases hk : n ≤ k
      · have : n - (k + 1) = n - k := by omega
        rw [this]; exact ih
      · have e : n - k = n - (k + 1) + 1 := by omega
        rw [e] at ih
        exact hs _ (by omega) ih
  exact this k

theorem bif_bool {b x y : Bool} {l : List Blk} : (bif b then some (AV.bool x, l) else some (AV.bool y, l)) = some (AV.bool (bif b then x else y), l) := by cases b <;> rfl
theorem dec_sl {t : Ty} {v : AV} {xs : List t.den} (h : dec (.sl t) v = some xs) : (v = .nilsl ∧ xs = []) ∨ ∃ o, v = .sl t xs o := by
  cases v with
  | nilsl => simp [dec, dec2] at h; exact .inl ⟨rfl, h⟩
  | sl t' ys o =>
    simp only [dec, dec2] at h
    split at h
    · rename_i ht
      subst ht
      simp only [Option.some.injEq] at h
      exact .inr ⟨o, by rw [← h]⟩
    · cases h
  | _ => simp [dec, dec2] at h
end

def decS (t : Ty) : AV → Option (List t.den)
  | .sl e' xs none => if h : e' = t then some (h ▸ xs) else none
  | _ => none
theorem decS_eq {t : Ty} {v : AV} {xs : List t.den} (h : decS t v = some xs) : v = .sl t xs none := by
  unfold decS at h
  split at h
  · split at h
    · rename_i ht
      subst ht
      simp only [Option.some.injEq] at h
      rw [← h]
    · cases h
  · cases h

/-- a loop over places: what each round makes of the state, or comes to -/
def goI {σ β : Type} (f : Nat → σ → σ ⊕ β) (fin : σ → β) : Nat → Nat → σ → β
  | 0, _, s => fin s
  | k + 1, i, s => match f i s with
    | .inl s' => goI f fin k (i + 1) s'
    | .inr x => x
theorem index_loop {σ β : Type} {len : Nat} (hs : small (len : Int) = true) (R : Nat → Int → σ → Option β) (f : Nat → σ → σ ⊕ Option β) (fin : σ → Option β)
    (hstop : ∀ n s, R (n + 1) (len : Int) s = fin s) (hstep : ∀ n (i : Nat) s, i < len → R (n + 1) (i : Int) s = match f i s with | .inl s' => R n ((i + 1 : Nat) : Int) s' | .inr x => x) :
    ∀ (k i : Nat) (s : σ) (r : β), i + k = len → goI f fin k i s = some r → ∃ n, R n (i : Int) s = some r
  | 0, i, s, r, h, e => by
    obtain rfl : i = len := by omega
    exact ⟨1, by rw [hstop]; exact e⟩
  | k + 1, i, s, r, h, e => by
    have hst := hstep
    simp only [goI] at e
    cases hf : f i s with
    | inl s' =>
      rw [hf] at e
      obtain ⟨n, hn⟩ := index_loop hs R f fin hstop hstep k (i + 1) s' r (by omega) e
      exact ⟨n + 1, by rw [hstep n i s (by omega), hf]; exact hn⟩
    | inr x =>
      rw [hf] at e
      exact ⟨1, by rw [hstep 0 i s (by omega), hf]; exact e⟩
def goL {α σ β : Type} (f : α → σ → σ ⊕ β) (fin : σ → β) : List α → σ → β
  | [], s => fin s
  | x :: l, s => match f x s with
    | .inl s' => goL f fin l s'
    | .inr x => x
theorem goL_goI {α σ β : Type} {d : α} {xs : List α} (f : α → σ → σ ⊕ β) (fin : σ → β) : ∀ (k i : Nat) (s : σ), i + k = xs.length → goI (fun i s => f (xs.getD i d) s) fin k i s = goL f fin (xs.drop i) s
  | 0, i, s, h => by rw [List.drop_of_length_le (by omega)]; rfl
  | k + 1, i, s, h => by
    rw [drop_getD (d := d) (by omega)]
    simp only [goI, goL]
    cases f (xs.getD i d) s with
    | inl s' => exact goL_goI f fin k (i + 1) s' (by omega)
    | inr x => rfl
/-- a loop over a list -/
theorem list_loop {σ β : Type} {t : Ty} {xs : List t.den} (hs : small (dlen xs) = true) (R : Nat → Int → σ → Option β) (f : t.den → σ → σ ⊕ Option β) (fin : σ → Option β)
    (hstop : ∀ n i s, ilt i (dlen xs) = false → R (n + 1) i s = fin s)
    (hstep : ∀ n i s, ilt i (dlen xs) = true → ile 0 i = true → R (n + 1) i s = match f (dget t xs i) s with | .inl s' => R n (iwrap .i64 (iadd i 1)) s' | .inr x => x) {s : σ} {r : β} (e : goL f fin xs s = some r) : ∃ n, R n 0 s = some r := by
  have h0 := goL_goI (d := t.zero) (xs := xs) f fin xs.length 0 s (by omega)
  rw [List.drop_zero] at h0
  refine index_loop (len := xs.length) hs R (fun i s => f (xs.getD i t.zero) s) fin (fun n s => hstop n _ s (ilt_ge (Nat.le_refl _))) (fun n i s hi => ?_) xs.length 0 s r (by omega) (h0.trans e)
  rw [hstep n _ s (ilt_lt hi) ile0, dget_nat, inc' hs hi]

/-- a contract over what is read off the arguments -/
def conD {α : Type} (D : List AV → Option α) (G : α → CR) : Con := fun args => match D args with
  | some y => G y
  | none => .no
def DecOk {α : Type} (D : List AV → Option α) (can : α → List AV) : Prop := ∀ (C : Mem) (g : Ghs) (args : List AV) (vs : List Value) (y : α), RVL C g args vs → D args = some y → RVL C [] (can y) vs

theorem spec_can {P : Program} (hm : P.follows .mixedOrders = true) {cs : List (FuncId × Con)} (hcs : ∀ p ∈ cs, Spec P p.1 p.2) {inl : List Nat} {f : FuncId} {ls : List (Nat × Lp)} {ks : List Nat} {α : Type} {D : List AV → Option α} {can : α → List AV} {G : α → CR}
    (hD : DecOk D can) (hok : okF P f = true) (hks : ks.Nodup) (hn : (ls.map (·.1)).Nodup) (hl : LoopsOk (mkE P cs inl f ls) f ls (loopsOf (bodyOf P f)))
    (hF : ∀ y r rows, (G y).get = some (r, rows) → rows.length = ks.length ∧ run (mkE P cs inl f ls) ks f (can y) = some (r, rows)) : Spec P f (conD D G) := by
  have hs : Spec P f (fun args => match run (mkE P cs inl f ls) ks f args with | some (r, rows) => cond (Nat.beq rows.length ks.length) (.ret r rows) .no | none => .no) := by
    refine spec_mk hm hcs hok hks hn hl ?_
    intro args r rows e
    split at e
    · rename_i r' rows' hr
      cases h1 : Nat.beq rows'.length ks.length with
      | true =>
        rw [h1, cond_true] at e
        simp only [CR.get, CR.elim, Option.some.injEq, Prod.mk.injEq] at e
        obtain ⟨rfl, rfl⟩ := e
        exact ⟨Nat.eq_of_beq_eq_true h1, hr⟩
      | false =>
        rw [h1] at e
        cases e
    · cases e
  refine ⟨hs.1, ?_⟩
  intro w C args vs r rows hsub hargs e
  unfold conD at e
  split at e
  · rename_i ys hys
    obtain ⟨h1, h2⟩ := hF ys r rows e
    exact hs.2 w C _ vs r rows hsub (hD C [] args vs ys hargs hys) (by simp only [h2]; rw [h1, Nat.beq_refl]; rfl)
  · cases e

/-- a slice, and a function that has nothing by itself -/
def decF (t : Ty) (g : FuncId) : List AV → Option (List t.den)
  | [a, .fn (.func h) [] []] => cond (Nat.beq h g) (dec (.sl t) a) none
  | _ => none
theorem decF_ok {t : Ty} {g : FuncId} (hok : t.ok = true) : DecOk (decF t g) (fun xs => [.sl t xs none, .fn (.func g) [] []]) := by
  intro C gh args vs y h e
  unfold decF at e
  split at e
  · obtain ⟨h1, e2⟩ := cond_some e
    clear e
    have := Nat.eq_of_beq_eq_true h1
    subst this
    cases h with
    | cons ha ht =>
      cases ht with
      | cons hf ht =>
        cases ht
        refine .cons (RV_enc (t := .sl t) hok ha e2) (.cons ?_ .nil)
        obtain ⟨fs, ks, rfl, h1, h2⟩ := RV_fn hf
        cases h1; cases h2
        exact .one (.fn .nil .nil) (by simp) (by simp)
  · cases e

theorem loops0 {E : Env} {P : Program} {f : FuncId} (h : (loopsOf (bodyOf P f)).isEmpty = true) : LoopsOk E f [] (loopsOf (bodyOf P f)) := by
  cases hb : loopsOf (bodyOf P f) with
  | nil => trivial
  | cons b bs => rw [hb] at h; cases h
theorem loops1 {E : Env} {P : Program} {f : FuncId} {k : Nat} {l : Lp} (h : (loopsOf (bodyOf P f)).length = 1) (hk : key (loopAt P f 0) = k) (hl : LoopOk E (callee E 3) f l (loopAt P f 0)) : LoopsOk E f [(k, l)] (loopsOf (bodyOf P f)) := by
  unfold loopAt at hk hl
  match hb : loopsOf (bodyOf P f), h with
  | [b], _ =>
    rw [hb] at hk hl
    exact ⟨hk, hl, trivial⟩
theorem loops2 {E : Env} {P : Program} {f : FuncId} {k k' : Nat} {l l' : Lp} (h : (loopsOf (bodyOf P f)).length = 2) (hk : key (loopAt P f 0) = k) (hl : LoopOk E (callee E 3) f l (loopAt P f 0))
    (hk' : key (loopAt P f 1) = k') (hl' : LoopOk E (callee E 3) f l' (loopAt P f 1)) : LoopsOk E f [(k, l), (k', l')] (loopsOf (bodyOf P f)) := by
  unfold loopAt at hk hl hk' hl'
  match hb : loopsOf (bodyOf P f), h with
  | [b, c], _ =>
    rw [hb] at hk hl hk' hl'
    exact ⟨hk, hl, hk', hl', trivial⟩

theorem cond_some' {a b : Bool} (h : (bif a then b else false) = true) : a = true ∧ b = true := by cases a <;> simp_all

theorem hcs_nil {P : Program} : ∀ p ∈ ([] : List (FuncId × Con)), Spec P p.1 p.2 := by simp
theorem hcs_cons {P : Program} {f : FuncId} {F : Con} {cs : List (FuncId × Con)} (h : Spec P f F) (hc : ∀ p ∈ cs, Spec P p.1 p.2) : ∀ p ∈ (f, F) :: cs, Spec P p.1 p.2 := by
  intro p hp
  rcases List.mem_cons.1 hp with rfl | hp
  · exact h
  · exact hc p hp

theorem got {α : Type} {a b : α} {x : Option α} (h : x = some a) (e : x = some b) : a = b := by rw [h] at e; exact Option.some.inj e

end Am
end Go.Proofs.Ytkidcbialbffgaa
