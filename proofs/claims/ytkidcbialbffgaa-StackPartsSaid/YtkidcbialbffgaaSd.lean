/-
  The layer 4 (stack): entries are put ahead of a stack.
-/
import Derived.Test.YtkidcbialbffgaaSb
import Derived.Test.YtkidcbialbffgaaAmC
namespace Go.Proofs.Ytkidcbialbffgaa
namespace Am
open Go hiding Id
open Go.RowKit
set_option maxRecDepth 100000

abbrev SE : Ty := .sl EntryT
abbrev SSE : Ty := .sl SE
def total (xs : List (List Entry)) : Int := dlen xs.flatten
def flat (xs : List (List Entry)) : List Entry := xs.flatten
def l27 : Lp := { m := 36, keep := [0, 3, 9, 10, 11], up := [], trim := true, outs := fun | .exit _ => [0, 3] | _ => [], sum := fun vs mem => match vs, mem with
  | [v, .int .i64 0, u, .int .i64 n, .int .i64 0], [] => (match decS SE v, decS SE u with
    | some xs, some ys => .br (bif ieq n (dlen ys) then bif ile (dlen ys) 100 then ile (total ys) 1000 else false else false) (.out (.exit 0) [(0, .sl SE xs none), (3, .int .i64 (total ys))] []) .no
    | _, _ => .no)
  | _, _ => .no }
def l27b : Lp := { m := 36, keep := [6, 25, 26, 27], up := [(6, EntryT, 26)], trim := true, outs := fun | .exit _ => [6] | _ => [], sum := fun vs mem => match vs, mem with
  | [.sl (.pair (.int .i64) (.pair .id (.pair (.int .i64) .unit))) [] (some 0), u, .int .i64 n, .int .i64 0], [.row 26 34] => (match decS SE u with
    | some ys => .br (bif ieq n (dlen ys) then bif ile (dlen ys) 100 then ile (total ys) 1000 else false else false) (.out (.exit 2) [(6, .sl EntryT (flat ys) (some 0))] [.row 26 34]) .no
    | _ => .no)
  | _, _ => .no }
noncomputable def E27 : Env := mkE Try.prog [] [30] 27 [(3, l27), (11, l27b)]
def c27 : Con := conT (.pair SSE .unit) fun ys => .br (bif ile (dlen ys.1) 100 then ile (total ys.1) 1000 else false) (.ret (.sl EntryT (flat ys.1) none) []) .no
def app (a b : List Entry) : List Entry := a ++ b
/-- what putting ahead comes to, and its error -/
def pushE (l f : List Entry) : Int := bif allE l then bif allE f then bif ilt 4 (iadd (dlen l) (dlen f)) then 12 else 0 else 1 else 1
def pushL (l f : List Entry) : List Entry := bif ieq (pushE l f) 0 then app f l else []
def c20 : Con := conT (.pair SE (.pair SE .unit)) fun ys => .br (bif small (dlen ys.1) then small (dlen ys.2.1) else false) (.ret (.tup [.sl EntryT (pushL ys.1 ys.2.1) none, .int .i64 (pushE ys.1 ys.2.1)]) []) .no
def cs6 : List (Nat × Con) := [(8, c8), (12, c12), (15, c15), (16, c16), (20, c20), (21, c21)]

noncomputable abbrev R27 (K : K) : Nat → List AV → List Blk → Option Res := rounds (E27) (callee (E27) 3) 27 l27 (loopAt Try.prog 27 0) K
theorem rd27 (xs ys : List (List Entry)) (t i : Int) (K : K) (n : Nat) : R27 K (n + 1) [.sl SE xs none, .int .i64 t, .sl SE ys none, .int .i64 (dlen ys), .int .i64 i] [] =
    bif ilt i (dlen ys) then bif bif ile 0 i then ilt i (dlen ys) else false then bif ilt (iwrap .i64 (iadd t (dlen (dget (.sl (.pair (.int .i64) (.pair .id (.pair (.int .i64) .unit)))) ys i)))) 0 then none else R27 K n [.sl (.sl (.pair (.int .i64) (.pair .id (.pair (.int .i64) .unit)))) xs none, .int .i64 (iwrap .i64 (iadd t (dlen (dget (.sl (.pair (.int .i64) (.pair .id (.pair (.int .i64) .unit)))) ys i)))), .sl (.sl (.pair (.int .i64) (.pair .id (.pair (.int .i64) .unit)))) ys none, .int .i64 (dlen ys), .int .i64 (iwrap .i64 (iadd i 1))] [] else none else (Sum.out (.exit 0) ((Lp.outs l27 (.exit 0)).zip [.sl (.sl (.pair (.int .i64) (.pair .id (.pair (.int .i64) .unit)))) xs none, .int .i64 t]) []).elim (Lp.m l27) K := by kernel_rfl

noncomputable abbrev R27b (K : K) : Nat → List AV → List Blk → Option Res := rounds (E27) (callee (E27) 3) 27 l27b (loopAt Try.prog 27 1) K
theorem rd27b (out : List Entry) (ys : List (List Entry)) (i : Int) (K : K) (n : Nat) : R27b K (n + 1) [.sl EntryT out (some 0), .sl SE ys none, .int .i64 (dlen ys), .int .i64 i] [.row 26 34] =
    bif ilt i (dlen ys) then bif bif ile 0 i then ilt i (dlen ys) else false then bif fits (dlen out) (dlen (dget (.sl (.pair (.int .i64) (.pair .id (.pair (.int .i64) .unit)))) ys i)) 48 then R27b K n [.sl (.pair (.int .i64) (.pair .id (.pair (.int .i64) .unit))) (dapp out (dget (.sl (.pair (.int .i64) (.pair .id (.pair (.int .i64) .unit)))) ys i)) (some 0), .sl (.sl (.pair (.int .i64) (.pair .id (.pair (.int .i64) .unit)))) ys none, .int .i64 (dlen ys), .int .i64 (iwrap .i64 (iadd i 1))] [.row 26 34] else none else none else (Sum.out (.exit 2) ((Lp.outs l27b (.exit 2)).zip [.sl (.pair (.int .i64) (.pair .id (.pair (.int .i64) .unit))) out (some 0)]) [.row 26 34]).elim (Lp.m l27b) K := by kernel_rfl

theorem run27 (ys : List (List Entry)) : run E27 [] 27 [.sl SE ys none] =
    bif bif ieq (dlen ys) (dlen ys) then bif ile (dlen ys) 100 then ile (total ys) 1000 else false else false then bif ilt (total ys) 0 then none else bif ilt 0 (iwrap .i64 (isub (total ys) (iwrap .i64 (isub 0 0)))) then bif bif ieq 0 0 then ieq 0 0 else false then bif bif ile 1 (iwrap .i64 (isub (total ys) (iwrap .i64 (isub 0 0)))) then fits (iwrap .i64 (isub (total ys) (iwrap .i64 (isub 0 0)))) 0 48 else false then bif ieq 0 0 then bif bif ieq (dlen ys) (dlen ys) then bif ile (dlen ys) 100 then ile (total ys) 1000 else false else false then some (.sl (.pair (.int .i64) (.pair .id (.pair (.int .i64) .unit))) (flat ys) none, []) else none else none else none else none else bif bif ieq (dlen ys) (dlen ys) then bif ile (dlen ys) 100 then ile (total ys) 1000 else false else false then some (.sl (.pair (.int .i64) (.pair .id (.pair (.int .i64) .unit))) (flat ys) none, []) else none else none := by kernel_rfl

theorem run20 (xs ys : List Entry) : run (mkE Try.prog [(22, c22), (27, c27)] [] 20 []) [] 20 [.sl EntryT xs none, .sl EntryT ys none] =
    bif small (dlen xs) then bif bif bif allE xs then false else true then false else true then bif small (dlen ys) then bif bif allE ys then false else true then some (.tup [.nilsl, .int .i64 1], []) else bif ilt 4 (iwrap .i64 (iadd (dlen xs) (dlen ys))) then some (.tup [.nilsl, .int .i64 12], []) else bif bif ile (dlen [ys, xs]) 100 then ile (total [ys, xs]) 1000 else false then some (.tup [.sl (.pair (.int .i64) (.pair .id (.pair (.int .i64) .unit))) (flat [ys, xs]) none, .int .i64 0], []) else none else none else some (.tup [.nilsl, .int .i64 1], []) else none := by kernel_rfl

theorem run6 (xs ys : List Entry) : run (mkE Try.prog cs6 [] 6 []) [] 6 [.sl EntryT xs none, .sl EntryT ys none] =
    bif bif small (dlen (few xs)) then small (dlen (few ys)) else false then bif small (dlen (few xs)) then bif bif bif allR (few xs) then false else true then false else true then bif small (dlen (few ys)) then bif bif allR (few ys) then false else true then bif ieq (pushE (few xs) (few ys)) 1 then some (.bool (ieq (dlen (pushL (few xs) (few ys))) 0), []) else some (.bool false, []) else bif ilt 4 (iwrap .i64 (iadd (dlen (few xs)) (dlen (few ys)))) then bif ieq (pushE (few xs) (few ys)) 12 then some (.bool (ieq (dlen (pushL (few xs) (few ys))) 0), []) else some (.bool false, []) else bif ieq (pushE (few xs) (few ys)) 0 then bif fits (dlen ([] : List Nat)) (dlen (few ys)) 48 then bif fits (dlen (dapp [] (few ys))) (dlen (few xs)) 48 then bif small (dlen (pushL (few xs) (few ys))) then some (.bool (same (pushL (few xs) (few ys)) (dapp (dapp [] (few ys)) (few xs))), []) else none else none else none else some (.bool false, []) else none else bif ieq (pushE (few xs) (few ys)) 1 then some (.bool (ieq (dlen (pushL (few xs) (few ys))) 0), []) else some (.bool false, []) else none else none := by kernel_rfl

theorem run7 (xs ys zs : List Entry) : run (mkE Try.prog cs6 [] 7 []) [] 7 [.sl EntryT xs none, .sl EntryT ys none, .sl EntryT zs none] =
    bif bif small (dlen (few xs)) then small (dlen (few zs)) else false then bif bif small (dlen (pushL (few xs) (few zs))) then small (dlen (few ys)) else false then bif fits (dlen ([] : List Nat)) (dlen (few ys)) 48 then bif fits (dlen (dapp [] (few ys))) (dlen (few zs)) 48 then bif bif small (dlen (few xs)) then small (dlen (dapp (dapp [] (few ys)) (few zs))) else false then bif bif small (dlen ([] : List Nat)) then small (dlen (few xs)) else false then bif rightE (few xs) then bif bif bif ieq (pushE [] (few xs)) 0 then false else true then false else true then bif small (dlen (pushL [] (few xs))) then bif bif bif same (pushL [] (few xs)) (few xs) then false else true then false else true then bif bif ieq (pushE (few xs) (few zs)) 0 then false else true then some (.bool (bif ieq (pushE (few xs) (dapp (dapp [] (few ys)) (few zs))) 0 then false else true), []) else bif ieq (pushE (pushL (few xs) (few zs)) (few ys)) (pushE (few xs) (dapp (dapp [] (few ys)) (few zs))) then bif small (dlen (pushL (pushL (few xs) (few zs)) (few ys))) then some (.bool (same (pushL (pushL (few xs) (few zs)) (few ys)) (pushL (few xs) (dapp (dapp [] (few ys)) (few zs)))), []) else none else some (.bool false, []) else some (.bool false, []) else none else some (.bool false, []) else bif bif ieq (pushE (few xs) (few zs)) 0 then false else true then some (.bool (bif ieq (pushE (few xs) (dapp (dapp [] (few ys)) (few zs))) 0 then false else true), []) else bif ieq (pushE (pushL (few xs) (few zs)) (few ys)) (pushE (few xs) (dapp (dapp [] (few ys)) (few zs))) then bif small (dlen (pushL (pushL (few xs) (few zs)) (few ys))) then some (.bool (same (pushL (pushL (few xs) (few zs)) (few ys)) (pushL (few xs) (dapp (dapp [] (few ys)) (few zs)))), []) else none else some (.bool false, []) else none else none else none else none else none else none := by kernel_rfl


theorem go27 {β : Type} (fin : Int → Option β) : ∀ (l : List (List Entry)) (t : Int), 0 ≤ t → t + dlen l.flatten ≤ 1000 →
    goL (fun (y : List Entry) (t : Int) => (bif ilt (iwrap .i64 (iadd t (dlen y))) 0 then .inr none else .inl (iwrap .i64 (iadd t (dlen y))) : Int ⊕ Option β)) fin l t = fin (t + dlen l.flatten)
  | [], t, _, _ => by simp [goL, dlen]
  | y :: l, t, h0, h => by
    simp only [dlen_nat, List.flatten_cons, List.length_append] at h
    have e : iwrap .i64 (iadd t (dlen y)) = t + dlen y := by
      rw [iwrap_id] <;> simp only [iadd, dlen_nat] <;> omega
    have hlt : ilt (t + dlen y) 0 = false := by rw [ilt_false, dlen_nat]; omega
    simp only [goL, e, hlt, cond_false]
    rw [go27 fin l (t + dlen y) (by rw [dlen_nat]; omega) (by simp only [dlen_nat]; omega)]
    congr 1
    simp only [dlen_nat, List.flatten_cons, List.length_append]
    omega

theorem lk27 : LoopOk E27 (callee E27 3) 27 l27 (loopAt Try.prog 27 0) := by
  intro vs mem K r e
  simp only [l27] at e
  split at e
  · rename_i v u n
    split at e
    · rename_i xs ys hv hu
      have := decS_eq hv
      subst this
      have := decS_eq hu
      subst this
      simp only [Sum.elim] at e
      obtain ⟨h1, e2⟩ := cond_some e
      clear e
      obtain ⟨h1, hs⟩ := cond_some' h1
      obtain ⟨h7, ht⟩ := cond_some' hs
      have := ieq_iff.mp h1
      subst this
      rw [ile_iff] at h7 ht
      have hsm : small (dlen ys) = true := by rw [small_iff]; omega
      have hg := go27 (fun t => (Sum.out (.exit 0) [(0, .sl SE xs none), (3, .int .i64 t)] []).elim 36 K) ys 0 (Int.le_refl _) (by rw [Int.zero_add]; exact ht)
      rw [Int.zero_add] at hg
      refine list_loop (t := SE) (xs := ys) hsm (fun n i (t : Int) => R27 K n [.sl SE xs none, .int .i64 t, .sl SE ys none, .int .i64 (dlen ys), .int .i64 i] []) _ _ ?_ ?_ (hg.trans e2)
      · intro n i t h
        exact (rd27 xs ys t i K n).trans (by rw [h]; rfl)
      · intro n i t h h0
        refine (rd27 xs ys t i K n).trans ?_
        rw [h, h0]
        simp only [cond_true]
        cases ilt (iwrap .i64 (iadd t (dlen (dget SE ys i)))) 0 <;> rfl
    · cases e
  · cases e

theorem go27b {β : Type} (fin : List Entry → Option β) : ∀ (l : List (List Entry)) (out : List Entry), dlen out + dlen l.flatten ≤ 1000 →
    goL (fun (y : List Entry) (out : List Entry) => (bif fits (dlen out) (dlen y) 48 then .inl (dapp out y) else .inr none : List Entry ⊕ Option β)) fin l out = fin (out ++ l.flatten)
  | [], out, _ => by simp [goL]
  | y :: l, out, h => by
    simp only [dlen_nat, List.flatten_cons, List.length_append] at h
    have hf : fits (dlen out) (dlen y) 48 = true := by rw [fits_iff]; simp only [dlen_nat]; omega
    simp only [goL, hf, cond_true]
    rw [go27b fin l (dapp out y) (by simp only [dapp, dlen_nat, List.length_append]; omega)]
    simp [dapp]

theorem lk27b : LoopOk E27 (callee E27 3) 27 l27b (loopAt Try.prog 27 1) := by
  intro vs mem K r e
  simp only [l27b] at e
  split at e
  · rename_i u n
    split at e
    · rename_i ys hu
      have := decS_eq hu
      subst this
      simp only [Sum.elim] at e
      obtain ⟨h1, e2⟩ := cond_some e
      clear e
      obtain ⟨h1, hs⟩ := cond_some' h1
      obtain ⟨h7, ht⟩ := cond_some' hs
      have := ieq_iff.mp h1
      subst this
      rw [ile_iff] at h7 ht
      have hsm : small (dlen ys) = true := by rw [small_iff]; omega
      have hg := go27b (fun o => (Sum.out (.exit 2) [(6, .sl EntryT o (some 0))] [.row 26 34]).elim 36 K) ys [] (by simpa [dlen, total] using ht)
      rw [List.nil_append] at hg
      refine list_loop (t := SE) (xs := ys) hsm (fun n i (o : List Entry) => R27b K n [.sl EntryT o (some 0), .sl SE ys none, .int .i64 (dlen ys), .int .i64 i] [.row 26 34]) _ _ ?_ ?_ (hg.trans e2)
      · intro n i o h
        exact (rd27b o ys i K n).trans (by rw [h]; rfl)
      · intro n i o h h0
        refine (rd27b o ys i K n).trans ?_
        rw [h, h0]
        simp only [cond_true]
        cases fits (dlen o) (dlen (dget SE ys i)) 48 <;> rfl
    · cases e
  · cases e

theorem s27 : Spec Try.prog 27 c27 := by
  refine spec_data mixed (inl := [30]) (ls := [(3, l27), (11, l27b)]) (ks := []) (cs := []) hcs_nil rfl rfl (by kernel_rfl) List.nodup_nil (by decide) (loops2 (by kernel_rfl) (by kernel_rfl) lk27 (by kernel_rfl) lk27b) ?_
  rintro ⟨ys, _⟩ r rows e
  simp only [CR.get, CR.elim] at e
  obtain ⟨h1, e⟩ := cond_some e
  obtain ⟨h7, ht⟩ := cond_some' h1
  simp only [Option.some.injEq, Prod.mk.injEq] at e
  obtain ⟨rfl, rfl⟩ := e
  refine ⟨rfl, (run27 ys).trans ?_⟩
  have ht' := ile_iff.mp ht
  have h0 : 0 ≤ total ys := by unfold total; rw [dlen_nat]; omega
  have e1 : iwrap .i64 (isub (total ys) (iwrap .i64 (isub 0 0))) = total ys := by
    have : iwrap .i64 (isub 0 0) = 0 := by rw [iwrap_id] <;> simp [isub]
    rw [this, iwrap_id] <;> simp only [isub] <;> omega
  have hn : ilt (total ys) 0 = false := by rw [ilt_false]; exact h0
  rw [e1, ieq_self, h7, ht, hn]
  cases hp : ilt 0 (total ys) with
  | false => rfl
  | true =>
    rw [ilt_iff] at hp
    have h2 : ile 1 (total ys) = true := by rw [ile_iff]; omega
    have h3 : fits (total ys) 0 48 = true := by rw [fits_iff]; omega
    rw [h2, h3]
    rfl

theorem s20 : Spec Try.prog 20 c20 := by
  refine spec_dataW mixed (inl := []) (ls := []) (ks := []) (cs := [(22, c22), (27, c27)]) (hcs_cons s22 (hcs_cons s27 hcs_nil)) rfl rfl (by kernel_rfl) List.nodup_nil List.nodup_nil (loops0 (by kernel_rfl)) ?_
  rintro ⟨xs, ys, _⟩ r rows e
  simp only [CR.get, CR.elim] at e
  obtain ⟨h1, e⟩ := cond_some e
  obtain ⟨hx, hy⟩ := cond_some' h1
  simp only [Option.some.injEq, Prod.mk.injEq] at e
  obtain ⟨rfl, rfl⟩ := e
  have hr := run20 xs ys
  have hxx := small_iff.mp hx
  have hyy := small_iff.mp hy
  rw [dlen_nat] at hxx hyy
  have e1 : iwrap .i64 (iadd (dlen xs) (dlen ys)) = iadd (dlen xs) (dlen ys) := by
    rw [iwrap_id] <;> simp only [iadd, dlen_nat] <;> omega
  rw [hx, hy, e1] at hr
  refine ⟨rfl, ?_⟩
  have hfl : flat [ys, xs] = app ys xs := by simp [flat, app]
  unfold pushL pushE
  cases h2 : allE xs with
  | false =>
    rw [h2] at hr
    exact ⟨_, hr, weak_tup (weak_nil' rfl) (Weak.refl _)⟩
  | true =>
    rw [h2] at hr
    cases h3 : allE ys with
    | false =>
      rw [h3] at hr
      exact ⟨_, hr, weak_tup (weak_nil' rfl) (Weak.refl _)⟩
    | true =>
      rw [h3] at hr
      cases h4 : ilt 4 (iadd (dlen xs) (dlen ys)) with
      | true =>
        rw [h4] at hr
        exact ⟨_, hr, weak_tup (weak_nil' rfl) (Weak.refl _)⟩
      | false =>
        rw [h4] at hr
        rw [ilt_false] at h4
        simp only [iadd, dlen_nat] at h4
        have h5 : ile (dlen [ys, xs]) 100 = true := rfl
        have h6 : ile (total [ys, xs]) 1000 = true := by
          rw [ile_iff]; simp only [total, dlen_nat, List.flatten_cons, List.flatten_nil, List.length_append, List.length_nil]; omega
        rw [h5, h6, hfl] at hr
        exact ⟨_, hr, Weak.refl _⟩

/- the plain laws -/
theorem few_len' (xs : List Entry) : (few xs).length ≤ 7 := by have := few_len xs; rw [dlen_nat] at this; omega
theorem few_small (xs : List Entry) : small (dlen (few xs)) = true := by rw [small_iff]; have := few_len xs; omega
theorem pushL_len (l f : List Entry) : (pushL l f).length ≤ l.length + f.length := by
  unfold pushL
  cases ieq (pushE l f) 0
  · simp
  · simp [app]; omega
theorem small_of {l : List Entry} (h : l.length ≤ 1000) : small (dlen l) = true := by rw [small_iff, dlen_nat]; omega
theorem dapp2 (a b : List Entry) : dapp (dapp [] a) b = app a b := by simp [dapp, app]

def c6 : Con := conT (.pair SE (.pair SE .unit)) fun _ => .ret (.bool true) []
theorem s6 : Spec Try.prog 6 c6 := by
  refine spec_data mixed (inl := []) (ls := []) (ks := []) (cs := cs6) (hcs_cons s8 (hcs_cons s12 (hcs_cons s15 (hcs_cons s16 (hcs_cons s20 (hcs_cons s21 hcs_nil)))))) rfl rfl (by kernel_rfl) List.nodup_nil List.nodup_nil (loops0 (by kernel_rfl)) ?_
  rintro ⟨xs, ys, _⟩ r rows h
  simp only [CR.get, CR.elim, Option.some.injEq, Prod.mk.injEq] at h
  obtain ⟨rfl, rfl⟩ := h
  refine ⟨rfl, (run6 xs ys).trans ?_⟩
  have lx := few_len' xs
  have ly := few_len' ys
  generalize few xs = l at lx ⊢
  generalize few ys = f at ly ⊢
  have hl : small (dlen l) = true := small_of (by omega)
  have hf : small (dlen f) = true := small_of (by omega)
  have hp : small (dlen (pushL l f)) = true := small_of (by have := pushL_len l f; omega)
  have e1 : iwrap .i64 (iadd (dlen l) (dlen f)) = iadd (dlen l) (dlen f) := by
    rw [iwrap_id] <;> simp only [iadd, dlen_nat] <;> omega
  have h1 : fits (dlen ([] : List Nat)) (dlen f) 48 = true := by
    rw [fits_iff]; simp only [dlen_nat, List.length_nil]; omega
  have h2 : fits (dlen (dapp [] f)) (dlen l) 48 = true := by
    rw [fits_iff]; simp only [dapp, dlen_nat, List.nil_append]; omega
  rw [hl, hf, hp, e1, dapp2, ← allE_allR, ← allE_allR]
  unfold pushL pushE
  cases h3 : allE l with
  | false => rfl
  | true =>
    cases h4 : allE f with
    | false => rfl
    | true =>
      cases h5 : ilt 4 (iadd (dlen l) (dlen f)) with
      | true => rfl
      | false =>
        have h6 : same (app f l) (app f l) = true := same_refl _
        simp only [cond_true, cond_false, ieq_self, h6]
        exact (congrArg (fun b => bif b then _ else none) h1).trans (congrArg (fun b => bif b then _ else none) h2)

theorem allE_app (a b : List Entry) : allE (app a b) = (bif allE a then allE b else false) := by
  unfold allE app
  rw [List.all_append]
  cases a.all isE <;> rfl
theorem pushE_zero {l f : List Entry} (h : ieq (pushE l f) 0 = true) : allE l = true ∧ allE f = true ∧ l.length + f.length ≤ 4 := by
  unfold pushE at h
  cases h1 : allE l <;> cases h2 : allE f <;> cases h3 : ilt 4 (iadd (dlen l) (dlen f)) <;> simp [h1, h2, h3, ieq] at h
  rw [ilt_false] at h3
  simp only [iadd, dlen_nat] at h3
  exact ⟨rfl, rfl, by omega⟩
theorem app_len (a b : List Entry) : (app a b).length = a.length + b.length := by simp [app]

theorem parts_none {l b a : List Entry} (h : ieq (pushE l b) 0 = false) : ieq (pushE l (app a b)) 0 = false := by
  cases hz : ieq (pushE l (app a b)) 0 with
  | false => rfl
  | true =>
    exfalso
    obtain ⟨h1, h2, h3⟩ := pushE_zero hz
    rw [allE_app] at h2
    obtain ⟨_, hb⟩ := cond_some' h2
    rw [app_len] at h3
    have hlt : ilt 4 (iadd (dlen l) (dlen b)) = false := by rw [ilt_false]; simp only [iadd, dlen_nat]; omega
    unfold pushE at h
    rw [h1, hb, hlt] at h
    cases h

theorem parts_err {l b a : List Entry} (h : ieq (pushE l b) 0 = true) : pushE (pushL l b) a = pushE l (app a b) := by
  obtain ⟨h1, h2, h3⟩ := pushE_zero h
  unfold pushL
  rw [h, cond_true]
  have hlen : ilt 4 (iadd (dlen (app b l)) (dlen a)) = ilt 4 (iadd (dlen l) (dlen (app a b))) := by
    rw [ilt_eq, ilt_eq]
    congr 1
    apply propext
    have e1 := app_len b l
    have e2 := app_len a b
    simp only [iadd, dlen_nat]
    omega
  unfold pushE
  rw [hlen, allE_app, allE_app, h1, h2]
  cases allE a <;> rfl

theorem parts_same {l b a : List Entry} (h : ieq (pushE l b) 0 = true) : pushL (pushL l b) a = pushL l (app a b) := by
  have he := parts_err (a := a) h
  have hx : pushL l b = app b l := by unfold pushL; rw [h]; rfl
  rw [hx] at he ⊢
  unfold pushL
  rw [he]
  have : app a (app b l) = app (app a b) l := by simp [app]
  rw [this]

theorem push_nil {l : List Entry} (h : rightE l = true) : pushE [] l = 0 ∧ pushL [] l = l := by
  have ha := rightE_all h
  unfold rightE at h
  have h4 : ile (dlen l) 4 = true := by cases h1 : ile 1 (dlen l) <;> cases h2 : ile (dlen l) 4 <;> simp [h1, h2] at h ⊢
  rw [ile_iff] at h4
  have hlt : ilt 4 (iadd (dlen ([] : List Entry)) (dlen l)) = false := by
    rw [ilt_false]; simp only [iadd, dlen_nat, List.length_nil] at h4 ⊢; omega
  have he : pushE [] l = 0 := by
    unfold pushE
    rw [ha, hlt]
    rfl
  refine ⟨he, ?_⟩
  unfold pushL
  rw [he]
  simp [app, ieq]

def c7 : Con := conT (.pair SE (.pair SE (.pair SE .unit))) fun _ => .ret (.bool true) []
theorem s7 : Spec Try.prog 7 c7 := by
  refine spec_data mixed (inl := []) (ls := []) (ks := []) (cs := cs6) (hcs_cons s8 (hcs_cons s12 (hcs_cons s15 (hcs_cons s16 (hcs_cons s20 (hcs_cons s21 hcs_nil)))))) rfl rfl (by kernel_rfl) List.nodup_nil List.nodup_nil (loops0 (by kernel_rfl)) ?_
  rintro ⟨xs, ys, zs, _⟩ r rows h
  simp only [CR.get, CR.elim, Option.some.injEq, Prod.mk.injEq] at h
  obtain ⟨rfl, rfl⟩ := h
  refine ⟨rfl, (run7 xs ys zs).trans ?_⟩
  have lx := few_len' xs
  have ly := few_len' ys
  have lz := few_len' zs
  generalize few xs = l at lx ⊢
  generalize few ys = a at ly ⊢
  generalize few zs = b at lz ⊢
  have p1 := pushL_len l b
  have p2 := pushL_len (pushL l b) a
  have p3 := pushL_len [] l
  simp only [List.length_nil] at p3
  have hl : small (dlen l) = true := small_of (by omega)
  have ha : small (dlen a) = true := small_of (by omega)
  have hb : small (dlen b) = true := small_of (by omega)
  have h1 : small (dlen (pushL l b)) = true := small_of (by omega)
  have h2 : small (dlen (pushL (pushL l b) a)) = true := small_of (by omega)
  have h3 : small (dlen (pushL [] l)) = true := small_of (by omega)
  have h4 : small (dlen (app a b)) = true := small_of (by rw [app_len]; omega)
  have f1 : fits (dlen ([] : List Nat)) (dlen a) 48 = true := by
    rw [fits_iff]; simp only [dlen_nat, List.length_nil]; omega
  have f2 : fits (dlen (dapp [] a)) (dlen b) 48 = true := by
    rw [fits_iff]; simp only [dapp, dlen_nat, List.nil_append]; omega
  have h5 : small (dlen ([] : List Nat)) = true := rfl
  rw [hl, ha, hb, h1, h2, h3, dapp2, h4, h5, f1, f2]
  have key : (bif bif ieq (pushE l b) 0 then false else true then some (AV.bool (bif ieq (pushE l (app a b)) 0 then false else true), ([] : List Blk))
      else bif ieq (pushE (pushL l b) a) (pushE l (app a b)) then bif true then some (.bool (same (pushL (pushL l b) a) (pushL l (app a b))), []) else none else some (.bool false, [])) = some (.bool true, []) := by
    cases he : ieq (pushE l b) 0 with
    | false => rw [parts_none he]; rfl
    | true => rw [parts_err he, parts_same he, ieq_self, same_refl]; rfl
  cases hr : rightE l with
  | false => exact key
  | true =>
    obtain ⟨e1, e2⟩ := push_nil hr
    rw [e1, e2, ieq_self, same_refl]
    exact key

end Am
end Go.Proofs.Ytkidcbialbffgaa
