/-
  The layer 4 (stack): what its smaller functions and their references compute, as contracts of the machine.
-/
import Derived.Test.YtkidcbialbffgaaAm20
import Derived.Test.YtkidcbialbffgaaProg
namespace Go.Proofs.Ytkidcbialbffgaa
namespace Am
open Go hiding Id
open Go.RowKit

set_option maxRecDepth 100000

theorem mixed : Try.prog.follows .mixedOrders = true := by kernel_rfl

abbrev EntryT : Ty := .pair (.int .i64) (.pair .id (.pair (.int .i64) .unit))
abbrev Entry : Type := EntryT.den

/-- an entry that may be -/
def isE (e : Entry) : Bool := bif ieq e.1 1 then ieq e.2.2.1 0 else bif ieq e.1 2 then bif ideq e.2.1 Id.zero then bif ile 0 e.2.2.1 then ilt e.2.2.1 16 else false else false else false
def zeroId (a : Id) : Bool := a.l.all fun c => u8eq c 0
def isR (e : Entry) : Bool := bif bif ieq e.1 1 then ieq e.2.2.1 0 else false then true else bif ieq e.1 2 then bif zeroId e.2.1 then bif ile 0 e.2.2.1 then ile e.2.2.1 15 else false else false else false
def idxBad (xs : List Entry) : Int := goL (fun (e : Entry) (i : Int) => bif isE e then .inl (i + 1) else .inr i) (fun _ => -1) xs 0
def allE (xs : List Entry) : Bool := xs.all isE
def allR (xs : List Entry) : Bool := xs.all isR
def eqE (a b : Entry) : Bool := bif ieq a.1 b.1 then bif ideq a.2.1 b.2.1 then ieq a.2.2.1 b.2.2.1 else false else false
def same : List Entry → List Entry → Bool
  | [], [] => true
  | a :: l, b :: m => eqE a b && same l m
  | _, _ => false

def c10 : Con := conT (.pair EntryT .unit) fun ys => .ret (.bool (isE ys.1)) []
def c11 : Con := conT (.pair EntryT .unit) fun ys => .ret (.bool (isR ys.1)) []
def c29 : Con := conT (.pair EntryT .unit) fun ys => .ret (.bool (!isE ys.1)) []
def c31 : Con := conD (decF EntryT 29) fun xs => .br (small (dlen xs)) (.ret (.int .i64 (idxBad xs)) []) .no
def c28 : Con := conD (decF EntryT 29) fun xs => .br (small (dlen xs)) (.ret (.bool (!allE xs)) []) .no
def c22 : Con := conT (.pair (.sl EntryT) .unit) fun ys => .br (small (dlen ys.1)) (.ret (.bool (allE ys.1)) []) .no
def c21 : Con := conT (.pair (.sl EntryT) .unit) fun ys => .br (small (dlen ys.1)) (.ret (.bool (allR ys.1)) []) .no
def c23 : Con := conT (.pair (.sl EntryT) (.pair (.sl EntryT) .unit)) fun ys => .br (small (dlen ys.1)) (.ret (.bool (same ys.1 ys.2.1)) []) .no

def l11 : Lp := { m := 43, keep := [1, 3, 7, 8], up := [], trim := true, outs := fun | .exit _ => [1, 3] | _ => [], sum := fun vs mem => match vs, mem with
  | [.loc 0 0, .bool true, .id a, .int .i64 0], [.box (.agg [.int .i64 k, .id a', .int .i64 h])] => .out (.exit 0) [(1, .loc 0 0), (3, .bool (zeroId a))] [.box (.agg [.int .i64 k, .id a', .int .i64 h])]
  | _, _ => .no }
def l21 : Lp := { m := 15, keep := [5, 6, 7], up := [], trim := true, outs := fun | .ret => [2] | _ => [], sum := fun vs mem => match vs, mem with
  | [v, .int .i64 n, .int .i64 0], [] => (match decS EntryT v with
    | some xs => .br (bif ieq n (dlen xs) then small (dlen xs) else false) (.br (allR xs) (.out (.exit 0) [] []) (.out .ret [(2, .bool false)] [])) .no
    | none => .no)
  | _, _ => .no }
def l15 : Lp := { m := 26, keep := [0, 1, 12, 13], up := [], trim := true, outs := fun | .ret => [4] | _ => [], sum := fun vs mem => match vs, mem with
  | [v, u, .int .i64 n, .int .i64 0], [] => (match decS EntryT v, decS EntryT u with
    | some xs, some ys => .br (bif ieq n (dlen xs) then bif small (dlen xs) then ieq (dlen xs) (dlen ys) else false else false) (.br (same xs ys) (.out (.exit 0) [] []) (.out .ret [(4, .bool false)] [])) .no
    | _, _ => .no)
  | _, _ => .no }
def l23 : Lp := { m := 26, keep := [0, 1, 12, 13], up := [], trim := true, outs := fun | .ret => [4] | _ => [], sum := l15.sum }
def l31 : Lp := { m := 19, keep := [0, 1, 7, 8], up := [], trim := true, outs := fun | .ret => [4] | _ => [], sum := fun vs mem => match vs, mem with
  | [v, .fn (.func 29) [] [], .int .i64 n, .int .i64 0], [] => (match decS EntryT v with
    | some xs => .br (bif ieq n (dlen xs) then small (dlen xs) else false) (.br (ilt (idxBad xs) 0) (.out (.exit 0) [] []) (.out .ret [(4, .int .i64 (idxBad xs))] [])) .no
    | none => .no)
  | _, _ => .no }
noncomputable def E11 : Env := mkE Try.prog [] [] 11 [(3, l11)]
noncomputable def E21 : Env := mkE Try.prog [(11, c11)] [] 21 [(2, l21)]
noncomputable def E31 : Env := mkE Try.prog [(29, c29)] [] 31 [(2, l31)]
noncomputable def E23 : Env := mkE Try.prog [] [] 23 [(4, l23)]
noncomputable def E15 : Env := mkE Try.prog [] [] 15 [(4, l15)]

theorem run10 (k h : Int) (a : Am.Id) : run (mkE Try.prog [] [] 10 []) [] 10 [.agg [.int .i64 k, .id a, .int .i64 h]] =
    bif ieq k 1 then some (.bool (ieq h 0), []) else bif ieq k 2 then bif ideq a Id.zero then bif ile 0 h then some (.bool (ilt h 16), []) else some (.bool false, []) else some (.bool false, []) else some (.bool false, []) := by kernel_rfl

noncomputable abbrev R11 (K : K) : Nat → List AV → List Blk → Option Res := rounds (E11) (callee (E11) 3) 11 l11 (loopAt Try.prog 11 0) K
theorem rd11 (k h : Int) (a a2 : Am.Id) (z : Bool) (i : Int) (K : K) (n : Nat) : R11 K (n + 1) [.loc 0 0, .bool z, .id a, .int .i64 i] [.box (.agg [.int .i64 k, .id a2, .int .i64 h])] =
    bif ilt i 32 then bif bif ile 0 i then ilt i 32 else false then bif z then R11 K n [.loc 0 0, .bool (u8eq (idget a (inat i)) (iu8 0)), .id a, .int .i64 (iwrap .i64 (iadd i 1))] [.box (.agg [.int .i64 k, .id a2, .int .i64 h])] else R11 K n [.loc 0 0, .bool false, .id a, .int .i64 (iwrap .i64 (iadd i 1))] [.box (.agg [.int .i64 k, .id a2, .int .i64 h])] else none else (Sum.out (.exit 0) ((Lp.outs l11 (.exit 0)).zip [.loc 0 0, .bool z]) [.box (.agg [.int .i64 k, .id a2, .int .i64 h])]).elim (Lp.m l11) K := by kernel_rfl

theorem run11 (k h : Int) (a : Am.Id) : run E11 [] 11 [.agg [.int .i64 k, .id a, .int .i64 h]] =
    bif ieq k 1 then bif bif ieq h 0 then false else true then bif ieq k 2 then bif zeroId a then bif ile 0 h then some (.bool (ile h 15), []) else some (.bool false, []) else some (.bool false, []) else some (.bool false, []) else some (.bool true, []) else bif ieq k 2 then bif zeroId a then bif ile 0 h then some (.bool (ile h 15), []) else some (.bool false, []) else some (.bool false, []) else some (.bool false, []) := by kernel_rfl

noncomputable abbrev R21 (K : K) : Nat → List AV → List Blk → Option Res := rounds (E21) (callee (E21) 3) 21 l21 (loopAt Try.prog 21 0) K
theorem rd21 (xs : List Entry) (i : Int) (K : K) (n : Nat) : R21 K (n + 1) [.sl EntryT xs none, .int .i64 (dlen xs), .int .i64 i] [] =
    bif ilt i (dlen xs) then bif bif ile 0 i then ilt i (dlen xs) else false then bif bif isR ((dget EntryT xs i).1, (Prod.snd (dget EntryT xs i)).1, (Prod.snd (Prod.snd (dget EntryT xs i))).1, ()) then false else true then (Sum.out .ret ((Lp.outs l21 .ret).zip [.bool false]) []).elim (Lp.m l21) K else R21 K n [.sl (.pair (.int .i64) (.pair .id (.pair (.int .i64) .unit))) xs none, .int .i64 (dlen xs), .int .i64 (iwrap .i64 (iadd i 1))] [] else none else (Sum.out (.exit 0) ((Lp.outs l21 (.exit 0)).zip []) []).elim (Lp.m l21) K := by kernel_rfl

theorem run21 (xs : List Entry) : run E21 [] 21 [.sl EntryT xs none] =
    bif bif ieq (dlen xs) (dlen xs) then small (dlen xs) else false then bif allR xs then some (.bool true, []) else some (.bool false, []) else none := by kernel_rfl

theorem run29 (e : Entry) : run (mkE Try.prog [(10, c10)] [] 29 []) [] 29 [enc EntryT e] =
    some (.bool (bif isE (e.1, (Prod.snd e).1, (Prod.snd (Prod.snd e)).1, ()) then false else true), []) := by kernel_rfl

noncomputable abbrev R31 (K : K) : Nat → List AV → List Blk → Option Res := rounds (E31) (callee (E31) 3) 31 l31 (loopAt Try.prog 31 0) K
theorem rd31 (xs : List Entry) (i : Int) (K : K) (n : Nat) : R31 K (n + 1) [.sl EntryT xs none, .fn (.func 29) [] [], .int .i64 (dlen xs), .int .i64 i] [] =
    bif ilt i (dlen xs) then bif bif ile 0 i then ilt i (dlen xs) else false then bif bif isE ((dget EntryT xs i).1, (Prod.snd (dget EntryT xs i)).1, (Prod.snd (Prod.snd (dget EntryT xs i))).1, ()) then false else true then (Sum.out .ret ((Lp.outs l31 .ret).zip [.int .i64 i]) []).elim (Lp.m l31) K else R31 K n [.sl (.pair (.int .i64) (.pair .id (.pair (.int .i64) .unit))) xs none, .fn (Fn.func 29) [] [], .int .i64 (dlen xs), .int .i64 (iwrap .i64 (iadd i 1))] [] else none else (Sum.out (.exit 0) ((Lp.outs l31 (.exit 0)).zip []) []).elim (Lp.m l31) K := by kernel_rfl

theorem run31 (xs : List Entry) : run E31 [] 31 [.sl EntryT xs none, .fn (.func 29) [] []] =
    bif bif ieq (dlen xs) (dlen xs) then small (dlen xs) else false then bif ilt (idxBad xs) 0 then some (.int .i64 (-1), []) else some (.int .i64 (idxBad xs), []) else none := by kernel_rfl

theorem run28 (xs : List Entry) : run (mkE Try.prog [(31, c31)] [] 28 []) [] 28 [.sl EntryT xs none, .fn (.func 29) [] []] =
    bif small (dlen xs) then some (.bool (ile 0 (idxBad xs)), []) else none := by kernel_rfl

theorem run22 (xs : List Entry) : run (mkE Try.prog [(28, c28)] [] 22 []) [] 22 [.sl EntryT xs none] =
    bif small (dlen xs) then some (.bool (bif bif allE xs then false else true then false else true), []) else none := by kernel_rfl

theorem run12 (xs : List Entry) : run (mkE Try.prog [(22, c22)] [] 12 []) [] 12 [.sl EntryT xs none] =
    bif ile 1 (dlen xs) then bif ile (dlen xs) 4 then bif small (dlen xs) then some (.bool (allE xs), []) else none else some (.bool false, []) else some (.bool false, []) := by kernel_rfl

theorem run13 (xs : List Entry) : run (mkE Try.prog [(21, c21)] [] 13 []) [] 13 [.sl EntryT xs none] =
    bif ilt 0 (dlen xs) then bif ilt (dlen xs) 5 then bif small (dlen xs) then some (.bool (allR xs), []) else none else some (.bool false, []) else some (.bool false, []) := by kernel_rfl

noncomputable abbrev R23 (K : K) : Nat → List AV → List Blk → Option Res := rounds (E23) (callee (E23) 3) 23 l23 (loopAt Try.prog 23 0) K
theorem rd23 (xs ys : List Entry) (i : Int) (K : K) (n : Nat) : R23 K (n + 1) [.sl EntryT xs none, .sl EntryT ys none, .int .i64 (dlen xs), .int .i64 i] [] =
    bif ilt i (dlen xs) then bif bif ile 0 i then ilt i (dlen xs) else false then bif bif ile 0 i then ilt i (dlen ys) else false then bif bif bif ieq (dget EntryT xs i).1 (dget EntryT ys i).1 then bif ideq (Prod.snd (dget EntryT xs i)).1 (Prod.snd (dget EntryT ys i)).1 then bif ieq (Prod.snd (Prod.snd (dget EntryT xs i))).1 (Prod.snd (Prod.snd (dget EntryT ys i))).1 then true else false else false else false then false else true then (Sum.out .ret ((Lp.outs l23 .ret).zip [.bool false]) []).elim (Lp.m l23) K else R23 K n [.sl (.pair (.int .i64) (.pair .id (.pair (.int .i64) .unit))) xs none, .sl (.pair (.int .i64) (.pair .id (.pair (.int .i64) .unit))) ys none, .int .i64 (dlen xs), .int .i64 (iwrap .i64 (iadd i 1))] [] else none else none else (Sum.out (.exit 0) ((Lp.outs l23 (.exit 0)).zip []) []).elim (Lp.m l23) K := by kernel_rfl

theorem run23 (xs ys : List Entry) : run E23 [] 23 [.sl EntryT xs none, .sl EntryT ys none] =
    bif bif ieq (dlen xs) (dlen ys) then false else true then some (.bool false, []) else bif bif ieq (dlen xs) (dlen xs) then bif small (dlen xs) then ieq (dlen xs) (dlen ys) else false else false then bif same xs ys then some (.bool true, []) else some (.bool false, []) else none := by kernel_rfl

noncomputable abbrev R15 (K : K) : Nat → List AV → List Blk → Option Res := rounds (E15) (callee (E15) 3) 15 l15 (loopAt Try.prog 15 0) K
theorem rd15 (xs ys : List Entry) (i : Int) (K : K) (n : Nat) : R15 K (n + 1) [.sl EntryT xs none, .sl EntryT ys none, .int .i64 (dlen xs), .int .i64 i] [] =
    bif ilt i (dlen xs) then bif bif ile 0 i then ilt i (dlen xs) else false then bif bif ile 0 i then ilt i (dlen ys) else false then bif bif bif ieq (dget EntryT xs i).1 (dget EntryT ys i).1 then bif ideq (Prod.snd (dget EntryT xs i)).1 (Prod.snd (dget EntryT ys i)).1 then bif ieq (Prod.snd (Prod.snd (dget EntryT xs i))).1 (Prod.snd (Prod.snd (dget EntryT ys i))).1 then true else false else false else false then false else true then (Sum.out .ret ((Lp.outs l15 .ret).zip [.bool false]) []).elim (Lp.m l15) K else R15 K n [.sl (.pair (.int .i64) (.pair .id (.pair (.int .i64) .unit))) xs none, .sl (.pair (.int .i64) (.pair .id (.pair (.int .i64) .unit))) ys none, .int .i64 (dlen xs), .int .i64 (iwrap .i64 (iadd i 1))] [] else none else none else (Sum.out (.exit 0) ((Lp.outs l15 (.exit 0)).zip []) []).elim (Lp.m l15) K := by kernel_rfl

theorem run15 (xs ys : List Entry) : run E15 [] 15 [.sl EntryT xs none, .sl EntryT ys none] =
    bif bif ieq (dlen xs) (dlen ys) then false else true then some (.bool false, []) else bif bif ieq (dlen xs) (dlen xs) then bif small (dlen xs) then ieq (dlen xs) (dlen ys) else false else false then bif same xs ys then some (.bool true, []) else some (.bool false, []) else none := by kernel_rfl

theorem run14 (xs ys : List Entry) : run (mkE Try.prog [(23, c23)] [] 14 []) [] 14 [.sl EntryT xs none, .sl EntryT ys none] =
    bif small (dlen xs) then some (.bool (same xs ys), []) else none := by kernel_rfl


theorem s10 : Spec Try.prog 10 c10 := by
  refine spec_data mixed (inl := []) (ls := []) (ks := []) hcs_nil rfl rfl (by kernel_rfl) List.nodup_nil List.nodup_nil (loops0 (by kernel_rfl)) ?_
  rintro ⟨⟨k, a, h, _⟩, _⟩ r rows e
  simp only [CR.get, CR.elim, Option.some.injEq, Prod.mk.injEq] at e
  obtain ⟨rfl, rfl⟩ := e
  refine ⟨rfl, (run10 k h a).trans ?_⟩
  simp only [bif_bool]
  rfl

theorem zero_goL {β : Type} (fin : Bool → β) : ∀ (l : List UInt8) (z : Bool), goL (fun (c : UInt8) (z : Bool) => Sum.inl (bif z then u8eq c 0 else false)) fin l z = fin (bif z then l.all (fun c => u8eq c 0) else false)
  | [], z => by cases z <;> rfl
  | c :: l, z => by
    simp only [goL]
    rw [zero_goL fin l]
    cases z <;> simp

theorem lk11 : LoopOk E11 (callee E11 3) 11 l11 (loopAt Try.prog 11 0) := by
  intro vs mem K r e
  simp only [l11] at e
  split at e
  · rename_i a k a' h
    have h0 := goL_goI (d := (0 : UInt8)) (xs := a.l) (fun (c : UInt8) (z : Bool) => Sum.inl (bif z then u8eq c 0 else false))
      (fun z => (Sum.out (.exit 0) ((Lp.outs l11 (.exit 0)).zip [.loc 0 0, .bool z]) [.box (.agg [.int .i64 k, .id a', .int .i64 h])]).elim (Lp.m l11) K) 32 0 true a.h.symm
    rw [List.drop_zero, zero_goL] at h0
    refine index_loop (len := 32) rfl (fun n i (z : Bool) => R11 K n [.loc 0 0, .bool z, .id a, .int .i64 i] [.box (.agg [.int .i64 k, .id a', .int .i64 h])]) (fun i z => .inl (bif z then u8eq (a.l.getD i 0) 0 else false))
      _ ?_ ?_ 32 0 true r rfl (h0.trans e)
    · intro n z
      exact (rd11 k h a a' z 32 K n).trans (by rfl)
    · intro n i z hi
      have h1 : ilt (i : Int) 32 = true := by rw [ilt_iff]; omega
      have h3 : iwrap .i64 (iadd (i : Int) 1) = ((i + 1 : Nat) : Int) := inc (n := 32) rfl (by omega)
      refine (rd11 k h a a' z i K n).trans ?_
      rw [h1, ile0, h3, inat_nat]
      cases z <;> rfl
  · cases e

theorem s11 : Spec Try.prog 11 c11 := by
  refine spec_data mixed (inl := []) (ls := [(3, l11)]) (ks := []) hcs_nil rfl rfl (by kernel_rfl) List.nodup_nil (by decide) (loops1 (by kernel_rfl) (by kernel_rfl) lk11) ?_
  rintro ⟨⟨k, a, h, _⟩, _⟩ r rows e
  simp only [CR.get, CR.elim, Option.some.injEq, Prod.mk.injEq] at e
  obtain ⟨rfl, rfl⟩ := e
  refine ⟨rfl, (run11 k h a).trans ?_⟩
  simp only [bif_bool, isR]
  cases ieq k 1 <;> cases ieq h 0 <;> rfl

theorem s29 : Spec Try.prog 29 c29 := by
  refine spec_data mixed (inl := []) (ls := []) (ks := []) (cs := [(10, c10)]) (hcs_cons s10 hcs_nil) rfl rfl (by kernel_rfl) List.nodup_nil List.nodup_nil (loops0 (by kernel_rfl)) ?_
  rintro ⟨e, _⟩ r rows h
  simp only [CR.get, CR.elim, Option.some.injEq, Prod.mk.injEq] at h
  obtain ⟨rfl, rfl⟩ := h
  refine ⟨rfl, (run29 e).trans ?_⟩
  cases isE e <;> rfl

theorem idx_go (K : K) (xs : List Entry) : ∀ (l : List Entry) (i : Int) (r : Res), 0 ≤ i →
    (bif ilt (goL (fun (e : Entry) (i : Int) => bif isE e then .inl (i + 1) else .inr i) (fun _ => -1) l i) 0 then (Sum.out (.exit 0) [] []).elim 19 K else (Sum.out .ret [(4, .int .i64 (goL (fun (e : Entry) (i : Int) => bif isE e then .inl (i + 1) else .inr i) (fun _ => -1) l i))] []).elim 19 K) = some r →
    goL (fun (e : Entry) (i : Int) => bif isE e then .inl (i + 1) else .inr ((Sum.out .ret [(4, .int .i64 i)] []).elim 19 K)) (fun _ => (Sum.out (.exit 0) [] []).elim 19 K) l i = some r
  | [], i, r, hi, e => e
  | x :: l, i, r, hi, e => by
    simp only [goL] at e ⊢
    cases hx : isE x with
    | true =>
      rw [hx] at e
      exact idx_go K xs l (i + 1) r (by omega) e
    | false =>
      rw [hx] at e
      have : ilt i 0 = false := by rw [ilt_false]; exact hi
      simp only [cond_false, this] at e
      exact e

theorem lk31 : LoopOk E31 (callee E31 3) 31 l31 (loopAt Try.prog 31 0) := by
  intro vs mem K r e
  simp only [l31] at e
  split at e
  · rename_i v n
    split at e
    · rename_i xs hv
      have := decS_eq hv
      subst this
      simp only [Sum.elim] at e
      obtain ⟨h1, e2⟩ := cond_some e
      clear e
      obtain ⟨h1, hs⟩ := cond_some' h1
      have := ieq_iff.mp h1
      subst this
      have hg := idx_go K xs xs 0 r (Int.le_refl _) e2
      -- the place that is counted is the loop's own
      have key : ∀ (k i : Nat), i + k = xs.length → goL (fun (e : Entry) (i : Int) => bif isE e then .inl (i + 1) else .inr ((Sum.out .ret [(4, .int .i64 i)] []).elim 19 K)) (fun _ => (Sum.out (.exit 0) [] []).elim 19 K) (xs.drop i) (i : Int) = some r →
          ∃ n, R31 K n [.sl EntryT xs none, .fn (.func 29) [] [], .int .i64 (dlen xs), .int .i64 (i : Int)] [] = some r := by
        intro k
        induction k with
        | zero =>
          intro i hi e
          rw [List.drop_of_length_le (by omega)] at e
          refine ⟨1, (rd31 xs i K 0).trans ?_⟩
          rw [ilt_ge (by omega)]
          exact e
        | succ k ih =>
          intro i hi e
          rw [drop_getD (d := EntryT.zero) (by omega)] at e
          simp only [goL] at e
          cases hx : isE (xs.getD i EntryT.zero) with
          | true =>
            rw [hx] at e
            obtain ⟨n, hn⟩ := ih (i + 1) (by omega) (by simpa using e)
            refine ⟨n + 1, (rd31 xs i K n).trans ?_⟩
            rw [ilt_lt (by omega), ile0, dget_nat, inc' hs (by omega)]
            have hx' : isE ((xs.getD i EntryT.zero).1, (Prod.snd (xs.getD i EntryT.zero)).1, (Prod.snd (Prod.snd (xs.getD i EntryT.zero))).1, ()) = true := hx
            rw [hx']
            exact hn
          | false =>
            rw [hx] at e
            refine ⟨1, (rd31 xs i K 0).trans ?_⟩
            rw [ilt_lt (by omega), ile0, dget_nat]
            have hx' : isE ((xs.getD i EntryT.zero).1, (Prod.snd (xs.getD i EntryT.zero)).1, (Prod.snd (Prod.snd (xs.getD i EntryT.zero))).1, ()) = false := hx
            rw [hx']
            exact e
      exact key xs.length 0 (by omega) hg
    · cases e
  · cases e

theorem s31 : Spec Try.prog 31 c31 := by
  refine spec_can mixed (inl := []) (ls := [(2, l31)]) (ks := []) (cs := [(29, c29)]) (hcs_cons s29 hcs_nil) (decF_ok rfl) (by kernel_rfl) List.nodup_nil (by decide) (loops1 (by kernel_rfl) (by kernel_rfl) lk31) ?_
  intro xs r rows e
  simp only [CR.get, CR.elim] at e
  obtain ⟨h1, e⟩ := cond_some e
  simp only [Option.some.injEq, Prod.mk.injEq] at e
  obtain ⟨rfl, rfl⟩ := e
  refine ⟨rfl, (run31 xs).trans ?_⟩
  rw [ieq_self, h1]
  have hm : ∀ (l : List Entry) (i : Int), 0 ≤ i → goL (fun (e : Entry) (i : Int) => (bif isE e then .inl (i + 1) else .inr i : Int ⊕ Int)) (fun _ => -1) l i < 0 → goL (fun (e : Entry) (i : Int) => (bif isE e then .inl (i + 1) else .inr i : Int ⊕ Int)) (fun _ => -1) l i = -1 := by
    intro l
    induction l with
    | nil => intro i _ _; rfl
    | cons x l ih =>
      intro i hi h
      simp only [goL] at h ⊢
      cases hx : isE x with
      | true => rw [hx] at h; exact ih (i + 1) (by omega) h
      | false => rw [hx] at h; simp only [cond_false] at h; omega
  cases hi : ilt (idxBad xs) 0 with
  | true =>
    have : idxBad xs = -1 := hm xs 0 (Int.le_refl _) (ilt_iff.mp hi)
    rw [this]; rfl
  | false => rfl

theorem idx_all (xs : List Entry) : ile 0 (idxBad xs) = !allE xs := by
  have : ∀ (l : List Entry) (i : Int), 0 ≤ i → ile 0 (goL (fun (e : Entry) (i : Int) => (bif isE e then .inl (i + 1) else .inr i : Int ⊕ Int)) (fun _ => -1) l i) = !l.all isE := by
    intro l
    induction l with
    | nil => intro i _; rfl
    | cons x l ih =>
      intro i hi
      simp only [goL, List.all_cons]
      cases hx : isE x with
      | true => simpa using ih (i + 1) (by omega)
      | false =>
        simp only [cond_false, Bool.false_and, Bool.not_false]
        exact ile_iff.mpr hi
  exact this xs 0 (Int.le_refl _)

theorem s28 : Spec Try.prog 28 c28 := by
  refine spec_can mixed (inl := []) (ls := []) (ks := []) (cs := [(31, c31)]) (hcs_cons s31 hcs_nil) (decF_ok rfl) (by kernel_rfl) List.nodup_nil List.nodup_nil (loops0 (by kernel_rfl)) ?_
  intro xs r rows e
  simp only [CR.get, CR.elim] at e
  obtain ⟨h1, e⟩ := cond_some e
  simp only [Option.some.injEq, Prod.mk.injEq] at e
  obtain ⟨rfl, rfl⟩ := e
  refine ⟨rfl, (run28 xs).trans ?_⟩
  rw [h1, idx_all]; rfl

theorem s22 : Spec Try.prog 22 c22 := by
  refine spec_data mixed (inl := []) (ls := []) (ks := []) (cs := [(28, c28)]) (hcs_cons s28 hcs_nil) rfl rfl (by kernel_rfl) List.nodup_nil List.nodup_nil (loops0 (by kernel_rfl)) ?_
  rintro ⟨xs, _⟩ r rows e
  simp only [CR.get, CR.elim] at e
  obtain ⟨h1, e⟩ := cond_some e
  simp only [Option.some.injEq, Prod.mk.injEq] at e
  obtain ⟨rfl, rfl⟩ := e
  refine ⟨rfl, (run22 xs).trans ?_⟩
  rw [h1]
  cases allE xs <;> rfl

theorem lk21 : LoopOk E21 (callee E21 3) 21 l21 (loopAt Try.prog 21 0) := by
  intro vs mem K r e
  simp only [l21] at e
  split at e
  · rename_i v n
    split at e
    · rename_i xs hv
      have := decS_eq hv
      subst this
      simp only [Sum.elim] at e
      obtain ⟨h1, e2⟩ := cond_some e
      clear e
      obtain ⟨h1, hs⟩ := cond_some' h1
      have := ieq_iff.mp h1
      subst this
      have hg : ∀ l : List Entry, goL (fun (x : Entry) (u : Unit) => bif isR x then .inl u else .inr ((Sum.out .ret [(2, .bool false)] []).elim 15 K)) (fun _ => (Sum.out (.exit 0) [] []).elim 15 K) l () =
          bif allR l then (Sum.out (.exit 0) [] []).elim 15 K else (Sum.out .ret [(2, .bool false)] []).elim 15 K := by
        intro l
        induction l with
        | nil => rfl
        | cons x l ih =>
          simp only [goL, allR, List.all_cons]
          cases hx : isR x with
          | true => simpa [allR] using ih
          | false => rfl
      refine list_loop (t := EntryT) (xs := xs) hs (fun n i (_ : Unit) => R21 K n [.sl EntryT xs none, .int .i64 (dlen xs), .int .i64 i] []) _ _ ?_ ?_ ((hg xs).trans e2)
      · intro n i _ h
        exact (rd21 xs i K n).trans (by rw [h]; rfl)
      · intro n i _ h h0
        refine (rd21 xs i K n).trans ?_
        have e : isR ((dget EntryT xs i).1, (Prod.snd (dget EntryT xs i)).1, (Prod.snd (Prod.snd (dget EntryT xs i))).1, ()) = isR (dget EntryT xs i) := rfl
        rw [h, h0, e]
        cases isR (dget EntryT xs i) <;> rfl
    · cases e
  · cases e

theorem s21 : Spec Try.prog 21 c21 := by
  refine spec_data mixed (inl := []) (ls := [(2, l21)]) (ks := []) (cs := [(11, c11)]) (hcs_cons s11 hcs_nil) rfl rfl (by kernel_rfl) List.nodup_nil (by decide) (loops1 (by kernel_rfl) (by kernel_rfl) lk21) ?_
  rintro ⟨xs, _⟩ r rows e
  simp only [CR.get, CR.elim] at e
  obtain ⟨h1, e⟩ := cond_some e
  simp only [Option.some.injEq, Prod.mk.injEq] at e
  obtain ⟨rfl, rfl⟩ := e
  refine ⟨rfl, (run21 xs).trans ?_⟩
  rw [h1, ieq_self]
  cases allR xs <;> rfl

theorem same_go {β : Type} (x y : β) {xs ys : List Entry} (h : xs.length = ys.length) : ∀ (k i : Nat), i + k = xs.length →
    goI (fun i (u : Unit) => (bif eqE (xs.getD i EntryT.zero) (ys.getD i EntryT.zero) then .inl u else .inr y : Unit ⊕ β)) (fun _ => x) k i () = bif same (xs.drop i) (ys.drop i) then x else y
  | 0, i, hi => by rw [List.drop_of_length_le (by omega), List.drop_of_length_le (by omega)]; rfl
  | k + 1, i, hi => by
    rw [drop_getD (d := EntryT.zero) (by omega : i < xs.length), drop_getD (d := EntryT.zero) (by omega : i < ys.length)]
    simp only [goI, same]
    cases eqE (xs.getD i EntryT.zero) (ys.getD i EntryT.zero) with
    | true => simpa using same_go x y h k (i + 1) (by omega)
    | false => rfl

theorem eqE_eta (a b : Entry) : (bif ieq a.1 b.1 then bif ideq (Prod.snd a).1 (Prod.snd b).1 then bif ieq (Prod.snd (Prod.snd a)).1 (Prod.snd (Prod.snd b)).1 then true else false else false else false) = eqE a b := by
  unfold eqE
  cases ieq a.1 b.1 <;> cases ideq (Prod.snd a).1 (Prod.snd b).1 <;> cases ieq (Prod.snd (Prod.snd a)).1 (Prod.snd (Prod.snd b)).1 <;> rfl

theorem lk15 : LoopOk E15 (callee E15 3) 15 l15 (loopAt Try.prog 15 0) := by
  intro vs mem K r e
  simp only [l15] at e
  split at e
  · rename_i v u n
    split at e
    · rename_i xs ys hv hu
      have := decS_eq hv
      subst this
      have := decS_eq hu
      subst this
      simp only [Sum.elim] at e
      obtain ⟨h1, e2⟩ := cond_some e
      clear e
      obtain ⟨h1, hs⟩ := cond_some' h1
      obtain ⟨hs, hl⟩ := cond_some' hs
      have := ieq_iff.mp h1
      subst this
      have hl : xs.length = ys.length := by have := ieq_iff.mp hl; simp only [dlen_nat] at this; omega
      have hg := same_go ((Sum.out (.exit 0) [] []).elim 26 K) ((Sum.out .ret [(4, .bool false)] []).elim 26 K) hl xs.length 0 (by omega)
      simp only [List.drop_zero] at hg
      refine index_loop (len := xs.length) hs (fun n i (_ : Unit) => R15 K n [.sl EntryT xs none, .sl EntryT ys none, .int .i64 (dlen xs), .int .i64 i] []) _ _ ?_ ?_ xs.length 0 () r (by omega) (hg.trans e2)
      · intro n _
        exact (rd15 xs ys _ K n).trans (by rw [ilt_ge (Nat.le_refl _)]; rfl)
      · intro n i _ hi
        refine (rd15 xs ys i K n).trans ?_
        rw [ilt_lt hi, ile0, ilt_lt (xs := ys) (by omega), inc' hs hi, eqE_eta, dget_nat, dget_nat]
        cases eqE (xs.getD i EntryT.zero) (ys.getD i EntryT.zero) <;> rfl
    · cases e
  · cases e

theorem lk23 : LoopOk E23 (callee E23 3) 23 l23 (loopAt Try.prog 23 0) := by
  intro vs mem K r e
  simp only [l23, l15] at e
  split at e
  · rename_i v u n
    split at e
    · rename_i xs ys hv hu
      have := decS_eq hv
      subst this
      have := decS_eq hu
      subst this
      simp only [Sum.elim] at e
      obtain ⟨h1, e2⟩ := cond_some e
      clear e
      obtain ⟨h1, hs⟩ := cond_some' h1
      obtain ⟨hs, hl⟩ := cond_some' hs
      have := ieq_iff.mp h1
      subst this
      have hl : xs.length = ys.length := by have := ieq_iff.mp hl; simp only [dlen_nat] at this; omega
      have hg := same_go ((Sum.out (.exit 0) [] []).elim 26 K) ((Sum.out .ret [(4, .bool false)] []).elim 26 K) hl xs.length 0 (by omega)
      simp only [List.drop_zero] at hg
      refine index_loop (len := xs.length) hs (fun n i (_ : Unit) => R23 K n [.sl EntryT xs none, .sl EntryT ys none, .int .i64 (dlen xs), .int .i64 i] []) _ _ ?_ ?_ xs.length 0 () r (by omega) (hg.trans e2)
      · intro n _
        exact (rd23 xs ys _ K n).trans (by rw [ilt_ge (Nat.le_refl _)]; rfl)
      · intro n i _ hi
        refine (rd23 xs ys i K n).trans ?_
        rw [ilt_lt hi, ile0, ilt_lt (xs := ys) (by omega), inc' hs hi, eqE_eta, dget_nat, dget_nat]
        cases eqE (xs.getD i EntryT.zero) (ys.getD i EntryT.zero) <;> rfl
    · cases e
  · cases e

theorem same_len : ∀ {xs ys : List Entry}, same xs ys = true → xs.length = ys.length
  | [], [], _ => rfl
  | _ :: _, _ :: _, h => by
    simp only [same, Bool.and_eq_true] at h
    simp [same_len h.2]
  | [], _ :: _, h => by simp [same] at h
  | _ :: _, [], h => by simp [same] at h
theorem same_ne {xs ys : List Entry} (h : ieq (dlen xs) (dlen ys) = false) : same xs ys = false := by
  cases hs : same xs ys with
  | false => rfl
  | true =>
    rw [ieq_false] at h
    exact absurd (by simp only [dlen_nat, same_len hs]) h

theorem s23 : Spec Try.prog 23 c23 := by
  refine spec_data mixed (inl := []) (ls := [(4, l23)]) (ks := []) (cs := []) hcs_nil rfl rfl (by kernel_rfl) List.nodup_nil (by decide) (loops1 (by kernel_rfl) (by kernel_rfl) lk23) ?_
  rintro ⟨xs, ys, _⟩ r rows e
  simp only [CR.get, CR.elim] at e
  obtain ⟨h1, e⟩ := cond_some e
  simp only [Option.some.injEq, Prod.mk.injEq] at e
  obtain ⟨rfl, rfl⟩ := e
  refine ⟨rfl, (run23 xs ys).trans ?_⟩
  cases hl : ieq (dlen xs) (dlen ys) with
  | false => rw [same_ne hl]; rfl
  | true =>
    rw [h1, ieq_self]
    cases same xs ys <;> rfl

def c15 : Con := conT (.pair (.sl EntryT) (.pair (.sl EntryT) .unit)) fun ys => .br (small (dlen ys.1)) (.ret (.bool (same ys.1 ys.2.1)) []) .no
theorem s15 : Spec Try.prog 15 c15 := by
  refine spec_data mixed (inl := []) (ls := [(4, l15)]) (ks := []) (cs := []) hcs_nil rfl rfl (by kernel_rfl) List.nodup_nil (by decide) (loops1 (by kernel_rfl) (by kernel_rfl) lk15) ?_
  rintro ⟨xs, ys, _⟩ r rows e
  simp only [CR.get, CR.elim] at e
  obtain ⟨h1, e⟩ := cond_some e
  simp only [Option.some.injEq, Prod.mk.injEq] at e
  obtain ⟨rfl, rfl⟩ := e
  refine ⟨rfl, (run15 xs ys).trans ?_⟩
  cases hl : ieq (dlen xs) (dlen ys) with
  | false => rw [same_ne hl]; rfl
  | true =>
    rw [h1, ieq_self]
    cases same xs ys <;> rfl

theorem s14 : Spec Try.prog 14 c15 := by
  refine spec_data mixed (inl := []) (ls := []) (ks := []) (cs := [(23, c23)]) (hcs_cons s23 hcs_nil) rfl rfl (by kernel_rfl) List.nodup_nil List.nodup_nil (loops0 (by kernel_rfl)) ?_
  rintro ⟨xs, ys, _⟩ r rows e
  simp only [CR.get, CR.elim] at e
  obtain ⟨h1, e⟩ := cond_some e
  simp only [Option.some.injEq, Prod.mk.injEq] at e
  obtain ⟨rfl, rfl⟩ := e
  exact ⟨rfl, (run14 xs ys).trans (by rw [h1]; rfl)⟩

/-- a stack that may be -/
def rightE (xs : List Entry) : Bool := bif ile 1 (dlen xs) then bif ile (dlen xs) 4 then allE xs else false else false
def rightR (xs : List Entry) : Bool := bif ilt 0 (dlen xs) then bif ilt (dlen xs) 5 then allR xs else false else false
def c12 : Con := conT (.pair (.sl EntryT) .unit) fun ys => .ret (.bool (rightE ys.1)) []
def c13 : Con := conT (.pair (.sl EntryT) .unit) fun ys => .ret (.bool (rightR ys.1)) []

theorem s12 : Spec Try.prog 12 c12 := by
  refine spec_data mixed (inl := []) (ls := []) (ks := []) (cs := [(22, c22)]) (hcs_cons s22 hcs_nil) rfl rfl (by kernel_rfl) List.nodup_nil List.nodup_nil (loops0 (by kernel_rfl)) ?_
  rintro ⟨xs, _⟩ r rows e
  simp only [CR.get, CR.elim, Option.some.injEq, Prod.mk.injEq] at e
  obtain ⟨rfl, rfl⟩ := e
  refine ⟨rfl, (run12 xs).trans ?_⟩
  simp only [rightE]
  cases ile 1 (dlen xs) with
  | false => rfl
  | true =>
    cases h : ile (dlen xs) 4 with
    | false => rfl
    | true =>
      have hs : small (dlen xs) = true := by rw [small_iff]; rw [ile_iff] at h; omega
      rw [hs]; rfl

theorem s13 : Spec Try.prog 13 c13 := by
  refine spec_data mixed (inl := []) (ls := []) (ks := []) (cs := [(21, c21)]) (hcs_cons s21 hcs_nil) rfl rfl (by kernel_rfl) List.nodup_nil List.nodup_nil (loops0 (by kernel_rfl)) ?_
  rintro ⟨xs, _⟩ r rows e
  simp only [CR.get, CR.elim, Option.some.injEq, Prod.mk.injEq] at e
  obtain ⟨rfl, rfl⟩ := e
  refine ⟨rfl, (run13 xs).trans ?_⟩
  simp only [rightR]
  cases ilt 0 (dlen xs) with
  | false => rfl
  | true =>
    cases h : ilt (dlen xs) 5 with
    | false => rfl
    | true =>
      have hs : small (dlen xs) = true := by rw [small_iff]; rw [ilt_iff] at h; omega
      rw [hs]; rfl

end Am
end Go.Proofs.Ytkidcbialbffgaa
