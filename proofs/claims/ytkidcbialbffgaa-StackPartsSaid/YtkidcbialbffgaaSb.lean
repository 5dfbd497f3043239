/-
  The layer 4 (stack): a stack's bytes, and the document's.
-/
import Derived.Test.YtkidcbialbffgaaSa
namespace Go.Proofs.Ytkidcbialbffgaa
namespace Am
open Go hiding Id
open Go.RowKit
set_option maxRecDepth 100000

def textE (e : Entry) : List UInt8 := bif ieq e.1 1 then e.2.1.l else [iu8 (iwrap .u8 e.2.2.1)]
/-- an entry's bytes -/
def bytesE (e : Entry) : List UInt8 := iu8 (iwrap .u8 e.1) :: textE e
def bytesR (e : Entry) : List UInt8 := bif ieq e.1 2 then [2, iu8 (iwrap .u8 e.2.2.1)] else sapp [1] e.2.1.l
def bytesAll (xs : List Entry) : List UInt8 := xs.flatMap bytesE
def bytesAllR (xs : List Entry) : List UInt8 := xs.flatMap bytesR

def c24 : Con := conT (.pair EntryT .unit) fun ys => .ret (.str (bytesR ys.1)) []
def l17 : Lp := { m := 23, keep := [3, 11, 12, 13], up := [], trim := true, outs := fun | .exit _ => [3] | _ => [], sum := fun vs mem => match vs, mem with
  | [.str out, v, .int .i64 n, .int .i64 0], [.row e 1] => (match decS EntryT v with
    | some xs => .br (bif ieq n (dlen xs) then bif ile (dlen xs) 7 then ile (dlen out) 1 else false else false) (.out (.exit 0) [(3, .str (sapp out (bytesAllR xs)))] [.row e 1]) .no
    | none => .no)
  | _, _ => .no }
def l9 : Lp := { m := 42, keep := [4, 14, 15, 16], up := [], trim := true, outs := fun | .exit _ => [4] | _ => [], sum := fun vs mem => match vs, mem with
  | [.sl .u8 out (some 0), v, .int .i64 n, .int .i64 0], [.row e 1] => (match decS EntryT v with
    | some xs => .br (bif ieq n (dlen xs) then bif ile (dlen xs) 4 then bif ile (dlen out) 1 then Nat.beq e 5 else false else false else false) (.out (.exit 0) [(4, .sl .u8 (dapp out (bytesAll xs)) (some 0))] [.row e 1]) .no
    | none => .no)
  | _, _ => .no }
noncomputable def E17 : Env := mkE Try.prog [(24, c24)] [] 17 [(3, l17)]
noncomputable def E9 : Env := mkE Try.prog [(12, c12)] [] 9 [(5, l9)]
def c17 : Con := conT (.pair (.sl EntryT) .unit) fun ys => .br (ile (dlen ys.1) 7) (.ret (.str (iu8 (iwrap .u8 (dlen ys.1)) :: bytesAllR ys.1)) []) .no
def c9 : Con := conT (.pair (.sl EntryT) .unit) fun ys => .br (rightE ys.1) (.ret (.tup [.str (iu8 (iwrap .u8 (dlen ys.1)) :: bytesAll ys.1), .int .i64 0]) []) (.ret (.tup [.str [], .int .i64 1]) [])
def few (xs : List Entry) : List Entry := dsub xs 0 (imin (dlen xs) 7)
def c8 : Con := conT (.pair (.sl EntryT) .unit) fun ys => .ret (.sl EntryT (few ys.1) none) []
def c16 : Con := conT .unit fun _ => .ret (.bool true) []
def cs3 : List (Nat × Con) := [(8, c8), (9, c9), (10, c10), (11, c11), (12, c12), (13, c13), (14, c15), (15, c15), (16, c16), (17, c17)]

theorem run24 (k h : Int) (a : Am.Id) : run (mkE Try.prog [] [] 24 []) [] 24 [.agg [.int .i64 k, .id a, .int .i64 h]] =
    bif ieq k 2 then some (.str [iu8 2, iu8 (iwrap .u8 h)], []) else bif short (dlen [1]) (dlen a.1) then some (.str (sapp [1] a.1), []) else none := by kernel_rfl

noncomputable abbrev R17 (K : K) : Nat → List AV → List Blk → Option Res := rounds (E17) (callee (E17) 3) 17 l17 (loopAt Try.prog 17 0) K
theorem rd17 (xs : List Entry) (i : Int) (out : List UInt8) (e : TypeId) (K : K) (n : Nat) : R17 K (n + 1) [.str out, .sl EntryT xs none, .int .i64 (dlen xs), .int .i64 i] [.row e 1] =
    bif ilt i (dlen xs) then bif bif ile 0 i then ilt i (dlen xs) else false then bif short (dlen out) (dlen (bytesR ((dget EntryT xs i).1, (Prod.snd (dget EntryT xs i)).1, (Prod.snd (Prod.snd (dget EntryT xs i))).1, ()))) then R17 K n [.str (sapp out (bytesR ((dget EntryT xs i).1, (Prod.snd (dget EntryT xs i)).1, (Prod.snd (Prod.snd (dget EntryT xs i))).1, ()))), .sl (.pair (.int .i64) (.pair .id (.pair (.int .i64) .unit))) xs none, .int .i64 (dlen xs), .int .i64 (iwrap .i64 (iadd i 1))] [.row e 1] else none else none else (Sum.out (.exit 0) ((Lp.outs l17 (.exit 0)).zip [.str out]) [.row e 1]).elim (Lp.m l17) K := by kernel_rfl

theorem run17 (xs : List Entry) : run E17 [] 17 [.sl EntryT xs none] =
    bif bif ieq (dlen xs) (dlen xs) then bif ile (dlen xs) 7 then ile (dlen [iu8 (iwrap .u8 (dlen xs))]) 1 else false else false then some (.str (sapp [iu8 (iwrap .u8 (dlen xs))] (bytesAllR xs)), []) else none := by kernel_rfl

noncomputable abbrev R9 (K : K) : Nat → List AV → List Blk → Option Res := rounds (E9) (callee (E9) 3) 9 l9 (loopAt Try.prog 9 0) K
theorem rd9 (xs : List Entry) (i : Int) (out : List UInt8) (K : K) (n : Nat) : R9 K (n + 1) [.sl .u8 out (some 0), .sl EntryT xs none, .int .i64 (dlen xs), .int .i64 i] [.row 5 1] =
    bif ilt i (dlen xs) then bif bif ile 0 i then ilt i (dlen xs) else false then bif fits (dlen out) (dlen [iu8 (iwrap .u8 (dget EntryT xs i).1)]) 1 then bif ieq (dget EntryT xs i).1 1 then bif fits (dlen (dapp out [iu8 (iwrap .u8 (dget EntryT xs i).1)])) (dlen (Prod.fst (Prod.snd (dget EntryT xs i))).1) 1 then R9 K n [.sl .u8 (dapp (dapp out [iu8 (iwrap .u8 (dget EntryT xs i).1)]) (Prod.fst (Prod.snd (dget EntryT xs i))).1) (some 0), .sl (.pair (.int .i64) (.pair .id (.pair (.int .i64) .unit))) xs none, .int .i64 (dlen xs), .int .i64 (iwrap .i64 (iadd i 1))] [.row 5 1] else none else bif fits (dlen (dapp out [iu8 (iwrap .u8 (dget EntryT xs i).1)])) (dlen [iu8 (iwrap .u8 (Prod.snd (Prod.snd (dget EntryT xs i))).1)]) 1 then R9 K n [.sl .u8 (dapp (dapp out [iu8 (iwrap .u8 (dget EntryT xs i).1)]) [iu8 (iwrap .u8 (Prod.snd (Prod.snd (dget EntryT xs i))).1)]) (some 0), .sl (.pair (.int .i64) (.pair .id (.pair (.int .i64) .unit))) xs none, .int .i64 (dlen xs), .int .i64 (iwrap .i64 (iadd i 1))] [.row 5 1] else none else none else none else (Sum.out (.exit 0) ((Lp.outs l9 (.exit 0)).zip [.sl .u8 out (some 0)]) [.row 5 1]).elim (Lp.m l9) K := by kernel_rfl

theorem run9 (xs : List Entry) : run E9 [] 9 [.sl EntryT xs none] =
    bif bif rightE xs then false else true then some (.tup [.str [], .int .i64 1], []) else bif bif ieq (dlen xs) (dlen xs) then bif ile (dlen xs) 4 then bif ile (dlen [iu8 (iwrap .u8 (dlen xs))]) 1 then true else false else false else false then some (.tup [.str (dapp [iu8 (iwrap .u8 (dlen xs))] (bytesAll xs)), .int .i64 0], []) else none := by kernel_rfl

theorem run8 (xs : List Entry) : run (mkE Try.prog [] [] 8 []) [] 8 [.sl EntryT xs none] =
    bif bif bif ile 0 0 then ile 0 (imin (dlen xs) 7) else false then ile (imin (dlen xs) 7) (dlen xs) else false then some (.sl (.pair (.int .i64) (.pair .id (.pair (.int .i64) .unit))) (dsub xs 0 (imin (dlen xs) 7)) none, []) else none := by kernel_rfl

theorem run16 : run (mkE Try.prog [(9, c9)] [] 16 []) [] 16 [] =
    bif rightE [(2, Id.zero, 3, ())] then bif ieq 0 0 then some (.bool (seq (iu8 (iwrap .u8 (dlen [(2, Id.zero, 3, ())])) :: bytesAll [(2, Id.zero, 3, ())]) [1, 2, 3]), []) else some (.bool false, []) else bif ieq 1 0 then some (.bool (seq [] [1, 2, 3]), []) else some (.bool false, []) := by kernel_rfl

theorem run3 (xs ys : List Entry) (e : Entry) : run (mkE Try.prog cs3 [] 3 []) [] 3 [.sl EntryT xs none, .sl EntryT ys none, enc EntryT e] =
    bif rightE (few xs) then bif bif bif beq (isE (e.1, (Prod.snd e).1, (Prod.snd (Prod.snd e)).1, ())) (isR (e.1, (Prod.snd e).1, (Prod.snd (Prod.snd e)).1, ())) then false else true then false else true then bif bif bif beq (rightE (few xs)) (rightR (few xs)) then false else true then false else true then bif small (dlen (few xs)) then bif small (dlen (few xs)) then bif bif bif beq (same (few xs) (few ys)) (same (few xs) (few ys)) then false else true then false else true then bif small (dlen (few xs)) then bif bif bif same (few xs) (few xs) then false else true then false else true then bif bif rightR (few xs) then false else true then bif ieq 0 1 then some (.bool (seq (iu8 (iwrap .u8 (dlen (few xs))) :: bytesAll (few xs)) []), []) else some (.bool false, []) else bif ieq 0 0 then bif ile (dlen (few xs)) 7 then some (.bool (seq (iu8 (iwrap .u8 (dlen (few xs))) :: bytesAll (few xs)) (iu8 (iwrap .u8 (dlen (few xs))) :: bytesAllR (few xs))), []) else none else some (.bool false, []) else some (.bool false, []) else none else some (.bool false, []) else none else none else some (.bool false, []) else some (.bool false, []) else bif bif bif beq (isE (e.1, (Prod.snd e).1, (Prod.snd (Prod.snd e)).1, ())) (isR (e.1, (Prod.snd e).1, (Prod.snd (Prod.snd e)).1, ())) then false else true then false else true then bif bif bif beq (rightE (few xs)) (rightR (few xs)) then false else true then false else true then bif small (dlen (few xs)) then bif small (dlen (few xs)) then bif bif bif beq (same (few xs) (few ys)) (same (few xs) (few ys)) then false else true then false else true then bif small (dlen (few xs)) then bif bif bif same (few xs) (few xs) then false else true then false else true then bif bif rightR (few xs) then false else true then bif ieq 1 1 then some (.bool (seq [] []), []) else some (.bool false, []) else bif ieq 1 0 then bif ile (dlen (few xs)) 7 then some (.bool (seq [] (iu8 (iwrap .u8 (dlen (few xs))) :: bytesAllR (few xs))), []) else none else some (.bool false, []) else some (.bool false, []) else none else some (.bool false, []) else none else none else some (.bool false, []) else some (.bool false, []) := by kernel_rfl


theorem id_dlen (a : Id) : dlen a.l = 32 := by rw [dlen_nat, a.h]; rfl

theorem s24 : Spec Try.prog 24 c24 := by
  refine spec_data mixed (inl := []) (ls := []) (ks := []) (cs := []) hcs_nil rfl rfl (by kernel_rfl) List.nodup_nil List.nodup_nil (loops0 (by kernel_rfl)) ?_
  rintro ⟨⟨k, a, h, _⟩, _⟩ r rows e
  simp only [CR.get, CR.elim, Option.some.injEq, Prod.mk.injEq] at e
  obtain ⟨rfl, rfl⟩ := e
  refine ⟨rfl, (run24 k h a).trans ?_⟩
  have hs : short (dlen [1]) (dlen a.l) = true := by rw [id_dlen]; rfl
  rw [hs]
  simp only [bytesR]
  cases ieq k 2 <;> rfl

theorem bytesR_len (e : Entry) : (bytesR e).length ≤ 33 := by
  unfold bytesR
  cases ieq e.1 2
  · simp [sapp, e.2.1.h]
  · simp
theorem bytesE_len (e : Entry) : (bytesE e).length ≤ 33 := by
  unfold bytesE textE
  cases ieq e.1 1
  · simp
  · simp [e.2.1.h]

theorem go17 {β : Type} (fin : List UInt8 → Option β) : ∀ (l : List Entry) (out : List UInt8), out.length + 33 * l.length ≤ 1000 →
    goL (fun (x : Entry) (out : List UInt8) => (bif short (dlen out) (dlen (bytesR x)) then .inl (sapp out (bytesR x)) else .inr none : List UInt8 ⊕ Option β)) fin l out = fin (sapp out (bytesAllR l))
  | [], out, _ => by simp [goL, sapp, bytesAllR]
  | x :: l, out, h => by
    have hx := bytesR_len x
    simp only [List.length_cons] at h
    have hs : short (dlen out) (dlen (bytesR x)) = true := by rw [short_iff, dlen_nat, dlen_nat]; omega
    simp only [goL, hs, cond_true]
    rw [go17 fin l _ (by simp only [sapp, List.length_append]; omega)]
    simp [sapp, bytesAllR]

theorem lk17 : LoopOk E17 (callee E17 3) 17 l17 (loopAt Try.prog 17 0) := by
  intro vs mem K r e
  simp only [l17] at e
  split at e
  · rename_i out v n ty
    split at e
    · rename_i xs hv
      have := decS_eq hv
      subst this
      simp only [Sum.elim] at e
      obtain ⟨h1, e2⟩ := cond_some e
      clear e
      obtain ⟨h1, hs⟩ := cond_some' h1
      obtain ⟨h7, ho⟩ := cond_some' hs
      have := ieq_iff.mp h1
      subst this
      rw [ile_iff, dlen_nat] at h7 ho
      have hsm : small (dlen xs) = true := by rw [small_iff, dlen_nat]; omega
      have hg := go17 (fun o => (Sum.out (.exit 0) [(3, .str o)] [.row ty 1]).elim 23 K) xs out (by omega)
      refine list_loop (t := EntryT) (xs := xs) hsm (fun n i (o : List UInt8) => R17 K n [.str o, .sl EntryT xs none, .int .i64 (dlen xs),   .int .i64 i] [.row ty 1]) _ _ ?_ ?_ (hg.trans e2)
      · intro n i o h
        exact (rd17 xs i o ty K n).trans (by rw [h]; rfl)
      · intro n i o h h0
        refine (rd17 xs i o ty K n).trans ?_
        have e : bytesR ((dget EntryT xs i).1, (Prod.snd (dget EntryT xs i)).1, (Prod.snd (Prod.snd (dget EntryT xs i))).1, ()) = bytesR (dget EntryT xs i) := rfl
        rw [h, h0, e]
        simp only [cond_true]
        cases short (dlen o) (dlen (bytesR (dget EntryT xs i))) <;> rfl
    · cases e
  · cases e

theorem go9 {β : Type} (fin : List UInt8 → Option β) : ∀ (l : List Entry) (out : List UInt8), out.length + 33 * l.length ≤ 1000 →
    goL (fun (x : Entry) (out : List UInt8) => (bif fits (dlen out) (dlen [iu8 (iwrap .u8 x.1)]) 1 then bif fits (dlen (dapp out [iu8 (iwrap .u8 x.1)])) (dlen (textE x)) 1 then .inl (dapp (dapp out [iu8 (iwrap .u8 x.1)]) (textE x)) else .inr none else .inr none : List UInt8 ⊕ Option β)) fin l out = fin (dapp out (bytesAll l))
  | [], out, _ => by simp [goL, dapp, bytesAll]
  | x :: l, out, h => by
    have hx := bytesE_len x
    simp only [List.length_cons, bytesE] at h hx
    have hs : fits (dlen out) (dlen [iu8 (iwrap .u8 x.1)]) 1 = true := by
      rw [fits_iff, dlen_nat, dlen_nat]; simp only [List.length_cons, List.length_nil]; omega
    have hs2 : fits (dlen (dapp out [iu8 (iwrap .u8 x.1)])) (dlen (textE x)) 1 = true := by
      rw [fits_iff, dlen_nat, dlen_nat]; simp only [dapp, List.length_append, List.length_cons, List.length_nil]; omega
    simp only [goL, hs, hs2, cond_true]
    rw [go9 fin l _ (by simp only [dapp, List.length_append, List.length_cons, List.length_nil]; omega)]
    simp [dapp, bytesAll, bytesE]

theorem lk9 : LoopOk E9 (callee E9 3) 9 l9 (loopAt Try.prog 9 0) := by
  intro vs mem K r e
  simp only [l9] at e
  split at e
  · rename_i out v n ty
    split at e
    · rename_i xs hv
      have := decS_eq hv
      subst this
      simp only [Sum.elim] at e
      obtain ⟨h1, e2⟩ := cond_some e
      clear e
      obtain ⟨h1, hs⟩ := cond_some' h1
      obtain ⟨h7, ho1⟩ := cond_some' hs
      obtain ⟨ho, hty⟩ := cond_some' ho1
      clear ho1 hs
      have := ieq_iff.mp h1
      subst this
      have := Nat.eq_of_beq_eq_true hty
      subst this
      rw [ile_iff, dlen_nat] at h7 ho
      have hsm : small (dlen xs) = true := by rw [small_iff, dlen_nat]; omega
      have hg := go9 (fun o => (Sum.out (.exit 0) [(4, .sl .u8 o (some 0))] [.row 5 1]).elim 42 K) xs out (by omega)
      refine list_loop (t := EntryT) (xs := xs) hsm (fun n i (o : List UInt8) => R9 K n [.sl .u8 o (some 0), .sl EntryT xs none, .int .i64 (dlen xs), .int .i64 i] [.row 5 1]) _ _ ?_ ?_ (hg.trans e2)
      · intro n i o h
        exact (rd9 xs i o K n).trans (by rw [h]; rfl)
      · intro n i o h h0
        refine (rd9 xs i o K n).trans ?_
        rw [h, h0]
        simp only [cond_true]
        cases fits (dlen o) (dlen [iu8 (iwrap .u8 (dget EntryT xs i).1)]) 1 with
        | false => rfl
        | true =>
          simp only [cond_true, textE]
          cases ieq (dget EntryT xs i).1 1 with
          | true =>
            simp only [cond_true]
            cases fits (dlen (dapp o [iu8 (iwrap .u8 (dget EntryT xs i).1)])) (dlen (Prod.fst (Prod.snd (dget EntryT xs i))).1) 1 <;> rfl
          | false =>
            simp only [cond_false]
            cases fits (dlen (dapp o [iu8 (iwrap .u8 (dget EntryT xs i).1)])) (dlen [iu8 (iwrap .u8 (Prod.snd (Prod.snd (dget EntryT xs i))).1)]) 1 <;> rfl
    · cases e
  · cases e

theorem s17 : Spec Try.prog 17 c17 := by
  refine spec_data mixed (inl := []) (ls := [(3, l17)]) (ks := []) (cs := [(24, c24)]) (hcs_cons s24 hcs_nil) rfl rfl (by kernel_rfl) List.nodup_nil (by decide) (loops1 (by kernel_rfl) (by kernel_rfl) lk17) ?_
  rintro ⟨xs, _⟩ r rows e
  simp only [CR.get, CR.elim] at e
  obtain ⟨h1, e⟩ := cond_some e
  simp only [Option.some.injEq, Prod.mk.injEq] at e
  obtain ⟨rfl, rfl⟩ := e
  refine ⟨rfl, (run17 xs).trans ?_⟩
  rw [h1, ieq_self]
  rfl

theorem s9 : Spec Try.prog 9 c9 := by
  refine spec_data mixed (inl := []) (ls := [(5, l9)]) (ks := []) (cs := [(12, c12)]) (hcs_cons s12 hcs_nil) rfl rfl (by kernel_rfl) List.nodup_nil (by decide) (loops1 (by kernel_rfl) (by kernel_rfl) lk9) ?_
  rintro ⟨xs, _⟩ r rows e
  have hr := run9 xs
  simp only [CR.get, CR.elim] at e
  cases h : rightE xs with
  | false =>
    rw [h] at e hr
    simp only [cond_false, Option.some.injEq, Prod.mk.injEq] at e
    obtain ⟨rfl, rfl⟩ := e
    exact ⟨rfl, hr⟩
  | true =>
    rw [h] at e hr
    simp only [cond_true, Option.some.injEq, Prod.mk.injEq] at e
    obtain ⟨rfl, rfl⟩ := e
    refine ⟨rfl, hr.trans ?_⟩
    have h4 : ile (dlen xs) 4 = true := by
      unfold rightE at h
      cases h1 : ile 1 (dlen xs) <;> cases h2 : ile (dlen xs) 4 <;> simp [h1, h2] at h ⊢
    rw [h4, ieq_self]
    rfl

theorem s8 : Spec Try.prog 8 c8 := by
  refine spec_data mixed (inl := []) (ls := []) (ks := []) (cs := []) hcs_nil rfl rfl (by kernel_rfl) List.nodup_nil List.nodup_nil (loops0 (by kernel_rfl)) ?_
  rintro ⟨xs, _⟩ r rows e
  simp only [CR.get, CR.elim, Option.some.injEq, Prod.mk.injEq] at e
  obtain ⟨rfl, rfl⟩ := e
  refine ⟨rfl, (run8 xs).trans ?_⟩
  have h0 : ile 0 (imin (dlen xs) 7) = true := by rw [ile_iff, imin_eq, dlen_nat]; split <;> omega
  have h1 : ile (imin (dlen xs) 7) (dlen xs) = true := by rw [ile_iff, imin_eq, dlen_nat]; split <;> omega
  rw [h0, h1]
  rfl

theorem s16 : Spec Try.prog 16 c16 := by
  refine spec_data mixed (inl := []) (ls := []) (ks := []) (cs := [(9, c9)]) (hcs_cons s9 hcs_nil) rfl rfl (by kernel_rfl) List.nodup_nil List.nodup_nil (loops0 (by kernel_rfl)) ?_
  rintro _ r rows e
  simp only [CR.get, CR.elim, Option.some.injEq, Prod.mk.injEq] at e
  obtain ⟨rfl, rfl⟩ := e
  exact ⟨rfl, run16.trans (by kernel_rfl)⟩

/- the plain law -/
theorem zeroId_eq (a : Id) : zeroId a = ideq a Id.zero := by
  rw [Bool.eq_iff_iff, ideq_iff]
  unfold zeroId
  rw [List.all_eq_true]
  constructor
  · intro h
    apply Id.ext'
    have : a.l = List.replicate a.l.length 0 := List.eq_replicate_iff.mpr ⟨rfl, fun c hc => u8eq_iff.mp (h c hc)⟩
    rw [this, a.h]; rfl
  · rintro rfl c hc
    rw [u8eq_iff]
    exact (List.mem_replicate.mp hc).2

theorem isE_isR (e : Entry) : isE e = isR e := by
  unfold isE isR
  rw [zeroId_eq]
  have h15 : ile e.2.2.1 15 = ilt e.2.2.1 16 := by rw [ile_eq, ilt_eq]; congr 1; apply propext; omega
  rw [h15]
  cases h1 : ieq e.1 1 with
  | false => cases ieq e.1 2 <;> cases ideq e.2.1 Id.zero <;> rfl
  | true =>
    have h2 : ieq e.1 2 = false := by rw [ieq_false]; rw [ieq_iff] at h1; omega
    rw [h2]
    cases ieq e.2.2.1 0 <;> rfl

theorem allE_allR (xs : List Entry) : allE xs = allR xs := by
  unfold allE allR
  congr 1
  funext e
  exact isE_isR e

theorem right_eq (xs : List Entry) : rightE xs = rightR xs := by
  unfold rightE rightR
  rw [allE_allR]
  have h1 : ile 1 (dlen xs) = ilt 0 (dlen xs) := by rw [ile_eq, ilt_eq]; congr 1
  have h2 : ile (dlen xs) 4 = ilt (dlen xs) 5 := by rw [ile_eq, ilt_eq]; congr 1; apply propext; omega
  rw [h1, h2]

theorem bytes_eq {e : Entry} (h : isE e = true) : bytesE e = bytesR e := by
  unfold isE at h
  unfold bytesE textE bytesR
  cases h1 : ieq e.1 1 with
  | true =>
    have := ieq_iff.mp h1
    have h2 : ieq e.1 2 = false := by rw [ieq_false]; omega
    rw [h2, this]
    rfl
  | false =>
    rw [h1] at h
    cases h2 : ieq e.1 2 with
    | true =>
      have := ieq_iff.mp h2
      rw [this]
      rfl
    | false => rw [h2] at h; simp at h

theorem bytesAll_eq : ∀ {xs : List Entry}, allE xs = true → bytesAll xs = bytesAllR xs
  | [], _ => rfl
  | e :: xs, h => by
    simp only [allE, List.all_cons, Bool.and_eq_true] at h
    have h2 : bytesAll xs = bytesAllR xs := bytesAll_eq (by simpa [allE] using h.2)
    simp only [bytesAll, bytesAllR, List.flatMap_cons] at h2 ⊢
    rw [bytes_eq h.1, h2]

theorem rightE_all {xs : List Entry} (h : rightE xs = true) : allE xs = true := by
  unfold rightE at h
  cases h1 : ile 1 (dlen xs) <;> cases h2 : ile (dlen xs) 4 <;> simp [h1, h2] at h ⊢
  exact h

theorem eqE_refl (e : Entry) : eqE e e = true := by
  unfold eqE
  rw [ieq_self, ieq_self, ideq_iff.mpr rfl]; rfl
theorem same_refl : ∀ (xs : List Entry), same xs xs = true
  | [] => rfl
  | e :: xs => by simp only [same, eqE_refl, same_refl xs]; rfl

theorem few_len (xs : List Entry) : dlen (few xs) ≤ 7 := by
  unfold few
  rw [imin_eq, dlen_nat, dlen_nat]
  simp only [dsub, List.length_take, List.length_drop]
  split <;> omega

theorem beq_self (b : Bool) : beq b b = true := by simp [beq]
theorem seq_self (b : List UInt8) : seq b b = true := by simp [seq]

def c3 : Con := conT (.pair (.sl EntryT) (.pair (.sl EntryT) (.pair EntryT .unit))) fun _ => .ret (.bool true) []
theorem s3 : Spec Try.prog 3 c3 := by
  refine spec_data mixed (inl := []) (ls := []) (ks := []) (cs := cs3) (hcs_cons s8 (hcs_cons s9 (hcs_cons s10 (hcs_cons s11 (hcs_cons s12 (hcs_cons s13 (hcs_cons s14 (hcs_cons s15 (hcs_cons s16 (hcs_cons s17 hcs_nil)))))))))) rfl rfl (by kernel_rfl) List.nodup_nil List.nodup_nil (loops0 (by kernel_rfl)) ?_
  rintro ⟨xs, ys, e, _⟩ r rows h
  simp only [CR.get, CR.elim, Option.some.injEq, Prod.mk.injEq] at h
  obtain ⟨rfl, rfl⟩ := h
  refine ⟨rfl, (run3 xs ys e).trans ?_⟩
  have hl := few_len xs
  have hs : small (dlen (few xs)) = true := by rw [small_iff]; omega
  have h7 : ile (dlen (few xs)) 7 = true := ile_iff.mpr hl
  have he : isE (e.1, (Prod.snd e).1, (Prod.snd (Prod.snd e)).1, ()) = isR (e.1, (Prod.snd e).1, (Prod.snd (Prod.snd e)).1, ()) := isE_isR _
  rw [he, ← right_eq, same_refl, hs, h7, beq_self, beq_self, beq_self]
  cases hr : rightE (few xs) with
  | false => rfl
  | true =>
    rw [bytesAll_eq (rightE_all hr), seq_self]
    rfl

end Am
end Go.Proofs.Ytkidcbialbffgaa
