/-
  Nodes: which may be.
-/
import Derived.Test.YtokamjlhdidefaaPh
import Derived.Test.YtokamjlhdidefaaLs
namespace Go.Proofs.Ytokamjlhdidefaa
namespace Am
open Go Go.RowKit
set_option linter.unusedSimpArgs false
set_option linter.unusedVariables false

abbrev Node' : Type := Mem' × Mem' × List Mem' × List Mem' × Unit
def noM : Mem' := (0, Id.zero, ())
def noneM : Mem' := (-1, Id.zero, ())
theorem memget (l : List Mem') (i : Nat) : dget ((Ty.int IntKind.i64).pair (Ty.id.pair Ty.unit)) l (i : Int) = l.getD i noM := dget_eq memT l i
theorem ieqd (a b : Int) : ieq a b = decide (a = b) := rfl
def fewN (n : Node') : Node' := (n.1, n.2.1, n.2.2.1.take 6, n.2.2.2.1.take 18, ())
theorem fewN_eq (n : Node') : olaw09Few ((n, ()), ()) = some ((fewN n, ()), ()) := by
  rw [olaw09Few_eq, blaw09Few]
  have e6 : (6 : Int) = ((6 : Nat) : Int) := rfl
  have e18 : (18 : Int) = ((18 : Nat) : Int) := rfl
  simp only [e6, e18, imin_len, ile00, ile_nat, ile_min, dsub_min, cond_true]
  rfl
def mayB (m : Mem') : Bool := decide (0 ≤ m.1) && decide (m.1 < 16)
theorem nodeMay_eq (m : Mem') : onodeMay ((m, ()), ()) = some ((mayB m, ()), ()) := by
  rw [onodeMay_eq, bnodeMay]
  unfold mayB
  simp only [ile_eq, ilt_eq]
  cases decide (0 ≤ m.1) <;> rfl
theorem nodeNone_eq : onodeNone ((), ()) = some ((noneM, ()), ()) := by
  rw [onodeNone_eq, bnodeNone]
  rfl
def memB (a b : Mem') : Bool := decide (a.1 = b.1) && decide (a.2.1 = b.2.1)
theorem memB_iff {a b : Mem'} : memB a b = true ↔ a = b := by
  obtain ⟨an, ai, ⟨⟩⟩ := a
  obtain ⟨bn, bi, ⟨⟩⟩ := b
  unfold memB
  simp only [Bool.and_eq_true, decide_eq_true_iff, Prod.mk.injEq, and_true]
theorem memB_self (a : Mem') : memB a a = true := memB_iff.2 rfl
theorem memEq' (a b : Mem') : (bif ieq a.1 b.1 then bif ideq a.2.1 b.2.1 then true else false else false) = memB a b := by
  unfold memB
  rw [ieqd, ideq_dec]
  cases decide (a.1 = b.1) <;> cases decide (a.2.1 = b.2.1) <;> rfl
/-- the same members -/
def sameL : List Mem' → List Mem' → Bool
  | [], [] => true
  | a :: l, b :: k => memB a b && sameL l k
  | _, _ => false
theorem sameL_iff : ∀ {l k : List Mem'}, sameL l k = true ↔ l = k
  | [], [] => by simp [sameL]
  | a :: l, b :: k => by simp only [sameL, Bool.and_eq_true, memB_iff, sameL_iff, List.cons.injEq]
  | [], b :: k => by simp [sameL]
  | a :: l, [] => by simp [sameL]
theorem same_any {l k : List Mem'} (he : l.length = k.length) : (!anyN (fun i => !memB (l.getD i noM) (k.getD i noM)) l.length 0) = sameL l k := by
  rw [Bool.eq_iff_iff, sameL_iff]
  constructor
  · intro h
    have hb : anyN (fun i => !memB (l.getD i noM) (k.getD i noM)) l.length 0 = false := by simpa using h
    apply List.ext_getElem he
    intro i h1 h2
    have h3 := anyN_false hb (j := i) (by omega) (by omega)
    simp only [Bool.not_eq_false', memB_iff] at h3
    simpa [h1, h2] using h3
  · rintro rfl
    cases hc : anyN (fun i => !memB (l.getD i noM) (l.getD i noM)) l.length 0 with
    | false => rfl
    | true =>
      obtain ⟨j, _, _, h3⟩ := anyN_iff.1 hc
      rw [memB_self] at h3
      cases h3
theorem slicesEqual_eq (l k : List Mem') (hl : l.length ≤ 4611686018427387903) : oslicesEqual ((l, k, ()), ()) = some ((sameL l k, ()), ()) := by
  rw [oslicesEqual_eq, bslicesEqual]
  have hd : ieq (dlen l) (dlen k) = decide (l.length = k.length) := by rw [ieqd, dlen_eq, dlen_eq]; congr 1; rw [eq_iff_iff]; omega
  rw [hd]
  by_cases he : l.length = k.length
  · have h := whl_goI (g := rslicesEqualx4) (fun i (_ : Unit) => ((l, k, dlen l, (i : Int), ()), ())) (fun i (_ : Unit) => if (!memB (l.getD i noM) (k.getD i noM)) = true then .inr (.inl ((false, ()), ())) else .inl ()) (fun _ => .inr (.inl ((), ()))) l.length
      (fun s => by simp only [rslicesEqualx4, bifF (ilt_len' (xs := l) (Nat.le_refl _))])
      (fun i s hi => by
        have hi' : i < k.length := by omega
        simp only [rslicesEqualx4, bifT (ilt_len hi), bifT (ilt_len hi'), bifT ile_nat, memget, memEq', inc_nat (show i < 4611686018427387904 by omega)]
        cases memB (l.getD i noM) (k.getD i noM) <;> simp) l.length 0 () (by omega)
    rw [goI_any (fun i => !memB (l.getD i noM) (k.getD i noM))] at h
    have h' : whl rslicesEqualx4 ((l, k, dlen l, 0, ()), ()) = _ := h
    have hdt : decide (l.length = k.length) = true := decide_eq_true he
    simp only [hdt, cond_true, cond_false, wslicesEqualx4_eq, h', ← same_any he]
    cases anyN (fun i => !memB (l.getD i noM) (k.getD i noM)) l.length 0 <;> rfl
  · have : sameL l k = false := by
      cases hs : sameL l k with
      | false => rfl
      | true => exact absurd (by rw [sameL_iff.1 hs]) he
    simp only [he, decide_false, cond_true, cond_false, this]
theorem nodeOf1_eq (m : Mem') (no : Int) : onodeOf_1 ((m, no, ()), ()) = some ((decide (m.1 = no), ()), ()) := by
  rw [onodeOf_1_eq, bnodeOf_1]
  rfl
theorem contN_eq (l : List Mem') (no : Int) (hl : l.length ≤ 4611686018427387903) : oslicesContainsFunc ((l, ((), no, ()), ()), ()) = some ((l.any (fun m => decide (m.1 = no)), ()), ()) := by
  rw [oslicesContainsFunc_eq, bslicesContainsFunc, oslicesIndexFunc_eq, bslicesIndexFunc]
  simp only [wslicesIndexFuncx2_eq]
  have h := whl_goI (g := rslicesIndexFuncx2) (fun i (_ : Unit) => ((l, ((), no, ()), dlen l, (i : Int), ()), ())) (fun i (_ : Unit) => if decide ((l.getD i noM).1 = no) = true then .inr (.inr (.inl (((i : Int), ()), ()))) else .inl ()) (fun _ => .inl ((), ())) l.length
    (fun s => by simp only [rslicesIndexFuncx2, bifF (ilt_len' (xs := l) (Nat.le_refl _))])
    (fun i s hi => by
      simp only [rslicesIndexFuncx2, bifT (ilt_len hi), bifT ile_nat, memget, nodeOf1_eq, bS_some, inc_nat (show i < 4611686018427387904 by omega)]
      generalize l.getD i noM = y
      by_cases hh : y.1 = no <;> simp [hh]) l.length 0 () (by omega)
  have h := h.trans (congrArg some (goI_find (d := noM) (xs := l) (fun m => decide (m.1 = no)) (fun i => Sum.inr (Sum.inl (((i : Int), ()), ()))) (Sum.inl ((), ())) l.length 0 (by omega)))
  have h' : whl rslicesIndexFuncx2 ((l, ((), no, ()), dlen l, 0, ()), ()) = _ := h
  rw [h', List.drop_zero]
  cases hi : l.findIdx? (fun m => decide (m.1 = no)) with
  | none =>
    have : l.any (fun m => decide (m.1 = no)) = false := by
      rw [List.any_eq_false]
      intro x hx
      have := List.findIdx?_eq_none_iff.1 hi x hx
      simpa using this
    rw [this]
    rfl
  | some j =>
    have : l.any (fun m => decide (m.1 = no)) = true := by
      rw [List.any_eq_true]
      obtain ⟨hj, hp, _⟩ := List.findIdx?_eq_some_iff_getElem.1 hi
      exact ⟨_, List.getElem_mem hj, hp⟩
    rw [this]
    have h0 : ile 0 (j : Int) = true := ile_nat
    simp only [Nat.zero_add, bL_inr, bL_inl, bS_some, h0]
def badU (l : List Mem') (no : Int) (i : Nat) : Bool := !mayB (l.getD i noM) || (decide ((l.getD i noM).1 = no) || (l.take i).any (fun m => decide (m.1 = (l.getD i noM).1)))
def unlikeB (l : List Mem') (no : Int) : Bool := !anyN (badU l no) l.length 0
theorem nodeUnlike_eq (l : List Mem') (no : Int) (hl : l.length ≤ 4611686018427387903) : onodeUnlike ((l, no, ()), ()) = some ((unlikeB l no, ()), ()) := by
  rw [onodeUnlike_eq, bnodeUnlike]
  have h := whl_goI (g := rnodeUnlikex2) (fun i (_ : Unit) => ((l, no, l, dlen l, (i : Int), ()), ())) (fun i (_ : Unit) => if badU l no i = true then .inr (.inr (.inl ((false, ()), ()))) else .inl ()) (fun _ => .inl ((), ())) l.length
    (fun s => by simp only [rnodeUnlikex2, bifF (ilt_len' (xs := l) (Nat.le_refl _))])
    (fun i s hi => by
      have e3 : ile (i : Int) (dlen l) = true := ile_t.2 (by rw [dlen_eq]; omega)
      have hof : ∀ x : Int, onodeOf ((x, ()), ()) = some ((((), x, ()), ()), ()) := fun x => by rw [onodeOf_eq, bnodeOf]
      simp only [rnodeUnlikex2, bifT (ilt_len hi), bifT ile_nat, bifT ile00, bifT e3, memget, nodeMay_eq, hof, bS_some, dsub_take, contN_eq (l.take i) (l.getD i noM).1 (by rw [List.length_take]; omega), ieqd, inc_nat (show i < 4611686018427387904 by omega)]
      unfold badU
      generalize (l.take i).any (fun m => decide (m.1 = (l.getD i noM).1)) = A
      generalize l.getD i noM = y
      cases mayB y <;> cases decide (y.1 = no) <;> cases A <;> simp) l.length 0 () (by omega)
  rw [goI_any] at h
  have h' : whl rnodeUnlikex2 ((l, no, l, dlen l, 0, ()), ()) = _ := h
  simp only [wnodeUnlikex2_eq, h']
  unfold unlikeB
  cases anyN (badU l no) l.length 0 <;> rfl
def predB (n : Node') : Bool := memB n.2.1 noneM || (mayB n.2.1 && !decide (n.2.1.1 = n.1.1))
def succsB (n : Node') : Bool := decide (1 ≤ n.2.2.1.length) && (decide (n.2.2.1.length ≤ 4) && (sameL n.2.2.1 [n.1] || unlikeB n.2.2.1 n.1.1))
def rightN (n : Node') : Bool := mayB n.1 && (predB n && (succsB n && (decide (n.2.2.2.1.length ≤ 16) && unlikeB n.2.2.2.1 n.1.1)))
theorem ile_len (l : List Mem') (k : Nat) : ile (dlen l) (k : Int) = decide (l.length ≤ k) := by rw [ile_eq, dlen_eq]; congr 1; rw [eq_iff_iff]; omega
theorem len_ile (l : List Mem') (k : Nat) : ile (k : Int) (dlen l) = decide (k ≤ l.length) := by rw [ile_eq, dlen_eq]; congr 1; rw [eq_iff_iff]; omega
theorem nodeRight_eq (n : Node') (h1 : n.2.2.1.length ≤ 4611686018427387903) (h2 : n.2.2.2.1.length ≤ 4611686018427387903) : onodeRight ((n, ()), ()) = some ((rightN n, ()), ()) := by
  obtain ⟨self, pred, succs, fingers, ⟨⟩⟩ := n
  simp only at h1 h2
  rw [onodeRight_eq, bnodeRight]
  have e1 : ile 1 (dlen succs) = decide (1 ≤ succs.length) := len_ile succs 1
  have e4 : ile (dlen succs) 4 = decide (succs.length ≤ 4) := ile_len succs 4
  have e16 : ile (dlen fingers) 16 = decide (fingers.length ≤ 16) := ile_len fingers 16
  simp only [nodeNone_eq, bS_some, nodeMay_eq, slicesEqual_eq succs [self] h1, nodeUnlike_eq succs self.1 h1, nodeUnlike_eq fingers self.1 h2, e1, e4, e16, memEq']
  simp only [ieqd]
  unfold rightN predB succsB
  simp only
  generalize memB pred noneM = a1
  generalize mayB pred = a2
  generalize sameL succs [self] = a3
  generalize decide (1 ≤ succs.length) = a4
  generalize decide (succs.length ≤ 4) = a5
  generalize unlikeB succs self.1 = a6
  generalize mayB self = a7
  generalize decide (pred.1 = self.1) = a8
  generalize decide (fingers.length ≤ 16) = a9
  generalize unlikeB fingers self.1 = a10
  cases a1 <;> cases a2 <;> cases a3 <;> cases a4 <;> simp only [cond_true, cond_false] <;> cases a5 <;> cases a6 <;> cases a7 <;> cases a8 <;> cases a9 <;> cases a10 <;> rfl

theorem identIn_m (x a : Id) (m : Mem') : oidentIn ((x, a, m.snd), ()) = some ((within x a m.2.1, ()), ()) := by
  obtain ⟨mn, mi, ⟨⟩⟩ := m
  exact identIn_eq x a mi
def aloneN (m : Mem') : Node' × Int × Unit := if mayB m = true then ((m, noneM, [m], [], ()), 0, ()) else ((noM, noM, [], [], ()), 1, ())
theorem nodeAlone_eq (m : Mem') : onodeAlone ((m, ()), ()) = some (aloneN m, ()) := by
  rw [onodeAlone_eq, bnodeAlone]
  simp only [nodeMay_eq, nodeNone_eq, bS_some]
  unfold aloneN
  cases mayB m <;> rfl
theorem lawMay_eq (m : Mem') : olaw09May ((m, ()), ()) = some ((mayB m, ()), ()) := by
  rw [olaw09May_eq, blaw09May]
  have e : ile m.1 15 = decide (m.1 < 16) := by rw [ile_eq]; congr 1; rw [eq_iff_iff]; omega
  unfold mayB
  rw [e]
  simp only [ile_eq]
  cases decide (0 ≤ m.1) <;> rfl
noncomputable def ownsN (n : Node') (id : Id) : Bool := rightN n && (!memB n.2.1 noneM && within id n.2.1.2.1 n.1.2.1)
theorem nodeOwns_eq (n : Node') (id : Id) (h1 : n.2.2.1.length ≤ 4611686018427387903) (h2 : n.2.2.2.1.length ≤ 4611686018427387903) : onodeOwns ((n, id, ()), ()) = some ((ownsN n id, ()), ()) := by
  rw [onodeOwns_eq, bnodeOwns]
  simp only [nodeRight_eq n h1 h2, nodeNone_eq, bS_some, memEq', identIn_m]
  unfold ownsN
  cases rightN n <;> cases memB n.2.1 noneM <;> rfl
/-- one ahead that is heard of -/
noncomputable def notifyN (n : Node') (m : Mem') : Node' × Int × Unit :=
  if (rightN n && mayB m) = true then
    ((if m.1 = n.1.1 ∨ m.2.1 = n.1.2.1 then n else if memB n.2.1 noneM = true ∨ within m.2.1 n.2.1.2.1 n.1.2.1 = true then (n.1, m, n.2.2) else n), 0, ())
  else ((noM, noM, [], [], ()), 1, ())
theorem nodeNotify_eq (n : Node') (m : Mem') (h1 : n.2.2.1.length ≤ 4611686018427387903) (h2 : n.2.2.2.1.length ≤ 4611686018427387903) : onodeNotify ((n, m, ()), ()) = some (notifyN n m, ()) := by
  rw [onodeNotify_eq, bnodeNotify]
  simp only [nodeRight_eq n h1 h2, nodeMay_eq, nodeNone_eq, bS_some, memEq', identIn_m]
  unfold notifyN
  simp only [ieqd, ideq_dec]
  cases rightN n with
  | false => rfl
  | true =>
    cases mayB m with
    | false => rfl
    | true =>
      by_cases h3 : m.1 = n.1.1
      · simp [h3]
      · by_cases h4 : m.2.1 = n.1.2.1
        · simp [h3, h4]
        · cases h5 : memB n.2.1 noneM with
          | true => simp [h3, h4]
          | false =>
            cases h6 : within m.2.1 n.2.1.2.1 n.1.2.1 <;> simp [h3, h4]

theorem alive9 : olaw09Alive ((), ()) = some ((true, ()), ()) := by
  rw [olaw09Alive_eq, blaw09Alive]
  have ha : aloneN (3, Id.zero, ()) = (((3, Id.zero, ()), noneM, [(3, Id.zero, ())], [], ()), 0, ()) := rfl
  have hr : rightN ((3, Id.zero, ()), noneM, [(3, Id.zero, ())], [], ()) = true := by
    have h1 : mayB ((3, Id.zero, ()) : Mem') = true := rfl
    have h2 : predB ((3, Id.zero, ()), noneM, [(3, Id.zero, ())], [], ()) = true := by
      unfold predB
      rw [memB_self]
      rfl
    have h3 : succsB ((3, Id.zero, ()), noneM, [(3, Id.zero, ())], [], ()) = true := by
      unfold succsB
      have : sameL [((3, Id.zero, ()) : Mem')] [(3, Id.zero, ())] = true := sameL_iff.2 rfl
      simp only [this]
      rfl
    have h4 : unlikeB [] 3 = true := rfl
    unfold rightN
    simp only [h1, h2, h3, h4]
    rfl
  have hR := nodeRight_eq ((3, Id.zero, ()), noneM, [(3, Id.zero, ())], [], ()) (by simp) (by simp)
  rw [hr] at hR
  have hN : onodeNext ((((3, Id.zero, ()), noneM, [(3, Id.zero, ())], [], ()), idset Id.zero 31 (iu8 7), ()), ()) = some (((3, Id.zero, ()), true, 0, ()), ()) := by
    rw [onodeNext_eq, bnodeNext]
    have hw : within (idset Id.zero 31 (iu8 7)) Id.zero Id.zero = true := by
      unfold within
      simp
    have hg : dget ((Ty.int IntKind.i64).pair (Ty.id.pair Ty.unit)) [((3, Id.zero, ()) : Mem')] 0 = (3, Id.zero, ()) := rfl
    have hl : ilt 0 (dlen [((3, Id.zero, ()) : Mem')]) = true := rfl
    simp only [hR, bS_some, hg, identIn_eq, hw, ile00, hl, cond_true, cond_false]
  simp only [nodeAlone_eq, bS_some, ha, hN, hR]
  rfl

end Am
end Go.Proofs.Ytokamjlhdidefaa
