/-
  A symbolic machine over the model, part 3: the machine.
-/
import Derived.Test.YtkjpoongkdapoaaBm2
import Derived.Deep.Quiet
namespace Go.Proofs.Ytkjpoongkdapoaa
namespace Am
open Go Go.RowKit
set_option linter.unusedVariables false
set_option linter.unusedSimpArgs false

inductive Blk where
  | box (v : AV)
  | fro (v : AV)
  | row (e : TypeId) (sz : Nat)
  | loop
  | arr (t : Ty) (e : TypeId) (xs : List t.den)
  | mp (t : Ty) (kv : List (Int × t.den))
  | dead

structure St where
  tmps : List AV
  outer : List (List AV)
  mem : List Blk

inductive Ex where
  | normal
  | exit (id : Nat)
  | ret

abbrev Cont (ρ : Type) := Ex → St → Option ρ
/-- what a panic comes to -/
class Pan (ρ : Type) where
  pan : Option ρ
instance (priority := low) panNone (ρ : Type) : Pan ρ := ⟨none⟩
/-- a result, or a panic -/
inductive PanR (α : Type) where
  | ok (a : α)
  | pan
instance panR (α : Type) : Pan (PanR α) := ⟨some .pan⟩
/-- the type of the one value that is panicked with -/
def badT : TypeId := 57
abbrev CallT (ρ : Type) := FuncId → List AV → St → (AV → St → Option ρ) → Option ρ

/-- what something comes to, by cases -/
inductive Tr (β : Type) where
  | ret (b : β)
  | br (c : Bool) (x y : Tr β)
  | no
def Tr.elim {β ρ : Type} : Tr β → (β → Option ρ) → Option ρ
  | .ret b, k => k b
  | .br c x y, k => cond c (x.elim k) (y.elim k)
  | .no, _ => none
def Tr.get {β : Type} (c : Tr β) : Option β := c.elim some
def Tr.map {β γ : Type} (f : β → γ) : Tr β → Tr γ
  | .ret b => .ret (f b)
  | .br c x y => .br c (x.map f) (y.map f)
  | .no => .no

/-- two orders come to the same -/
noncomputable def agree {ρ : Type} (a b : Option ρ) : Option ρ := open Classical in if a = b then a else none
theorem agree_some {ρ : Type} {a b : Option ρ} {r : ρ} (h : agree a b = some r) : a = some r ∧ b = some r := by
  unfold agree at h
  split at h
  · rename_i e
    exact ⟨h, e ▸ h⟩
  · cases h
theorem agree_self {ρ : Type} (a : Option ρ) : agree a a = a := by
  unfold agree
  rw [if_pos rfl]
noncomputable def agreeAll {ρ : Type} : List (Option ρ) → Option ρ
  | [] => none
  | x :: l => match l with
    | [] => x
    | _ :: _ => agree x (agreeAll l)

/-- the form of a value -/
inductive Sh where
  | d (t : Ty)
  | own (t : Ty) (b : Nat)
  | agg (c : Sh)
  | tup (c : Sh)
  | cptr (s : Sh)
  | fn (f : Fn) (a c : Sh)
  | loc (b o : Nat)
  | idsl (b o : Nat)
  | nil
  | nilfn
  | any
  | yld (b : Nat)
  | lst (fs : List Nat)
  | asl (t : Ty) (b : Nat)
  | mref (b : Nat)
  | unit
  | cons (s c : Sh)

@[reducible] def Sh.den : Sh → Type
  | .d t => t.den
  | .own t _ => List t.den
  | .agg c => c.den
  | .tup c => c.den
  | .cptr s => s.den
  | .fn _ a c => a.den × c.den
  | .asl _ _ => Int × Int
  | .cons s c => s.den × c.den
  | _ => Unit

/-- the value of a form; the values of a chain -/
def encS2 : (s : Sh) → s.den → AV × List AV
  | .d t, x => (enc t x, [])
  | .own t b, xs => (.sl t xs (some b), [])
  | .agg c, x => (.agg (encS2 c x).2, [])
  | .tup c, x => (.tup (encS2 c x).2, [])
  | .cptr s, x => (.cptr (encS2 s x).1, [])
  | .fn f a c, x => (.fn f (encS2 a x.1).2 (encS2 c x.2).2, [])
  | .loc b o, _ => (.loc b o, [])
  | .idsl b o, _ => (.idsl b o, [])
  | .nil, _ => (.nilsl, [])
  | .nilfn, _ => (.nilfn, [])
  | .any, _ => (.any, [])
  | .yld b, _ => (.yld b, [])
  | .lst fs, _ => (.lst fs, [])
  | .asl t b, x => (.asl t b x.1 x.2, [])
  | .mref b, _ => (.mref b, [])
  | .unit, _ => (.any, [])
  | .cons s c, x => (.any, (encS2 s x.1).1 :: (encS2 c x.2).2)
def encS (s : Sh) (x : s.den) : AV := (encS2 s x).1
def encL (s : Sh) (x : s.den) : List AV := (encS2 s x).2

def Fn.same : Fn → Fn → Bool
  | .func a, .func b => Nat.beq a b
  | _, _ => false
def sameFs : List Nat → List Nat → Bool
  | [], [] => true
  | a :: k, b :: l => Nat.beq a b && sameFs k l
  | _, _ => false
def both {α β : Type} : Option α → Option β → Option (α × β)
  | some a, some b => some (a, b)
  | _, _ => none
def decS2 : (s : Sh) → (AV → Option s.den) × (List AV → Option s.den)
  | .d t => (fun v => dec t v, fun _ => none)
  | .own t b => (fun | .sl t' xs (some b') => cond (Nat.beq b' b) (if h : t' = t then some (h ▸ xs) else none) none | _ => none, fun _ => none)
  | .agg c => (fun | .agg ps => (decS2 c).2 ps | _ => none, fun _ => none)
  | .tup c => (fun | .tup ps => (decS2 c).2 ps | _ => none, fun _ => none)
  | .cptr s => (fun | .cptr v => (decS2 s).1 v | _ => none, fun _ => none)
  | .fn f a c => (fun | .fn f' x y => cond (Fn.same f' f) (both ((decS2 a).2 x) ((decS2 c).2 y)) none | _ => none, fun _ => none)
  | .loc b o => (fun | .loc b' o' => cond (Nat.beq b' b && Nat.beq o' o) (some ()) none | _ => none, fun _ => none)
  | .idsl b o => (fun | .idsl b' o' => cond (Nat.beq b' b && Nat.beq o' o) (some ()) none | _ => none, fun _ => none)
  | .nil => (fun | .nilsl => some () | _ => none, fun _ => none)
  | .nilfn => (fun | .nilfn => some () | _ => none, fun _ => none)
  | .any => (fun _ => some (), fun _ => none)
  | .yld b => (fun | .yld b' => cond (Nat.beq b' b) (some ()) none | _ => none, fun _ => none)
  | .lst fs => (fun | .lst fs' => cond (sameFs fs' fs) (some ()) none | _ => none, fun _ => none)
  | .asl t b => (fun | .asl t' b' lo hi => cond (Nat.beq b' b) (if t' = t then some (lo, hi) else none) none | _ => none, fun _ => none)
  | .mref b => (fun | .mref b' => cond (Nat.beq b' b) (some ()) none | _ => none, fun _ => none)
  | .unit => (fun _ => none, fun | [] => some () | _ => none)
  | .cons s c => (fun _ => none, fun | p :: ps => both ((decS2 s).1 p) ((decS2 c).2 ps) | [] => none)
mutual
/-- forms that cells, or slots, may have -/
def Sh.okC : Sh → Bool
  | .d t => t.ok
  | .own _ _ => true
  | .agg c => Sh.chC c
  | .cptr s => Sh.okC s
  | .fn _ a c => Sh.chV a && Sh.chV c
  | .loc _ _ | .idsl _ _ | .nil | .nilfn | .yld _ | .lst _ | .asl _ _ | .mref _ => true
  | _ => false
def Sh.chC : Sh → Bool
  | .unit => true
  | .cons s c => Sh.okC s && Sh.chC c
  | _ => false
def Sh.chV : Sh → Bool
  | .unit => true
  | .cons s c => Sh.okV s && Sh.chV c
  | _ => false
def Sh.okV : Sh → Bool
  | .any => true
  | .tup c => Sh.chV c
  | .d t => t.ok
  | .own _ _ => true
  | .agg c => Sh.chC c
  | .cptr s => Sh.okC s
  | .fn _ a c => Sh.chV a && Sh.chV c
  | .loc _ _ | .idsl _ _ | .nil | .nilfn | .yld _ | .lst _ | .asl _ _ | .mref _ => true
  | _ => false
end
/-- no row in it -/
def Sh.still : Sh → Bool
  | .own _ _ => false
  | .agg c => c.still
  | .tup c => c.still
  | .cptr s => s.still
  | .fn _ a c => a.still && c.still
  | .cons s c => s.still && c.still
  | _ => true
def decS (s : Sh) (v : AV) : Option s.den := (decS2 s).1 v
def decL (s : Sh) (vs : List AV) : Option s.den := (decS2 s).2 vs

/-- the form of a block -/
inductive BSh where
  | box (s : Sh)
  | fro (s : Sh)
  | row (e : TypeId) (sz : Nat)
  | loop
  | arr (t : Ty) (e : TypeId)
  | mp (t : Ty)
  | dead
@[reducible] def BSh.den : BSh → Type
  | .box s => s.den
  | .fro s => s.den
  | .arr t _ => List t.den
  | .mp t => List (Int × t.den)
  | _ => Unit
@[reducible] def MSh : List BSh → Type
  | [] => Unit
  | b :: l => b.den × MSh l
def BSh.enc : (b : BSh) → b.den → Blk
  | .box s, x => .box (encS s x)
  | .fro s, x => .fro (encS s x)
  | .row e sz, _ => .row e sz
  | .loop, _ => .loop
  | .arr t e, xs => .arr t e xs
  | .mp t, kv => .mp t kv
  | .dead, _ => .dead
def BSh.dec : (b : BSh) → Blk → Option b.den
  | .box s => fun | .box v => decS s v | _ => none
  | .fro s => fun | .fro v => decS s v | _ => none
  | .row e sz => fun | .row e' sz' => cond (Nat.beq e' e && Nat.beq sz' sz) (some ()) none | _ => none
  | .loop => fun | .loop => some () | _ => none
  | .arr t e => fun | .arr t' e' xs => cond (Nat.beq e' e) (if h : t' = t then some (h ▸ xs) else none) none | _ => none
  | .mp t => fun | .mp t' kv => if h : t' = t then some (h ▸ kv) else none | _ => none
  | .dead => fun _ => some ()
def BSh.ok : BSh → Bool
  | .box s => s.okC
  | .fro s => s.okC
  | _ => true
def okM : List BSh → Bool
  | [] => true
  | b :: l => b.ok && okM l
def noLoop : List BSh → Bool
  | [] => true
  | .loop :: _ => false
  | _ :: l => noLoop l
def encM : (l : List BSh) → MSh l → List Blk
  | [], _ => []
  | b :: l, x => b.enc x.1 :: encM l x.2
def decM : (l : List BSh) → List Blk → Option (MSh l)
  | [], [] => some ()
  | b :: l, m :: ms => both (b.dec m) (decM l ms)
  | _, _ => none

/-- what a function does, as its callers see it -/
structure Fc : Type 1 where
  σ : Type
  foot : Bool
  /-- is what it comes to plain? (no more than a hint) -/
  hint : Bool := true
  /-- may it panic? does it? -/
  may : Bool := false
  dec : List AV → List Blk → Option σ
  G : σ → Tr (AV × List Blk)
  pan : σ → Bool := fun _ => false

/-- a nil slice that is a row from here on: in a slot, or in a block -/
inductive Up where
  | slot (i off : Nat) (t : Ty) (e : TypeId)
  | box (b off : Nat) (t : Ty) (e : TypeId)

/-- one of a loop's ends -/
structure Out where
  e : Ex
  keep : List Nat
  ks : List Nat
  sh : Sh
  ms : List BSh
@[reducible] def OutT : List Out → Type
  | [] => Empty
  | o :: l => (o.sh.den × MSh o.ms) ⊕ OutT l

structure Lp where
  m : Nat
  up : List Up
  ksE : List Nat
  ksA : List Nat
  keep : List Nat
  sh : Sh
  ms : List BSh
  outs : List Out
  sum : sh.den × MSh ms → Tr (OutT outs)
  /-- may it panic (the rest of a body alone)? does it? -/
  may : Bool := false
  pan : sh.den × MSh ms → Bool := fun _ => false

inductive Lk where
  | sum (l : Lp)
  | unroll (n : Nat)

/-- a range over a function: the iterator; what of the frame the body looks at -/
structure Rf where
  it : FuncId
  m : Nat
  up : List Up
  keep : List Nat
  sh : Sh
  csh : Sh
  ksE : List Nat
  ms : List BSh
  sum : sh.den × csh.den × MSh ms → Tr (MSh ms)

structure Env : Type 1 where
  P : Program
  nf : Nat
  con : FuncId → List Fc
  inl : FuncId → Bool
  lp : FuncId → Nat → Option Lk
  rf : FuncId → Nat → Option Rf
  yld : Option (List Nat × Fc)
  ct : FuncId → Nat → Option Lp

/- lists of the machine's own (other names than the data's lists have) -/
def mlen {α : Type} : List α → Nat
  | [] => 0
  | _ :: l => mlen l + 1
def mapp {α : Type} : List α → List α → List α
  | [], l => l
  | a :: k, l => a :: mapp k l
def mrep {α : Type} : Nat → α → List α
  | 0, _ => []
  | n + 1, a => a :: mrep n a
def mget {α : Type} : List α → Nat → Option α
  | [], _ => none
  | a :: _, 0 => some a
  | _ :: l, n + 1 => mget l n
def mset {α : Type} : List α → Nat → α → List α
  | [], _, _ => []
  | _ :: l, 0, b => b :: l
  | a :: l, n + 1, b => a :: mset l n b
def biff (b want : Bool) : Bool := match want with | true => b | false => !b
theorem mlen_eq {α : Type} (l : List α) : mlen l = l.length := by induction l with | nil => rfl | cons a l ih => simp [mlen, ih]
theorem mapp_eq {α : Type} (k l : List α) : mapp k l = k ++ l := by induction k with | nil => rfl | cons a k ih => simp [mapp, ih]
theorem mrep_eq {α : Type} (n : Nat) (a : α) : mrep n a = List.replicate n a := by induction n with | zero => rfl | succ n ih => simp [mrep, ih, List.replicate_succ]
theorem mget_eq {α : Type} : ∀ (l : List α) (i : Nat), mget l i = l[i]?
  | [], _ => by simp [mget]
  | _ :: _, 0 => rfl
  | _ :: l, n + 1 => by simp [mget, mget_eq l n]
theorem mset_eq {α : Type} : ∀ (l : List α) (i : Nat) (b : α), mset l i b = l.set i b
  | [], _, _ => rfl
  | _ :: _, 0, _ => rfl
  | _ :: l, n + 1, b => by simp [mset, mset_eq l n b]
theorem biff_eq (b w : Bool) : biff b w = (b == w) := by cases b <;> cases w <;> rfl

/- what is computed on data (names of their own, so that a print can leave them as they stand) -/
def iadd (x y : Int) : Int := x + y
def isub (x y : Int) : Int := x - y
def imul (x y : Int) : Int := x * y
def iquo (x y : Int) : Int := x.tdiv y
def irem (x y : Int) : Int := x.tmod y
def ishl (x : Int) (n : Nat) : Int := x * 2 ^ n
def ishr (x : Int) (n : Nat) : Int := x.fdiv (2 ^ n)
def ibits (y : Int) (k : IntKind) : Nat := min y.toNat k.bits
def iwrap (k : IntKind) (x : Int) : Int := k.wrap x
def ile : Int → Int → Bool
  | .ofNat a, .ofNat b => Nat.ble a b
  | .ofNat _, .negSucc _ => false
  | .negSucc _, .ofNat _ => true
  | .negSucc a, .negSucc b => Nat.ble b a
def ilt (x y : Int) : Bool := !ile y x
def imin (x y : Int) : Int := cond (ilt y x) y x
def imax (x y : Int) : Int := cond (ilt x y) y x
def u8i (x : UInt8) : Int := x.toNat
def iu8 (x : Int) : UInt8 := UInt8.ofInt x
def sapp (x y : List UInt8) : List UInt8 := x ++ y
def sget (x : List UInt8) (i : Int) : UInt8 := x.getD i.toNat 0
def dlen {α : Type} (x : List α) : Int := x.length
def dget (t : Ty) (x : List t.den) (i : Int) : t.den := x.getD i.toNat t.zero
def dsub {α : Type} (x : List α) (i j : Int) : List α := (x.drop i.toNat).take (j.toNat - i.toNat)
def dapp {α : Type} (x y : List α) : List α := x ++ y
def drep {α : Type} (n : Int) (a : α) : List α := List.replicate n.toNat a
def dset (t : Ty) (x : List t.den) (i : Int) (v : t.den) : List t.den := x.set i.toNat v
def dclear (t : Ty) (x : List t.den) (i j : Int) : List t.den := x.take i.toNat ++ List.replicate (j.toNat - i.toNat) t.zero ++ x.drop j.toNat
def mphas (t : Ty) (kv : List (Int × t.den)) (k : Int) : Bool := kv.any fun p => decide (p.1 = k)
def mpval (t : Ty) (kv : List (Int × t.den)) (k : Int) : t.den := ((kv.find? fun p => decide (p.1 = k)).map (·.2)).getD t.zero
def mpset (t : Ty) : List (Int × t.den) → Int → t.den → List (Int × t.den)
  | [], k, v => [(k, v)]
  | (k', v') :: r, k, v => if k' = k then (k, v) :: r else (k', v') :: mpset t r k v
def idget (a : Id) (i : Nat) : UInt8 := a.get i
def idset (a : Id) (i : Nat) (v : UInt8) : Id := a.set i v
def inat (i : Int) : Nat := i.toNat
def fits (n m : Int) (bytes : Nat) : Bool := ile ((n + m) * bytes) 140737488355328 && ile (n + m) 4611686018427387903
def short (n m : Int) : Bool := ile (n + m) 4611686018427387903

theorem ile_eq (x y : Int) : ile x y = decide (x ≤ y) := by
  rw [Bool.eq_iff_iff, decide_eq_true_iff]
  cases x <;> cases y <;> simp only [ile, Nat.ble_eq] <;> first | omega | simp <;> omega
theorem ile_iff {x y : Int} : ile x y = true ↔ x ≤ y := by rw [ile_eq, decide_eq_true_iff]
theorem ilt_eq (x y : Int) : ilt x y = decide (x < y) := by
  rw [Bool.eq_iff_iff, decide_eq_true_iff, ilt, ile_eq]
  simp
theorem ilt_iff {x y : Int} : ilt x y = true ↔ x < y := by rw [ilt_eq, decide_eq_true_iff]
theorem imin_eq (x y : Int) : imin x y = if y < x then y else x := by
  unfold imin
  rw [ilt_eq]
  by_cases h : y < x <;> simp [h]
theorem imax_eq (x y : Int) : imax x y = if y > x then y else x := by
  unfold imax
  rw [ilt_eq]
  by_cases h : x < y <;> simp [h]

/- types -/
def intTy : IntKind → Ty
  | .u8 => .u8
  | k => .int k

def isU8 (P : Program) (t : TypeId) : Bool := match P.underlying t with | some (.int .u8) => true | _ => false

def tyOf (P : Program) : Nat → TypeId → Option Ty
  | 0, _ => none
  | n + 1, t =>
    match P.underlying t with
    | some (.int k) => some (intTy k)
    | some .bool => some .bool
    | some .string => some .str
    | some (.slice e) => (tyOf P n e).map .sl
    | some (.array len e) => cond (len == 32 && isU8 P e && P.cellsOf e == 1) (some .id) none
    | some (.struct fs) => fs.toList.foldr (fun f acc => match tyOf P n f.type, acc with | some a, some b => some (.pair a b) | _, _ => none) (some .unit)
    | _ => none
def Env.ty (E : Env) (t : TypeId) : Option Ty := tyOf E.P 12 t

def sizeT (P : Program) (t : TypeId) : Nat := P.cellsOf t
/-- a type whose values can be loaded -/
def okT (P : Program) (t : TypeId) : Bool := match P.underlying t with | some (.struct _) | some (.array _ _) => true | some _ => P.cellsOf t == 1 | none => false
def clsT (P : Program) (t : TypeId) : Nat := match P.underlying t with | some (.struct _) => 2 | some (.array _ _) => 1 | _ => 0

/-- the zero of a type, a nil slice where there is a slice -/
def zero2 : Ty → AV × List AV
  | .int k => (.int k 0, [])
  | .u8 => (.u8 0, [])
  | .bool => (.bool false, [])
  | .str => (.str [], [])
  | .id => (.id Id.zero, [])
  | .unit => (.agg [], [])
  | .pair s t => (.agg ((zero2 s).1 :: (zero2 t).2), (zero2 s).1 :: (zero2 t).2)
  | .sl _ => (.nilsl, [])
def zeroAV (t : Ty) : AV := (zero2 t).1

/-- a constant -/
def constAV : Value → Option AV
  | .int .u8 n => cond (decide (0 ≤ n) && decide (n < 256)) (some (.u8 (iu8 n))) none
  | .int k n => some (.int k n)
  | .bool b => some (.bool b)
  | .string s => cond (Nat.ble s.data.toList.length 65536) (some (.str s.data.toList)) none
  | .slice none 0 0 => some .nilsl
  | .nilFunc => some .nilfn
  | .map none => some .any
  | _ => none

def evalOp (st : St) : Operand → Option AV
  | .tmp t => mget st.tmps t
  | .const v => constAV v
  | .func f => some (.fn (.func f) [] [])
  | .global _ => none

def St.put (st : St) (d : Option Tmp) (v : AV) : St :=
  match d with
  | some d => { st with tmps := mset st.tmps d v }
  | none => st

def notU8 : IntKind → Bool
  | .u8 => false
  | _ => true
def asInt : AV → Option (IntKind × Int)
  | .int k n => cond (notU8 k) (some (k, n)) none
  | .u8 b => some (.u8, u8i b)
  | _ => none
def mkInt : IntKind → Int → AV
  | .u8, n => .u8 (iu8 n)
  | k, n => .int k n

def evalAll (st : St) : List Operand → Option (List AV)
  | [] => some []
  | x :: xs => match evalOp st x, evalAll st xs with | some v, some vs => some (v :: vs) | _, _ => none


/-- a result, and the condition under which it is one -/
abbrev CV := Option (Bool × AV)

def bitsI (op : BinOp) (k : IntKind) (x y : Int) : Int :=
  match op with
  | .and => k.wrap (BitVec.ofInt k.bits x &&& BitVec.ofInt k.bits y).toNat
  | .or => k.wrap (BitVec.ofInt k.bits x ||| BitVec.ofInt k.bits y).toNat
  | .xor => k.wrap (BitVec.ofInt k.bits x ^^^ BitVec.ofInt k.bits y).toNat
  | _ => k.wrap (BitVec.ofInt k.bits x &&& ~~~ BitVec.ofInt k.bits y).toNat

def intOp (op : BinOp) (k : IntKind) (x y : Int) : CV :=
  match op with
  | .add => some (true, mkInt k (iwrap k (iadd x y)))
  | .sub => some (true, mkInt k (iwrap k (isub x y)))
  | .mul => some (true, mkInt k (iwrap k (imul x y)))
  | .quo => some (!ieq y 0, mkInt k (iwrap k (iquo x y)))
  | .rem => some (!ieq y 0, mkInt k (irem x y))
  | .and | .or | .xor | .andNot => some (true, mkInt k (bitsI op k x y))
  | .eql => some (true, .bool (ieq x y))
  | .neq => some (true, .bool (!ieq x y))
  | .lss => some (true, .bool (ilt x y))
  | .leq => some (true, .bool (ile x y))
  | .gtr => some (true, .bool (ilt y x))
  | .geq => some (true, .bool (ile y x))
  | _ => none

def shiftOp (op : BinOp) (k : IntKind) (x y : Int) : CV :=
  match op with
  | .shl => some (ile 0 y, mkInt k (iwrap k (ishl x (ibits y k))))
  | .shr => some (ile 0 y, mkInt k (ishr x (ibits y k)))
  | _ => none

def isShift : BinOp → Bool
  | .shl | .shr => true
  | _ => false

/-- the sort of a type that can be compared: no slice in it, nothing that the model stands in for, all in its place -/
def sFields (rec : TypeId → Option Ty) : Nat → List Field → Option Ty
  | _, [] => some .unit
  | off, f :: fs => cond (f.offset == off && f.name != "_")
      (match rec f.type with
        | some a => (match sFields rec (off + a.size) fs with
          | some b => some (.pair a b)
          | none => none)
        | none => none) none
def sTy (P : Program) : Nat → TypeId → Option Ty
  | 0, _ => none
  | n + 1, t =>
    match P.underlying t with
    | some (.int k) => cond (P.cellsOf t == 1) (some (intTy k)) none
    | some .bool => cond (P.cellsOf t == 1) (some .bool) none
    | some .string => cond (P.cellsOf t == 1) (some .str) none
    | some (.array len e) => cond (len == 32 && isU8 P e && P.cellsOf e == 1 && P.cellsOf t == 32) (some .id) none
    | some (.struct fs) => cond (!P.stoodInHeld t) (match sFields (sTy P n) 0 fs.toList with
        | some ty => cond (P.cellsOf t == ty.size) (some ty) none
        | none => none) none
    | _ => none

def eqOp (E : Env) (t : TypeId) (a b : AV) : Option Bool :=
  match sTy E.P 12 t with
  | some ty => match dec ty a, dec ty b with
    | some x, some y => some (ty.beq x y)
    | _, _ => none
  | none => none

def isBoolT (P : Program) (t : TypeId) : Bool := match P.underlying t with | some .bool => true | _ => false

def shiftAV (op : BinOp) (a b : AV) : CV :=
  match asInt a, asInt b with
  | some (k, x), some (_, y) => shiftOp op k x y
  | _, _ => none
def eqNe (op : BinOp) (r : Bool) : CV :=
  match op with
  | .eql => some (true, .bool r)
  | .neq => some (true, .bool (!r))
  | _ => none
def isEq : BinOp → Bool
  | .eql | .neq => true
  | _ => false
def plainAV (E : Env) (op : BinOp) (t : TypeId) : AV → AV → CV
  | .u8 x, .u8 y => cond (isEq op) (eqNe op (u8eq x y)) (intOp op .u8 (u8i x) (u8i y))
  | .int k x, .int k' y => cond (IntKind.same k k' && notU8 k) (intOp op k x y) none
  | .str x, .str y => (match op with
    | .add => some (short (dlen x) (dlen y), .str (sapp x y))
    | op => eqNe op (seq x y))
  | .bool x, .bool y => cond (isBoolT E.P t) (eqNe op (beq x y)) none
  | .id a, .id b => (match eqOp E t (.id a) (.id b) with | some r => eqNe op r | none => none)
  | .agg a, .agg b => (match eqOp E t (.agg a) (.agg b) with | some r => eqNe op r | none => none)
  | _, _ => none
def binAV (E : Env) (op : BinOp) (t : TypeId) (a b : AV) : CV := cond (isShift op) (shiftAV op a b) (plainAV E op t a b)

def unAV (op : UnOp) (a : AV) : CV :=
  match op, a with
  | .not, .bool b => some (true, .bool (!b))
  | .neg, .int k n => cond (notU8 k) (some (true, mkInt k (iwrap k (isub 0 n)))) none
  | _, _ => none

def convAV (E : Env) (src dst : TypeId) (a : AV) : CV :=
  match E.P.underlying src, E.P.underlying dst, a with
  | some _, some (.int k), .int _ n => some (true, mkInt k (iwrap k n))
  | some _, some (.int k), .u8 b => some (true, mkInt k (iwrap k (u8i b)))
  | some .string, some .string, .str l => some (true, .str l)
  | some (.slice e), some .string, .sl .u8 xs _ => cond (isU8 E.P e) (some (true, .str xs)) none
  | some (.slice e), some .string, .nilsl => cond (isU8 E.P e) (some (true, .str [])) none
  | _, _, _ => none

def fieldOff (P : Program) (s : TypeId) (i : Nat) : Option (Nat × TypeId) :=
  match P.underlying s with
  | some (.struct fs) => (fs[i]?).map fun f => (f.offset, f.type)
  | _ => none

/-- an offset that a literal is, for a value in memory -/
def memAt (st : St) (b off n c : Nat) : Option AV :=
  match mget st.mem b with
  | some (.box v) => v.at off n c
  | some (.fro v) => v.at off n c
  | _ => none

/-- a string of a variable's bytes -/
def convIdsl (E : Env) (st : St) (src dst : TypeId) (b off : Nat) : CV :=
  match E.P.underlying src, E.P.underlying dst with
  | some (.slice e), some .string => (match memAt st b off 32 1 with
    | some (.id a) => cond (isU8 E.P e) (some (true, .str a.l)) none
    | _ => none)
  | _, _ => none

def lenAV (P : Program) (t : TypeId) (v : AV) : Option Int :=
  match P.underlying t with
  | some .string => (match v with | .str l => some (dlen l) | _ => none)
  | some (.slice _) => (match v with
    | .sl _ xs _ => some (dlen xs)
    | .nilsl => some 0
    | .idsl _ _ => some 32
    | .raw _ n _ => some n
    | .asl _ _ lo hi => some (isub hi lo)
    | .lst fs => some (mlen fs : Nat)
    | _ => none)
  | _ => none

def indexAV (E : Env) (t : TypeId) (a ix : AV) : CV :=
  match asInt ix, a with
  | some (_, i), .str l => cond (match E.P.underlying t with | some .string => true | _ => false) (some (ile 0 i && ilt i (dlen l), .u8 (sget l i))) none
  | some (_, i), .id x => cond (match E.P.underlying t with | some (.array len e) => len == 32 && isU8 E.P e && E.P.cellsOf e == 1 | _ => false) (some (ile 0 i && ilt i 32, .u8 (idget x (inat i)))) none
  | _, _ => none

def fieldAddrAV (E : Env) (s : TypeId) (a : AV) (i : Nat) : CV :=
  match fieldOff E.P s i, a with
  | some (o, t), .loc b off => cond (sizeT E.P t != 0) (some (true, .loc b (off + o))) none
  | some (o, t), .cptr v => cond (sizeT E.P t != 0) ((v.at o (sizeT E.P t) (clsT E.P t)).map fun u => (true, .cptr u)) none
  | _, _ => none

def indexAddrAV (E : Env) (t : TypeId) (a ix : AV) : CV :=
  match E.P.underlying t, asInt ix, a with
  | some (.slice e), some (_, i), .sl ty xs _ => cond (E.P.cellsOf e == ty.size && ty.ok && decide (0 < ty.size)) (some (ile 0 i && ilt i (dlen xs), .cptr (enc ty (dget ty xs i)))) none
  | some (.slice e), some (_, i), .asl ty b lo hi => cond (E.P.cellsOf e == ty.size && ty.ok && decide (0 < ty.size)) (some (ile 0 i && ilt i (isub hi lo), .elp ty b (iadd lo i))) none
  | some (.array len e), some (_, i), .loc b off => cond (len == 32 && isU8 E.P e && E.P.cellsOf e == 1) (some (ile 0 i && ilt i 32, .loci b off (inat i))) none
  | some (.array len e), some (_, i), .cptr (.id x) => cond (len == 32 && isU8 E.P e && E.P.cellsOf e == 1) (some (ile 0 i && ilt i 32, .cptr (.u8 (idget x (inat i))))) none
  | _, _, _ => none

def optInt (st : St) : Option Operand → Int → Option Int
  | none, d => some d
  | some x, _ => match evalOp st x with | some v => (asInt v).map (·.2) | none => none

/-- a part of a string or of a slice; never beyond its length -/
def sliceAV (E : Env) (st : St) (t : TypeId) (a : AV) (lo hi mx : Option Operand) : CV :=
  match mx with
  | some _ => none
  | none =>
    match E.P.underlying t, a with
    | some .string, .str l => match optInt st lo 0, optInt st hi (dlen l) with
      | some i, some j => some (ile 0 i && ile i j && ile j (dlen l), .str (dsub l i j))
      | _, _ => none
    | some (.slice e), .sl ty xs _ => match optInt st lo 0, optInt st hi (dlen xs) with
      | some i, some j => cond (E.P.cellsOf e == ty.size && decide (0 < ty.size)) (some (ile 0 i && ile i j && ile j (dlen xs), .sl ty (dsub xs i j) none)) none
      | _, _ => none
    | some (.slice e), .asl ty b l h => match optInt st lo 0, optInt st hi (isub h l) with
      | some i, some j => cond (E.P.cellsOf e == ty.size && decide (0 < ty.size)) (some (ile 0 i && ile i j && ile j (isub h l), .asl ty b (iadd l i) (iadd l j))) none
      | _, _ => none
    | some (.slice e), .nilsl => match optInt st lo 0, optInt st hi 0 with
      | some i, some j => cond (E.P.cellsOf e != 0) (some (ieq i 0 && ieq j 0, .nilsl)) none
      | _, _ => none
    | some (.array len e), .loc b off => match lo, hi with
      | none, none => cond (len == 32 && isU8 E.P e && E.P.cellsOf e == 1) (some (true, .idsl b off)) none
      | _, _ => none
    | some (.array len e), .cptr (.id x) => match lo, hi with
      | none, none => cond (len == 32 && isU8 E.P e && E.P.cellsOf e == 1) (some (true, .sl .u8 x.l none)) none
      | _, _ => none
    | _, _ => none

def minAll (f : Int → Int → Int) : IntKind → Int → List AV → Option AV
  | k, x, [] => some (mkInt k x)
  | k, x, .int k' y :: r => cond (IntKind.same k k') (minAll f k (f x y) r) none
  | _, _, _ => none

/-- the zero value of the type is what its sort's zero is -/
def zcells : Ty → List Value
  | .int k => [.int k 0]
  | .u8 => [.int .u8 0]
  | .bool => [.bool false]
  | .str => [.string ⟨#[]⟩]
  | .id => List.replicate 32 (.int .u8 0)
  | .unit => []
  | .pair s t => zcells s ++ zcells t
  | .sl _ => [.slice none 0 0]
def sameCell : Value → Value → Bool
  | .int k n, .int k' n' => IntKind.same k k' && decide (n = n')
  | .bool a, .bool b => decide (a = b)
  | .string a, .string b => decide (a.data.toList = b.data.toList)
  | .slice none 0 0, .slice none 0 0 => true
  | _, _ => false
def sameCells : List Value → List Value → Bool
  | [], [] => true
  | a :: as, b :: bs => sameCell a b && sameCells as bs
  | _, _ => false
def zeroOk (P : Program) (e : TypeId) (t : Ty) : Bool :=
  match P.info? e with
  | some i => (match i.zero with | some z => sameCells z.cells.toList (zcells t) && (match z with | .agg _ => clsT P e != 0 | .tuple _ => false | _ => clsT P e == 0) | none => false) && i.size == t.size
  | none => false

/-- a value that cells hold -/
def AV.solid : AV → Bool
  | .any | .tup _ | .raw .. => false
  | _ => true

/-- what a struct is built of -/
def setPart : List AV → List (Nat × AV) → Option (List AV)
  | ps, [] => some ps
  | ps, (i, v) :: r => match mget ps i with
    | some p => cond (p.size == v.size && v.solid) (setPart (mset ps i v) r) none
    | none => none
def setByte : Id → List (Nat × AV) → Option Id
  | a, [] => some a
  | a, (i, .u8 b) :: r => cond (decide (i < 32)) (setByte (idset a i b) r) none
  | _, _ => none

def evalParts (st : St) : List (Nat × Operand) → Option (List (Nat × AV))
  | [] => some []
  | (i, x) :: r => match evalOp st x, evalParts st r with | some v, some vs => some ((i, v) :: vs) | _, _ => none

/-- the fields stand one behind the other -/
def layOk (P : Program) : Nat → List Field → List AV → Bool
  | _, [], [] => true
  | off, f :: fs, z :: zs => f.offset == off && P.cellsOf f.type == z.size && (P.info? f.type).isSome && layOk P (off + z.size) fs zs
  | _, _, _ => false

def buildAV (E : Env) (t : TypeId) (ps : List (Nat × AV)) : CV :=
  match E.P.underlying t, E.ty t with
  | some (.array _ e), some .id => cond (zeroOk E.P t .id && isU8 E.P e && E.P.cellsOf e == 1) ((setByte Id.zero ps).map fun a => (true, .id a)) none
  | some (.struct fs), some ty => (match zeroAV ty with
    | .agg zs => cond (zeroOk E.P t ty && ty.ok && layOk E.P 0 fs.toList zs) ((setPart zs ps).map fun r => (true, .agg r)) none
    | _ => none)
  | _, _ => none

def bothBool : Option AV → Option AV → Option (Bool × Bool)
  | some (.bool x), some (.bool y) => some (x, y)
  | _, _ => none
def pickAV (b : Bool) (u v : Option AV) : CV :=
  match bothBool u v with
  | some (x, y) => some (true, .bool (cond b x y))
  | none => cond b (u.map fun v => (true, v)) (v.map fun v => (true, v))

/-- a map's type: its keys are whole numbers; the sort of its elements -/
def mapOk (P : Program) (t : TypeId) (ty : Ty) : Bool := match P.underlying t with
  | some (.map k e) => (match P.underlying k with | some (.int .i64) => true | _ => false) && zeroOk P e ty && ty.ok && (enc ty ty.zero).cls == clsT P e && okT P e
  | _ => false
def notIface (P : Program) (t : TypeId) : Bool := match P.underlying t with
  | some (.interface _) => false
  | some _ => true
  | none => false
def notPtr (P : Program) (t : TypeId) : Bool := match P.underlying t with
  | some (.pointer _) => false
  | some _ => true
  | none => false
/-- a method's receiver: a part of a value -/
def followAV (P : Program) : List FieldStep → TypeId → AV → Option (TypeId × AV)
  | [], t, v => some (t, v)
  | s :: r, _, v => cond s.deref none (match fieldOff P s.struct s.index, v with
    | some (o, ft), .agg ps => cond (okT P ft) (match (AV.agg ps).at o (sizeT P ft) (clsT P ft) with
      | some u => followAV P r ft u
      | none => none) none
    | _, _ => none)
/-- the function that is called, and its receiver -/
def invokeAV (P : Program) (name : String) : AV → Option (FuncId × AV)
  | .iface t v => match P.info? t with
    | some i => (match i.methods.find? (·.name == name) with
      | some m => (match m.func with
        | some (f, false) => (match followAV P m.path.toList t v with
          | some (xt, u) => cond (notPtr P xt) (some (f, u)) none
          | none => none)
        | _ => none)
      | none => none)
    | none => none
  | _ => none
def methodOf (P : Program) (t : TypeId) (name : String) : Option FuncId := match P.info? t with
  | some i => (match i.methods.find? (·.name == name) with
    | some m => m.func.map (·.1)
    | none => none)
  | none => none

/-- the values of pure operations -/
def pureOp (E : Env) (st : St) (o : Oper) : CV :=
  match o.op with
  | .move x | .assign x => (evalOp st x).map fun v => (true, v)
  | .pick c a b => match evalOp st c with
    | some (.bool b0) => pickAV b0 (evalOp st a) (evalOp st b)
    | _ => none
  | .build t parts => match evalParts st parts.toList with | some ps => buildAV E t ps | none => none
  | .load t p => match evalOp st p with
    | some (.loc b off) => cond (okT E.P t) ((memAt st b off (sizeT E.P t) (clsT E.P t)).map fun v => (true, v)) none
    | some (.loci b off i) => (match memAt st b off 32 1 with
      | some (.id a) => cond (isU8 E.P t) (some (true, .u8 (idget a i))) none
      | _ => none)
    | some (.cptr v) => cond (v.size == sizeT E.P t && v.cls == clsT E.P t && (okT E.P t)) (some (true, v)) none
    | some (.elp ty b i) => (match mget st.mem b with
      | some (.arr ty' _ xs) => if h : ty' = ty then cond ((enc ty (dget ty (h ▸ xs) i)).size == sizeT E.P t && (enc ty (dget ty (h ▸ xs) i)).cls == clsT E.P t && okT E.P t && ty.ok) (some (true, enc ty (dget ty (h ▸ xs) i))) none else none
      | _ => none)
    | _ => none
  | .lookup t m k cok => match evalOp st m, evalOp st k with
    | some (.mref b), some (.int .i64 n) => (match mget st.mem b with
      | some (.mp ty kv) => cond (mapOk E.P t ty) (some (true, cond cok (.tup [enc ty (mpval ty kv n), .bool (mphas ty kv n)]) (enc ty (mpval ty kv n)))) none
      | _ => none)
    | _, _ => none
  | .makeInterface t x => match evalOp st x with
    | some v => cond (notIface E.P t && v.solid) (some (true, .iface t v)) none
    | none => none
  | .binOp op t x y _ => match evalOp st x, evalOp st y with | some a, some b => binAV E op t a b | _, _ => none
  | .unOp op _ x => match evalOp st x with | some a => unAV op a | _ => none
  | .convert s d x => match evalOp st x with | some (.idsl b off) => convIdsl E st s d b off | some a => convAV E s d a | _ => none
  | .makeFunc f first captured => match evalAll st first.toList, evalAll st captured.toList with | some a, some b => some (true, .fn f a b) | _, _ => none
  | .slice t x lo hi mx => match evalOp st x with | some a => sliceAV E st t a lo hi mx | _ => none
  | .fieldAddr s x f => match evalOp st x with | some a => fieldAddrAV E s a f | _ => none
  | .field s x f => match evalOp st x, fieldOff E.P s f with | some (.agg ps), some (o, t) => cond (okT E.P t) (((AV.agg ps).at o (sizeT E.P t) (clsT E.P t)).map fun u => (true, u)) none | _, _ => none
  | .indexAddr t x i => match evalOp st x, evalOp st i with | some a, some b => indexAddrAV E t a b | _, _ => none
  | .index t x i => match evalOp st x, evalOp st i with | some a, some b => indexAV E t a b | _, _ => none
  | .extract t i => match evalOp st t with | some (.tup vs) => (mget vs i).map fun v => (true, v) | _ => none
  | .nilCheck x => match evalOp st x with | some (.loc b o) => some (true, .loc b o) | some (.cptr v) => some (true, .cptr v) | _ => none
  | .call c => match c.callee with
    | .builtin .len => match c.args.toList, c.argTypes.toList with | [x], [t] => (match evalOp st x with | some v => (lenAV E.P t v).map fun n => (true, .int .i64 n) | none => none) | _, _ => none
    | .builtin .cap => match c.args.toList, c.argTypes.toList with | [x], [t] => (match evalOp st x, E.P.underlying t with | some .nilsl, some (.slice _) => some (true, .int .i64 0) | _, _ => none) | _, _ => none
    | .builtin .min => match evalAll st c.args.toList with | some (.int k x :: r) => cond (notU8 k) ((minAll imin k x r).map fun v => (true, v)) none | _ => none
    | .builtin .max => match evalAll st c.args.toList with | some (.int k x :: r) => cond (notU8 k) ((minAll imax k x r).map fun v => (true, v)) none | _ => none
    | _ => none
  | _ => none

/- what makes or turns memory -/
def idx : List Nat → Nat → Option Nat
  | [], _ => none
  | k :: ks, b => cond (Nat.beq k b) (some 0) ((idx ks b).map (· + 1))
mutual
/-- a value with the blocks renumbered: those that are kept, in this order -/
def AV.ren (ks : List Nat) : AV → Option AV
  | .sl t xs none => some (.sl t xs none)
  | .sl t xs (some b) => some (.sl t xs (idx ks b))
  | .agg ps => (AV.renL ks ps).map .agg
  | .tup vs => (AV.renL ks vs).map .tup
  | .cptr v => (AV.ren ks v).map .cptr
  | .fn f x y => match AV.renL ks x, AV.renL ks y with | some a, some b => some (.fn f a b) | _, _ => none
  | .raw .. => none
  | .loc b o => (idx ks b).map fun j => .loc j o
  | .loci b o i => (idx ks b).map fun j => .loci j o i
  | .idsl b o => (idx ks b).map fun j => .idsl j o
  | .yld b => (idx ks b).map .yld
  | .iface t v => (AV.ren ks v).map (.iface t)
  | .asl t b lo hi => (idx ks b).map fun j => .asl t j lo hi
  | .elp t b i => (idx ks b).map fun j => .elp t j i
  | .mref b => (idx ks b).map .mref
  | v => some v
def AV.renL (ks : List Nat) : List AV → Option (List AV)
  | [] => some []
  | v :: vs => match AV.ren ks v, AV.renL ks vs with | some a, some b => some (a :: b) | _, _ => none
end
/-- the same, where a value that cannot be told is any -/
def AV.renA (ks : List Nat) : List AV → List AV
  | [] => []
  | v :: vs => (v.ren ks).getD .any :: AV.renA ks vs
def Blk.ren (ks : List Nat) : Blk → Blk
  | .box v => match v.ren ks with | some u => .box u | none => .dead
  | .fro v => match v.ren ks with | some u => .fro u | none => .dead
  | m => m
/-- these blocks, as they stand among themselves -/
def pickB (mem : List Blk) (all : List Nat) : List Nat → List Blk
  | [] => []
  | k :: ks => (match mget mem k with | some m => m.ren all | none => .dead) :: pickB mem all ks
/-- and back: those first, all others behind the n-th -/
def bk (ks : List Nat) (n i : Nat) : Nat := match mget ks i with
  | some k => k
  | none => n + (i - mlen ks)
mutual
def AV.back (ks : List Nat) (n : Nat) : AV → AV
  | .sl t xs (some b) => .sl t xs (some (bk ks n b))
  | .agg ps => .agg (AV.backL ks n ps)
  | .tup vs => .tup (AV.backL ks n vs)
  | .cptr v => .cptr (AV.back ks n v)
  | .fn f x y => .fn f (AV.backL ks n x) (AV.backL ks n y)
  | .raw t k b => .raw t k (bk ks n b)
  | .loc b o => .loc (bk ks n b) o
  | .loci b o i => .loci (bk ks n b) o i
  | .idsl b o => .idsl (bk ks n b) o
  | .yld b => .yld (bk ks n b)
  | .iface t v => .iface t (AV.back ks n v)
  | .asl t b lo hi => .asl t (bk ks n b) lo hi
  | .elp t b i => .elp t (bk ks n b) i
  | .mref b => .mref (bk ks n b)
  | v => v
def AV.backL (ks : List Nat) (n : Nat) : List AV → List AV
  | [] => []
  | v :: vs => AV.back ks n v :: AV.backL ks n vs
end
def Blk.back (ks : List Nat) (n : Nat) : Blk → Blk
  | .box v => .box (v.back ks n)
  | .fro v => .fro (v.back ks n)
  | m => m
def mdrop {α : Type} : Nat → List α → List α
  | 0, l => l
  | _, [] => []
  | n + 1, _ :: l => mdrop n l

def Blk.dem (b : Nat) : Blk → Blk
  | .box v => .box (v.dem b)
  | .fro v => .fro (v.dem b)
  | m => m
def St.dem (st : St) (b : Nat) : St := { tmps := AV.demL b st.tmps, outer := st.outer.map (AV.demL b), mem := st.mem.map (Blk.dem b) }

/-- of these blocks those that may be rows -/
def rowKs (mem : List Blk) : List Nat → List Nat
  | [] => []
  | k :: ks => match mget mem k with
    | some (.box _) => rowKs mem ks
    | some (.fro _) => rowKs mem ks
    | some .loop => rowKs mem ks
    | some (.arr _ _ _) => rowKs mem ks
    | some (.mp _ _) => rowKs mem ks
    | _ => k :: rowKs mem ks
/-- these rows may have been turned -/
def St.dems : List Nat → St → St
  | [], st => st
  | k :: ks, st => St.dems ks (st.dem k)
def putL {α : Type} : List Nat → List α → List α → List α
  | [], _, l => l
  | _, [], l => l
  | k :: r, a :: as, l => putL r as (mset l k a)
/-- blocks that were handed over come back, with new ones behind them -/
def St.merge (st : St) (ks : List Nat) (bs : List Blk) : St :=
  match St.dems (rowKs st.mem ks) st with
  | st1 => { st1 with mem := mapp (putL ks (bs.map (Blk.back ks (mlen st.mem))) st1.mem) ((mdrop (mlen ks) bs).map (Blk.back ks (mlen st.mem))) }

/-- the blocks that values speak of -/
def add1 (b : Nat) (l : List Nat) : List Nat := match idx l b with | some _ => l | none => mapp l [b]
mutual
def AV.refs : AV → List Nat → List Nat
  | .sl _ _ (some b), l => add1 b l
  | .agg ps, l => AV.refsL ps l
  | .tup vs, l => AV.refsL vs l
  | .cptr v, l => AV.refs v l
  | .fn _ x y, l => AV.refsL y (AV.refsL x l)
  | .raw _ _ b, l => add1 b l
  | .loc b _, l => add1 b l
  | .loci b _ _, l => add1 b l
  | .idsl b _, l => add1 b l
  | .yld b, l => add1 b l
  | .iface _ v, l => AV.refs v l
  | .asl _ b _ _, l => add1 b l
  | .elp _ b _, l => add1 b l
  | .mref b, l => add1 b l
  | _, l => l
def AV.refsL : List AV → List Nat → List Nat
  | [], l => l
  | v :: vs, l => AV.refsL vs (AV.refs v l)
end
def Blk.refs : Blk → List Nat → List Nat
  | .box v, l => v.refs l
  | .fro v, l => v.refs l
  | _, l => l
def reach (mem : List Blk) : Nat → Nat → List Nat → List Nat
  | 0, _, l => l
  | n + 1, i, l => match mget l i with
    | none => l
    | some k => reach mem n (i + 1) (match mget mem k with | some m => m.refs l | none => l)
def footOf (args : List AV) (mem : List Blk) : List Nat := reach mem (mlen mem) 0 (AV.refsL args [])


/- values as they stand still from here on: variables that a closure has captured do -/
def frzL (f : St → AV → Option (AV × St)) : St → List AV → Option (List AV × St)
  | st, [] => some ([], st)
  | st, v :: vs => match f st v with
    | some (u, st1) => (match frzL f st1 vs with
      | some (us, st2) => some (u :: us, st2)
      | none => none)
    | none => none
def frz : Nat → St → AV → Option (AV × St)
  | 0, _, _ => none
  | n + 1, st, v => match v with
    | .fn f a c => (match frzL (frz n) st a with
      | some (a', st1) => (match frzL (frz n) st1 c with
        | some (c', st2) => some (.fn f a' c', st2)
        | none => none)
      | none => none)
    | .agg ps => (match frzL (frz n) st ps with
      | some (a', st1) => some (.agg a', st1)
      | none => none)
    | .loc b o => cond (Nat.beq o 0) (match mget st.mem b with
      | some (.box u) => (match frz n { st with mem := mset st.mem b (.fro u) } u with
        | some (u', st') => some (.cptr u', st')
        | none => none)
      | some (.fro u) => (match frz n st u with
        | some (u', st') => some (.cptr u', st')
        | none => none)
      | _ => none) none
    | v => (v.ren []).map fun u => (u, st)
/-- arguments as a callee sees them: alias slices of a variable stand still from here on -/
def frozen1 (st : St) : AV → AV × St
  | .idsl b off => match mget st.mem b with
    | some (Blk.box v) => (match v.at off 32 1 with | some (.id a) => (.sl .u8 a.l none, { st with mem := mset st.mem b (Blk.fro v) }) | _ => (.any, st))
    | some (Blk.fro v) => (match v.at off 32 1 with | some (.id a) => (.sl .u8 a.l none, st) | _ => (.any, st))
    | _ => (.any, st)
  | .fn f a c => (frz 8 st (.fn f a c)).getD (.any, st)
  | v => ((v.ren []).getD .any, st)
def frozenL (st : St) : List AV → List AV × St
  | [] => ([], st)
  | v :: vs => match frozen1 st v with
    | (a, st1) => match frozenL st1 vs with
      | (as, st2) => (a :: as, st2)

/-- the target of an append: its row -/
def rowOf (st : St) (t : Ty) (e : TypeId) : AV → Option (List t.den × Nat × St)
  | .nilsl => some ([], (mlen st.mem), { st with mem := mapp st.mem [Blk.row e t.size] })
  | .sl t' xs (some b) => match mget st.mem b with
    | some (Blk.row e' sz) => if h : t' = t then cond (e' == e && sz == t.size) (some (h ▸ xs, b, st)) none else none
    | _ => none
  | _ => none

/-- what is appended -/
def newsOf (st : St) (t : Ty) : AV → Option (List t.den)
  | .nilsl => some []
  | .sl t' ys _ => if h : t' = t then some (h ▸ ys) else none
  | .str l => if h : t = .u8 then some (h ▸ l) else none
  | .idsl b off => match memAt st b off 32 1 with | some (.id a) => if h : t = .u8 then some (h ▸ a.l) else none | _ => none
  | _ => none

def elemT (P : Program) (t : TypeId) : Option TypeId := match P.underlying t with | some (.slice e) => some e | _ => none

/-- an element type's bytes -/
def bytesT (P : Program) (e : TypeId) : Nat := ((P.info? e).map (·.bytes)).getD 0

def appendAV {ρ : Type} (E : Env) (st : St) (tT xT : TypeId) (s x : AV) (K : AV → St → Option ρ) : Option ρ :=
  match elemT E.P tT with
  | none => none
  | some e => match E.ty e with
    | none => none
    | some t => match rowOf st t e s with
      | none => none
      | some (xs, b, st1) => match newsOf st1 t x with
        | none => none
        | some ys =>
          cond (zeroOk E.P e t && t.ok && decide (0 < t.size) && (match E.P.underlying xT with | some (.slice _) => true | some .string => t == .u8 | _ => false))
            (cond (fits (dlen xs) (dlen ys) (bytesT E.P e)) (K (.sl t (dapp xs ys) (some b)) (st1.dem b)) none) none

/-- a new row: as an own one -/
def decAll (t : Ty) : List AV → Option (List t.den)
  | [] => some []
  | v :: vs => match dec t v, decAll t vs with | some x, some xs => some (x :: xs) | _, _ => none

/-- all of the places, in order -/
def inOrder : Nat → List (Nat × AV) → Option (List AV)
  | _, [] => some []
  | n, (i, v) :: r => cond (i == n) ((inOrder (n + 1) r).map (v :: ·)) none

/-- a call of what a contract stands for -/
def fcCall {ρ : Type} [Pan ρ] (fc : Fc) (ks : List Nat) (as : List AV) (st : St) (K : AV → St → Option ρ) (alt : Option ρ) : Option ρ :=
  match fc.dec as (pickB st.mem ks ks) with
  | some x => cond (fc.may && fc.pan x) Pan.pan ((fc.G x).elim fun q => cond (Nat.ble (mlen ks) (mlen q.2)) (K (q.1.back ks (mlen st.mem)) (st.merge ks q.2)) none)
  | none => alt
/-- these blocks are known, each once -/
def okKs (n : Nat) : List Nat → Bool
  | [] => true
  | k :: ks => Nat.blt k n && (idx ks k).isNone && okKs n ks
/-- yield: the body of the loop -/
def yldCall {ρ : Type} [Pan ρ] (E : Env) (b : Nat) (args : List AV) (st : St) (K : St → Option ρ) : Option ρ :=
  match mget st.mem b, E.yld with
  | some .loop, some (ks, fc) => (match AV.renL ks args with
    | some as => cond (!fc.may && okKs (mlen st.mem) ks) (fcCall fc ks as st (fun _ st => K st) none) none
    | none => none)
  | _, _ => none

/-- the sort of a map's elements -/
def mapElem (E : Env) (t : TypeId) : Option Ty := match E.P.underlying t with
  | some (.map _ e) => (match E.ty e with
    | some ty => cond (mapOk E.P t ty) (some ty) none
    | none => none)
  | _ => none
def mapPut {ρ : Type} (E : Env) (t : TypeId) (m k x : Operand) (d : Option Tmp) (st : St) (K : St → Option ρ) : Option ρ :=
  match evalOp st m, evalOp st k, evalOp st x with
  | some (.mref b), some (.int .i64 n), some v => (match mget st.mem b with
    | some (Blk.mp ty kv) => (match dec ty v with
      | some y => cond (mapOk E.P t ty && v.solid) (K ({ st with mem := mset st.mem b (Blk.mp ty (mpset ty kv n y)) }.put d .any)) none
      | none => none)
    | _ => none)
  | _, _, _ => none

/-- what operations do -/
def doOp {ρ : Type} [Pan ρ] (E : Env) (call : CallT ρ) (o : Oper) (st : St) (K : St → Option ρ) : Option ρ :=
  match o.op with
  | .alloc t => match E.ty t with
    | some ty => cond (zeroOk E.P t ty && ty.ok) (K ({ st with mem := mapp st.mem [Blk.box (zeroAV ty)] }.put o.dst (.loc (mlen st.mem) 0))) none
    | none => none
  | .box _ x => match evalOp st x with
    | none => none
    | some v => cond v.solid (K ({ st with mem := mapp st.mem [Blk.box v] }.put o.dst (.loc (mlen st.mem) 0))) none
  | .store t p x => match evalOp st p, evalOp st x with
    | some (.loc b off), some v => (match mget st.mem b with
      | some (Blk.box u) => cond (v.size == sizeT E.P t && v.solid && (E.P.info? t).isSome)
          (match u.put off v.size v.cls v with | some u' => K ({ st with mem := mset st.mem b (Blk.box u') }.put o.dst .any) | none => none) none
      | _ => none)
    | some (.loci b off i), some (.u8 c) => (match mget st.mem b with
      | some (Blk.box u) => (match u.at off 32 1 with
        | some (.id a) => cond (isU8 E.P t && E.P.cellsOf t == 1) (match u.put off 32 1 (.id (idset a i c)) with | some u' => K ({ st with mem := mset st.mem b (Blk.box u') }.put o.dst .any) | none => none) none
        | _ => none)
      | _ => none)
    | some (.elp ty b i), some v => (match mget st.mem b with
      | some (Blk.arr ty' e xs) => (match dec ty v with
        | some x => if h : ty' = ty then cond (v.size == sizeT E.P t && (E.P.info? t).isSome && v.solid)
            (K ({ st with mem := mset st.mem b (Blk.arr ty e (dset ty (h ▸ xs) i x)) }.put o.dst .any)) none else none
        | none => none)
      | _ => none)
    | _, _ => none
  | .convert s d x => (match evalOp st x, E.P.underlying d with
    | some (.str l), some (.slice e) => cond (isU8 E.P e && (E.P.underlying s).isSome) (K (st.put o.dst (.sl .u8 l none))) none
    | _, _ => match pureOp E st o with
      | some (ok, v) => cond ok (K (st.put o.dst v)) none
      | none => none)
  | .panic x => match evalOp st x with
    | some (.iface t (.agg [])) => cond (Nat.beq t badT) Pan.pan none
    | _ => none
  | .makeMap t none => match mapElem E t with
    | some ty => K ({ st with mem := mapp st.mem [Blk.mp ty []] }.put o.dst (.mref (mlen st.mem)))
    | none => none
  | .insert t m k x => mapPut E t m k x o.dst st K
  | .mapUpdate t m k x => mapPut E t m k x o.dst st K
  | .buildSlice t len parts => match elemT E.P t with
    | none => none
    | some e => match E.ty e with
      | none => none
      | some ty => match evalParts st parts.toList with
        | none => none
        | some ps => match inOrder 0 ps with
          | none => none
          | some vs => match decAll ty vs with
            | none => none
            | some xs => cond (mlen vs == len && zeroOk E.P e ty && ty.ok && decide (0 < ty.size) && decide (len * ty.size ≤ 65536))
                (K ({ st with mem := mapp st.mem [Blk.row e ty.size] }.put o.dst (.sl ty xs (some (mlen st.mem))))) none
  | .makeSlice t l c => match elemT E.P t, evalOp st l, evalOp st c with
    | some e, some (.int .i64 n), some (.int .i64 m) => match E.ty e with
      | none => none
      | some ty => cond (zeroOk E.P e ty && ty.ok && decide (ty.size = 1))
          (cond (ile 0 n && ieq n m && fits n 0 (bytesT E.P e))
            (K ({ st with mem := mapp st.mem [Blk.row e ty.size] }.put o.dst (.sl ty (drep n ty.zero) (some (mlen st.mem))))) none) none
    | _, _, _ => none
  | .call c => match c.callee with
    | .builtin .append => match c.args.toList, c.argTypes.toList with
      | [s, x], [tT, xT] => (match evalOp st s, evalOp st x with
        | some sv, some xv => appendAV E st tT xT sv xv (fun v st => K (st.put o.dst v))
        | _, _ => none)
      | _, _ => none
    | .builtin .copy => match c.args.toList, c.argTypes.toList with
      | [d, x], [dT, _] => (match evalOp st d, evalOp st x with
        | some (.idsl b off), some xv => (match mget st.mem b with
          | some (Blk.box u) => (match u.at off 32 1, newsOf st .u8 xv with
            | some (.id a), some l => cond (match elemT E.P dT with | some e => isU8 E.P e && E.P.cellsOf e == 1 | none => false)
                (cond (ile (dlen l) 32) (match u.put off 32 1 (.id (a.over l)) with
                  | some u' => K ({ st with mem := mset st.mem b (Blk.box u') }.put o.dst (.int .i64 (dlen l)))
                  | none => none) none) none
            | _, _ => none)
          | _ => none)
        | _, _ => none)
      | _, _ => none
    | .builtin .clear => match c.args.toList, c.argTypes.toList with
      | [s], [tT] => (match evalOp st s, elemT E.P tT with
        | some (.asl ty b lo hi), some e => (match mget st.mem b with
          | some (Blk.arr ty' e' xs) => if h : ty' = ty then cond (zeroOk E.P e ty && ty.ok && decide (0 < ty.size) && Nat.beq e e')
              (K ({ st with mem := mset st.mem b (Blk.arr ty e' (dclear ty (h ▸ xs) lo hi)) }.put o.dst .any)) none else none
          | _ => none)
        | _, _ => none)
      | _, _ => none
    | .value f => match evalOp st f, evalAll st c.args.toList with
      | some (.fn (.func g) first captured), some args => call g (mapp first (mapp args captured)) st (fun v st => K (st.put o.dst v))
      | _, _ => none
    | .invoke x name => match evalOp st x, evalAll st c.args.toList with
      | some xv, some vs => (match invokeAV E.P name xv with
        | some (g, u) => call g (u :: vs) st (fun v st => K (st.put o.dst v))
        | none => none)
      | _, _ => none
    | _ => match pureOp E st o with
      | some (ok, v) => cond ok (K (st.put o.dst v)) none
      | none => none
  | _ => match pureOp E st o with
    | some (ok, v) => cond ok (K (st.put o.dst v)) none
    | none => none

/-- 'append' of so many zeros to a nil slice -/
def growAV {ρ : Type} (E : Env) (st : St) (tT : TypeId) (n : Int) (K : AV → St → Option ρ) : Option ρ :=
  match elemT E.P tT with
  | none => none
  | some e => match E.ty e with
    | none => none
    | some t => cond (zeroOk E.P e t && t.ok && decide (0 < t.size))
        (cond (ile 1 n && fits n 0 (bytesT E.P e)) (K (.raw t (inat n) (mlen st.mem)) { st with mem := mapp st.mem [Blk.row e t.size] }) none) none

def isZeroC : Operand → Bool
  | .const (.int .i64 n) => ieq n 0
  | _ => false
/-- the same, and parts of slices that stay rows -/
def doOp2 {ρ : Type} [Pan ρ] (E : Env) (call : CallT ρ) (o : Oper) (st : St) (K : St → Option ρ) : Option ρ :=
  match o.op with
  | .slice t x none (some hi) none => match E.P.underlying t, evalOp st x, evalOp st hi with
    | some (.slice e), some (.raw ty _ b), some (.int .i64 j) => cond (E.P.cellsOf e != 0) (cond (ieq j 0) (K (st.put o.dst (.sl ty [] (some b)))) none) none
    | _, _, _ => doOp E call o st K
  | .slice t x none (some hi) (some m) => match E.P.underlying t, evalOp st x, evalOp st hi, evalOp st m with
    | some (.slice e), some (.sl ty xs _), some (.int .i64 j), some (.int .i64 k) => cond (E.P.cellsOf e == ty.size && decide (0 < ty.size))
        (cond (isZeroC hi && isZeroC m) (K ({ st with mem := mapp st.mem [Blk.row e ty.size] }.put o.dst (.sl ty [] (some (mlen st.mem)))))
          (cond (ieq j (dlen xs) && ieq k (dlen xs)) (K ({ st with mem := mapp st.mem [Blk.row e ty.size] }.put o.dst (.sl ty xs (some (mlen st.mem))))) none)) none
    | some (.slice e), some .nilsl, some (.int .i64 j), some (.int .i64 k) => cond (E.P.cellsOf e != 0) (cond (ieq j 0 && ieq k 0) (K (st.put o.dst .nilsl)) none) none
    | _, _, _, _ => none
  | .call ⟨.builtin .append, args, ats⟩ => match args.toList, ats.toList with
    | [s, x], [tT, xT] => match E.P.underlying xT, evalOp st s, evalOp st x with
      | some (.int .i64), some .nilsl, some (.int .i64 n) => growAV E st tT n (fun v st => K (st.put o.dst v))
      | _, _, _ => doOp E call o st K
    | _, _ => doOp E call o st K
  | _ => doOp E call o st K

/-- one of a row of functions: whichever it is -/
def lstPick {ρ : Type} (i : Int) (K : AV → Option ρ) : Nat → List FuncId → Option ρ
  | _, [] => none
  | j, f :: fs => cond (ieq i (j : Nat)) (K (.cptr (.fn (.func f) [] []))) (lstPick i K (j + 1) fs)
def lstOk (P : Program) (t : TypeId) : Bool := match P.underlying t with
  | some (.slice e) => P.cellsOf e == 1 && (match P.info? e with | some i => i.size == 1 && (match i.zero with | some .nilFunc => true | _ => false) | none => false)
  | _ => false
def lstAt {ρ : Type} (E : Env) (t : TypeId) (fs : List FuncId) (ix : AV) (K : AV → Option ρ) : Option ρ :=
  match asInt ix with
  | some (_, i) => cond (lstOk E.P t) (cond (ile 0 i && ilt i (mlen fs : Nat)) (lstPick i K 0 fs) none) none
  | none => none
/-- plain functions, in order -/
def fnParts0 : Nat → List (Nat × Operand) → Option (List FuncId)
  | _, [] => some []
  | n, (i, .func f) :: r => cond (Nat.beq i n) (match fnParts0 (n + 1) r with | some l => some (f :: l) | none => none) none
  | _, _ => none
def fnParts (l : List (Nat × Operand)) : Option (List FuncId) := fnParts0 0 l

/-- the same, and calls of yield -/
def doOp3 {ρ : Type} [Pan ρ] (E : Env) (call : CallT ρ) (o : Oper) (st : St) (K : St → Option ρ) : Option ρ :=
  match o.op with
  | .call ⟨.value f, args, _⟩ => match evalOp st f, evalAll st args.toList with
    | some (.yld b), some vs => yldCall E b vs st (fun st => K (st.put o.dst (.bool true)))
    | _, _ => doOp2 E call o st K
  | .indexAddr t x i => match evalOp st x, evalOp st i with
    | some (.lst fs), some ix => lstAt E t fs ix (fun v => K (st.put o.dst v))
    | _, _ => doOp2 E call o st K
  | .buildSlice t len parts => match fnParts parts.toList with
    | some (f :: fs) => cond (lstOk E.P t && Nat.beq len (mlen (f :: fs)) && Nat.ble len 65536) (K (st.put o.dst (.lst (f :: fs)))) none
    | _ => doOp2 E call o st K
  | _ => doOp2 E call o st K

/-- the slot that says whether an operation is carried out -/
def guardSlot (all : List Oper) (j : Nat) : Option Nat := (all[j]?).bind (·.dst)

def execOps {ρ : Type} [Pan ρ] (E : Env) (call : CallT ρ) (all : List Oper) : List Oper → St → (St → Option ρ) → Option ρ
  | [], st, K => K st
  | o :: rest, st, K =>
    match o.guard with
    | none => doOp3 E call o st (fun st => execOps E call all rest st K)
    | some (j, want) => match guardSlot all j with
      | none => none
      | some s => match mget st.tmps s with
        | some (.bool b) =>
          cond (biff b want) (doOp3 E call o (st.put (some s) (.bool want)) (fun st => execOps E call all rest st K))
            (execOps E call all rest ((st.put (some s) (.bool (!want))).put o.dst (.tup [])) K)
        | some (.tup []) => execOps E call all rest (st.put o.dst (.tup [])) K
        | _ => none

def key : Code → Nat
  | .region id _ _ => id
  | .seq a _ => key a
  | .cond _ a _ => key a
  | .block _ b => key b
  | .loop b => key b
  | .scope b => key b
  | _ => 0

/-- only what is read afterwards is kept -/
def fill : Nat → List (Nat × AV) → List AV
  | n, l => l.foldl (fun ts p => mset ts p.1 p.2) (mrep n .any)
def keepL (ts : List AV) : List Nat → Option (List AV)
  | [] => some []
  | i :: r => match mget ts i, keepL ts r with | some v, some vs => some (v :: vs) | _, _ => none
/-- nil slices that are appended to are rows from here on -/
def up1 (st : St) : Up → St
  | .slot i off t e => match mget st.tmps i with
    | some v => (match v.at off 1 0 with
      | some .nilsl => (match v.put off 1 0 (.sl t [] (some (mlen st.mem))) with
        | some v' => { st with tmps := mset st.tmps i v', mem := mapp st.mem [Blk.row e t.size] }
        | none => st)
      | _ => st)
    | none => st
  | .box b off t e => match mget st.mem b with
    | some (.box v) => (match v.at off 1 0 with
      | some .nilsl => (match v.put off 1 0 (.sl t [] (some (mlen st.mem))) with
        | some v' => { st with mem := mapp (mset st.mem b (.box v')) [Blk.row e t.size] }
        | none => st)
      | _ => st)
    | _ => st
def upL (st : St) : List Up → St
  | [] => st
  | u :: r => upL (up1 st u) r

def mtake {α : Type} : Nat → List α → List α
  | 0, _ => []
  | _, [] => []
  | n + 1, a :: l => a :: mtake n l
/-- the first ones stay where they are -/
def prefixOk : Nat → Nat → List Nat → Bool
  | 0, _, _ => true
  | n + 1, i, k :: ks => Nat.beq k i && prefixOk n (i + 1) ks
  | _ + 1, _, [] => false
/-- some slots, and some blocks, in their forms -/
def viewK (nf : Nat) (ks keep : List Nat) (sh : Sh) (ms : List BSh) (st : St) : Option (sh.den × MSh ms) :=
  cond (okKs (mlen st.mem) ks && prefixOk nf 0 ks && sh.chV && okM ms) (match keepL st.tmps keep with
    | some vs => both (decL sh (AV.renA ks vs)) (decM ms (pickB st.mem ks ks))
    | none => none) none
/-- the blocks that a form speaks of -/
def Sh.refs2 : Sh → (AV → List Nat → List Nat) × (List AV → List Nat → List Nat)
  | .own _ _ => (fun v l => match v with | .sl _ _ (some b) => add1 b l | _ => l, fun _ l => l)
  | .loc _ _ => (fun v l => match v with | .loc b _ => add1 b l | _ => l, fun _ l => l)
  | .idsl _ _ => (fun v l => match v with | .idsl b _ => add1 b l | _ => l, fun _ l => l)
  | .yld _ => (fun v l => match v with | .yld b => add1 b l | _ => l, fun _ l => l)
  | .asl _ _ => (fun v l => match v with | .asl _ b _ _ => add1 b l | _ => l, fun _ l => l)
  | .mref _ => (fun v l => match v with | .mref b => add1 b l | _ => l, fun _ l => l)
  | .agg c => (fun v l => match v with | .agg ps => (Sh.refs2 c).2 ps l | _ => l, fun _ l => l)
  | .tup c => (fun v l => match v with | .tup ps => (Sh.refs2 c).2 ps l | _ => l, fun _ l => l)
  | .cptr s => (fun v l => match v with | .cptr u => (Sh.refs2 s).1 u l | _ => l, fun _ l => l)
  | .fn _ a c => (fun v l => match v with | .fn _ x y => (Sh.refs2 c).2 y ((Sh.refs2 a).2 x l) | _ => l, fun _ l => l)
  | .cons s c => (fun _ l => l, fun vs l => match vs with | p :: ps => (Sh.refs2 c).2 ps ((Sh.refs2 s).1 p l) | [] => l)
  | _ => (fun _ l => l, fun _ l => l)
def reachS (mem : List Blk) : List BSh → Nat → List Nat → List Nat
  | [], _, l => l
  | b :: r, i, l => match mget l i with
    | none => l
    | some k => reachS mem r (i + 1) (match b, mget mem k with
      | .box s, some (.box v) => (Sh.refs2 s).1 v l
      | .fro s, some (.fro v) => (Sh.refs2 s).1 v l
      | _, _ => l)
def mrange : Nat → Nat → List Nat
  | _, 0 => []
  | i, n + 1 => i :: mrange (i + 1) n
/-- the blocks: those that are named; or, none being named, the first ones, and those that the slots lead to -/
def dynKs (nf : Nat) (ks : List Nat) (sh : Sh) (ms : List BSh) (keep : List Nat) (st : St) : List Nat := match ms, ks with
  | _ :: _, [] => (match keepL st.tmps keep with
    | some vs => reachS st.mem ms 0 ((Sh.refs2 sh).2 vs (mrange 0 nf))
    | none => ks)
  | _, _ => ks
def view (nf : Nat) (ks keep : List Nat) (sh : Sh) (ms : List BSh) (st : St) : Option (sh.den × MSh ms) := viewK nf (dynKs nf ks sh ms keep st) keep sh ms st
def stOf (m : Nat) (keep : List Nat) (sh : Sh) (ms : List BSh) (x : sh.den × MSh ms) : St :=
  { tmps := fill m (keep.zip (encL sh x.1)), outer := [], mem := encM ms x.2 }
def Ex.same : Ex → Ex → Bool
  | .normal, .normal => true
  | .exit i, .exit j => Nat.beq i j
  | .ret, .ret => true
  | _, _ => false
/-- what is known at a loop's end -/
def cutO (nf : Nat) : (l : List Out) → Ex → St → Option (OutT l)
  | [], _, _ => none
  | o :: l, e, st => cond (Ex.same o.e e) ((view nf o.ks o.keep o.sh o.ms st).map .inl) ((cutO nf l e st).map .inr)
def outE (m : Nat) : (l : List Out) → OutT l → Ex × St
  | o :: _, .inl x => (o.e, stOf m o.keep o.sh o.ms x)
  | _ :: l, .inr y => outE m l y

def unroll {ρ : Type} (f : St → Cont ρ → Option ρ) : Nat → St → Cont ρ → Option ρ
  | 0, _, _ => none
  | n + 1, st, K => f st (fun e st => match e with
    | .normal => unroll f n st K
    | e => K e st)

mutual
/-- rows are no longer a frame's own -/
def AV.shed : AV → AV
  | .sl t xs _ => .sl t xs none
  | .raw .. => .any
  | .agg ps => .agg (AV.shedL ps)
  | .tup vs => .tup (AV.shedL vs)
  | .cptr v => .cptr (AV.shed v)
  | .fn f x y => .fn f (AV.shedL x) (AV.shedL y)
  | .iface t v => .iface t (AV.shed v)
  | v => v
def AV.shedL : List AV → List AV
  | [] => []
  | v :: vs => AV.shed v :: AV.shedL vs
end

mutual
/-- a value that is the same in every memory -/
def AV.plain : AV → Bool
  | .int _ _ | .u8 _ | .bool _ | .str _ | .id _ => true
  | .agg ps => AV.plains ps
  | .tup vs => AV.plains vs
  | _ => false
def AV.plains : List AV → Bool
  | [] => true
  | v :: vs => AV.plain v && AV.plains vs
end

/-- arguments as a callee sees them -/
def strips : List AV → List AV
  | [] => []
  | v :: vs => (v.ren []).getD .any :: strips vs

/-- the first contract that knows these arguments -/
def firstDec : List Fc → List AV → Option (Tr (AV × List Blk))
  | [], _ => none
  | fc :: r, as => cond (fc.foot || fc.may) (firstDec r as) (match fc.dec as [] with
    | some x => some (fc.G x)
    | none => firstDec r as)
/-- an operation in a region that may go in any order: it only reads -/
def doQ {ρ : Type} (E : Env) (o : Oper) (st : St) (K : St → Option ρ) : Option ρ :=
  match o.op with
  | .call ⟨.value f, args, _⟩ => match evalOp st f, evalAll st args.toList with
    | some (.fn (.func g) first captured), some vs => (match firstDec (E.con g) (strips (mapp first (mapp vs captured))) with
      | some t => t.elim fun q => (match q.2 with
        | [] => cond q.1.plain (K (st.put o.dst q.1)) none
        | _ => none)
      | none => none)
    | _, _ => none
  | .call ⟨.invoke x name, args, _⟩ => match evalOp st x, evalAll st args.toList with
    | some xv, some vs => (match invokeAV E.P name xv with
      | some (g, u) => (match firstDec (E.con g) (strips (u :: vs)) with
        | some t => t.elim fun q => (match q.2 with
          | [] => cond q.1.plain (K (st.put o.dst q.1)) none
          | _ => none)
        | none => none)
      | none => none)
    | _, _ => none
  | _ => match pureOp E st o with
    | some (ok, v) => cond ok (K (st.put o.dst v)) none
    | none => none

def execQ {ρ : Type} (E : Env) (all : List Oper) : List Oper → St → (St → Option ρ) → Option ρ
  | [], st, K => K st
  | o :: rest, st, K =>
    match o.guard with
    | none => doQ E o st (fun st => execQ E all rest st K)
    | some (j, want) => match guardSlot all j with
      | none => none
      | some s => match mget st.tmps s with
        | some (.bool b) =>
          cond (biff b want) (doQ E o (st.put (some s) (.bool want)) (fun st => execQ E all rest st K))
            (execQ E all rest ((st.put (some s) (.bool (!want))).put o.dst (.tup [])) K)
        | some (.tup []) => execQ E all rest (st.put o.dst (.tup [])) K
        | _ => none

mutual
/-- a value that the relation determines -/
def AV.det : AV → Bool
  | .int _ _ | .u8 _ | .bool _ | .str _ | .id _ | .nilsl | .nilfn | .loc _ _ | .loci _ _ _ | .idsl _ _ => true
  | .agg ps => AV.plains ps
  | .tup vs => AV.dets vs
  | .fn _ x y => AV.dets x && AV.dets y
  | _ => false
def AV.dets : List AV → Bool
  | [] => true
  | v :: vs => AV.det v && AV.dets vs
end

/-- an operation that may be taken first -/
def quietKind (o : Oper) : Bool := match o.op with
  | .move _ | .assign _ | .pick _ _ _ | .build _ _ | .binOp _ _ _ _ _ | .unOp _ _ _ | .convert _ _ _ | .slice _ _ _ _ _ | .fieldAddr _ _ _ | .field _ _ _ | .index _ _ _ | .indexAddr _ _ _ | .extract _ _ | .makeFunc _ _ _ => true
  | .makeInterface _ _ => true
  | .call ⟨.builtin .len, _, _⟩ | .call ⟨.builtin .min, _, _⟩ | .call ⟨.builtin .max, _, _⟩ => true
  | _ => false
def deads (l : List Blk) : List Blk := mrep (mlen l) .dead
/-- a load of what stands still -/
def cptrLoad (st : St) (o : Oper) : Bool := match o.op with
  | .load _ p => (match evalOp st p with | some (.cptr _) => true | _ => false)
  | _ => false
/-- what it is, whatever the world -/
def quietW {ρ : Type} (E : Env) (o : Oper) (st : St) (K : St → Option ρ) : Option ρ :=
  match o.op with
  | .move x => match evalOp st x with | some v => K (st.put o.dst v) | none => none
  | .assign x => match evalOp st x with | some v => K (st.put o.dst v) | none => none
  | .slice _ _ _ _ _ | .fieldAddr _ _ _ | .field _ _ _ | .index _ _ _ | .indexAddr _ _ _ | .extract _ _ | .makeFunc _ _ _ | .build _ _ | .makeInterface _ _ => (match pureOp E st o with
    | some (ok, v) => cond ok (K (st.put o.dst v)) none
    | none => none)
  | .load _ _ => cond (cptrLoad st o) (match pureOp E st o with
    | some (ok, v) => cond ok (K (st.put o.dst v)) none
    | none => none) none
  | _ => match pureOp E { st with mem := deads st.mem } o with
    | some (ok, v) => cond ok (cond v.det (K (st.put o.dst v)) none) none
    | none => none

def firstQuiet (ops : Array Oper) (listed : Array Bool) : List Nat → Option Nat
  | [] => none
  | i :: l => match mget ops.toList i with
    | some o => cond (quietKind o && Region.free .any ops listed i) (some i) (firstQuiet ops listed l)
    | none => firstQuiet ops listed l

/-- with its guard -/
def guarded {ρ : Type} (all : List Oper) (o : Oper) (st : St) (K : St → Option ρ) (f : St → Option ρ) : Option ρ :=
  match o.guard with
  | none => f st
  | some (j, want) => match guardSlot all j with
    | none => none
    | some s => match mget st.tmps s with
      | some (.bool b) => cond (biff b want) (f (st.put (some s) (.bool want))) (K ((st.put (some s) (.bool (!want))).put o.dst (.tup [])))
      | some (.tup []) => K (st.put o.dst (.tup []))
      | _ => none

/-- does an operation wait for another one? -/
def waits (ops : Array Oper) : Nat → Nat → Nat → Bool
  | 0, _, _ => false
  | n + 1, i, j => match ops[j]? with
    | some oj => oj.after.any fun e => Region.binds .any e && (e.on == i || waits ops n i e.on)
    | none => false
/-- what an operation may write: nothing; any variable; one -/
abbrev Tch := Option (Option Nat)
def hits : Tch → Nat → Bool
  | none, _ => false
  | some none, _ => true
  | some (some b'), b => Nat.beq b' b || (Nat.ble 1000000 b' && Nat.ble b' (1000000 + b))
def tchAt (T : List Tch) (j : Nat) : Tch := match mget T j with
  | some t => t
  | none => none
def noHit (ops : Array Oper) (T : List Tch) (listed : Array Bool) (i b : Nat) : Nat → Bool
  | 0 => true
  | j + 1 => (Nat.beq j i || listed.getD j true || !hits (tchAt T j) b || waits ops ops.size i j) && noHit ops T listed i b j
/-- a load of a variable that nobody writes who may come before it -/
def heldLoad (ops : Array Oper) (T : List Tch) (listed : Array Bool) (i : Nat) (st : St) (o : Oper) : Bool := match o.op with
  | .load _ p => (match evalOp st p with | some (.loc b _) => noHit ops T listed i b ops.size | _ => false)
  | .lookup _ m _ _ => (match evalOp st m with | some (.mref b) => noHit ops T listed i b ops.size | _ => false)
  | _ => false
/-- a store to the variable that is foreseen -/
def storeOff (t : Tch) (st : St) (o : Oper) : Bool := match o.op with
  | .store _ p _ => (match evalOp st p with | some (.loc b _) => hits t b | _ => false)
  | _ => false
/-- what makes new memory alone -/
def gkind (o : Oper) : Bool := match o.op with
  | .alloc _ | .box _ _ | .buildSlice _ _ _ => true
  | _ => false
/-- is what it comes to plain, whatever the case? -/
def Tr.allPlain : Tr (AV × List Blk) → Bool
  | .ret q => q.1.plain && (match q.2 with | [] => true | _ => false)
  | .br _ x y => x.allPlain && y.allPlain
  | .no => true
/-- a call by a contract that leaves what is there alone -/
def callDec (E : Env) (st : St) (o : Oper) : Option (Tr (AV × List Blk)) := match o.op with
  | .call ⟨.value f, args, _⟩ => (match evalOp st f, evalAll st args.toList with
    | some (.fn (.func g) first captured), some vs => firstDec (E.con g) (strips (mapp first (mapp vs captured)))
    | _, _ => none)
  | .call ⟨.invoke x name, args, _⟩ => (match evalOp st x, evalAll st args.toList with
    | some xv, some vs => (match invokeAV E.P name xv with
      | some (g, u) => firstDec (E.con g) (strips (u :: vs))
      | none => none)
    | _, _ => none)
  | _ => none
def callK {ρ : Type} (o : Oper) (st : St) (K : St → Option ρ) (q : AV × List Blk) : Option ρ := K ((st.merge [] q.2).put o.dst (q.1.back [] (mlen st.mem)))
def quietCall (E : Env) (st : St) (o : Oper) : Bool := match callDec E st o with
  | some t => t.allPlain
  | none => false
def firstQuietB (E : Env) (ops : Array Oper) (T : List Tch) (st : St) (listed : Array Bool) : List Nat → Option Nat
  | [] => none
  | i :: l => match mget ops.toList i with
    | some o => cond ((quietKind o || heldLoad ops T listed i st o || quietCall E st o || cptrLoad st o) && Region.free .any ops listed i) (some i) (firstQuietB E ops T st listed l)
    | none => firstQuietB E ops T st listed l
/-- nothing that is foreseen of one variable -/
def noSS : List Tch → Bool
  | [] => true
  | some (some _) :: _ => false
  | _ :: l => noSS l
def isApp (o : Oper) : Bool := match o.op with
  | .call ⟨.builtin .append, _, _⟩ => true
  | _ => false
def stepB {ρ : Type} [Pan ρ] (E : Env) (call : CallT ρ) (T : List Tch) (i : Nat) (o : Oper) (st : St) (K : St → Option ρ) : Option ρ :=
  cond (gkind o) (doOp E call o st K) (match tchAt T i with
    | some (some b) => cond (isApp o) (doOp E call o st K) (cond (storeOff (some (some b)) st o) (doOp E call o st K) none)
    | some none => cond (noSS T) (doOp2 E call o st K) none
    | none => (match callDec E st o with
      | some t => t.elim (callK o st K)
      | none => none))
noncomputable def execB {ρ : Type} [Pan ρ] (E : Env) (call : CallT ρ) (T : List Tch) (ops : Array Oper) : Nat → Array Bool → St → (St → Option ρ) → Option ρ
  | 0, listed, st, K => match Region.ready .any ops listed with
    | [] => K st
    | _ => none
  | n + 1, listed, st, K => match Region.ready .any ops listed with
    | [] => K st
    | i :: rs => match firstQuietB E ops T st listed (i :: rs) with
      | some q => (match mget ops.toList q with
        | some o => guarded ops.toList o st (fun st => execB E call T ops n (listed.setIfInBounds q true) st K) (fun st => cond (heldLoad ops T listed q st o)
            (match pureOp E st o with | some (ok, v) => cond ok (execB E call T ops n (listed.setIfInBounds q true) (st.put o.dst v) K) none | none => none)
            (cond (quietCall E st o) (doQ E o st fun st => execB E call T ops n (listed.setIfInBounds q true) st K)
              (quietW E o st fun st => execB E call T ops n (listed.setIfInBounds q true) st K)))
        | none => none)
      | none => agreeAll ((i :: rs).map fun j => match mget ops.toList j with
        | some o => guarded ops.toList o st (fun st => execB E call T ops n (listed.setIfInBounds j true) st K) (fun st => stepB E call T j o st fun st => execB E call T ops n (listed.setIfInBounds j true) st K)
        | none => none)
def defOp (t : Nat) : List Oper → Option Op
  | [] => none
  | o :: l => match o.dst with
    | some d => cond (Nat.beq d t) (some o.op) (defOp t l)
    | none => defOp t l
/-- the variable that an address lies in -/
def blockOf (st : St) (all : List Oper) : Nat → Operand → Option Nat
  | 0, _ => none
  | n + 1, p => match p with
    | .tmp t => (match defOp t all with
      | some (.fieldAddr _ x _) => blockOf st all n x
      | some (.alloc _) => some (1000000 + mlen st.mem)
      | some (.box _ _) => some (1000000 + mlen st.mem)
      | some _ => none
      | none => (match evalOp st p with | some (.loc b _) => some b | _ => none))
    | _ => none
/-- the function that is called -/
def calleeOf (st : St) (all : List Oper) : Nat → Operand → Option Nat
  | 0, _ => none
  | n + 1, p => match p with
    | .func g => some g
    | .tmp t => (match defOp t all with
      | some (.move x) => calleeOf st all n x
      | some (.assign x) => calleeOf st all n x
      | some _ => none
      | none => (match evalOp st p with | some (.fn (.func g) _ _) => some g | _ => none))
    | _ => none
/-- the method that is called -/
def imethOf (P : Program) (st : St) (all : List Oper) (name : String) : Nat → Operand → Option Nat
  | 0, _ => none
  | n + 1, p => match p with
    | .tmp t => (match defOp t all with
      | some (.move x) => imethOf P st all name n x
      | some (.assign x) => imethOf P st all name n x
      | some (.makeInterface ty _) => methodOf P ty name
      | some _ => none
      | none => (match evalOp st p with | some (.iface ty _) => methodOf P ty name | _ => none))
    | _ => none
/-- an argument without an address in it -/
def argQ (st : St) (all : List Oper) : Nat → Operand → Bool
  | 0, _ => false
  | n + 1, p => match p with
    | .const _ => true
    | .func _ => true
    | .tmp t => (match defOp t all with
      | some (.move x) => argQ st all n x
      | some (.assign x) => argQ st all n x
      | some (.slice _ _ none none none) => false
      | some (.slice _ _ _ _ _) => true
      | some (.load _ _) | some (.binOp _ _ _ _ _) | some (.unOp _ _ _) | some (.field _ _ _) | some (.extract _ _) | some (.index _ _ _) | some (.convert _ _ _) | some (.build _ _) | some (.buildSlice _ _ _) | some (.call _) => true
      | some _ => false
      | none => (match evalOp st (.tmp t) with | some v => (match v.ren [] with | some _ => true | none => false) | none => false))
    | _ => false
/-- is it a call that leaves what is there alone? -/
def callQ (E : Env) (st : St) (all : List Oper) (o : Oper) : Bool := match o.op with
  | .call ⟨.value f, args, _⟩ => (match calleeOf st all 4 f with | some g => (E.con g).any (fun fc => !fc.foot) && argQ st all 4 f && args.toList.all (argQ st all 4) | none => false)
  | .call ⟨.invoke x name, args, _⟩ => (match imethOf E.P st all name 4 x with | some g => (E.con g).any (fun fc => !fc.foot) && args.toList.all (argQ st all 4) | none => false)
  | _ => false
def lightKind (E : Env) (st : St) (all : List Oper) (o : Oper) : Bool := quietKind o || gkind o || callQ E st all o || (match o.op with | .load _ _ => true | .lookup _ _ _ _ => true | _ => false)
def heavy (E : Env) (st : St) (all : List Oper) : List Oper → Bool
  | [] => false
  | o :: l => (match o.op with | .store _ _ _ => false | _ => !isApp o && !lightKind E st all o) || heavy E st all l
/-- what the operations of a region write -/
def tchOf (E : Env) (hv : Bool) (st : St) (all : List Oper) : List Oper → List Tch
  | [] => []
  | o :: l => (match o.op with
    | .store _ p _ => some (cond hv none (blockOf st all 4 p))
    | _ => cond (isApp o) (some (cond hv none (some 999999))) (cond (lightKind E st all o) none (some none))) :: tchOf E hv st all l

/-- does a region but read? -/
def onlyReads (E : Env) (st : St) (all : List Oper) : List Oper → Bool
  | [] => true
  | o :: l => (match o.op with
    | .alloc _ | .box _ _ | .store _ _ _ | .buildSlice _ _ _ | .makeSlice _ _ _ => false
    | .call ⟨.builtin .append, _, _⟩ | .call ⟨.builtin .copy, _, _⟩ => false
    | .call ⟨.value f, _, _⟩ => (match calleeOf st all 4 f with | some g => !(E.con g).isEmpty && (E.con g).all (fun fc => fc.hint) | none => false)
    | .call ⟨.invoke x name, _, _⟩ => (match imethOf E.P st all name 4 x with | some g => !(E.con g).isEmpty && (E.con g).all (fun fc => fc.hint) | none => false)
    | .call ⟨.builtin .clear, _, _⟩ | .makeMap _ _ | .insert _ _ _ _ | .mapUpdate _ _ _ _ => false
    | .slice _ _ none none none => false
    | _ => true) && onlyReads E st all l

def noDefer : List Oper → Bool
  | [] => true
  | o :: l => (match o.op with | .defer _ => false | _ => true) && noDefer l
/- regions with guards that only read, and come to one word: all their ways at once -/
def hasGuard : List Oper → Bool
  | [] => false
  | o :: l => (match o.guard with | some _ => true | none => false) || hasGuard l
def lastDst : List Oper → Option Nat
  | [] => none
  | [o] => (match o.guard with | none => o.dst | some _ => none)
  | _ :: o :: l => lastDst (o :: l)
def boolLast (P : Program) : List Oper → Bool
  | [] => false
  | [o] => (match P.underlying o.type with | some .bool => true | _ => false)
  | o :: o2 :: l => (match o.op with | .assign _ => false | _ => true) && boolLast P (o2 :: l)
def anyAll : List Oper → St → St
  | [], st => st
  | o :: l, st => anyAll l (st.put o.dst .any)
def slotB (d : Nat) (st : St) : Option Bool := match mget st.tmps d with
  | some (.bool b) => some b
  | _ => none
def isB : Option Bool → Bool
  | some _ => true
  | none => false
def getB : Option Bool → Bool
  | some b => b
  | none => false
noncomputable def mergeOk (E : Env) (st : St) (ops : Array Oper) : Bool := E.inl 999999 && (hasGuard ops.toList && (noDefer ops.toList && (boolLast E.P ops.toList && onlyReads E st ops.toList ops.toList)))
noncomputable def execM {ρ : Type} (E : Env) (l : List Oper) (st : St) (K : St → Option ρ) : Option ρ := match lastDst l with
  | none => none
  | some d => cond (isB (execQ E l l st (slotB d))) (K { anyAll l st with tmps := mset (anyAll l st).tmps d (.bool (getB (execQ E l l st (slotB d)))) }) none
/-- the rest of a body by its sum: all ways to it come together there -/
def cutRun {ρ : Type} [Pan ρ] (nf : Nat) (l : Lp) (st : St) (K : Cont ρ) : Option ρ := match st.outer with
  | [] => cond (Nat.beq (mlen st.tmps) l.m) (match view nf l.ksE l.keep l.sh l.ms (upL st l.up) with
    | some x => cond (l.may && l.pan x) Pan.pan ((l.sum x).elim fun o => K (outE l.m l.outs o).1 (outE l.m l.outs o).2)
    | none => none) none
  | _ => none
/-- in a region that draws its order: a call of yield; all that comes ahead of it, and all that waits for it -/
def yldAt : Nat → List Oper → Option Nat
  | _, [] => none
  | i, o :: l => match o.op with
    | .call ⟨.value (.tmp _), _, _⟩ => some i
    | _ => yldAt (i + 1) l
def aheadB (ops : Array Oper) (y : Nat) : Nat → Bool
  | 0 => true
  | j + 1 => waits ops ops.size j y && aheadB ops y j
def behindB (ops : Array Oper) (y : Nat) : Nat → Bool
  | 0 => true
  | j + 1 => (Nat.ble j y || waits ops ops.size y j) && behindB ops y j
def downB : Nat → List Oper → Bool
  | _, [] => true
  | i, o :: l => (o.after.all fun e => !Region.binds .any e || Nat.blt e.on i) && ((match o.guard with | some (j, _) => Nat.blt j i | none => true) && downB (i + 1) l)
def splitOk (ops : Array Oper) (y : Nat) : Bool := Nat.blt y ops.size && (aheadB ops y y && (behindB ops y ops.size && downB 0 ops.toList))
def hasLoop : List Blk → Bool
  | [] => false
  | .loop :: _ => true
  | _ :: l => hasLoop l
def yldOf (st : St) (ops : Array Oper) : Option Nat := cond (hasLoop st.mem) (match yldAt 0 ops.toList with
    | some y => cond (splitOk ops y) (some y) none
    | none => none) none
/-- one operation alone may come up each time -/
def execS {ρ : Type} [Pan ρ] (E : Env) (call : CallT ρ) (ops : Array Oper) : Nat → Array Bool → St → (St → Option ρ) → Option ρ
  | 0, listed, st, K => match Region.ready .any ops listed with
    | [] => K st
    | _ => none
  | n + 1, listed, st, K => match Region.ready .any ops listed with
    | [] => K st
    | i :: rs => (match rs, mget ops.toList i with
      | [], some o => guarded ops.toList o st (fun st => execS E call ops n (listed.setIfInBounds i true) st K) (fun st => doOp3 E call o st fun st => execS E call ops n (listed.setIfInBounds i true) st K)
      | _, _ => none)
/-- a region that draws its order, and calls no yield -/
noncomputable def drawX {ρ : Type} [Pan ρ] (E : Env) (call : CallT ρ) (ops : Array Oper) (st : St) (K : St → Option ρ) : Option ρ :=
  cond (Region.lexB .any ops && onlyReads E st ops.toList ops.toList) (execQ E ops.toList ops.toList st K)
    (cond (Region.noSelect ops) (execB E call (tchOf E (heavy E st ops.toList ops.toList) st ops.toList ops.toList) ops ops.size (Array.replicate ops.size false) st K) none)
noncomputable def drawY {ρ : Type} [Pan ρ] (E : Env) (call : CallT ρ) (ops : Array Oper) (st : St) (K : St → Option ρ) : Option ρ := match yldOf st ops with
  | some y => drawX E call (mtake y ops.toList).toArray st fun st => execS E call ops (ops.size - y) (mapp (mrep y true) (mrep (ops.size - y) false)).toArray st K
  | none => drawX E call ops st K
noncomputable def exec {ρ : Type} [Pan ρ] (E : Env) (call : CallT ρ) (fn : FuncId) : Code → St → Cont ρ → Option ρ
  | .skip, st, K => K .normal st
  | .label _, st, K => K .normal st
  | .region _ ops draw, st, K => cond (mergeOk E st ops && cond draw (Region.lexB .any ops) true) (execM E ops.toList st (fun st => K .normal st)) (cond draw (cond (noDefer ops.toList) (drawY E call ops st (fun st => K .normal st)) none) (execOps E call ops.toList ops.toList st (fun st => K .normal st)))
  | .seq a b, st, K => exec E call fn a st (fun e st => match e with
    | .normal => (match E.ct fn (key b) with
      | some l => cutRun E.nf l st K
      | none => exec E call fn b st K)
    | e => K e st)
  | .cond c x y, st, K => match c with
    | .tmp t => (match mget st.tmps t with
      | some (.bool b) => cond b (exec E call fn x (st.put (some t) (.bool true)) K) (exec E call fn y (st.put (some t) (.bool false)) K)
      | _ => none)
    | .const (.bool b) => cond b (exec E call fn x st K) (exec E call fn y st K)
    | _ => none
  | .block id b, st, K => exec E call fn b st (fun e st => match e with | .exit i => cond (i == id) (K .normal st) (K (.exit i) st) | e => K e st)
  | .exit id, st, K => K (.exit id) st
  | .ret, st, K => K .ret st
  | .loop b, st, K => match E.lp fn (key b) with
    | none => none
    | some (.unroll n) => unroll (fun st K => exec E call fn b st K) n st K
    | some (.sum l) => match st.outer with
      | [] => cond (Nat.beq (mlen st.tmps) l.m) (match view E.nf l.ksE l.keep l.sh l.ms (upL st l.up) with
        | some x => (l.sum x).elim fun o => K (outE l.m l.outs o).1 (outE l.m l.outs o).2
        | none => none) none
      | _ => none
  | .rangeFunc f _ _ body, st, K => match E.rf fn (key body), st.outer with
    | some rf, [] => (match evalOp st f with
      | some (.fn (.func g) [] caps) => cond (Nat.beq g rf.it && Nat.beq (mlen st.tmps) rf.m) (match upL st rf.up with
        | st1 => (match viewK E.nf rf.ksE rf.keep rf.sh rf.ms st1, decL rf.csh (AV.renA rf.ksE caps) with
          | some x, some y => (rf.sum (x.1, y, x.2)).elim fun z => K .normal (st1.merge rf.ksE (encM rf.ms z))
          | _, _ => none)) none
      | _ => none)
    | _, _ => none
  | _, _, _ => none

def loopsOf : Code → List Code
  | .seq a b => mapp (loopsOf a) (loopsOf b)
  | .cond _ a b => mapp (loopsOf a) (loopsOf b)
  | .block _ b => loopsOf b
  | .loop b => b :: loopsOf b
  | _ => []
/-- what stands behind something -/
def cutsOf : Code → List Code
  | .seq a b => b :: mapp (cutsOf a) (cutsOf b)
  | .cond _ a b => mapp (cutsOf a) (cutsOf b)
  | .block _ b => cutsOf b
  | .loop b => cutsOf b
  | _ => []
def keyed (k : Nat) : List Code → List Code
  | [] => []
  | b :: l => cond (Nat.beq (key b) k) (b :: keyed k l) (keyed k l)
/-- the ranges over functions -/
def rfsOf : Code → List Code
  | .seq a b => mapp (rfsOf a) (rfsOf b)
  | .cond _ a b => mapp (rfsOf a) (rfsOf b)
  | .block _ b => rfsOf b
  | .loop b => rfsOf b
  | .rangeFunc f ps a b => [.rangeFunc f ps a b]
  | _ => []

def resAV (E : Env) (fn : Func) (st : St) : List ResultVar → Option (List AV)
  | [] => some []
  | .tmp t :: r => match mget st.tmps t, resAV E fn st r with | some v, some vs => some (v :: vs) | _, _ => none
  | .cell a t :: r => match mget st.tmps a, resAV E fn st r with
    | some (.loc b off), some vs => cond (okT E.P t) ((memAt st b off (sizeT E.P t) (clsT E.P t)).map (· :: vs)) none
    | _, _ => none
def resultAV (E : Env) (fn : Func) (st : St) : Option AV :=
  match resAV E fn st fn.results.toList with
  | some [v] => some v
  | some vs => some (.tup vs)
  | none => none

/-- a call by the first contract that knows its arguments -/
def conCall {ρ : Type} [Pan ρ] : List Fc → List AV → St → (AV → St → Option ρ) → Option ρ
  | [], _, _, _ => none
  | fc :: r, args, st, K => cond fc.foot
      (match footOf args st.mem with
        | ks => (match AV.renL ks args with
          | some as => cond (okKs (mlen st.mem) ks) (fcCall fc ks as st K (conCall r args st K)) none
          | none => conCall r args st K))
      (match frozenL st args with
        | (as, st1) => fcCall fc [] as st1 K (conCall r args st K))

noncomputable def callee {ρ : Type} [Pan ρ] (E : Env) : Nat → CallT ρ
  | 0, _, _, _, _ => none
  | n + 1, f, args, st, K =>
    match E.con f with
    | fc :: r => conCall (fc :: r) args st K
    | [] => cond (E.inl f) (match mget E.P.funcs.toList f with
      | some fn => cond (fn.name == "runtime.NumGoroutine") none <| match fn.body with
        | some c => exec { E with yld := none } (callee E n) f c { tmps := mapp args (mrep (fn.ntmps - mlen args) .any), outer := st.tmps :: st.outer, mem := st.mem }
            (fun e st' => match e with
              | .exit _ => none
              | _ => match resultAV E fn st', st'.outer with
                | some v, t :: o => K v { tmps := t, outer := o, mem := st'.mem }
                | _, _ => none)
        | none => none
      | none => none) none

/-- one round of a loop -/
noncomputable def round1 (E : Env) (fn : FuncId) (l : Lp) (body : Code) (x : l.sh.den × MSh l.ms) : Option ((l.sh.den × MSh l.ms) ⊕ OutT l.outs) :=
  exec E (callee E 3) fn body (stOf l.m l.keep l.sh l.ms x) (fun e st => cond (Nat.beq (mlen st.tmps) l.m) (match e with
    | .normal => (view E.nf l.ksA l.keep l.sh l.ms st).map .inl
    | e => (cutO E.nf l.outs e st).map .inr) none)
/-- the rest of a body, from a state on -/
noncomputable def cut1 (E : Env) (fn : FuncId) (l : Lp) (body : Code) (x : l.sh.den × MSh l.ms) : Option (OutT l.outs) :=
  exec E (callee E 3) fn body (stOf l.m l.keep l.sh l.ms x) (fun e st => cond (Nat.beq (mlen st.tmps) l.m) (cutO E.nf l.outs e st) none)
noncomputable def cut1P (E : Env) (fn : FuncId) (l : Lp) (body : Code) (x : l.sh.den × MSh l.ms) : Option (PanR (OutT l.outs)) :=
  exec E (callee E 3) fn body (stOf l.m l.keep l.sh l.ms x) (fun e st => cond (Nat.beq (mlen st.tmps) l.m) ((cutO E.nf l.outs e st).map .ok) none)
/-- so many rounds -/
def iter {σ β : Type} (f : σ → Option (σ ⊕ β)) : Nat → σ → Option β
  | 0, _ => none
  | n + 1, x => match f x with
    | some (.inl y) => iter f n y
    | some (.inr b) => some b
    | none => none

/-- a contract over data -/
structure Ct where
  ash : Sh
  ms : List BSh
  foot : Bool
  up : List Up
  rsh : Sh
  ks : List Nat
  ms' : List BSh
  G : ash.den × MSh ms → Tr (rsh.den × MSh ms')
  may : Bool := false
  pan : ash.den × MSh ms → Bool := fun _ => false
def resOf : List AV → AV
  | [v] => v
  | vs => .tup vs
def Ty.plainT : Ty → Bool
  | .pair s t => s.plainT && t.plainT
  | .sl _ => false
  | _ => true
def Sh.plainS : Sh → Bool
  | .d t => t.plainT
  | .agg c => c.plainS
  | .tup c => c.plainS
  | .cons s c => s.plainS && c.plainS
  | .unit => true
  | _ => false
def Ct.fc (c : Ct) : Fc := {
  σ := c.ash.den × MSh c.ms
  foot := c.foot
  hint := c.rsh.plainS && (match c.ms' with | [] => true | _ => false)
  dec := fun as bs => both (decL c.ash as) (decM c.ms bs)
  may := c.may
  G := fun x => (c.G x).map fun r => (resOf (encL c.rsh r.1), encM c.ms' r.2)
  pan := c.pan }

/-- rows that may be written stand still from here on -/
def frzDL (f : St → AV → AV × St) : St → List AV → List AV × St
  | st, [] => ([], st)
  | st, v :: vs => match f st v with
    | (u, st1) => match frzDL f st1 vs with
      | (us, st2) => (u :: us, st2)
def frzD : Nat → St → AV → AV × St
  | 0, st, v => (v, st)
  | n + 1, st, v => match v with
    | .agg ps => (match frzDL (frzD n) st ps with
      | (us, st1) => (.agg us, st1))
    | .asl t b lo hi => (match mget st.mem b with
      | some (.arr t' _ xs) => if h : t' = t then (.sl t (dsub (h ▸ xs) lo hi) none, { st with mem := mset st.mem b .dead }) else (.asl t b lo hi, st)
      | _ => (.asl t b lo hi, st))
    | v => (v, st)
/-- those results that are to stand still do -/
def frzS : Sh → St → List AV → List AV × St
  | .cons s c, st, v :: vs => match (match s with | .asl _ _ => (v, st) | _ => frzD 6 st v) with
    | (u, st1) => match frzS c st1 vs with
      | (us, st2) => (u :: us, st2)
  | _, st, vs => (vs, st)
/-- closures that are handed back stand still -/
def frzR (st : St) : List AV → List AV × St
  | [] => ([], st)
  | v :: vs => match (match v with | .fn f a c => frozen1 st (.fn f a c) | v => (v, st)) with
    | (u, st1) => match frzR st1 vs with
      | (us, st2) => (u :: us, st2)
/-- a result's blocks: those that are named; or, none being named, those that it leads to -/
def resKs (ks : List Nat) (_ : List BSh) (_ : St) : List Nat := ks
def finish (E : Env) (fn : Func) (up : List Up) (ks : List Nat) (rsh : Sh) (ms : List BSh) (st : St) : Option (rsh.den × MSh ms) :=
  match resAV E fn st fn.results.toList with
  | some vs => (match frzS rsh st vs with
    | (vs, st) => match frzR st vs with
    | (us, st1) => (match upL { tmps := us, outer := [], mem := st1.mem } up with
      | st2 => view E.nf (resKs ks ms st2) (mrange 0 (mlen us)) rsh ms st2))
  | none => none

def look {α : Type _} (f : Nat) : List (Nat × α) → Option α
  | [] => none
  | (g, x) :: l => cond (Nat.beq g f) (some x) (look f l)
def looks {α : Type _} (f : Nat) : List (Nat × α) → List α
  | [] => []
  | (g, x) :: l => cond (Nat.beq g f) (x :: looks f l) (looks f l)
def has (f : Nat) : List Nat → Bool
  | [] => false
  | g :: l => cond (Nat.beq g f) true (has f l)

/-- a machine whose calls go by contracts; the loops are of the function that is run alone -/
def mkEc (P : Program) (cs : List (FuncId × Fc)) (inl : List Nat) (f : FuncId) (ls : List (Nat × Lk)) (rs : List (Nat × Rf)) (nf : Nat) (cts : List (Nat × Lp)) : Env :=
  { P, nf, con := fun g => looks g cs, inl := fun g => has g inl && !Nat.beq g f, lp := fun g k => cond (Nat.beq g f) (look k ls) none, rf := fun g k => cond (Nat.beq g f) (look k rs) none, yld := none, ct := fun g k => cond (Nat.beq g f) (look k cts) none }
def mkE (P : Program) (cs : List (FuncId × Fc)) (inl : List Nat) (f : FuncId) (ls : List (Nat × Lk)) (rs : List (Nat × Rf)) (nf : Nat) : Env := mkEc P cs inl f ls rs nf []
def Env.yielding (E : Env) (nf : Nat) (ks : List Nat) (fc : Fc) : Env := { E with nf, yld := some (ks, fc) }

/-- a function's whole run -/
noncomputable def runB (E : Env) (f : FuncId) (args : List AV) (mem : List Blk) (up : List Up) (ks : List Nat) (rsh : Sh) (ms : List BSh) : Option (rsh.den × MSh ms) :=
  match mget E.P.funcs.toList f with
  | some fn => cond (fn.name == "runtime.NumGoroutine") none <| match fn.body with
    | some c => exec E (callee E 3) f c { tmps := mapp args (mrep (fn.ntmps - mlen args) .any), outer := [], mem := mem }
        (fun e st' => match e with
          | .exit _ => none
          | _ => finish E fn up ks rsh ms st')
    | none => none
  | none => none
noncomputable def run (E : Env) (f : FuncId) (c : Ct) (x : c.ash.den × MSh c.ms) : Option (c.rsh.den × MSh c.ms') :=
  runB E f (encL c.ash x.1) (encM c.ms x.2) c.up c.ks c.rsh c.ms'

/-- a function's whole run that may end with a panic -/
noncomputable def runQ (E : Env) (f : FuncId) (args : List AV) (mem : List Blk) (up : List Up) (ks : List Nat) (rsh : Sh) (ms : List BSh) : Option (PanR (rsh.den × MSh ms)) :=
  match mget E.P.funcs.toList f with
  | some fn => cond (fn.name == "runtime.NumGoroutine") none <| match fn.body with
    | some c => exec E (callee E 3) f c { tmps := mapp args (mrep (fn.ntmps - mlen args) .any), outer := [], mem := mem }
        (fun e st' => match e with
          | .exit _ => none
          | _ => (finish E fn up ks rsh ms st').map .ok)
    | none => none
  | none => none
noncomputable def runP (E : Env) (f : FuncId) (c : Ct) (x : c.ash.den × MSh c.ms) : Option (PanR (c.rsh.den × MSh c.ms')) :=
  runQ E f (encL c.ash x.1) (encM c.ms x.2) c.up c.ks c.rsh c.ms'

/-- the body of a range over a function, one round of it -/
noncomputable def bodyB (E : Env) (fn : FuncId) (m : Nat) (keep : List Nat) (sh ysh : Sh) (ms : List BSh) (params : List Tmp) (assign body : Code) (x : sh.den) (a : ysh.den) (z : MSh ms) : Option (MSh ms) :=
  exec { E with nf := mlen ms, yld := none, ct := fun _ _ => none } (callee { E with nf := mlen ms, yld := none, ct := fun _ _ => none } 3) fn (.seq assign body) { tmps := (params.zip (encL ysh a)).foldl (fun ts p => mset ts p.1 p.2) (fill m (keep.zip (encL sh x))), outer := [], mem := encM ms z }
    (fun e st => match e with
      | .normal => (view (mlen ms) (mrange 0 (mlen ms)) [] .unit ms st).map (·.2)
      | _ => none)
/-- yield, as its callers see it -/
def fcY (ysh : Sh) (ms : List BSh) (Y : ysh.den × MSh ms → Tr (MSh ms)) : Fc :=
  { σ := ysh.den × MSh ms, foot := true, dec := fun as bs => both (decL ysh as) (decM ms bs), G := fun p => (Y p).map fun z => (.any, encM ms z) }
/-- the iterator's run -/
noncomputable def runIt (E : Env) (it : FuncId) (ysh csh : Sh) (ms : List BSh) (Y : ysh.den × MSh ms → Tr (MSh ms)) (y : csh.den) (z : MSh ms) : Option (MSh ms) :=
  (runB (E.yielding (mlen ms + 1) (mrange 0 (mlen ms)) (fcY ysh ms Y))
    it (.yld (mlen ms) :: encL csh y) (mapp (encM ms z) [.loop]) [] (mrange 0 (mlen ms + 1)) .unit (mapp ms [.loop])).bind fun r => decM ms (pickB (encM (mapp ms [.loop]) r.2) (mrange 0 (mlen ms)) (mrange 0 (mlen ms)))

def bodyOf (P : Program) (f : FuncId) : Code := match mget P.funcs.toList f with
  | some fn => (match fn.body with | some c => c | none => .skip)
  | none => .skip
def loopAt (P : Program) (f : FuncId) (i : Nat) : Code := (mget (loopsOf (bodyOf P f)) i).getD .skip
def headC : List Code → Code
  | b :: _ => b
  | [] => .skip
/-- the rest of a function's body from a region on -/
def cutAt (P : Program) (f : FuncId) (k : Nat) : Code := headC (keyed k (cutsOf (bodyOf P f)))
def okF (P : Program) (f : FuncId) : Bool := match mget P.funcs.toList f with
  | some fn => !(fn.name == "runtime.NumGoroutine") && fn.body.isSome
  | none => false

end Am
end Go.Proofs.Ytkjpoongkdapoaa
