/-
  A symbolic machine over the model, part 3: the machine.
-/
import Derived.Test.YtkidcbialbffgaaAm2
import Derived.Deep.Quiet
namespace Go.Proofs.Ytkidcbialbffgaa
namespace Am
open Go Go.RowKit

inductive Blk where
  | box (v : AV)
  | fro (v : AV)
  | row (e : TypeId) (sz : Nat)
  | dead

structure St where
  tmps : List AV
  outer : List (List AV)
  mem : List Blk

inductive Ex where
  | normal
  | exit (id : Nat)
  | ret

abbrev Res := AV × List Blk
abbrev K := Ex → St → Option Res
/-- what a contract says: a result and the rows that it brings, by cases -/
inductive CR where
  | ret (v : AV) (rows : List Blk)
  | br (b : Bool) (x y : CR)
  | no
def CR.elim : CR → (AV → List Blk → Option Res) → Option Res
  | .ret v rows, k => k v rows
  | .br b x y, k => cond b (x.elim k) (y.elim k)
  | .no, _ => none
def CR.get (c : CR) : Option (AV × List Blk) := c.elim fun v rows => some (v, rows)
abbrev Con := List AV → CR

/-- what a loop comes to: an exit, and what of the kept slots and the memory is there then -/
inductive Sum where
  | out (e : Ex) (sets : List (Nat × AV)) (mem : List Blk)
  | br (b : Bool) (x y : Sum)
  | no

structure Lp where
  m : Nat
  keep : List Nat
  up : List (Nat × Ty × TypeId)
  outs : Ex → List Nat
  trim : Bool
  sum : List AV → List Blk → Sum

structure Env where
  P : Program
  con : FuncId → Option Con
  inl : FuncId → Bool
  lp : FuncId → Nat → Option Lp

/- lists of the machine's own (other names than the data's lists have) -/
def mlen {α : Type} : List α → Nat
  | [] => 0
  | _ :: l => mlen l + 1
def mapp {α : Type} : List α → List α → List α
  | [], l => l
  | a :: k, l => a :: mapp k l
def mrep {α : Type} : Nat → α → List α
  | 0, _ => []
  | n + 1, a => a :: mrep n a
def mget {α : Type} : List α → Nat → Option α
  | [], _ => none
  | a :: _, 0 => some a
  | _ :: l, n + 1 => mget l n
def mset {α : Type} : List α → Nat → α → List α
  | [], _, _ => []
  | _ :: l, 0, b => b :: l
  | a :: l, n + 1, b => a :: mset l n b
def biff (b want : Bool) : Bool := match want with | true => b | false => !b
theorem mlen_eq {α : Type} (l : List α) : mlen l = l.length := by induction l with | nil => rfl | cons a l ih => simp [mlen, ih]
theorem mapp_eq {α : Type} (k l : List α) : mapp k l = k ++ l := by induction k with | nil => rfl | cons a k ih => simp [mapp, ih]
theorem mrep_eq {α : Type} (n : Nat) (a : α) : mrep n a = List.replicate n a := by induction n with | zero => rfl | succ n ih => simp [mrep, ih, List.replicate_succ]
theorem mget_eq {α : Type} : ∀ (l : List α) (i : Nat), mget l i = l[i]?
  | [], _ => by simp [mget]
  | _ :: _, 0 => rfl
  | _ :: l, n + 1 => by simp [mget, mget_eq l n]
theorem mset_eq {α : Type} : ∀ (l : List α) (i : Nat) (b : α), mset l i b = l.set i b
  | [], _, _ => rfl
  | _ :: _, 0, _ => rfl
  | _ :: l, n + 1, b => by simp [mset, mset_eq l n b]
theorem biff_eq (b w : Bool) : biff b w = (b == w) := by cases b <;> cases w <;> rfl

/- what is computed on data (names of their own, so that a print can leave them as they stand) -/
def iadd (x y : Int) : Int := x + y
def isub (x y : Int) : Int := x - y
def imul (x y : Int) : Int := x * y
def iquo (x y : Int) : Int := x.tdiv y
def irem (x y : Int) : Int := x.tmod y
def ishl (x : Int) (n : Nat) : Int := x * 2 ^ n
def ishr (x : Int) (n : Nat) : Int := x.fdiv (2 ^ n)
def ibits (y : Int) (k : IntKind) : Nat := min y.toNat k.bits
def iwrap (k : IntKind) (x : Int) : Int := k.wrap x
def ile : Int → Int → Bool
  | .ofNat a, .ofNat b => Nat.ble a b
  | .ofNat _, .negSucc _ => false
  | .negSucc _, .ofNat _ => true
  | .negSucc a, .negSucc b => Nat.ble b a
def ilt (x y : Int) : Bool := !ile y x
def imin (x y : Int) : Int := cond (ilt y x) y x
def imax (x y : Int) : Int := cond (ilt x y) y x
def u8i (x : UInt8) : Int := x.toNat
def iu8 (x : Int) : UInt8 := UInt8.ofInt x
def sapp (x y : List UInt8) : List UInt8 := x ++ y
def sget (x : List UInt8) (i : Int) : UInt8 := x.getD i.toNat 0
def dlen {α : Type} (x : List α) : Int := x.length
def dget (t : Ty) (x : List t.den) (i : Int) : t.den := x.getD i.toNat t.zero
def dsub {α : Type} (x : List α) (i j : Int) : List α := (x.drop i.toNat).take (j.toNat - i.toNat)
def dapp {α : Type} (x y : List α) : List α := x ++ y
def drep {α : Type} (n : Int) (a : α) : List α := List.replicate n.toNat a
def idget (a : Id) (i : Nat) : UInt8 := a.get i
def idset (a : Id) (i : Nat) (v : UInt8) : Id := a.set i v
def inat (i : Int) : Nat := i.toNat
def fits (n m : Int) (bytes : Nat) : Bool := ile ((n + m) * bytes) 140737488355328 && ile (n + m) 4611686018427387903
def short (n m : Int) : Bool := ile (n + m) 4611686018427387903

theorem ile_eq (x y : Int) : ile x y = decide (x ≤ y) := by
  rw [Bool.eq_iff_iff, decide_eq_true_iff]
  cases x <;> cases y <;> simp only [ile, Nat.ble_eq] <;> first | omega | simp <;> omega
theorem ile_iff {x y : Int} : ile x y = true ↔ x ≤ y := by rw [ile_eq, decide_eq_true_iff]
theorem ilt_eq (x y : Int) : ilt x y = decide (x < y) := by
  rw [Bool.eq_iff_iff, decide_eq_true_iff, ilt, ile_eq]
  simp
theorem ilt_iff {x y : Int} : ilt x y = true ↔ x < y := by rw [ilt_eq, decide_eq_true_iff]
theorem imin_eq (x y : Int) : imin x y = if y < x then y else x := by
  unfold imin
  rw [ilt_eq]
  by_cases h : y < x <;> simp [h]
theorem imax_eq (x y : Int) : imax x y = if y > x then y else x := by
  unfold imax
  rw [ilt_eq]
  by_cases h : x < y <;> simp [h]

/- types -/
def intTy : IntKind → Ty
  | .u8 => .u8
  | k => .int k

def isU8 (P : Program) (t : TypeId) : Bool := match P.underlying t with | some (.int .u8) => true | _ => false

def tyOf (P : Program) : Nat → TypeId → Option Ty
  | 0, _ => none
  | n + 1, t =>
    match P.underlying t with
    | some (.int k) => some (intTy k)
    | some .bool => some .bool
    | some .string => some .str
    | some (.slice e) => (tyOf P n e).map .sl
    | some (.array len e) => cond (len == 32 && isU8 P e && P.cellsOf e == 1) (some .id) none
    | some (.struct fs) => fs.toList.foldr (fun f acc => match tyOf P n f.type, acc with | some a, some b => some (.pair a b) | _, _ => none) (some .unit)
    | _ => none
def Env.ty (E : Env) (t : TypeId) : Option Ty := tyOf E.P 12 t

def sizeT (P : Program) (t : TypeId) : Nat := P.cellsOf t
/-- a type whose values can be loaded -/
def okT (P : Program) (t : TypeId) : Bool := match P.underlying t with | some (.struct _) | some (.array _ _) => true | some _ => P.cellsOf t == 1 | none => false
def clsT (P : Program) (t : TypeId) : Nat := match P.underlying t with | some (.struct _) => 2 | some (.array _ _) => 1 | _ => 0

/-- the zero of a type, a nil slice where there is a slice -/
def zero2 : Ty → AV × List AV
  | .int k => (.int k 0, [])
  | .u8 => (.u8 0, [])
  | .bool => (.bool false, [])
  | .str => (.str [], [])
  | .id => (.id Id.zero, [])
  | .unit => (.agg [], [])
  | .pair s t => (.agg ((zero2 s).1 :: (zero2 t).2), (zero2 s).1 :: (zero2 t).2)
  | .sl _ => (.nilsl, [])
def zeroAV (t : Ty) : AV := (zero2 t).1

/-- a constant -/
def constAV : Value → Option AV
  | .int .u8 n => cond (decide (0 ≤ n) && decide (n < 256)) (some (.u8 (iu8 n))) none
  | .int k n => some (.int k n)
  | .bool b => some (.bool b)
  | .string s => some (.str s.data.toList)
  | .slice none 0 0 => some .nilsl
  | .nilFunc => some .nilfn
  | _ => none

def evalOp (st : St) : Operand → Option AV
  | .tmp t => mget st.tmps t
  | .const v => constAV v
  | .func f => some (.fn (.func f) [] [])
  | .global _ => none

def St.put (st : St) (d : Option Tmp) (v : AV) : St :=
  match d with
  | some d => { st with tmps := mset st.tmps d v }
  | none => st

def notU8 : IntKind → Bool
  | .u8 => false
  | _ => true
def asInt : AV → Option (IntKind × Int)
  | .int k n => cond (notU8 k) (some (k, n)) none
  | .u8 b => some (.u8, u8i b)
  | _ => none
def mkInt : IntKind → Int → AV
  | .u8, n => .u8 (iu8 n)
  | k, n => .int k n

def evalAll (st : St) : List Operand → Option (List AV)
  | [] => some []
  | x :: xs => match evalOp st x, evalAll st xs with | some v, some vs => some (v :: vs) | _, _ => none


/-- a result, and the condition under which it is one -/
abbrev CV := Option (Bool × AV)

def bitsI (op : BinOp) (k : IntKind) (x y : Int) : Int :=
  match op with
  | .and => k.wrap (BitVec.ofInt k.bits x &&& BitVec.ofInt k.bits y).toNat
  | .or => k.wrap (BitVec.ofInt k.bits x ||| BitVec.ofInt k.bits y).toNat
  | .xor => k.wrap (BitVec.ofInt k.bits x ^^^ BitVec.ofInt k.bits y).toNat
  | _ => k.wrap (BitVec.ofInt k.bits x &&& ~~~ BitVec.ofInt k.bits y).toNat

def intOp (op : BinOp) (k : IntKind) (x y : Int) : CV :=
  match op with
  | .add => some (true, mkInt k (iwrap k (iadd x y)))
  | .sub => some (true, mkInt k (iwrap k (isub x y)))
  | .mul => some (true, mkInt k (iwrap k (imul x y)))
  | .quo => some (!ieq y 0, mkInt k (iwrap k (iquo x y)))
  | .rem => some (!ieq y 0, mkInt k (irem x y))
  | .and | .or | .xor | .andNot => some (true, mkInt k (bitsI op k x y))
  | .eql => some (true, .bool (ieq x y))
  | .neq => some (true, .bool (!ieq x y))
  | .lss => some (true, .bool (ilt x y))
  | .leq => some (true, .bool (ile x y))
  | .gtr => some (true, .bool (ilt y x))
  | .geq => some (true, .bool (ile y x))
  | _ => none

def shiftOp (op : BinOp) (k : IntKind) (x y : Int) : CV :=
  match op with
  | .shl => some (ile 0 y, mkInt k (iwrap k (ishl x (ibits y k))))
  | .shr => some (ile 0 y, mkInt k (ishr x (ibits y k)))
  | _ => none

def isShift : BinOp → Bool
  | .shl | .shr => true
  | _ => false

/-- the sort of a type that can be compared: no slice in it, nothing that the model stands in for, all in its place -/
def sFields (rec : TypeId → Option Ty) : Nat → List Field → Option Ty
  | _, [] => some .unit
  | off, f :: fs => cond (f.offset == off && f.name != "_")
      (match rec f.type with
        | some a => (match sFields rec (off + a.size) fs with
          | some b => some (.pair a b)
          | none => none)
        | none => none) none
def sTy (P : Program) : Nat → TypeId → Option Ty
  | 0, _ => none
  | n + 1, t =>
    match P.underlying t with
    | some (.int k) => cond (P.cellsOf t == 1) (some (intTy k)) none
    | some .bool => cond (P.cellsOf t == 1) (some .bool) none
    | some .string => cond (P.cellsOf t == 1) (some .str) none
    | some (.array len e) => cond (len == 32 && isU8 P e && P.cellsOf e == 1 && P.cellsOf t == 32) (some .id) none
    | some (.struct fs) => cond (!P.stoodInHeld t) (match sFields (sTy P n) 0 fs.toList with
        | some ty => cond (P.cellsOf t == ty.size) (some ty) none
        | none => none) none
    | _ => none

def eqOp (E : Env) (t : TypeId) (a b : AV) : Option Bool :=
  match sTy E.P 12 t with
  | some ty => match dec ty a, dec ty b with
    | some x, some y => some (ty.beq x y)
    | _, _ => none
  | none => none

def isBoolT (P : Program) (t : TypeId) : Bool := match P.underlying t with | some .bool => true | _ => false

def shiftAV (op : BinOp) (a b : AV) : CV :=
  match asInt a, asInt b with
  | some (k, x), some (_, y) => shiftOp op k x y
  | _, _ => none
def eqNe (op : BinOp) (r : Bool) : CV :=
  match op with
  | .eql => some (true, .bool r)
  | .neq => some (true, .bool (!r))
  | _ => none
def isEq : BinOp → Bool
  | .eql | .neq => true
  | _ => false
def plainAV (E : Env) (op : BinOp) (t : TypeId) : AV → AV → CV
  | .u8 x, .u8 y => cond (isEq op) (eqNe op (u8eq x y)) (intOp op .u8 (u8i x) (u8i y))
  | .int k x, .int k' y => cond (IntKind.same k k' && notU8 k) (intOp op k x y) none
  | .str x, .str y => (match op with
    | .add => some (short (dlen x) (dlen y), .str (sapp x y))
    | op => eqNe op (seq x y))
  | .bool x, .bool y => cond (isBoolT E.P t) (eqNe op (beq x y)) none
  | .id a, .id b => (match eqOp E t (.id a) (.id b) with | some r => eqNe op r | none => none)
  | .agg a, .agg b => (match eqOp E t (.agg a) (.agg b) with | some r => eqNe op r | none => none)
  | _, _ => none
def binAV (E : Env) (op : BinOp) (t : TypeId) (a b : AV) : CV := cond (isShift op) (shiftAV op a b) (plainAV E op t a b)

def unAV (op : UnOp) (a : AV) : CV :=
  match op, a with
  | .not, .bool b => some (true, .bool (!b))
  | .neg, .int k n => cond (notU8 k) (some (true, mkInt k (iwrap k (isub 0 n)))) none
  | _, _ => none

def convAV (E : Env) (src dst : TypeId) (a : AV) : CV :=
  match E.P.underlying src, E.P.underlying dst, a with
  | some _, some (.int k), .int _ n => some (true, mkInt k (iwrap k n))
  | some _, some (.int k), .u8 b => some (true, mkInt k (iwrap k (u8i b)))
  | some .string, some .string, .str l => some (true, .str l)
  | some (.slice e), some .string, .sl .u8 xs _ => cond (isU8 E.P e) (some (true, .str xs)) none
  | some (.slice e), some .string, .nilsl => cond (isU8 E.P e) (some (true, .str [])) none
  | _, _, _ => none

def fieldOff (P : Program) (s : TypeId) (i : Nat) : Option (Nat × TypeId) :=
  match P.underlying s with
  | some (.struct fs) => (fs[i]?).map fun f => (f.offset, f.type)
  | _ => none

/-- an offset that a literal is, for a value in memory -/
def memAt (st : St) (b off n c : Nat) : Option AV :=
  match mget st.mem b with
  | some (.box v) => v.at off n c
  | some (.fro v) => v.at off n c
  | _ => none

/-- a string of a variable's bytes -/
def convIdsl (E : Env) (st : St) (src dst : TypeId) (b off : Nat) : CV :=
  match E.P.underlying src, E.P.underlying dst with
  | some (.slice e), some .string => (match memAt st b off 32 1 with
    | some (.id a) => cond (isU8 E.P e) (some (true, .str a.l)) none
    | _ => none)
  | _, _ => none

def lenAV (P : Program) (t : TypeId) (v : AV) : Option Int :=
  match P.underlying t with
  | some .string => (match v with | .str l => some (dlen l) | _ => none)
  | some (.slice _) => (match v with
    | .sl _ xs _ => some (dlen xs)
    | .nilsl => some 0
    | .idsl _ _ => some 32
    | .raw _ n _ => some n
    | _ => none)
  | _ => none

def indexAV (E : Env) (t : TypeId) (a ix : AV) : CV :=
  match asInt ix, a with
  | some (_, i), .str l => cond (match E.P.underlying t with | some .string => true | _ => false) (some (ile 0 i && ilt i (dlen l), .u8 (sget l i))) none
  | some (_, i), .id x => cond (match E.P.underlying t with | some (.array len e) => len == 32 && isU8 E.P e && E.P.cellsOf e == 1 | _ => false) (some (ile 0 i && ilt i 32, .u8 (idget x (inat i)))) none
  | _, _ => none

def fieldAddrAV (E : Env) (s : TypeId) (a : AV) (i : Nat) : CV :=
  match fieldOff E.P s i, a with
  | some (o, t), .loc b off => cond (sizeT E.P t != 0) (some (true, .loc b (off + o))) none
  | some (o, t), .cptr v => cond (sizeT E.P t != 0) ((v.at o (sizeT E.P t) (clsT E.P t)).map fun u => (true, .cptr u)) none
  | _, _ => none

def indexAddrAV (E : Env) (t : TypeId) (a ix : AV) : CV :=
  match E.P.underlying t, asInt ix, a with
  | some (.slice e), some (_, i), .sl ty xs _ => cond (E.P.cellsOf e == ty.size && ty.ok && decide (0 < ty.size)) (some (ile 0 i && ilt i (dlen xs), .cptr (enc ty (dget ty xs i)))) none
  | some (.array len e), some (_, i), .loc b off => cond (len == 32 && isU8 E.P e && E.P.cellsOf e == 1) (some (ile 0 i && ilt i 32, .loci b off (inat i))) none
  | some (.array len e), some (_, i), .cptr (.id x) => cond (len == 32 && isU8 E.P e && E.P.cellsOf e == 1) (some (ile 0 i && ilt i 32, .cptr (.u8 (idget x (inat i))))) none
  | _, _, _ => none

def optInt (st : St) : Option Operand → Int → Option Int
  | none, d => some d
  | some x, _ => match evalOp st x with | some v => (asInt v).map (·.2) | none => none

/-- a part of a string or of a slice; never beyond its length -/
def sliceAV (E : Env) (st : St) (t : TypeId) (a : AV) (lo hi mx : Option Operand) : CV :=
  match mx with
  | some _ => none
  | none =>
    match E.P.underlying t, a with
    | some .string, .str l => match optInt st lo 0, optInt st hi (dlen l) with
      | some i, some j => some (ile 0 i && ile i j && ile j (dlen l), .str (dsub l i j))
      | _, _ => none
    | some (.slice e), .sl ty xs _ => match optInt st lo 0, optInt st hi (dlen xs) with
      | some i, some j => cond (E.P.cellsOf e == ty.size && decide (0 < ty.size)) (some (ile 0 i && ile i j && ile j (dlen xs), .sl ty (dsub xs i j) none)) none
      | _, _ => none
    | some (.slice e), .nilsl => match optInt st lo 0, optInt st hi 0 with
      | some i, some j => cond (E.P.cellsOf e != 0) (some (ieq i 0 && ieq j 0, .nilsl)) none
      | _, _ => none
    | some (.array len e), .loc b off => match lo, hi with
      | none, none => cond (len == 32 && isU8 E.P e && E.P.cellsOf e == 1) (some (true, .idsl b off)) none
      | _, _ => none
    | some (.array len e), .cptr (.id x) => match lo, hi with
      | none, none => cond (len == 32 && isU8 E.P e && E.P.cellsOf e == 1) (some (true, .sl .u8 x.l none)) none
      | _, _ => none
    | _, _ => none

def minAll (f : Int → Int → Int) : IntKind → Int → List AV → Option AV
  | k, x, [] => some (mkInt k x)
  | k, x, .int k' y :: r => cond (IntKind.same k k') (minAll f k (f x y) r) none
  | _, _, _ => none

/-- the zero value of the type is what its sort's zero is -/
def zcells : Ty → List Value
  | .int k => [.int k 0]
  | .u8 => [.int .u8 0]
  | .bool => [.bool false]
  | .str => [.string ⟨#[]⟩]
  | .id => List.replicate 32 (.int .u8 0)
  | .unit => []
  | .pair s t => zcells s ++ zcells t
  | .sl _ => [.slice none 0 0]
def sameCell : Value → Value → Bool
  | .int k n, .int k' n' => IntKind.same k k' && decide (n = n')
  | .bool a, .bool b => decide (a = b)
  | .string a, .string b => decide (a.data.toList = b.data.toList)
  | .slice none 0 0, .slice none 0 0 => true
  | _, _ => false
def sameCells : List Value → List Value → Bool
  | [], [] => true
  | a :: as, b :: bs => sameCell a b && sameCells as bs
  | _, _ => false
def zeroOk (P : Program) (e : TypeId) (t : Ty) : Bool :=
  match P.info? e with
  | some i => (match i.zero with | some z => sameCells z.cells.toList (zcells t) && (match z with | .agg _ => clsT P e != 0 | .tuple _ => false | _ => clsT P e == 0) | none => false) && i.size == t.size
  | none => false

/-- a value that cells hold -/
def AV.solid : AV → Bool
  | .any | .tup _ | .raw .. => false
  | _ => true

/-- what a struct is built of -/
def setPart : List AV → List (Nat × AV) → Option (List AV)
  | ps, [] => some ps
  | ps, (i, v) :: r => match mget ps i with
    | some p => cond (p.size == v.size && v.solid) (setPart (mset ps i v) r) none
    | none => none
def setByte : Id → List (Nat × AV) → Option Id
  | a, [] => some a
  | a, (i, .u8 b) :: r => cond (decide (i < 32)) (setByte (idset a i b) r) none
  | _, _ => none

def evalParts (st : St) : List (Nat × Operand) → Option (List (Nat × AV))
  | [] => some []
  | (i, x) :: r => match evalOp st x, evalParts st r with | some v, some vs => some ((i, v) :: vs) | _, _ => none

/-- the fields stand one behind the other -/
def layOk (P : Program) : Nat → List Field → List AV → Bool
  | _, [], [] => true
  | off, f :: fs, z :: zs => f.offset == off && P.cellsOf f.type == z.size && (P.info? f.type).isSome && layOk P (off + z.size) fs zs
  | _, _, _ => false

def buildAV (E : Env) (t : TypeId) (ps : List (Nat × AV)) : CV :=
  match E.P.underlying t, E.ty t with
  | some (.array _ e), some .id => cond (zeroOk E.P t .id && isU8 E.P e && E.P.cellsOf e == 1) ((setByte Id.zero ps).map fun a => (true, .id a)) none
  | some (.struct fs), some ty => (match zeroAV ty with
    | .agg zs => cond (zeroOk E.P t ty && ty.ok && layOk E.P 0 fs.toList zs) ((setPart zs ps).map fun r => (true, .agg r)) none
    | _ => none)
  | _, _ => none

def bothBool : Option AV → Option AV → Option (Bool × Bool)
  | some (.bool x), some (.bool y) => some (x, y)
  | _, _ => none
def pickAV (b : Bool) (u v : Option AV) : CV :=
  match bothBool u v with
  | some (x, y) => some (true, .bool (cond b x y))
  | none => cond b (u.map fun v => (true, v)) (v.map fun v => (true, v))

/-- the values of pure operations -/
def pureOp (E : Env) (st : St) (o : Oper) : CV :=
  match o.op with
  | .move x | .assign x => (evalOp st x).map fun v => (true, v)
  | .pick c a b => match evalOp st c with
    | some (.bool b0) => pickAV b0 (evalOp st a) (evalOp st b)
    | _ => none
  | .build t parts => match evalParts st parts.toList with | some ps => buildAV E t ps | none => none
  | .load t p => match evalOp st p with
    | some (.loc b off) => cond (okT E.P t) ((memAt st b off (sizeT E.P t) (clsT E.P t)).map fun v => (true, v)) none
    | some (.loci b off i) => (match memAt st b off 32 1 with
      | some (.id a) => cond (isU8 E.P t) (some (true, .u8 (idget a i))) none
      | _ => none)
    | some (.cptr v) => cond (v.size == sizeT E.P t && v.cls == clsT E.P t && (okT E.P t)) (some (true, v)) none
    | _ => none
  | .binOp op t x y _ => match evalOp st x, evalOp st y with | some a, some b => binAV E op t a b | _, _ => none
  | .unOp op _ x => match evalOp st x with | some a => unAV op a | _ => none
  | .convert s d x => match evalOp st x with | some (.idsl b off) => convIdsl E st s d b off | some a => convAV E s d a | _ => none
  | .makeFunc f first captured => match evalAll st first.toList, evalAll st captured.toList with | some a, some b => some (true, .fn f a b) | _, _ => none
  | .slice t x lo hi mx => match evalOp st x with | some a => sliceAV E st t a lo hi mx | _ => none
  | .fieldAddr s x f => match evalOp st x with | some a => fieldAddrAV E s a f | _ => none
  | .field s x f => match evalOp st x, fieldOff E.P s f with | some (.agg ps), some (o, t) => cond (okT E.P t) (((AV.agg ps).at o (sizeT E.P t) (clsT E.P t)).map fun u => (true, u)) none | _, _ => none
  | .indexAddr t x i => match evalOp st x, evalOp st i with | some a, some b => indexAddrAV E t a b | _, _ => none
  | .index t x i => match evalOp st x, evalOp st i with | some a, some b => indexAV E t a b | _, _ => none
  | .extract t i => match evalOp st t with | some (.tup vs) => (mget vs i).map fun v => (true, v) | _ => none
  | .nilCheck x => match evalOp st x with | some (.loc b o) => some (true, .loc b o) | some (.cptr v) => some (true, .cptr v) | _ => none
  | .call c => match c.callee with
    | .builtin .len => match c.args.toList, c.argTypes.toList with | [x], [t] => (match evalOp st x with | some v => (lenAV E.P t v).map fun n => (true, .int .i64 n) | none => none) | _, _ => none
    | .builtin .cap => match c.args.toList, c.argTypes.toList with | [x], [t] => (match evalOp st x, E.P.underlying t with | some .nilsl, some (.slice _) => some (true, .int .i64 0) | _, _ => none) | _, _ => none
    | .builtin .min => match evalAll st c.args.toList with | some (.int k x :: r) => cond (notU8 k) ((minAll imin k x r).map fun v => (true, v)) none | _ => none
    | .builtin .max => match evalAll st c.args.toList with | some (.int k x :: r) => cond (notU8 k) ((minAll imax k x r).map fun v => (true, v)) none | _ => none
    | _ => none
  | _ => none

/- what makes or turns memory -/
mutual
/-- a value without what belongs to this call; rows that are kept get new numbers -/
def AV.ren (ks : List Nat) : AV → Option AV
  | .sl t xs none => some (.sl t xs none)
  | .sl t xs (some b) => some (.sl t xs (ks.idxOf? b))
  | .agg ps => (AV.renL ks ps).map .agg
  | .tup vs => (AV.renL ks vs).map .tup
  | .cptr v => (AV.ren ks v).map .cptr
  | .fn f x y => match AV.renL ks x, AV.renL ks y with | some a, some b => some (.fn f a b) | _, _ => none
  | .raw .. | .loc .. | .loci .. | .idsl .. => none
  | v => some v
def AV.renL (ks : List Nat) : List AV → Option (List AV)
  | [] => some []
  | v :: vs => match AV.ren ks v, AV.renL ks vs with | some a, some b => some (a :: b) | _, _ => none
end
mutual
def AV.shift (n : Nat) : AV → AV
  | .sl t xs (some b) => .sl t xs (some (b + n))
  | .agg ps => .agg (AV.shiftL n ps)
  | .tup vs => .tup (AV.shiftL n vs)
  | .cptr v => .cptr (AV.shift n v)
  | .fn f x y => .fn f (AV.shiftL n x) (AV.shiftL n y)
  | .raw t k b => .raw t k (b + n)
  | .loc b o => .loc (b + n) o
  | .loci b o i => .loci (b + n) o i
  | .idsl b o => .idsl (b + n) o
  | v => v
def AV.shiftL (n : Nat) : List AV → List AV
  | [] => []
  | v :: vs => AV.shift n v :: AV.shiftL n vs
end

def Blk.dem (b : Nat) : Blk → Blk
  | .box v => .box (v.dem b)
  | .fro v => .fro (v.dem b)
  | m => m
def St.dem (st : St) (b : Nat) : St := { tmps := AV.demL b st.tmps, outer := st.outer.map (AV.demL b), mem := st.mem.map (Blk.dem b) }

/-- arguments as a callee sees them: alias slices of a variable stand still from here on -/
def frozen1 (st : St) : AV → AV × St
  | .idsl b off => match mget st.mem b with
    | some (Blk.box v) => (match v.at off 32 1 with | some (.id a) => (.sl .u8 a.l none, { st with mem := mset st.mem b (Blk.fro v) }) | _ => (.any, st))
    | some (Blk.fro v) => (match v.at off 32 1 with | some (.id a) => (.sl .u8 a.l none, st) | _ => (.any, st))
    | _ => (.any, st)
  | v => ((v.ren []).getD .any, st)
def frozenL (st : St) : List AV → List AV × St
  | [] => ([], st)
  | v :: vs => let (a, st1) := frozen1 st v; let (as, st2) := frozenL st1 vs; (a :: as, st2)

/-- the target of an append: its row -/
def rowOf (st : St) (t : Ty) (e : TypeId) : AV → Option (List t.den × Nat × St)
  | .nilsl => some ([], (mlen st.mem), { st with mem := mapp st.mem [Blk.row e t.size] })
  | .sl t' xs (some b) => match mget st.mem b with
    | some (Blk.row e' sz) => if h : t' = t then cond (e' == e && sz == t.size) (some (h ▸ xs, b, st)) none else none
    | _ => none
  | _ => none

/-- what is appended -/
def newsOf (st : St) (t : Ty) : AV → Option (List t.den)
  | .nilsl => some []
  | .sl t' ys _ => if h : t' = t then some (h ▸ ys) else none
  | .str l => if h : t = .u8 then some (h ▸ l) else none
  | .idsl b off => match memAt st b off 32 1 with | some (.id a) => if h : t = .u8 then some (h ▸ a.l) else none | _ => none
  | _ => none

def elemT (P : Program) (t : TypeId) : Option TypeId := match P.underlying t with | some (.slice e) => some e | _ => none

/-- an element type's bytes -/
def bytesT (P : Program) (e : TypeId) : Nat := ((P.info? e).map (·.bytes)).getD 0

def appendAV (E : Env) (st : St) (tT xT : TypeId) (s x : AV) (K : AV → St → Option Res) : Option Res :=
  match elemT E.P tT with
  | none => none
  | some e => match E.ty e with
    | none => none
    | some t => match rowOf st t e s with
      | none => none
      | some (xs, b, st1) => match newsOf st1 t x with
        | none => none
        | some ys =>
          cond (zeroOk E.P e t && t.ok && decide (0 < t.size) && (match E.P.underlying xT with | some (.slice _) => true | some .string => t == .u8 | _ => false))
            (cond (fits (dlen xs) (dlen ys) (bytesT E.P e)) (K (.sl t (dapp xs ys) (some b)) (st1.dem b)) none) none

/-- a new row: as an own one -/
def decAll (t : Ty) : List AV → Option (List t.den)
  | [] => some []
  | v :: vs => match dec t v, decAll t vs with | some x, some xs => some (x :: xs) | _, _ => none

/-- all of the places, in order -/
def inOrder : Nat → List (Nat × AV) → Option (List AV)
  | _, [] => some []
  | n, (i, v) :: r => cond (i == n) ((inOrder (n + 1) r).map (v :: ·)) none

/-- what operations do -/
def doOp (E : Env) (call : FuncId → List AV → St → (AV → St → Option Res) → Option Res) (o : Oper) (st : St) (K : St → Option Res) : Option Res :=
  match o.op with
  | .alloc t => match E.ty t with
    | some ty => cond (zeroOk E.P t ty && ty.ok) (K ({ st with mem := mapp st.mem [Blk.box (zeroAV ty)] }.put o.dst (.loc (mlen st.mem) 0))) none
    | none => none
  | .box _ x => match evalOp st x with
    | none => none
    | some v => cond v.solid (K ({ st with mem := mapp st.mem [Blk.box v] }.put o.dst (.loc (mlen st.mem) 0))) none
  | .store t p x => match evalOp st p, evalOp st x with
    | some (.loc b off), some v => (match mget st.mem b with
      | some (Blk.box u) => cond (v.size == sizeT E.P t && v.solid && (E.P.info? t).isSome)
          (match u.put off v.size v.cls v with | some u' => K ({ st with mem := mset st.mem b (Blk.box u') }.put o.dst .any) | none => none) none
      | _ => none)
    | some (.loci b off i), some (.u8 c) => (match mget st.mem b with
      | some (Blk.box u) => (match u.at off 32 1 with
        | some (.id a) => cond (isU8 E.P t && E.P.cellsOf t == 1) (match u.put off 32 1 (.id (idset a i c)) with | some u' => K ({ st with mem := mset st.mem b (Blk.box u') }.put o.dst .any) | none => none) none
        | _ => none)
      | _ => none)
    | _, _ => none
  | .buildSlice t len parts => match elemT E.P t with
    | none => none
    | some e => match E.ty e with
      | none => none
      | some ty => match evalParts st parts.toList with
        | none => none
        | some ps => match inOrder 0 ps with
          | none => none
          | some vs => match decAll ty vs with
            | none => none
            | some xs => cond (mlen vs == len && zeroOk E.P e ty && ty.ok && decide (0 < ty.size) && decide (len * ty.size ≤ 65536))
                (K ({ st with mem := mapp st.mem [Blk.row e ty.size] }.put o.dst (.sl ty xs (some (mlen st.mem))))) none
  | .makeSlice t l c => match elemT E.P t, evalOp st l, evalOp st c with
    | some e, some (.int .i64 n), some (.int .i64 m) => match E.ty e with
      | none => none
      | some ty => cond (zeroOk E.P e ty && ty.ok && decide (ty.size = 1))
          (cond (ile 0 n && ieq n m && fits n 0 (bytesT E.P e))
            (K ({ st with mem := mapp st.mem [Blk.row e ty.size] }.put o.dst (.sl ty (drep n ty.zero) (some (mlen st.mem))))) none) none
    | _, _, _ => none
  | .call c => match c.callee with
    | .builtin .append => match c.args.toList, c.argTypes.toList with
      | [s, x], [tT, xT] => (match evalOp st s, evalOp st x with
        | some sv, some xv => appendAV E st tT xT sv xv (fun v st => K (st.put o.dst v))
        | _, _ => none)
      | _, _ => none
    | .builtin .copy => match c.args.toList, c.argTypes.toList with
      | [d, x], [dT, _] => (match evalOp st d, evalOp st x with
        | some (.idsl b off), some xv => (match mget st.mem b with
          | some (Blk.box u) => (match u.at off 32 1, newsOf st .u8 xv with
            | some (.id a), some l => cond (match elemT E.P dT with | some e => isU8 E.P e && E.P.cellsOf e == 1 | none => false)
                (cond (ile (dlen l) 32) (match u.put off 32 1 (.id (a.over l)) with
                  | some u' => K ({ st with mem := mset st.mem b (Blk.box u') }.put o.dst (.int .i64 (dlen l)))
                  | none => none) none) none
            | _, _ => none)
          | _ => none)
        | _, _ => none)
      | _, _ => none
    | .value f => match evalOp st f, evalAll st c.args.toList with
      | some (.fn (.func g) first captured), some args => call g (mapp first (mapp args captured)) st (fun v st => K (st.put o.dst v))
      | _, _ => none
    | _ => match pureOp E st o with
      | some (ok, v) => cond ok (K (st.put o.dst v)) none
      | none => none
  | _ => match pureOp E st o with
    | some (ok, v) => cond ok (K (st.put o.dst v)) none
    | none => none

/-- 'append' of so many zeros to a nil slice -/
def growAV (E : Env) (st : St) (tT : TypeId) (n : Int) (K : AV → St → Option Res) : Option Res :=
  match elemT E.P tT with
  | none => none
  | some e => match E.ty e with
    | none => none
    | some t => cond (zeroOk E.P e t && t.ok && decide (0 < t.size))
        (cond (ile 1 n && fits n 0 (bytesT E.P e)) (K (.raw t (inat n) (mlen st.mem)) { st with mem := mapp st.mem [Blk.row e t.size] }) none) none

/-- the same, and parts of slices that stay rows -/
def doOp2 (E : Env) (call : FuncId → List AV → St → (AV → St → Option Res) → Option Res) (o : Oper) (st : St) (K : St → Option Res) : Option Res :=
  match o.op with
  | .slice t x none (some hi) none => match E.P.underlying t, evalOp st x, evalOp st hi with
    | some (.slice e), some (.raw ty _ b), some (.int .i64 j) => cond (E.P.cellsOf e != 0) (cond (ieq j 0) (K (st.put o.dst (.sl ty [] (some b)))) none) none
    | _, _, _ => doOp E call o st K
  | .slice t x none (some hi) (some m) => match E.P.underlying t, evalOp st x, evalOp st hi, evalOp st m with
    | some (.slice e), some (.sl ty xs _), some (.int .i64 j), some (.int .i64 k) => cond (E.P.cellsOf e == ty.size && decide (0 < ty.size))
        (cond (ieq j (dlen xs) && ieq k (dlen xs)) (K ({ st with mem := mapp st.mem [Blk.row e ty.size] }.put o.dst (.sl ty xs (some (mlen st.mem))))) none) none
    | some (.slice e), some .nilsl, some (.int .i64 j), some (.int .i64 k) => cond (E.P.cellsOf e != 0) (cond (ieq j 0 && ieq k 0) (K (st.put o.dst .nilsl)) none) none
    | _, _, _, _ => none
  | .call ⟨.builtin .append, args, ats⟩ => match args.toList, ats.toList with
    | [s, x], [tT, xT] => match E.P.underlying xT, evalOp st s, evalOp st x with
      | some (.int .i64), some .nilsl, some (.int .i64 n) => growAV E st tT n (fun v st => K (st.put o.dst v))
      | _, _, _ => doOp E call o st K
    | _, _ => doOp E call o st K
  | _ => doOp E call o st K

/-- the slot that says whether an operation is carried out -/
def guardSlot (all : List Oper) (j : Nat) : Option Nat := (all[j]?).bind (·.dst)

def execOps (E : Env) (call : FuncId → List AV → St → (AV → St → Option Res) → Option Res) (all : List Oper) : List Oper → St → (St → Option Res) → Option Res
  | [], st, K => K st
  | o :: rest, st, K =>
    match o.guard with
    | none => doOp2 E call o st (fun st => execOps E call all rest st K)
    | some (j, want) => match guardSlot all j with
      | none => none
      | some s => match mget st.tmps s with
        | some (.bool b) =>
          cond (biff b want) (doOp2 E call o (st.put (some s) (.bool want)) (fun st => execOps E call all rest st K))
            (execOps E call all rest ((st.put (some s) (.bool (!want))).put o.dst (.tup [])) K)
        | some (.tup []) => execOps E call all rest (st.put o.dst (.tup [])) K
        | _ => none

def key : Code → Nat
  | .region id _ _ => id
  | .seq a _ => key a
  | .cond _ a _ => key a
  | .block _ b => key b
  | .loop b => key b
  | .scope b => key b
  | _ => 0

/-- only what is read afterwards is kept -/
def fill : Nat → List (Nat × AV) → List AV
  | n, l => l.foldl (fun ts p => mset ts p.1 p.2) (mrep n .any)
def keepL (ts : List AV) : List Nat → Option (List AV)
  | [] => some []
  | i :: r => match mget ts i, keepL ts r with | some v, some vs => some (v :: vs) | _, _ => none
/-- nil slices that are appended to are rows from here on -/
def upL (st : St) : List (Nat × Ty × TypeId) → St
  | [] => st
  | (i, t, e) :: r => match mget st.tmps i with
    | some .nilsl => upL { st with tmps := mset st.tmps i (.sl t [] (some (mlen st.mem))), mem := mapp st.mem [Blk.row e t.size] } r
    | _ => upL st r

def Sum.elim (m : Nat) : Sum → K → Option Res
  | .out e sets mem, K => K e { tmps := fill m sets, outer := [], mem }
  | .br b x y, K => cond b (x.elim m K) (y.elim m K)
  | .no, _ => none

def mtake {α : Type} : Nat → List α → List α
  | 0, _ => []
  | _, [] => []
  | n + 1, a :: l => a :: mtake n l
mutual
/-- a value that knows of the first blocks alone -/
def AV.within (n : Nat) : AV → Bool
  | .sl _ _ (some b) => Nat.blt b n
  | .agg ps => AV.withins n ps
  | .tup vs => AV.withins n vs
  | .cptr v => AV.within n v
  | .fn _ x y => AV.withins n x && AV.withins n y
  | .raw _ _ b => Nat.blt b n
  | .loc b _ => Nat.blt b n
  | .loci b _ _ => Nat.blt b n
  | .idsl b _ => Nat.blt b n
  | _ => true
def AV.withins (n : Nat) : List AV → Bool
  | [] => true
  | v :: vs => AV.within n v && AV.withins n vs
end
def Blk.within (n : Nat) : Blk → Bool
  | .box v => v.within n
  | .fro v => v.within n
  | _ => true
def Blk.withins (n : Nat) : List Blk → Bool
  | [] => true
  | v :: vs => Blk.within n v && Blk.withins n vs

def enter (l : Lp) (st : St) (k : List AV → List Blk → Option Res) : Option Res :=
  match st.outer with
  | [] => cond (Nat.beq (mlen st.tmps) l.m) (match keepL (upL st l.up).tmps l.keep with
    | some vs => k vs (upL st l.up).mem
    | none => none) none
  | _ => none
/-- the next round: blocks that this one has made are forgotten -/
def again (l : Lp) (n : Nat) (st : St) (k : List AV → List Blk → Option Res) : Option Res :=
  enter l st fun vs mem => cond (AV.withins n vs && Blk.withins n (mtake n mem)) (k vs (mtake n mem)) none
/-- what is known behind the loop -/
def cut (l : Lp) (n : Nat) (K : K) (e : Ex) (st : St) : Option Res :=
  match st.outer with
  | [] => cond (Nat.beq (mlen st.tmps) l.m) (match keepL st.tmps (l.outs e) with
    | some vs => cond l.trim
      (cond (AV.withins n vs && Blk.withins n (mtake n st.mem)) (K e { tmps := fill l.m ((l.outs e).zip vs), outer := [], mem := mtake n st.mem }) none)
      (K e { tmps := fill l.m ((l.outs e).zip vs), outer := [], mem := st.mem })
    | none => none) none
  | _ => none

mutual
/-- a value that is the same in every memory -/
def AV.plain : AV → Bool
  | .int _ _ | .u8 _ | .bool _ | .str _ | .id _ => true
  | .agg ps => AV.plains ps
  | .tup vs => AV.plains vs
  | _ => false
def AV.plains : List AV → Bool
  | [] => true
  | v :: vs => AV.plain v && AV.plains vs
end

/-- arguments as a callee sees them -/
def strips : List AV → List AV
  | [] => []
  | v :: vs => (v.ren []).getD .any :: strips vs

/-- an operation in a region that may go in any order: it only reads -/
def doQ (E : Env) (o : Oper) (st : St) (K : St → Option Res) : Option Res :=
  match o.op with
  | .call ⟨.value f, args, _⟩ => match evalOp st f, evalAll st args.toList with
    | some (.fn (.func g) first captured), some vs => (match E.con g with
      | some F => (F (strips (mapp first (mapp vs captured)))).elim fun r rows => (match rows with
        | [] => cond r.plain (K (st.put o.dst r)) none
        | _ => none)
      | none => none)
    | _, _ => none
  | _ => match pureOp E st o with
    | some (ok, v) => cond ok (K (st.put o.dst v)) none
    | none => none

def execQ (E : Env) (all : List Oper) : List Oper → St → (St → Option Res) → Option Res
  | [], st, K => K st
  | o :: rest, st, K =>
    match o.guard with
    | none => doQ E o st (fun st => execQ E all rest st K)
    | some (j, want) => match guardSlot all j with
      | none => none
      | some s => match mget st.tmps s with
        | some (.bool b) =>
          cond (biff b want) (doQ E o (st.put (some s) (.bool want)) (fun st => execQ E all rest st K))
            (execQ E all rest ((st.put (some s) (.bool (!want))).put o.dst (.tup [])) K)
        | some (.tup []) => execQ E all rest (st.put o.dst (.tup [])) K
        | _ => none

def exec (E : Env) (call : FuncId → List AV → St → (AV → St → Option Res) → Option Res) (fn : FuncId) : Code → St → K → Option Res
  | .skip, st, K => K .normal st
  | .label _, st, K => K .normal st
  | .region _ ops draw, st, K => cond draw (cond (Region.lexB .any ops) (execQ E ops.toList ops.toList st (fun st => K .normal st)) none) (execOps E call ops.toList ops.toList st (fun st => K .normal st))
  | .seq a b, st, K => exec E call fn a st (fun e st => match e with | .normal => exec E call fn b st K | e => K e st)
  | .cond c x y, st, K => match c with
    | .tmp t => (match mget st.tmps t with
      | some (.bool b) => cond b (exec E call fn x (st.put (some t) (.bool true)) K) (exec E call fn y (st.put (some t) (.bool false)) K)
      | _ => none)
    | .const (.bool b) => cond b (exec E call fn x st K) (exec E call fn y st K)
    | _ => none
  | .block id b, st, K => exec E call fn b st (fun e st => match e with | .exit i => cond (i == id) (K .normal st) (K (.exit i) st) | e => K e st)
  | .exit id, st, K => K (.exit id) st
  | .ret, st, K => K .ret st
  | .loop b, st, K => match E.lp fn (key b) with
    | none => none
    | some l => enter l st fun vs mem => (l.sum vs mem).elim l.m K
  | _, _, _ => none

/-- so many rounds of a loop -/
def rounds (E : Env) (call : FuncId → List AV → St → (AV → St → Option Res) → Option Res) (fn : FuncId) (l : Lp) (body : Code) (K : K) : Nat → List AV → List Blk → Option Res
  | 0, _, _ => none
  | n + 1, vs, mem => exec E call fn body { tmps := fill l.m (l.keep.zip vs), outer := [], mem } (fun e st => match e with
    | .normal => again l (mlen mem) st (fun vs mem => rounds E call fn l body K n vs mem)
    | e => cut l (mlen mem) K e st)

def loopsOf : Code → List Code
  | .seq a b => mapp (loopsOf a) (loopsOf b)
  | .cond _ a b => mapp (loopsOf a) (loopsOf b)
  | .block _ b => loopsOf b
  | .loop b => b :: loopsOf b
  | _ => []

def resAV (E : Env) (fn : Func) (st : St) : List ResultVar → Option (List AV)
  | [] => some []
  | .tmp t :: r => match mget st.tmps t, resAV E fn st r with | some v, some vs => some (v :: vs) | _, _ => none
  | .cell a t :: r => match mget st.tmps a, resAV E fn st r with
    | some (.loc b off), some vs => cond (okT E.P t) ((memAt st b off (sizeT E.P t) (clsT E.P t)).map (· :: vs)) none
    | _, _ => none
def resultAV (E : Env) (fn : Func) (st : St) : Option AV :=
  match resAV E fn st fn.results.toList with
  | some [v] => some v
  | some vs => some (.tup vs)
  | none => none

def allRows : List Blk → Bool
  | [] => true
  | .row _ _ :: l => allRows l
  | _ => false

def callee (E : Env) : Nat → FuncId → List AV → St → (AV → St → Option Res) → Option Res
  | 0, _, _, _, _ => none
  | n + 1, f, args, st, K =>
    match E.con f with
    | some F => let (as, st1) := frozenL st args
      (F as).elim fun r rows => cond (allRows rows) (K (r.shift (mlen st1.mem)) { st1 with mem := mapp st1.mem rows }) none
    | none => cond (E.inl f) (match mget E.P.funcs.toList f with
      | some fn => cond (fn.name == "runtime.NumGoroutine") none <| match fn.body with
        | some c => exec E (callee E n) f c { tmps := mapp args (mrep (fn.ntmps - mlen args) .any), outer := st.tmps :: st.outer, mem := st.mem }
            (fun e st' => match e with
              | .exit _ => none
              | _ => match resultAV E fn st', st'.outer with
                | some v, t :: o => K v { tmps := t, outer := o, mem := st'.mem }
                | _, _ => none)
        | none => none
      | none => none) none

def rowsOf (mem : List Blk) : List Nat → List Blk
  | [] => []
  | k :: ks => match mget mem k with
    | some (.row e sz) => .row e sz :: rowsOf mem ks
    | _ => rowsOf mem ks

/-- a function's whole run -/
def run (E : Env) (ks : List Nat) (f : FuncId) (args : List AV) : Option Res :=
  match mget E.P.funcs.toList f with
  | some fn => cond (fn.name == "runtime.NumGoroutine") none <| match fn.body with
    | some c => exec E (callee E 3) f c { tmps := mapp args (mrep (fn.ntmps - mlen args) .any), outer := [], mem := [] }
        (fun e st' => match e with
          | .exit _ => none
          | _ => match resultAV E fn st' with
            | some v => match v.ren ks with
              | some r => some (r, rowsOf st'.mem ks)
              | none => none
            | none => none)
    | none => none
  | none => none

def look {α : Type} (f : Nat) : List (Nat × α) → Option α
  | [] => none
  | (g, x) :: l => cond (Nat.beq g f) (some x) (look f l)
def has (f : Nat) : List Nat → Bool
  | [] => false
  | g :: l => cond (Nat.beq g f) true (has f l)

/-- a machine whose calls go by contracts; the loops are of the function that is run alone -/
def mkE (P : Program) (cs : List (FuncId × Con)) (inl : List Nat) (f : FuncId) (ls : List (Nat × Lp)) : Env :=
  { P, con := fun g => look g cs, inl := fun g => has g inl && !Nat.beq g f, lp := fun g k => cond (Nat.beq g f) (look k ls) none }

def bodyOf (P : Program) (f : FuncId) : Code := match mget P.funcs.toList f with
  | some fn => (match fn.body with | some c => c | none => .skip)
  | none => .skip
def loopAt (P : Program) (f : FuncId) (i : Nat) : Code := (mget (loopsOf (bodyOf P f)) i).getD .skip
def okF (P : Program) (f : FuncId) : Bool := match mget P.funcs.toList f with
  | some fn => !(fn.name == "runtime.NumGoroutine") && fn.body.isSome
  | none => false

/-- a contract over data of given sorts -/
def conT (tys : Ty) (G : tys.den → CR) : Con := fun args => match (dec2 tys).2 args with
  | some ys => G ys
  | none => .no

/-- a round of a loop, for the print -/
def showRound (E : Env) (fn : FuncId) (l : Lp) (body : Code) (vs : List AV) (mem : List Blk) : Option Res :=
  exec E (callee E 3) fn body { tmps := fill l.m (l.keep.zip vs), outer := [], mem } (fun e st => match e with
    | .normal => again l (mlen mem) st (fun vs mem => some (.tup (.str [] :: vs), mem))
    | e => cut l (mlen mem) (fun e st => match e, keepL st.tmps (l.outs e) with
      | .exit i, some vs => some (.tup (.int .i8 i :: vs), st.mem)
      | .ret, some vs => some (.tup (.int .i16 0 :: vs), st.mem)
      | _, _ => none) e st)

end Am
end Go.Proofs.Ytkidcbialbffgaa
