/-
  A symbolic machine over the model, part 1: values, types, the relation to the model's values.
-/
import Derived.WalkKit
import Derived.Laws.StructEq
namespace Go.Proofs.Ytkjpoongkdapoaa
namespace Am
open Go Go.RowKit
set_option linter.unusedVariables false
set_option linter.unusedSimpArgs false

/-- 32 bytes. -/
structure Id where
  l : List UInt8
  h : l.length = 32

theorem Id.ext' {a b : Id} (h : a.l = b.l) : a = b := by
  cases a; cases b; cases h; rfl

instance : DecidableEq Id := fun a b => if h : a.l = b.l then isTrue (Id.ext' h) else isFalse (fun e => h (e ▸ rfl))

def Id.get (a : Id) (i : Nat) : UInt8 := a.l.getD i 0
def Id.set (a : Id) (i : Nat) (v : UInt8) : Id := ⟨a.l.set i v, by rw [List.length_set]; exact a.h⟩
def Id.zero : Id := ⟨List.replicate 32 0, rfl⟩
/-- the first bytes of a list, the rest as it was -/
def Id.over (a : Id) (l : List UInt8) : Id :=
  if h : l.length ≤ 32 then ⟨l ++ a.l.drop l.length, by rw [List.length_append, List.length_drop, a.h]; omega⟩
  else ⟨l.take 32, by rw [List.length_take]; omega⟩

inductive Ty where
  | int (k : IntKind)
  | u8
  | bool
  | str
  | id
  | unit
  | pair (a b : Ty)
  | sl (e : Ty)
  deriving DecidableEq

@[reducible] def Ty.den : Ty → Type
  | .int _ => Int
  | .u8 => UInt8
  | .bool => Bool
  | .str => List UInt8
  | .id => Id
  | .unit => Unit
  | .pair a b => a.den × b.den
  | .sl e => List e.den

def Ty.size : Ty → Nat
  | .int _ | .u8 | .bool | .str | .sl _ => 1
  | .id => 32
  | .unit => 0
  | .pair a b => a.size + b.size

/-- a value of each type: the zero -/
def Ty.zero : (t : Ty) → t.den
  | .int _ => (0 : Int)
  | .u8 => (0 : UInt8)
  | .bool => false
  | .str => ([] : List UInt8)
  | .id => Id.zero
  | .unit => ()
  | .pair a b => (a.zero, b.zero)
  | .sl _ => []

instance (t : Ty) : Inhabited t.den := ⟨t.zero⟩

def ideq (a b : Id) : Bool := decide (a = b)
def ieq (x y : Int) : Bool := decide (x = y)
def u8eq (x y : UInt8) : Bool := decide (x = y)
def beq (x y : Bool) : Bool := decide (x = y)
def seq (x y : List UInt8) : Bool := decide (x = y)
/-- equality of values without slices -/
def Ty.beq : (t : Ty) → t.den → t.den → Bool
  | .int _, a, b => ieq a b
  | .u8, a, b => u8eq a b
  | .bool, a, b => Go.Proofs.Ytkjpoongkdapoaa.Am.beq a b
  | .str, a, b => seq a b
  | .id, a, b => ideq a b
  | .unit, _, _ => true
  | .pair s t, a, b => s.beq a.1 b.1 && t.beq a.2 b.2
  | .sl _, _, _ => false

inductive AV where
  | int (k : IntKind) (n : Int)
  | u8 (b : UInt8)
  | bool (b : Bool)
  | str (l : List UInt8)
  | id (a : Id)
  | agg (ps : List AV)
  | tup (vs : List AV)
  | sl (t : Ty) (xs : List t.den) (own : Option Nat)
  | nilsl
  | raw (t : Ty) (n : Nat) (b : Nat)
  | loc (b off : Nat)
  | loci (b off i : Nat)
  | idsl (b off : Nat)
  | yld (b : Nat)
  | cptr (v : AV)
  | fn (f : Fn) (first captured : List AV)
  | nilfn
  /-- a row of plain functions, that stands still -/
  | lst (fs : List FuncId)
  /-- an interface's value -/
  | iface (t : TypeId) (v : AV)
  /-- a part of a row that may be written; the address of one of its elements -/
  | asl (t : Ty) (b : Nat) (lo hi : Int)
  | elp (t : Ty) (b : Nat) (i : Int)
  /-- a map -/
  | mref (b : Nat)
  | any

/-- memory that does not change any more -/
abbrev Mem := Addr → Option Value

def At (C : Mem) (a : Addr) (cs : List Value) : Prop := a.spot = none ∧ ∀ (j : Nat) (v : Value), cs[j]? = some v → C ⟨a.block, a.off + j, none⟩ = some v

def u8v (b : UInt8) : Value := .int .u8 b.toNat

/-- no row and no text is longer -/
def lim : Nat := 4611686018427387903

/-- the cells of a value of a type -/
def TC (C : Mem) : (t : Ty) → t.den → List Value → Prop
  | .int k, n, cs => cs = [.int k n]
  | .u8, b, cs => cs = [u8v b]
  | .bool, b, cs => cs = [.bool b]
  | .str, l, cs => cs = [.string ⟨l.toArray⟩] ∧ List.length (l : List UInt8) ≤ lim
  | .id, a, cs => cs = a.l.map u8v
  | .unit, _, cs => cs = []
  | .pair s t, x, cs => ∃ c1 c2, cs = c1 ++ c2 ∧ TC C s x.1 c1 ∧ TC C t x.2 c2
  | .sl e, xs, cs => ∃ base cap, cs = [.slice base (List.length xs) cap] ∧ (List.length xs ≤ cap ∧ List.length xs ≤ lim) ∧
      (∀ (i : Nat) (x : e.den), xs[i]? = some x → ∃ ad csi, base = some ad ∧ TC C e x csi ∧ At C ⟨ad.block, ad.off + i * e.size, ad.spot⟩ csi)

/-- the row of a slice -/
def Row (C : Mem) (e : Ty) (base : Option Addr) (xs : List e.den) : Prop :=
  ∀ (i : Nat) (x : e.den), xs[i]? = some x → ∃ ad csi, base = some ad ∧ TC C e x csi ∧ At C ⟨ad.block, ad.off + i * e.size, ad.spot⟩ csi

theorem TC_sl {C : Mem} {e : Ty} {xs : List e.den} {cs : List Value} : TC C (.sl e) xs cs ↔ ∃ base cap, cs = [.slice base xs.length cap] ∧ (xs.length ≤ cap ∧ xs.length ≤ lim) ∧ Row C e base xs := Iff.rfl

/-- what is known of a block: a variable's; a row that may be appended to -/
inductive Gh where
  | box (blk : Nat) (T : TypeId)
  | row (v : Value) (o : Bool)
  | loop (l : Nat)
  | arr (blk : Option Nat) (e : TypeId) (n : Nat)
  | mp (blk : Nat)
  | dead

/-- what a block's number stands for, whatever is done -/
def Gh.fixed : Gh → Bool
  | .box _ _ => true
  | .loop _ => true
  | .arr _ _ _ => true
  | .mp _ => true
  | _ => false

abbrev Ghs := List Gh

def Ghs.box (g : Ghs) (b : Nat) : Option Nat := match g[b]? with | some (.box k _) => some k | _ => none

/-- a plain function, as a value -/
def fnv (f : FuncId) : Value := .func (.func f) #[] #[]
mutual
/-- an abstract value is what these cells hold -/
inductive RC (C : Mem) (g : Ghs) : AV → List Value → Prop where
  | int (k n) : RC C g (.int k n) [.int k n]
  | u8 (b) : RC C g (.u8 b) [u8v b]
  | bool (b) : RC C g (.bool b) [.bool b]
  | str (l) (hs : l.length ≤ lim) : RC C g (.str l) [.string ⟨l.toArray⟩]
  | id (a : Id) : RC C g (.id a) (a.l.map u8v)
  | agg {ps cs} (h : RCL C g ps cs) : RC C g (.agg ps) cs
  | sl {t : Ty} {xs : List t.den} {base : Option Addr} {cap : Nat} (hl : xs.length ≤ cap ∧ xs.length ≤ lim) (h : Row C t base xs) : RC C g (.sl t xs none) [.slice base xs.length cap]
  | own {t : Ty} {xs : List t.den} {b : Nat} {base : Option Addr} {cap : Nat} (hl : xs.length ≤ cap ∧ xs.length ≤ lim) (h : Row C t base xs) {o : Bool} (hg : g[b]? = some (.row (.slice base xs.length cap) o)) : RC C g (.sl t xs (some b)) [.slice base xs.length cap]
  | nilsl : RC C g .nilsl [.slice none 0 0]
  | loc {b off blk} (h : Ghs.box g b = some blk) : RC C g (.loc b off) [.pointer (some ⟨blk, off, none⟩)]
  | loci {b off i blk} (hi : i < 32) (h : Ghs.box g b = some blk) : RC C g (.loci b off i) [.pointer (some ⟨blk, off + i, none⟩)]
  | idsl {b off blk} (h : Ghs.box g b = some blk) : RC C g (.idsl b off) [.slice (some ⟨blk, off, none⟩) 32 32]
  | yld {b l} (h : g[b]? = some (.loop l)) : RC C g (.yld b) [.func (.yield l) #[] #[]]
  | cptr {v ad cs} (h : RC C g v cs) (ha : At C ad cs) : RC C g (.cptr v) [.pointer (some ad)]
  | fn {f first captured fs ks} (h1 : RVL C g first fs) (h2 : RVL C g captured ks) : RC C g (.fn f first captured) [.func f fs.toArray ks.toArray]
  | nilfn : RC C g .nilfn [.nilFunc]
  | lst {fs : List FuncId} {ad : Addr} (ha : At C ad (fs.map fnv)) : RC C g (.lst fs) [.slice (some ad) fs.length fs.length]
  | iface {t v x} (h : RV C g v x) : RC C g (.iface t v) [.iface t x]
  | asl {t : Ty} {b : Nat} {lo hi : Int} {blk : Option Nat} {e : TypeId} {n cap : Nat} {base : Option Addr} (hg : g[b]? = some (.arr blk e n)) (h0 : 0 ≤ lo ∧ lo ≤ hi ∧ hi ≤ n ∧ n ≤ cap) (hb : lo < n → ∃ k, blk = some k ∧ base = some ⟨k, lo.toNat * t.size, none⟩) : RC C g (.asl t b lo hi) [.slice base (hi - lo).toNat (cap - lo.toNat)]
  | elp {t : Ty} {b : Nat} {i : Int} {k : Nat} {e : TypeId} {n : Nat} (hg : g[b]? = some (.arr (some k) e n)) (h0 : 0 ≤ i ∧ i < n) : RC C g (.elp t b i) [.pointer (some ⟨k, i.toNat * t.size, none⟩)]
  | mref {b k} (hg : g[b]? = some (.mp k)) : RC C g (.mref b) [.map (some k)]
inductive RCL (C : Mem) (g : Ghs) : List AV → List Value → Prop where
  | nil : RCL C g [] []
  | cons {p ps c cs} (h : RC C g p c) (t : RCL C g ps cs) : RCL C g (p :: ps) (c ++ cs)
/-- an abstract value is this value -/
inductive RV (C : Mem) (g : Ghs) : AV → Value → Prop where
  | any (v) : RV C g .any v
  | raw {t : Ty} {n b : Nat} {base : Option Addr} {cap : Nat} (hn : n ≤ cap) {o : Bool} (hg : g[b]? = some (.row (.slice base 0 cap) o)) : RV C g (.raw t n b) (.slice base n cap)
  | id {a cs} (h : RC C g (.id a) cs) : RV C g (.id a) (.agg cs.toArray)
  | agg {ps cs} (h : RC C g (.agg ps) cs) : RV C g (.agg ps) (.agg cs.toArray)
  | tup {vs ws} (h : RVL C g vs ws) : RV C g (.tup vs) (.tuple ws.toArray)
  | one {a v} (h : RC C g a [v]) (h1 : ∀ x, a ≠ .id x) (h2 : ∀ x, a ≠ .agg x) : RV C g a v
inductive RVL (C : Mem) (g : Ghs) : List AV → List Value → Prop where
  | nil : RVL C g [] []
  | cons {p ps v vs} (h : RV C g p v) (t : RVL C g ps vs) : RVL C g (p :: ps) (v :: vs)
end

/-- the abstract value of a value of a type, and its fields' -/
def enc2 : (t : Ty) → t.den → AV × List AV
  | .int k, x => (.int k x, [])
  | .u8, x => (.u8 x, [])
  | .bool, x => (.bool x, [])
  | .str, x => (.str x, [])
  | .id, x => (.id x, [])
  | .unit, _ => (.agg [], [])
  | .pair s t, x => (.agg ((enc2 s x.1).1 :: (enc2 t x.2).2), (enc2 s x.1).1 :: (enc2 t x.2).2)
  | .sl e, xs => (.sl e xs none, [])
def enc (t : Ty) (x : t.den) : AV := (enc2 t x).1

/-- a struct's fields end in unit -/
def Ty.chain : Ty → Bool
  | .unit => true
  | .pair _ t => t.chain
  | _ => false
def Ty.ok : Ty → Bool
  | .pair s t => s.ok && t.ok && t.chain
  | .sl e => e.ok
  | _ => true

def IntKind.same : IntKind → IntKind → Bool
  | .i8, .i8 | .i16, .i16 | .i32, .i32 | .i64, .i64 | .u8, .u8 | .u16, .u16 | .u32, .u32 | .u64, .u64 => true
  | _, _ => false
theorem IntKind.same_eq {a b : IntKind} (h : IntKind.same a b = true) : a = b := by
  cases a <;> cases b <;> first | rfl | cases h

def dec2 : (t : Ty) → (AV → Option t.den) × (List AV → Option t.den)
  | .int k => (fun | .int k' n => cond (IntKind.same k' k) (some n) none | _ => none, fun _ => none)
  | .u8 => (fun | .u8 b => some b | _ => none, fun _ => none)
  | .bool => (fun | .bool b => some b | _ => none, fun _ => none)
  | .str => (fun | .str b => some b | _ => none, fun _ => none)
  | .id => (fun | .id b => some b | _ => none, fun _ => none)
  | .unit => (fun | .agg [] => some () | _ => none, fun | [] => some () | _ => none)
  | .pair s t =>
    (fun | .agg (p :: ps) => (match (dec2 s).1 p, (dec2 t).2 ps with | some a, some b => some (a, b) | _, _ => none) | _ => none,
     fun | p :: ps => (match (dec2 s).1 p, (dec2 t).2 ps with | some a, some b => some (a, b) | _, _ => none) | _ => none)
  | .sl e => (fun | .nilsl => some [] | .sl e' xs _ => if h : e' = e then some (h ▸ xs) else none | _ => none, fun _ => none)
def dec (t : Ty) (v : AV) : Option t.den := (dec2 t).1 v

mutual
def AV.size : AV → Nat
  | .id _ => 32
  | .agg ps => AV.sizes ps
  | .tup _ | .any => 0
  | _ => 1
def AV.sizes : List AV → Nat
  | [] => 0
  | p :: ps => p.size + AV.sizes ps
end

/-- 0: one cell; 1: an array; 2: a struct -/
def AV.cls : AV → Nat
  | .id _ => 1
  | .agg _ => 2
  | .tup _ | .any => 3
  | _ => 0

mutual
/-- the part of so many cells, and of that class, at a place -/
def AV.at : AV → Nat → Nat → Nat → Option AV
  | .agg ps, off, n, c => if off == 0 && c == 2 && AV.sizes ps == n then some (.agg ps) else AV.atL ps off n c
  | v, off, n, c => if off == 0 && v.cls == c && v.size == n then some v else none
def AV.atL : List AV → Nat → Nat → Nat → Option AV
  | [], _, _, _ => none
  | p :: ps, off, n, c => if p.size ≤ off then AV.atL ps (off - p.size) n c else AV.at p off n c
end

mutual
def AV.put : AV → Nat → Nat → Nat → AV → Option AV
  | .agg ps, off, n, c, u => if off == 0 && c == 2 && AV.sizes ps == n then some u else (AV.putL ps off n c u).map .agg
  | v, off, n, c, u => if off == 0 && v.cls == c && v.size == n then some u else none
def AV.putL : List AV → Nat → Nat → Nat → AV → Option (List AV)
  | [], _, _, _, _ => none
  | p :: ps, off, n, c, u => if p.size ≤ off then (AV.putL ps (off - p.size) n c u).map (p :: ·) else (AV.put p off n c u).map (· :: ps)
end

/- a row that is appended to: what else knew it forgets that it is the row's end -/
mutual
def AV.dem (b : Nat) : AV → AV
  | .sl t xs (some b') => if b' == b then .sl t xs none else .sl t xs (some b')
  | .raw t n b' => if b' == b then .any else .raw t n b'
  | .agg ps => .agg (AV.demL b ps)
  | .tup vs => .tup (AV.demL b vs)
  | .cptr v => .cptr (AV.dem b v)
  | .fn f x y => .fn f (AV.demL b x) (AV.demL b y)
  | .iface t v => .iface t (AV.dem b v)
  | v => v
def AV.demL (b : Nat) : List AV → List AV
  | [] => []
  | v :: vs => AV.dem b v :: AV.demL b vs
end

/- lemmas -/
theorem RC_enc {C : Mem} {g : Ghs} : ∀ (t : Ty), t.ok = true → (∀ (x : t.den) (cs : List Value), TC C t x cs → RC C g (enc2 t x).1 cs) ∧
    (t.chain = true → ∀ (x : t.den) (cs : List Value), TC C t x cs → RCL C g (enc2 t x).2 cs) := by
  intro t
  induction t with
  | int k => exact fun _ => ⟨fun x cs hx => by simp only [TC] at hx; subst hx; exact RC.int k x, fun h => by simp [Ty.chain] at h⟩
  | u8 => exact fun _ => ⟨fun x cs hx => by simp only [TC] at hx; subst hx; exact RC.u8 x, fun h => by simp [Ty.chain] at h⟩
  | bool => exact fun _ => ⟨fun x cs hx => by simp only [TC] at hx; subst hx; exact RC.bool x, fun h => by simp [Ty.chain] at h⟩
  | str => exact fun _ => ⟨fun x cs hx => by simp only [TC] at hx; obtain ⟨rfl, hs⟩ := hx; exact RC.str x hs, fun h => by simp [Ty.chain] at h⟩
  | id => exact fun _ => ⟨fun x cs hx => by simp only [TC] at hx; subst hx; exact RC.id x, fun h => by simp [Ty.chain] at h⟩
  | unit => exact fun _ => ⟨fun x cs hx => by simp only [TC] at hx; subst hx; exact RC.agg RCL.nil, fun _ x cs hx => by simp only [TC] at hx; subst hx; exact RCL.nil⟩
  | sl e _ => exact fun _ => ⟨fun x cs hx => by obtain ⟨base, cap, rfl, hl, hr⟩ := hx; exact RC.sl hl hr, fun h => by simp [Ty.chain] at h⟩
  | pair s t ihs iht =>
    intro hok
    simp only [Ty.ok, Bool.and_eq_true] at hok
    have key : ∀ (x : (Ty.pair s t).den) (cs : List Value), TC C (.pair s t) x cs → RCL C g (enc2 (.pair s t) x).2 cs := by
      intro x cs hx
      obtain ⟨c1, c2, rfl, h1, h2⟩ := hx
      exact RCL.cons ((ihs hok.1.1).1 _ _ h1) ((iht hok.1.2).2 hok.2 _ _ h2)
    exact ⟨fun x cs hx => RC.agg (key x cs hx), fun _ => key⟩

theorem RC_enc' {C : Mem} {g : Ghs} {t : Ty} (hok : t.ok = true) {x : t.den} {cs : List Value} (h : TC C t x cs) : RC C g (enc t x) cs :=
  (RC_enc t hok).1 x cs h

theorem TC_dec {C : Mem} {g : Ghs} : ∀ (t : Ty), (∀ (v : AV) (x : t.den) (cs : List Value), RC C g v cs → (dec2 t).1 v = some x → TC C t x cs) ∧
    (∀ (vs : List AV) (x : t.den) (cs : List Value), RCL C g vs cs → (dec2 t).2 vs = some x → TC C t x cs) := by
  intro t
  induction t with
  | int k =>
    refine ⟨fun v x cs h e => ?_, fun vs x cs h e => by simp [dec2] at e⟩
    cases h <;> simp only [dec2] at e <;> try (simp at e; done)
    rename_i k' n
    cases hk : IntKind.same k' k <;> rw [hk] at e <;> simp at e
    subst e
    have := IntKind.same_eq hk
    subst this
    simp only [TC]
  | u8 =>
    refine ⟨fun v x cs h e => ?_, fun vs x cs h e => by simp [dec2] at e⟩
    cases h <;> simp [dec2] at e
    subst e; simp only [TC]
  | bool =>
    refine ⟨fun v x cs h e => ?_, fun vs x cs h e => by simp [dec2] at e⟩
    cases h <;> simp [dec2] at e
    subst e; simp only [TC]
  | str =>
    refine ⟨fun v x cs h e => ?_, fun vs x cs h e => by simp [dec2] at e⟩
    cases h <;> simp [dec2] at e
    subst e; exact ⟨rfl, by assumption⟩
  | id =>
    refine ⟨fun v x cs h e => ?_, fun vs x cs h e => by simp [dec2] at e⟩
    cases h <;> simp [dec2] at e
    subst e; simp only [TC]
  | unit =>
    refine ⟨fun v x cs h e => ?_, fun vs x cs h e => ?_⟩
    · cases h <;> simp [dec2] at e
      rename_i ps h
      cases h with
      | nil => simp only [TC]
      | cons _ _ => simp at e
    · cases h with
      | nil => simp only [TC]
      | cons _ _ => simp [dec2] at e
  | pair s t ihs iht =>
    have key : ∀ (vs : List AV) (x : (Ty.pair s t).den) (cs : List Value), RCL C g vs cs → (dec2 (.pair s t)).2 vs = some x → TC C (.pair s t) x cs := by
      intro vs x cs h e
      cases h with
      | nil => simp [dec2] at e
      | cons h1 h2 =>
        simp only [dec2] at e
        split at e
        · rename_i a b ha hb
          simp at e
          subst e
          exact ⟨_, _, rfl, ihs.1 _ _ _ h1 ha, iht.2 _ _ _ h2 hb⟩
        · simp at e
    refine ⟨fun v x cs h e => ?_, key⟩
    cases h <;> simp only [dec2] at e <;> try (simp at e; done)
    rename_i ps h
    cases h with
    | nil => simp at e
    | cons h1 h2 => exact key _ x _ (RCL.cons h1 h2) (by simpa only [dec2] using e)
  | sl t _ =>
    refine ⟨fun v x cs h e => ?_, fun vs x cs h e => by simp [dec2] at e⟩
    cases h <;> simp only [dec2] at e <;> try (simp at e; done)
    · rename_i t' xs base cap hl h
      split at e
      · rename_i ht; subst ht; simp at e; subst e; exact ⟨base, cap, rfl, hl, h⟩
      · simp at e
    · rename_i t' xs b base cap hl h o hg
      split at e
      · rename_i ht; subst ht; simp at e; subst e; exact ⟨base, cap, rfl, hl, h⟩
      · simp at e
    · simp at e; subst e; exact ⟨none, 0, rfl, ⟨Nat.le_refl _, Nat.zero_le _⟩, fun i x hx => by simp at hx⟩

theorem TC_dec' {C : Mem} {g : Ghs} {t : Ty} {v : AV} {x : t.den} {cs : List Value} (h : RC C g v cs) (e : dec t v = some x) : TC C t x cs := (TC_dec t).1 v x cs h e

theorem TC_size {C : Mem} : ∀ (t : Ty) (x : t.den) (cs : List Value), TC C t x cs → cs.length = t.size := by
  intro t
  induction t with
  | pair s t ihs iht =>
    intro x cs h
    obtain ⟨c1, c2, rfl, h1, h2⟩ := h
    simp [Ty.size, ihs _ _ h1, iht _ _ h2]
  | sl e _ => intro x cs h; obtain ⟨b, c, rfl, _⟩ := h; rfl
  | id => intro x cs h; simp only [TC] at h; subst h; simp [Ty.size, Id.h]
  | str => intro x cs h; simp only [TC] at h; obtain ⟨rfl, _⟩ := h; rfl
  | _ => intro x cs h; simp only [TC] at h; subst h; rfl

theorem TC_one {C : Mem} : ∀ (t : Ty) (x : t.den) (cs : List Value), TC C t x cs → ∀ v ∈ cs, v.oneCell' = true := by
  intro t
  induction t with
  | pair s t ihs iht =>
    intro x cs h v hv
    obtain ⟨c1, c2, rfl, h1, h2⟩ := h
    rcases List.mem_append.1 hv with h | h
    · exact ihs _ _ h1 v h
    · exact iht _ _ h2 v h
  | sl e _ => intro x cs h v hv; obtain ⟨b, c, rfl, _⟩ := h; simp at hv; subst hv; rfl
  | id =>
    intro x cs h v hv
    simp only [TC] at h; subst h
    obtain ⟨b, _, rfl⟩ := List.mem_map.1 hv
    rfl
  | str => intro x cs h v hv; simp only [TC] at h; obtain ⟨rfl, _⟩ := h; simp at hv; subst hv; rfl
  | _ => intro x cs h v hv; simp only [TC] at h; subst h; simp at hv; try (subst hv; rfl)

end Am
end Go.Proofs.Ytkjpoongkdapoaa
