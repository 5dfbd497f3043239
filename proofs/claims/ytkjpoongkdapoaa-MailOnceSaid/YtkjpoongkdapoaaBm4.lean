/-
  A symbolic machine over the model, part 4: what the machine's state says of the model's; pure operations.
-/
import Derived.Test.YtkjpoongkdapoaaBm3
namespace Go.Proofs.Ytkjpoongkdapoaa
namespace Am
open Go Go.RowKit
set_option linter.unusedVariables false
set_option linter.unusedSimpArgs false

/-- what a run must leave alone: blocks; which loop's yield it may call; the blocks that were handed to it -/
structure Ctx where
  S : Nat → Prop
  Y : Nat → Prop
  G : Ghs
  ds : List Deferred

/-- what is protected stays -/
structure Keeps (S : Nat → Prop) (w w' : World) : Prop where
  os : w'.os = w.os
  tape : w'.tape = w.tape
  output : w'.output = w.output
  size : w.heap.size ≤ w'.heap.size
  block : ∀ k, S k → w'.heap[k]? = w.heap[k]?
theorem Keeps.refl (S : Nat → Prop) (w : World) : Keeps S w w := ⟨rfl, rfl, rfl, Nat.le_refl _, fun _ _ => rfl⟩
theorem Keeps.trans {S : Nat → Prop} {a b c : World} (h : Keeps S a b) (k : Keeps S b c) : Keeps S a c :=
  ⟨k.os.trans h.os, k.tape.trans h.tape, k.output.trans h.output, Nat.le_trans h.size k.size, fun i hi => (k.block i hi).trans (h.block i hi)⟩
theorem Keeps.mono {S S' : Nat → Prop} {w w' : World} (h : Keeps S w w') (hS : ∀ k, S' k → S k) : Keeps S' w w' := ⟨h.os, h.tape, h.output, h.size, fun k hk => h.block k (hS k hk)⟩
theorem Keeps.below {S : Nat → Prop} {B : Nat} {w w' : World} (h : Below B w w') (hS : ∀ k, S k → k < B) : Keeps S w w' := ⟨h.os, h.tape, h.output, h.size, fun k hk => h.block k (hS k hk)⟩
theorem Keeps.grown {S : Nat → Prop} {w w' : World} {row : Option Nat} (hg : w.grownBy w' row) (hS : ∀ k, S k → k < w.heap.size) (hr : ∀ k, row = some k → ¬ S k) : Keeps S w w' :=
  ⟨hg.os, hg.tape, hg.output, hg.size, fun k hk => hg.block k (hS k hk) (fun e => hr k e.symm hk)⟩
theorem Keeps.toBelow {B : Nat} {w w' : World} (h : Keeps (fun k => k < B) w w') : Below B w w' := ⟨h.os, h.tape, h.output, h.size, h.block⟩

/-- the cells of a row's elements -/
def CellsL (C : Mem) (t : Ty) : List t.den → List Value → Prop
  | [], cs => cs = []
  | x :: xs, cs => ∃ c1 c2, cs = c1 ++ c2 ∧ TC C t x c1 ∧ CellsL C t xs c2
theorem CellsL.mono {C C' : Mem} (hC : C.le C') {t : Ty} : ∀ {xs : List t.den} {cs : List Value}, CellsL C t xs cs → CellsL C' t xs cs
  | [], _, h => h
  | _ :: _, _, ⟨c1, c2, e, h1, h2⟩ => ⟨c1, c2, e, TC.mono hC _ _ _ h1, CellsL.mono hC h2⟩
theorem CellsL.length {C : Mem} {t : Ty} : ∀ {xs : List t.den} {cs : List Value}, CellsL C t xs cs → cs.length = xs.length * t.size
  | [], _, h => by simp only [CellsL] at h; subst h; simp
  | x :: xs, _, ⟨c1, c2, e, h1, h2⟩ => by
    subst e
    rw [List.length_append, TC_size t x c1 h1, CellsL.length h2, List.length_cons, Nat.add_mul]
    omega
/-- the entries of a map -/
def EntR (C : Mem) (t : Ty) : List (Int × t.den) → List MapEntry → Prop
  | [], es => es = []
  | p :: kv, es => ∃ e r, es = e :: r ∧ e.key = .int .i64 p.1 ∧ RV C [] (enc t p.2) e.val ∧ EntR C t kv r
theorem EntR.mono {C C' : Mem} (hC : C.le C') {t : Ty} : ∀ {kv : List (Int × t.den)} {es : List MapEntry}, EntR C t kv es → EntR C' t kv es
  | [], _, h => h
  | _ :: _, _, ⟨e, r, h0, h1, h2, h3⟩ => ⟨e, r, h0, h1, h2.mono hC (Ghs.le_refl _), EntR.mono hC h3⟩

/-- no two entries were laid in at once, and none later than now -/
def BornOk (es : Array MapEntry) (clock : Nat) : Prop := (es.toList.map (·.born)).Nodup ∧ ∀ x ∈ es.toList, x.born < clock
/-- what a block holds -/
inductive BlkRel (X : Ctx) (C : Mem) (g : Ghs) (w : World) : Blk → Gh → Prop where
  | box {v k T cs} (hk : ¬ X.S k) (hb : w.heap[k]? = some (.cells cs.toArray T (0, 0))) (hv : RC C g v cs) (hC : ∀ o s, C ⟨k, o, s⟩ = none) : BlkRel X C g w (.box v) (.box k T)
  | fro {v k T cs} (ha : At C ⟨k, 0, none⟩ cs) (hv : RC C g v cs) : BlkRel X C g w (.fro v) (.box k T)
  | own {e sz n xs k cap} (hk : ¬ X.S k) (ho : w.ownsRow 0 e sz (.slice (some ⟨k, 0, none⟩) n cap) n xs) (hx : ∀ (j : Nat) (u : Value), xs[j]? = some u → C ⟨k, j, none⟩ = some u)
      (hC : ∀ o s, n * sz ≤ o → C ⟨k, o, s⟩ = none) : BlkRel X C g w (.row e sz) (.row (.slice (some ⟨k, 0, none⟩) n cap) true)
  | clip {e sz base n} : BlkRel X C g w (.row e sz) (.row (.slice base n n) false)
  | loop {l} (hl : X.Y l) : BlkRel X C g w .loop (.loop l)
  | arr {t : Ty} {e : TypeId} {xs : List t.den} {k cap : Nat} {cs sp : List Value} (hk : ¬ X.S k) (hb : w.heap[k]? = some (.cells (cs ++ sp).toArray e (0, 0))) (hc : cs.length + sp.length = cap * t.size) (hx : CellsL C t xs cs)
      (hl : xs.length ≤ cap ∧ cap ≤ maxLen ∧ xs.length ≤ lim) (hC : ∀ o s, C ⟨k, o, s⟩ = none) : BlkRel X C g w (.arr t e xs) (.arr (some k) e xs.length)
  | arr0 {t : Ty} {e : TypeId} : BlkRel X C g w (.arr t e []) (.arr none e 0)
  | mp {t : Ty} {kv : List (Int × t.den)} {k : Nat} {es : Array MapEntry} {clock : Nat} (hk : ¬ X.S k) (hb : w.heap[k]? = some (.map es clock)) (he : EntR C t kv es.toList) (hn : BornOk es clock) : BlkRel X C g w (.mp t kv) (.mp k)
  | dead {h} : BlkRel X C g w .dead h

/-- the block that may be written through it -/
def liveOf : Blk → Gh → Option Nat
  | .box _, .box k _ => some k
  | .row _ _, .row v true => v.ownBlock
  | .arr _ _ _, .arr (some k) _ _ => some k
  | .mp _ _, .mp k => some k
  | _, _ => none

structure Rel (X : Ctx) (w0 : World) (C0 C : Mem) (g : Ghs) (mem : List Blk) (w : World) : Prop where
  below : Keeps X.S w0 w
  low : ∀ k, X.S k → k < w0.heap.size
  sub : ∀ a v, C a = some v → w.cell? a = some v
  base : C0.le C
  old : ∀ a : Addr, X.S a.block → C a = C0 a
  len : mem.length = g.length
  keep : ∀ (b : Nat) (x : Gh), X.G[b]? = some x → x.fixed = true → g[b]? = some x
  blk : ∀ (b : Nat) (m : Blk) (h : Gh), mem[b]? = some m → g[b]? = some h → BlkRel X C g w m h
  sep : ∀ (b b' : Nat) (m m' : Blk) (h h' : Gh) (k : Nat), mem[b]? = some m → g[b]? = some h → mem[b']? = some m' → g[b']? = some h' → liveOf m h = some k → liveOf m' h' = some k → b = b'

theorem Rel.lt {X : Ctx} {w0 : World} {C0 C : Mem} {g : Ghs} {mem : List Blk} {w : World} (h : Rel X w0 C0 C g mem w) {k : Nat} (hk : X.S k) : k < w.heap.size := Nat.lt_of_lt_of_le (h.low k hk) h.below.size

theorem ownsRow_ext {w w' : World} {B : Nat} {e : TypeId} {sz : Nat} {v : Value} {n : Nat} {xs : List Value} (h : w.ownsRow B e sz v n xs) (hw : Below w.heap.size w w') : w'.ownsRow B e sz v n xs := by
  obtain ⟨h1, h2⟩ := h
  refine ⟨h1, ?_⟩
  rcases h2 with h2 | ⟨k, cap, cur, hv, hB, hh, r⟩
  · exact .inl h2
  · have hk : k < w.heap.size := by
      rcases Nat.lt_or_ge k w.heap.size with h | h
      · exact h
      · rw [Array.getElem?_eq_none h] at hh; cases hh
    exact .inr ⟨k, cap, cur, hv, hB, by rw [hw.block k hk]; exact hh, r⟩

theorem blk_lt {w : World} {k : Nat} {o : Obj} (h : w.heap[k]? = some o) : k < w.heap.size := by
  rcases Nat.lt_or_ge k w.heap.size with h' | h'
  · exact h'
  · rw [Array.getElem?_eq_none h'] at h; cases h

theorem BlkRel.ext {X : Ctx} {C : Mem} {g : Ghs} {w w' : World} {m : Blk} {h : Gh} (hr : BlkRel X C g w m h) (hw : Below w.heap.size w w') : BlkRel X C g w' m h := by
  cases hr with
  | box hk hb hv hC => exact .box hk (by rw [hw.block _ (blk_lt hb)]; exact hb) hv hC
  | fro ha hv => exact .fro ha hv
  | own hk ho hx hC => exact .own hk (ownsRow_ext ho hw) hx hC
  | clip => exact .clip
  | loop hl => exact .loop hl
  | arr hk hb hc hx hl hC => exact .arr hk (by rw [hw.block _ (blk_lt hb)]; exact hb) hc hx hl hC
  | arr0 => exact .arr0
  | mp hk hb he hn => exact .mp hk (by rw [hw.block _ (blk_lt hb)]; exact hb) he hn
  | dead => exact .dead

theorem Rel.ext {X : Ctx} {w0 : World} {C0 C : Mem} {g : Ghs} {mem : List Blk} {w w' : World} (h : Rel X w0 C0 C g mem w) (hw : Below w.heap.size w w') : Rel X w0 C0 C g mem w' :=
  ⟨h.below.trans (.below hw fun k hk => h.lt hk), h.low, fun a v e => by
      have h1 := h.sub a v e
      rw [hw.cell (World.block_lt_of_cell? w a h1)]; exact h1,
    h.base, h.old, h.len, h.keep, fun b m x hm hx => (h.blk b m x hm hx).ext hw, h.sep⟩

/- operands -/
theorem u8v_iu8 {n : Int} (h0 : 0 ≤ n) (h1 : n < 256) : u8v (iu8 n) = .int .u8 n := by
  unfold u8v iu8
  congr 1
  have : (UInt8.ofInt n).toNat = n.toNat := by
    rw [UInt8.ofInt, UInt8.toNat_ofNat']
    simp
    omega
  rw [this]; omega

theorem constAV_RV {C : Mem} {g : Ghs} {v : Value} {a : AV} (h : constAV v = some a) : RV C g a v := by
  unfold constAV at h
  split at h
  · rename_i n
    cases hc : (decide (0 ≤ n) && decide (n < 256)) with
    | false => rw [hc] at h; simp at h
    | true =>
      rw [hc] at h
      simp at h hc
      subst h
      have := RC.u8 (C := C) (g := g) (iu8 n)
      rw [u8v_iu8 hc.1 hc.2] at this
      exact .one this (by simp) (by simp)
  · simp at h; subst h; exact .one (.int _ _) (by simp) (by simp)
  · simp at h; subst h; exact .one (.bool _) (by simp) (by simp)
  · rename_i s
    cases hc : Nat.ble s.data.toList.length 65536 with
    | false => rw [hc] at h; simp at h
    | true =>
      rw [hc] at h
      simp only [cond_true, Option.some.injEq] at h
      subst h
      have := RC.str (C := C) (g := g) s.data.toList (by have := Nat.le_of_ble_eq_true hc; simp only [lim]; omega)
      exact .one (by simpa using this) (by simp) (by simp)
  · simp at h; subst h; exact .one .nilsl (by simp) (by simp)
  · simp at h; subst h; exact .one .nilfn (by simp) (by simp)
  · simp at h; subst h; exact .any _
  · simp at h

theorem evalOp_RV {C : Mem} {g : Ghs} {st : St} {a : Act} (ht : RVL C g st.tmps a.tmps.toList) {x : Operand} {v : AV} (h : evalOp st x = some v) : RV C g v (a.eval x) := by
  cases x with
  | tmp t =>
    simp only [evalOp, mget_eq] at h
    obtain ⟨y, hy, hr⟩ := RVL.get ht t v h
    have : a.tmps.getD t undef = y := by
      simp only [Array.getElem?_toList] at hy
      simp [hy]
    simp only [Act.eval, this]
    exact hr
  | const c => exact constAV_RV h
  | global _ => simp [evalOp] at h
  | func f =>
    simp only [evalOp, Option.some.injEq] at h
    subst h
    exact .one (.fn (fs := []) (ks := []) .nil .nil) (by simp) (by simp)

theorem evalAll_RV {C : Mem} {g : Ghs} {st : St} {a : Act} (ht : RVL C g st.tmps a.tmps.toList) : ∀ {xs : List Operand} {vs : List AV}, evalAll st xs = some vs → RVL C g vs (xs.map a.eval)
  | [], vs, h => by simp [evalAll] at h; subst h; exact .nil
  | x :: xs, vs, h => by
    simp only [evalAll] at h
    split at h
    · rename_i v vs' hv hvs
      simp at h; subst h
      exact .cons (evalOp_RV ht hv) (evalAll_RV ht hvs)
    · simp at h

/- what a value of a form is -/
section
variable {C : Mem} {g : Ghs} {x : Value}
theorem RV_int1 {k : IntKind} {n : Int} (h : RV C g (.int k n) x) : x = .int k n := by
  cases h with | one h _ _ => cases h; rfl
theorem RV_u8 {b : UInt8} (h : RV C g (.u8 b) x) : x = u8v b := by
  cases h with | one h _ _ => cases h; rfl
theorem RV_bool {b : Bool} (h : RV C g (.bool b) x) : x = .bool b := by
  cases h with | one h _ _ => cases h; rfl
theorem RV_str {l : List UInt8} (h : RV C g (.str l) x) : x = .string ⟨l.toArray⟩ := by
  cases h with | one h _ _ => cases h; rfl
theorem RV_strl {l : List UInt8} (h : RV C g (.str l) x) : l.length ≤ lim := by
  cases h with | one h _ _ => cases h; assumption
theorem RV_yld {b : Nat} (h : RV C g (.yld b) x) : ∃ l, x = .func (.yield l) #[] #[] ∧ g[b]? = some (.loop l) := by
  cases h with | one h _ _ => cases h with | yld h => exact ⟨_, rfl, h⟩
theorem RV_id {a : Id} (h : RV C g (.id a) x) : x = .agg (a.l.map u8v).toArray := by
  cases h with
  | id h => cases h; rfl
  | one h h1 _ => exact absurd rfl (h1 a)
theorem RV_agg {ps : List AV} (h : RV C g (.agg ps) x) : ∃ cs, x = .agg cs.toArray ∧ RC C g (.agg ps) cs := by
  cases h with
  | agg h => exact ⟨_, rfl, h⟩
  | one h _ h1 => exact absurd rfl (h1 ps)
theorem RV_tup {vs : List AV} (h : RV C g (.tup vs) x) : ∃ ws, x = .tuple ws.toArray ∧ RVL C g vs ws := by
  cases h with
  | tup h => exact ⟨_, rfl, h⟩
  | one h _ _ => cases h
theorem RV_sl {t : Ty} {xs : List t.den} {o : Option Nat} (h : RV C g (.sl t xs o) x) : ∃ base cap, x = .slice base xs.length cap ∧ Row C t base xs ∧ RC C g (.sl t xs o) [.slice base xs.length cap] ∧ xs.length ≤ cap ∧ xs.length ≤ lim := by
  cases h with
  | one h _ _ =>
    cases h with
    | sl hl h => exact ⟨_, _, rfl, h, .sl hl h, hl⟩
    | own hl h hg => exact ⟨_, _, rfl, h, .own hl h hg, hl⟩
theorem RV_nilsl (h : RV C g .nilsl x) : x = .slice none 0 0 := by
  cases h with | one h _ _ => cases h; rfl
theorem RV_nilfn (h : RV C g .nilfn x) : x = .nilFunc := by
  cases h with | one h _ _ => cases h; rfl
theorem RV_raw {t : Ty} {n b : Nat} (h : RV C g (.raw t n b) x) : ∃ base cap o, x = .slice base n cap ∧ n ≤ cap ∧ g[b]? = some (.row (.slice base 0 cap) o) := by
  cases h with
  | raw hn hg => exact ⟨_, _, _, rfl, hn, hg⟩
  | one h _ _ => cases h
theorem RV_loc {b off : Nat} (h : RV C g (.loc b off) x) : ∃ k, Ghs.box g b = some k ∧ x = .pointer (some ⟨k, off, none⟩) := by
  cases h with | one h _ _ => cases h with | loc h => exact ⟨_, h, rfl⟩
theorem RV_loci {b off i : Nat} (h : RV C g (.loci b off i) x) : ∃ k, Ghs.box g b = some k ∧ x = .pointer (some ⟨k, off + i, none⟩) ∧ i < 32 := by
  cases h with | one h _ _ => cases h with | loci hi h => exact ⟨_, h, rfl, hi⟩
theorem RV_idsl {b off : Nat} (h : RV C g (.idsl b off) x) : ∃ k, Ghs.box g b = some k ∧ x = .slice (some ⟨k, off, none⟩) 32 32 := by
  cases h with | one h _ _ => cases h with | idsl h => exact ⟨_, h, rfl⟩
theorem RV_cptr {v : AV} (h : RV C g (.cptr v) x) : ∃ ad cs, x = .pointer (some ad) ∧ RC C g v cs ∧ At C ad cs := by
  cases h with | one h _ _ => cases h with | cptr h ha => exact ⟨_, _, rfl, h, ha⟩
theorem RV_lst {fs : List FuncId} (h : RV C g (.lst fs) x) : ∃ ad, x = .slice (some ad) fs.length fs.length ∧ At C ad (fs.map fnv) := by
  cases h with
  | one h h1 h2 => cases h with | lst ha => exact ⟨_, rfl, ha⟩
theorem RV_iface {t : TypeId} {v : AV} (h : RV C g (.iface t v) x) : ∃ y, x = .iface t y ∧ RV C g v y := by
  cases h with
  | one h h1 h2 => cases h with | iface hv => exact ⟨_, rfl, hv⟩
theorem RV_asl {t : Ty} {b : Nat} {lo hi : Int} (h : RV C g (.asl t b lo hi) x) : ∃ blk e n cap base, x = .slice base (hi - lo).toNat (cap - lo.toNat) ∧ g[b]? = some (.arr blk e n) ∧ (0 ≤ lo ∧ lo ≤ hi ∧ hi ≤ n ∧ n ≤ cap) ∧ (lo < n → ∃ k, blk = some k ∧ base = some ⟨k, lo.toNat * t.size, none⟩) := by
  cases h with
  | one h h1 h2 => cases h with | asl hg h0 hb => exact ⟨_, _, _, _, _, rfl, hg, h0, hb⟩
theorem RV_elp {t : Ty} {b : Nat} {i : Int} (h : RV C g (.elp t b i) x) : ∃ k e n, x = .pointer (some ⟨k, i.toNat * t.size, none⟩) ∧ g[b]? = some (.arr (some k) e n) ∧ 0 ≤ i ∧ i < (n : Int) := by
  cases h with
  | one h h1 h2 => cases h with | elp hg h0 => exact ⟨_, _, _, rfl, hg, h0⟩
theorem RV_mref {b : Nat} (h : RV C g (.mref b) x) : ∃ k, x = .map (some k) ∧ g[b]? = some (.mp k) := by
  cases h with
  | one h h1 h2 => cases h with | mref hg => exact ⟨_, rfl, hg⟩
theorem RV_fn {f : Fn} {u v : List AV} (h : RV C g (.fn f u v) x) : ∃ fs ks, x = .func f fs.toArray ks.toArray ∧ RVL C g u fs ∧ RVL C g v ks := by
  cases h with | one h _ _ => cases h with | fn h1 h2 => exact ⟨_, _, rfl, h1, h2⟩
end

/-- a value's cells -/
theorem RV_cells {C : Mem} {g : Ghs} {v : AV} {x : Value} (h : RV C g v x) (h1 : v ≠ .any) (h2 : ∀ vs, v ≠ .tup vs) (h3 : ∀ t n b, v ≠ .raw t n b) : RC C g v x.cells.toList := by
  cases h with
  | any => exact absurd rfl h1
  | raw => exact absurd rfl (h3 _ _ _)
  | id h => simpa [Value.cells] using h
  | agg h => simpa [Value.cells] using h
  | tup h => exact absurd rfl (h2 _)
  | one h hi ha =>
    have : x.cells = #[x] := by
      cases x <;> first | rfl | skip
      exfalso
      generalize hcs : [Value.agg _] = cs at h
      cases h <;> try (simp [u8v] at hcs; done)
      · exact hi _ rfl
      · exact ha _ rfl
    rw [this]; exact h
/-- and back -/
theorem RC_RV0 {C : Mem} {g : Ghs} {v : AV} {cs : List Value} (h : RC C g v cs) (hc : v.cls = 0) (hs : cs.length = 1) : ∃ x, cs = [x] ∧ RV C g v x := by
  match cs, hs with
  | [x], _ =>
    refine ⟨x, rfl, .one h ?_ ?_⟩
    · rintro y rfl; simp [AV.cls] at hc
    · rintro y rfl; simp [AV.cls] at hc
theorem RC_RV1 {C : Mem} {g : Ghs} {v : AV} {cs : List Value} (h : RC C g v cs) (hc : v.cls = 1 ∨ v.cls = 2) : RV C g v (.agg cs.toArray) := by
  cases h <;> simp [AV.cls] at hc
  · exact .id (.id _)
  · exact .agg (.agg ‹_›)

/- integers -/
theorem RV_int {C : Mem} {g : Ghs} {v : AV} {x : Value} {k : IntKind} {n : Int} (h : RV C g v x) (e : asInt v = some (k, n)) : x = .int k n ∧ (k = .u8 → 0 ≤ n ∧ n < 256) := by
  unfold asInt at e
  split at e
  · rename_i k' n'
    have hx := RV_int1 h
    cases hk : notU8 k' <;> rw [hk] at e <;> simp at e
    obtain ⟨rfl, rfl⟩ := e
    exact ⟨hx, fun h => by subst h; simp [notU8] at hk⟩
  · rename_i b
    have hx := RV_u8 h
    simp at e
    obtain ⟨rfl, rfl⟩ := e
    exact ⟨hx, fun _ => ⟨by simp [u8i], by have := UInt8.toNat_lt b; simp only [u8i]; omega⟩⟩
  · simp at e

theorem mkInt_RV {C : Mem} {g : Ghs} {k : IntKind} {n : Int} (h : k = .u8 → 0 ≤ n ∧ n < 256) : RV C g (mkInt k n) (.int k n) := by
  by_cases hk : k = .u8
  · subst hk
    obtain ⟨h0, h1⟩ := h rfl
    have := RC.u8 (C := C) (g := g) (iu8 n)
    rw [u8v_iu8 h0 h1] at this
    exact .one this (by simp [mkInt]) (by simp [mkInt])
  · have : mkInt k n = .int k n := by cases k <;> first | rfl | exact absurd rfl hk
    rw [this]
    exact .one (.int _ _) (by simp) (by simp)

theorem wrap_u8 (x : Int) : 0 ≤ IntKind.wrap .u8 x ∧ IntKind.wrap .u8 x < 256 := by
  simp [IntKind.wrap, IntKind.bits, IntKind.signed]; omega

end Am
end Go.Proofs.Ytkjpoongkdapoaa
