/-
  ident.Text, walked by hand: a builder that is written 64 bytes, and its string.
-/
import Derived.Test.YtalleiogpibckaaBm24
import Derived.Test.YtalleiogpibckaaProg
import Derived.Shelf.Strings.Builder1
import Derived.BigCall
import Derived.Shelf.Small.Bits
import Derived.Shelf.Small.Strs
namespace Go.Proofs.Ytalleiogpibckaa
open Go Go.RowKit Go.Proofs

set_option maxHeartbeats 1000000 in
set_option maxRecDepth 100000 in
theorem copyCheck_used (b : Nat) (w : World) (h0 : w.cell? ⟨b, 0, none⟩ = some (.pointer (some ⟨b, 0, none⟩))) :
    Calls Try.prog 38 #[.pointer (some ⟨b, 0, none⟩)] w fun e w' => e = .returned (.tuple #[]) ∧ w' = w := by
  obtain ⟨j, hj, _⟩ := Option.map_eq_some_iff.1 (show (Try.prog.info? 48).map (fun j => j.size) = some 2 by kernel_rfl)
  go_enter Try.func38, Try.ntmps38
  go_wp2
  rw [Lib.run_neq_ptr_same w _ Try.underlying46 hj]
  go_wp2
  go_end0
  exact ⟨rfl, rfl⟩

set_option maxHeartbeats 1000000 in
set_option maxRecDepth 100000 in
theorem copyCheck_fresh (b : Nat) (w : World) (h0 : w.cell? ⟨b, 0, none⟩ = some (.pointer none)) (hsh : w.shape? b = some (48, 2)) (hfz : w.frozen? ⟨b, 0, none⟩ = false) :
    Calls Try.prog 38 #[.pointer (some ⟨b, 0, none⟩)] w fun e w' => e = .returned (.tuple #[]) ∧ w' = w.setCell ⟨b, 0, none⟩ (.pointer (some ⟨b, 0, none⟩)) := by
  obtain ⟨j, hj, hjs⟩ := Option.map_eq_some_iff.1 (show (Try.prog.info? 48).map (fun j => j.size) = some 2 by kernel_rfl)
  go_enter Try.func38, Try.ntmps38
  go_wp2
  rw [Lib.run_to_unsafe w ⟨b, 0, none⟩ Try.underlying46 Try.underlying57 hj (by rw [hjs]; decide) hsh (Nat.zero_lt_succ 1)]
  simp only [Result.andThen]
  rw [Oper.upon_value]
  go_wp2
  rw [run_callFunc_extern Try.func41 (by kernel_rfl) (by kernel_rfl) (by kernel_rfl) (e := Extern.AbiNoEscape.same) (by kernel_rfl)]
  rw [Lib.run_noEscape]
  simp only [Result.andThen]
  rw [Oper.upon_value]
  go_wp2
  rw [Lib.run_from_unsafe w ⟨b, 0, none⟩ Try.underlying57 Try.underlying46 hj hsh (by kernel_rfl)]
  simp only [Result.andThen]
  rw [Oper.upon_value]
  go_wp2
  go_end0
  exact ⟨rfl, rfl⟩

theorem copyCheck (B b : Nat) (bs : List Value) (w : World) (h : Lib.IsBuilder 48 5 B b bs w) :
    Calls Try.prog 38 #[.pointer (some ⟨b, 0, none⟩)] w fun e w' => e = .returned (.tuple #[]) ∧ (Lib.BuilderAt 48 5 B b (.pointer (some ⟨b, 0, none⟩)) bs w' ∧ Below B w w') := by
  rcases h with h | h
  · refine (copyCheck_fresh b w h.cell0 h.shape h.frozen0).mono ?_
    rintro e w' ⟨rfl, rfl⟩
    exact ⟨rfl, h.used _, (Below.refl B w).setCell (p := ⟨b, 0, none⟩) h.1 _⟩
  · refine (copyCheck_used b w h.cell0).mono ?_
    rintro e w' ⟨rfl, rfl⟩
    exact ⟨rfl, h, Below.refl B _⟩

def sh_lays169_ren : Go.Shelf.Ren := ⟨fun | 169 => 33 | n => n, fun | 70 => 46 | 9 => 9 | 0 => 0 | 72 => 48 | 37 => 42 | 127 => 55 | 3 => 3 | 5 => 5 | n => n, fun | n => n⟩
theorem sh_lays169 : Go.Proofs.Lays.n169 Try.prog sh_lays169_ren := {
  mixed := by kernel_rfl
  f169 := Try.func33.trans (congrArg some (by kernel_rfl))
  t0 := Try.underlying0
  a0 := Try.isAgg0
  z0 := Try.sizeOf0
  v0 := Try.zeroValue0
  t3 := Try.underlying3
  a3 := Try.isAgg3
  z3 := Try.sizeOf3
  v3 := Try.zeroValue3
  t9 := Try.underlying9
  a9 := Try.isAgg9
  z9 := Try.sizeOf9
  v9 := Try.zeroValue9
  t37 := Try.underlying42
  a37 := Try.isAgg42
  z37 := Try.sizeOf42
  v37 := Try.zeroValue42
  t70 := Try.underlying46
  a70 := Try.isAgg46
  z70 := Try.sizeOf46
  v70 := Try.zeroValue46
  t72 := Try.underlying48
  a72 := Try.isAgg48
  z72 := Try.sizeOf48
  v72 := Try.zeroValue48
  t127 := Try.underlying55
  a127 := Try.isAgg55
  z127 := Try.sizeOf55
  v127 := Try.zeroValue55 }
theorem sh_Builder_Extra_169 : Go.Proofs.Builder.Extra Try.prog sh_lays169_ren := {
  sizeBuilder := by kernel_rfl
  liesBuilder := by kernel_rfl
  t5 := Try.underlying5
  a5 := Try.isAgg5
  z5 := Try.sizeOf5
  v5 := Try.zeroValue5
  infoByte := by kernel_rfl
  cellsByte := by kernel_rfl
  sizeByte := by kernel_rfl
  neB5 := by decide }
theorem sh_Builder_String_any (B b : Nat) (l : List UInt8) (w : World) (h : Lib.IsBuilder 48 5 B b (Lib.byteCells l) w) (hBw : B ≤ w.heap.size) :
    Calls Try.prog 33 #[.pointer (some ⟨b, 0, none⟩)] w fun e w' => e = .returned (.string ⟨l.toArray⟩) ∧ Below B w w' := Any.Builder_String_any sh_lays169 sh_Builder_Extra_169 B b l w h hBw
def sh_lays126_ren : Go.Shelf.Ren := ⟨fun | 126 => 36 | n => n, fun | 5 => 5 | 3 => 3 | 9 => 9 | n => n, fun | n => n⟩
theorem sh_lays126 : Go.Proofs.Lays.n126 Try.prog sh_lays126_ren := {
  mixed := by kernel_rfl
  f126 := Try.func36.trans (congrArg some (by kernel_rfl))
  t3 := Try.underlying3
  a3 := Try.isAgg3
  z3 := Try.sizeOf3
  v3 := Try.zeroValue3
  t5 := Try.underlying5
  a5 := Try.isAgg5
  z5 := Try.sizeOf5
  v5 := Try.zeroValue5
  t9 := Try.underlying9
  a9 := Try.isAgg9
  z9 := Try.sizeOf9
  v9 := Try.zeroValue9 }
theorem sh_bits_Len8 (x : Int) (w : World) (h0 : 0 ≤ x) (h1 : x ≤ 255) :
    Calls Try.prog 36 #[.int .u8 x] w fun e w' => e = .returned (.int .i64 (Lib.bitLen x.toNat)) ∧ w' = w := Any.bits_Len8 sh_lays126 x w h0 h1
def sh_lays131_ren : Go.Shelf.Ren := ⟨fun | 131 => 29 | 126 => 36 | n => n, fun | 5 => 5 | 3 => 3 | 9 => 9 | n => n, fun | n => n⟩
theorem sh_lays131 : Go.Proofs.Lays.n131 Try.prog sh_lays131_ren := {
  mixed := by kernel_rfl
  f126 := Try.func36.trans (congrArg some (by kernel_rfl))
  f131 := Try.func29.trans (congrArg some (by kernel_rfl))
  t3 := Try.underlying3
  a3 := Try.isAgg3
  z3 := Try.sizeOf3
  v3 := Try.zeroValue3
  t5 := Try.underlying5
  a5 := Try.isAgg5
  z5 := Try.sizeOf5
  v5 := Try.zeroValue5
  t9 := Try.underlying9
  a9 := Try.isAgg9
  z9 := Try.sizeOf9
  v9 := Try.zeroValue9 }
theorem sh_bits_LeadingZeros8 (x : Int) (w : World) (h0 : 0 ≤ x) (h1 : x ≤ 255) :
    Calls Try.prog 29 #[.int .u8 x] w fun e w' => e = .returned (.int .i64 (8 - (Lib.bitLen x.toNat : Int))) ∧ w' = w := Any.bits_LeadingZeros8 sh_lays131 x w h0 h1
def sh_lays137_ren : Go.Shelf.Ren := ⟨fun | 137 => 30 | 217 => 37 | 266 => 40 | n => n, fun | 9 => 9 | 5 => 5 | 3 => 3 | n => n, fun | n => n⟩
theorem sh_lays137 : Go.Proofs.Lays.n137 Try.prog sh_lays137_ren := {
  mixed := by kernel_rfl
  f137 := Try.func30.trans (congrArg some (by kernel_rfl))
  f217 := Try.func37.trans (congrArg some (by kernel_rfl))
  f266 := Try.func40.trans (congrArg some (by kernel_rfl))
  t3 := Try.underlying3
  a3 := Try.isAgg3
  z3 := Try.sizeOf3
  v3 := Try.zeroValue3
  t5 := Try.underlying5
  a5 := Try.isAgg5
  z5 := Try.sizeOf5
  v5 := Try.zeroValue5
  t9 := Try.underlying9
  a9 := Try.isAgg9
  z9 := Try.sizeOf9
  v9 := Try.zeroValue9 }
theorem sh_strings_IndexByte (s : ByteArray) (c : Int) (w : World) :
    Calls Try.prog 30 #[.string s, .int .u8 c] w fun e w' => e = .returned (.int .i64 (Lib.indexByte s.data.toList c.toNat.toUInt8)) ∧ w' = w := Any.strings_IndexByte sh_lays137 s c w

set_option maxHeartbeats 2000000 in
set_option maxRecDepth 100000 in
theorem writeByte (B b : Nat) (bs : List Value) (c : Int) (w : World) (h : Lib.IsBuilder 48 5 B b bs w) (hlen : bs.length + 1 ≤ 140737488355328) (hBw : B ≤ w.heap.size) :
    Calls Try.prog 32 #[.pointer (some ⟨b, 0, none⟩), .int .u8 c] w fun e w' => e = .returned .nilIface ∧ (Lib.BuilderAt 48 5 B b (.pointer (some ⟨b, 0, none⟩)) (bs ++ [.int .u8 c]) w' ∧ Below B w w') := by
  obtain ⟨i0, hi, hz0, hz1, hz2⟩ := info_parts (sh_Builder_Extra_169).infoByte
  go_enter Try.func32, Try.ntmps32
  go_wp2_with (go_at_call 38; refine (copyCheck B b bs _ h).mono ?_)
  rintro e w1 ⟨rfl, h1, hb1⟩
  obtain ⟨hB, v, hbk, hown, hne⟩ := h1
  have c0 : w1.cell? ⟨b, 0, none⟩ = some (.pointer (some ⟨b, 0, none⟩)) := by rw [Lib.cell_of_heap hbk]; rfl
  have c1 : w1.cell? ⟨b, 1, none⟩ = some v := by rw [Lib.cell_of_heap hbk]; rfl
  go_wp2_with (at_builtin; refine wpList_append_own _ rfl _ _ 42 rfl B 5 i0 (.int .u8 0) 1 1 Try.underlying42 hi hz0 hz1 hz2 rfl (by decide) _ _ _ rfl (hown.alloc _) ⟨w1.heap.size, 0, none⟩ 1 1 [.int .u8 c] rfl rfl ?c1 ?c2 ?c3 ?c4 ?c5 ?_)
  case c1 =>
    intro j u hj
    match j, hj with
    | 0, hj => simp at hj; subst hj; simp [Addr.add]
  case c2 => intro u hu; simp at hu; subst hu; rfl
  case c3 => unfold maxLen; omega
  case c4 => omega
  case c5 => have := hb1.size; simp; omega
  intro v' w2 hown' hgrow _
  have hlt : b < w1.heap.size := by
    rcases Nat.lt_or_ge b w1.heap.size with h' | h'
    · exact h'
    · simp [Array.getElem?_eq_none h'] at hbk
  have hb2 : w2.heap[b]? = some (.cells #[.pointer (some ⟨b, 0, none⟩), v] 48 (0, 0)) := by
    rw [hgrow.block b (by simp; omega) (fun e => hne e.symm), Lib.alloc_old w1 _ b hlt]
    exact hbk
  have d0 : w2.cell? ⟨b, 0, none⟩ = some (.pointer (some ⟨b, 0, none⟩)) := by rw [Lib.cell_of_heap hb2]; rfl
  have d1 : w2.cell? ⟨b, 1, none⟩ = some v := by rw [Lib.cell_of_heap hb2]; rfl
  have f1 : w2.frozen? ⟨b, 1, none⟩ = false := Lib.frozen_of_heap hb2 1
  obtain ⟨g, cap, rfl⟩ : ∃ g cap, v' = .slice (some ⟨g, 0, none⟩) (bs.length + 1) cap := by
    rcases hown'.2 with ⟨_, h0⟩ | ⟨g, cap, cur, hv, _⟩
    · omega
    · exact ⟨g, cap, hv⟩
  go_wp2
  go_ret
  refine ⟨rfl, ?_, ?_⟩
  · exact Lib.BuilderAt.put (T := 48) (e := 5) hB hb2 (bs' := bs ++ [.int .u8 c]) (by simpa using hown') (by decide)
  · exact ((hb1.alloc (by have := hb1.size; omega) _).grown hgrow (by have := hb1.size; simp; omega) (fun k hk => (hown.lt k hk).1)).setCell (p := ⟨b, 1, none⟩) hB _

def hexd (n : Nat) : UInt8 := ([48, 49, 50, 51, 52, 53, 54, 55, 56, 57, 97, 98, 99, 100, 101, 102] : List UInt8).getD n 0
def hexB (c : UInt8) : List UInt8 := [hexd (c.toNat / 16), hexd (c.toNat % 16)]
/-- an identifier's digits -/
def textL (a : Am.Id) : List UInt8 := a.l.flatMap hexB

theorem wpList_loadVar {P : Program} {ops : Array Oper} {rest : List Oper} {o : Oper} {a : Act} {w : World} {Q : Exit → Act → World → Prop} (hgd : o.guard = none) (t : TypeId) (p : Operand) (ho : o.op = .load t p)
    (ad : Addr) (z : Value) (hx : a.eval p = .pointer (some ad)) (hl : (loadVar t ad).run P w = .ok z w)
    (h : wpList P ops Q rest (a.put o.dst z) w) : wpList P ops Q (o :: rest) a w :=
  wpList_plain hgd fun K hK => by
    have hr : (execOp a.eval o).run P w = .ok (.value z) w := by
      simp [execOp, ho, Instr.loadAt, hx, Instr.sureAddr, hl]
    unfold Oper.wp
    rw [hr]
    exact hK _ _ h

theorem wpList_index {P : Program} {ops : Array Oper} {rest : List Oper} {o : Oper} {a : Act} {w : World} {Q : Exit → Act → World → Prop} (hgd : o.guard = none) (t : TypeId) (p q : Operand) (ho : o.op = .index t p q)
    (x y z : Value) (hx : a.eval p = x) (hy : a.eval q = y) (hl : (Instr.index t x y).run P w = .ok z w)
    (h : wpList P ops Q rest (a.put o.dst z) w) : wpList P ops Q (o :: rest) a w :=
  wpList_plain hgd fun K hK => by
    have hr : (execOp a.eval o).run P w = .ok (.value z) w := by
      simp [execOp, ho, hx, hy, hl]
    unfold Oper.wp
    rw [hr]
    exact hK _ _ h

theorem index_str (n : Nat) (hn : n < 16) (w : World) : (Instr.index 9 (.string ⟨#[48, 49, 50, 51, 52, 53, 54, 55, 56, 57, 97, 98, 99, 100, 101, 102]⟩) (.int .u8 n)).run Try.prog w = .ok (.int .u8 (hexd n).toNat) w := by
  have hu := Try.underlying9
  have hg : (⟨#[48, 49, 50, 51, 52, 53, 54, 55, 56, 57, 97, 98, 99, 100, 101, 102]⟩ : ByteArray)[n]? = some (hexd n) := by
    match n, hn with
    | 0, _ | 1, _ | 2, _ | 3, _ | 4, _ | 5, _ | 6, _ | 7, _ | 8, _ | 9, _ | 10, _ | 11, _ | 12, _ | 13, _ | 14, _ | 15, _ => rfl
    | n + 16, h => omega
  simp [Instr.index, asIntOf, run_underlying hu, hg]

theorem index_id (a : Am.Id) (k : Nat) (c : UInt8) (hk : k < 32) (hc : a.l[k]? = some c) (w : World) : (Instr.index 23 (.agg (a.l.map Am.u8v).toArray) (.int .i64 k)).run Try.prog w = .ok (.int .u8 c.toNat) w := by
  have hu := Try.underlying23
  have he := Try.underlying5
  have hg : ((a.l.map Am.u8v).toArray)[k]? = some (.int .u8 c.toNat) := by
    simp [hc, Am.u8v]
  have hagg : (isAgg 5).run Try.prog w = .ok false w := by simp [isAgg, run_underlying he]
  have hpart : (part 5 (a.l.map Am.u8v).toArray (k * 1)).run Try.prog w = .ok (.int .u8 c.toNat) w := by
    simp only [part, Sem.run_bind, hagg, Result.andThen_ok, Bool.false_eq_true, if_false, Nat.mul_one, hg, Sem.run_pure]
  simp only [Instr.index, asIntOf, Sem.run_bind, Sem.run_pure, Result.andThen_ok, run_underlying hu, Sem.run_ite]
  rw [if_pos ⟨by omega, by omega⟩]
  simp only [Am.run_sizeOf' he w, Result.andThen_ok, Int.toNat_natCast]
  exact hpart

set_option maxHeartbeats 4000000 in
set_option maxRecDepth 1000000 in
theorem textCalls (a : Am.Id) (w : World) :
    Calls Try.prog 25 #[.agg (a.l.map Am.u8v).toArray] w fun e w' => e = .returned (.string ⟨(textL a).toArray⟩) ∧ Below w.heap.size w w' := by
  obtain ⟨vs, hvs⟩ : ∃ vs, a.l.map Am.u8v = vs := ⟨_, rfl⟩
  have hlen : vs.length = 32 := by rw [← hvs, List.length_map]; exact a.h
  rw [hvs]
  go_enter Try.func25, Try.ntmps25
  go_wp2_with (guard_target =~ wpList _ _ _ ({ dst := some 6, op := Op.load 23 (.tmp 1), type := 23, pos := "ident.go:70", after := #[], guard := none } :: _) _ _; refine wpList_loadVar rfl 23 (.tmp 1) rfl ⟨w.heap.size, 0, none⟩ (.agg vs.toArray) rfl ?ld ?_)
  case ld =>
    obtain ⟨z, hz, hr⟩ := Am.loadVar_run (P := Try.prog) (t := 23) (C := fun _ => none) (g := []) (by kernel_rfl) (u := .id a) (mid := vs) (by rw [← hvs]; exact .id a) (by kernel_rfl) (by rw [hlen]; kernel_rfl)
    have hz' : z = .agg vs.toArray := by
      cases hz with
      | id h => cases h; rw [hvs]
      | one h h1 h2 => exact absurd rfl (h1 a)
    rw [← hz']
    refine hr _ _ ?_
    intro j v hj
    have hjl : j < vs.length := (List.getElem?_eq_some_iff.1 hj).1
    have h1 : ((w.alloc (Obj.cells vs.toArray 23)).alloc (Obj.cells #[Value.pointer none, Value.slice none 0 0] 48)).heap[w.heap.size]? = some (.cells vs.toArray 23 (0, 0)) := by
      rw [Lib.alloc_old _ _ _ (by simp)]
      exact heap_alloc_new w _
    rw [show (Addr.add ⟨w.heap.size, 0, none⟩ j : Addr) = ⟨w.heap.size, j, none⟩ from by rw [Addr.add_lit]; simp]
    rw [Lib.cell_of_heap h1]
    simpa using hj
  go_loopw [7] (fun i wr => ∃ k : Nat, k ≤ 32 ∧ i = .int .i64 k ∧ Lib.IsBuilder 48 5 w.heap.size (w.heap.size + 1) (Lib.byteCells ((a.l.take k).flatMap hexB)) wr ∧ Below w.heap.size w wr) (fun i _ => 32 - (RowKit.intOf i).toNat)
  case atStart =>
    refine ⟨0, by omega, rfl, ?_, ?_⟩
    · have h2 := heap_alloc_new (w.alloc (Obj.cells vs.toArray 23)) (Obj.cells #[Value.pointer none, Value.slice none 0 0] 48)
      refine Or.inl ⟨by omega, .slice none 0 0, ?_, World.ownsRow_nil _ _ _ _, by simp [Value.ownBlock]⟩
      simpa using h2
    · exact ((Below.refl _ w).alloc (Nat.le_refl _) _).alloc (by simp) _
  case round =>
    obtain ⟨k, hk, rfl, hI, hbw⟩ := hrel
    by_cases hk2 : k < 32
    · obtain ⟨c, hc⟩ : ∃ c, a.l[k]? = some c := by
        rw [List.getElem?_eq_getElem (by rw [a.h]; exact hk2)]
        exact ⟨_, rfl⟩
      have hv : vs.toArray[k]? = some (.int .u8 c.toNat) := by
        rw [← hvs]
        simp [hc, Am.u8v]
      have hsz : w.heap.size ≤ wr.heap.size := hbw.size
      have i0 : ∀ w, (Instr.index 23 (.agg vs.toArray) (.int .i64 k)).run Try.prog w = .ok (.int .u8 c.toNat) w := by
        intro w
        rw [← hvs]
        exact index_id a k c hk2 hc w
      have hc16 : c.toNat / 16 < 16 := by have := c.toNat_lt; omega
      have i1 : ∀ w, (Instr.index 9 (.string ⟨#[48, 49, 50, 51, 52, 53, 54, 55, 56, 57, 97, 98, 99, 100, 101, 102]⟩) (.int .u8 ((c.toNat : Int) / 16))).run Try.prog w = .ok (.int .u8 (hexd (c.toNat / 16)).toNat) w := by
        intro w
        have := index_str (c.toNat / 16) hc16 w
        rwa [show ((c.toNat / 16 : Nat) : Int) = (c.toNat : Int) / 16 from by omega] at this
      have hc2 : c.toNat % 16 < 16 := by omega
      have i2 : ∀ w, (Instr.index 9 (.string ⟨#[48, 49, 50, 51, 52, 53, 54, 55, 56, 57, 97, 98, 99, 100, 101, 102]⟩) (.int .u8 ((c.toNat : Int) % 16))).run Try.prog w = .ok (.int .u8 (hexd (c.toNat % 16)).toNat) w := by
        intro w
        have := index_str (c.toNat % 16) hc2 w
        rwa [show ((c.toNat % 16 : Nat) : Int) = (c.toNat : Int) % 16 from by omega] at this
      have hl1 : (Lib.byteCells ((a.l.take k).flatMap hexB)).length + 2 ≤ 140737488355328 := by
        have : ((a.l.take k).flatMap hexB).length = 2 * (a.l.take k).length := by
          generalize a.l.take k = l
          induction l with
          | nil => rfl
          | cons x xs ih => simp only [List.flatMap_cons, List.length_append, ih, List.length_cons]; simp [hexB]; omega
        have h2 : (a.l.take k).length ≤ 32 := by rw [List.length_take, a.h]; omega
        rw [Lib.byteCells_length]
        omega
      go_wp2_with (first | (guard_target =~ wpList _ _ _ ({ dst := some 9, op := Op.index 23 (.tmp 6) (.tmp 7), type := 5, pos := "ident.go:70", after := #[], guard := none } :: _) _ _; refine wpList_index rfl 23 (.tmp 6) (.tmp 7) rfl _ _ (.int .u8 c.toNat) rfl rfl (i0 _) ?_) | (refine wpList_index (a := ⟨_, _⟩) rfl 9 (.const (.string ⟨#[48, 49, 50, 51, 52, 53, 54, 55, 56, 57, 97, 98, 99, 100, 101, 102]⟩)) (.tmp 11) rfl _ _ (.int .u8 (hexd (c.toNat / 16)).toNat) rfl rfl (i1 _) ?_) | (go_at_call 32; refine (writeByte w.heap.size (w.heap.size + 1) _ _ _ hI (by omega) hsz).mono ?_))
      rintro e w1 ⟨rfl, h1, hb1⟩
      have hsz1 : w.heap.size ≤ w1.heap.size := (hbw.trans hb1).size
      go_wp2_with (first | (refine wpList_index (a := ⟨_, _⟩) rfl 9 (.const (.string ⟨#[48, 49, 50, 51, 52, 53, 54, 55, 56, 57, 97, 98, 99, 100, 101, 102]⟩)) (.tmp 15) rfl _ _ (.int .u8 (hexd (c.toNat % 16)).toNat) rfl rfl ?ix ?_) | (go_at_call 32; refine (writeByte w.heap.size (w.heap.size + 1) _ _ _ (Or.inr h1) (by simp; omega) hsz1).mono ?_))
      case ix => exact i2 _
      rintro e w2 ⟨rfl, h2, hb2⟩
      go_wp2
      go_roundw
      case rel =>
        have ht : a.l.take (k + 1) = a.l.take k ++ [c] := by
          rw [List.take_add_one, hc]; rfl
        have hB : Lib.IsBuilder 48 5 w.heap.size (w.heap.size + 1) (Lib.byteCells ((a.l.take (k + 1)).flatMap hexB)) w2 := by
          refine Or.inr ?_
          rw [ht, List.flatMap_append, Lib.byteCells_append]
          simpa [Lib.byteCells, hexB] using h2
        first
          | exact ⟨k + 1, by omega, by go_num, hB, (hbw.trans hb1).trans hb2⟩
          | ((repeat apply Exists.intro); exact ⟨⟨k + 1, by omega, by go_num, hB, (hbw.trans hb1).trans hb2⟩, rfl⟩)
      case measure =>
        simp [RowKit.intOf]; omega
    · have hk3 : k = 32 := by omega
      subst hk3
      have hsz : w.heap.size ≤ wr.heap.size := hbw.size
      go_wp2_with (go_at_call 33; refine (sh_Builder_String_any w.heap.size (w.heap.size + 1) _ _ hI hsz).mono ?_)
      rintro e w1 ⟨rfl, h1⟩
      go_wp2
      go_ret
      refine ⟨?_, hbw.trans h1⟩
      have e32 : a.l.take 32 = a.l := List.take_of_length_le (by rw [a.h]; exact Nat.le_refl _)
      simp [e32, textL]

end Go.Proofs.Ytalleiogpibckaa
