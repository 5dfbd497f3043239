/-
  A symbolic machine over the model, part 6: pure operations, the rest.
-/
import Derived.Test.YtkjpoongkdapoaaBm5
namespace Go.Proofs.Ytkjpoongkdapoaa
namespace Am
open Go Go.RowKit
set_option linter.unusedVariables false
set_option linter.unusedSimpArgs false

section
variable {C : Mem} {g : Ghs}

theorem unAV_run {P : Program} {op : UnOp} {a v : AV} {x : Value} {ok : Bool} (ha : RV C g a x) (h : unAV op a = some (ok, v)) (_hok : ok = true) : ∃ z, RV C g v z ∧ ∀ w : World, (Op.unary op x).run P w = .ok z w := by
  unfold unAV at h
  split at h
  · rename_i b
    have e := RV_bool ha
    subst e
    simp only [Option.some.injEq, Prod.mk.injEq] at h
    exact ⟨.bool (!b), by rw [← h.2]; exact RV_boolv _, fun w => by simp [Op.unary]⟩
  · rename_i k n
    have e := RV_int1 ha
    subst e
    obtain ⟨h1, h2⟩ := cond_some h
    simp only [Option.some.injEq, Prod.mk.injEq] at h2
    exact ⟨.int k (k.wrap (0 - n)), by rw [← h2.2]; exact mkInt_RV fun e => by subst e; exact wrap_u8 _, fun w => by simp [Op.unary, Op.intArith]⟩
  · simp at h

/-- the cells of a row -/
theorem Row_cells {t : Ty} : ∀ (xs : List t.den) (base : Option Addr), Row C t base xs → xs ≠ [] → ∃ ad cs, base = some ad ∧ ad.spot = none ∧ cs.length = xs.length * t.size ∧ At C ad cs ∧ (∀ v ∈ cs, v.oneCell' = true) ∧
    (∀ (i : Nat) (x : t.den), xs[i]? = some x → ∃ csi, TC C t x csi ∧ (cs.drop (i * t.size)).take t.size = csi) := by
  intro xs
  induction xs with
  | nil => intro _ _ h; exact absurd rfl h
  | cons x xs ih =>
    intro base h _
    obtain ⟨ad, c0, hb, h0, ha0⟩ := h 0 x rfl
    have hsp : ad.spot = none := ha0.1
    have hl0 := TC_size _ _ _ h0
    by_cases hx : xs = []
    · subst hx
      refine ⟨ad, c0, hb, hsp, by simp [hl0], ?_, TC_one _ _ _ h0, ?_⟩
      · have := ha0; simpa using this
      · intro i y hy
        cases i with
        | zero => simp at hy; subst hy; exact ⟨c0, h0, by simp [← hl0]⟩
        | succ i => simp at hy
    · have hrow : Row C t (some ⟨ad.block, ad.off + t.size, ad.spot⟩) xs := by
        intro i y hy
        obtain ⟨ad', ci, hb', hi, hai⟩ := h (i + 1) y (by simpa using hy)
        rw [hb] at hb'
        simp only [Option.some.injEq] at hb'
        subst hb'
        refine ⟨_, ci, rfl, hi, ?_⟩
        have : ad.off + t.size + i * t.size = ad.off + (i + 1) * t.size := by rw [Nat.add_mul]; omega
        simp only [this]
        exact hai
      obtain ⟨ad1, cs1, hb1, hs1, hl1, ha1, h11, hp1⟩ := ih _ hrow hx
      simp only [Option.some.injEq] at hb1
      subst hb1
      refine ⟨ad, c0 ++ cs1, hb, hsp, by simp [hl0, hl1, Nat.add_mul]; omega, ⟨hsp, ?_⟩, ?_, ?_⟩
      · intro j v hj
        rcases Nat.lt_or_ge j c0.length with hlt | hge
        · rw [List.getElem?_append_left hlt] at hj
          have := ha0.2 j v hj
          simpa using this
        · rw [List.getElem?_append_right hge] at hj
          have := ha1.2 _ v hj
          simp only at this
          rw [← this]
          congr 2
          omega
      · intro v hv
        rcases List.mem_append.1 hv with hv | hv
        · exact TC_one _ _ _ h0 v hv
        · exact h11 v hv
      · intro i y hy
        cases i with
        | zero => simp at hy; subst hy; exact ⟨c0, h0, by simp [← hl0]⟩
        | succ i =>
          obtain ⟨ci, hci, hd⟩ := hp1 i y (by simpa using hy)
          refine ⟨ci, hci, ?_⟩
          rw [← hd]
          have : (i + 1) * t.size = c0.length + i * t.size := by rw [Nat.add_mul]; omega
          rw [this, List.drop_append, List.drop_eq_nil_of_le (by omega)]
          simp

theorem Row_drop {t : Ty} {xs : List t.den} {ad : Addr} (h : Row C t (some ad) xs) (i : Nat) : Row C t (some ⟨ad.block, ad.off + i * t.size, ad.spot⟩) (xs.drop i) := by
  intro j y hy
  obtain ⟨ad', cj, hb', hj, haj⟩ := h (i + j) y (by simpa using hy)
  simp only [Option.some.injEq] at hb'
  subst hb'
  refine ⟨_, cj, rfl, hj, ?_⟩
  have : ad.off + i * t.size + j * t.size = ad.off + (i + j) * t.size := by rw [Nat.add_mul]; omega
  simp only [this]
  exact haj
theorem Row_take {t : Ty} {xs : List t.den} {base : Option Addr} (h : Row C t base xs) (n : Nat) : Row C t base (xs.take n) := by
  intro j y hy
  rw [List.getElem?_take] at hy
  split at hy
  · exact h j y hy
  · simp at hy
theorem Row_nil {t : Ty} {base : Option Addr} : Row C t base ([] : List t.den) := fun i x h => by simp at h

/-- a row of bytes -/
theorem TC_u8s {l : List UInt8} {ad : Addr} (h : At C ad (l.map u8v)) : Row C .u8 (some ad) l := by
  intro i x hx
  refine ⟨ad, [u8v x], rfl, rfl, h.1, ?_⟩
  intro j v hj
  cases j with
  | zero =>
    simp at hj
    subst hj
    have := h.2 i (u8v x) (by simp [List.getElem?_map]; exact ⟨x, hx, rfl⟩)
    simpa [Ty.size] using this
  | succ j => simp at hj

theorem Row_u8 {l : List UInt8} {base : Option Addr} (h : Row C .u8 base l) (hne : l ≠ []) : ∃ ad, base = some ad ∧ At C ad (l.map u8v) := by
  obtain ⟨ad, cs, hb, hs, hl, ha, _, hp⟩ := Row_cells (t := .u8) l base h hne
  refine ⟨ad, hb, ?_⟩
  have : cs = l.map u8v := by
    apply List.ext_getElem?
    intro i
    cases hx : l[i]? with
    | none =>
      have : l.length ≤ i := by simpa using hx
      rw [List.getElem?_eq_none (by simp [hl, Ty.size]; exact this)]
      simp [hx]
    | some x =>
      obtain ⟨ci, hci, hd⟩ := hp i x hx
      simp only [TC] at hci
      subst hci
      simp only [Ty.size, Nat.mul_one] at hd
      have h1 : (List.take 1 (List.drop i cs))[0]? = some (u8v x) := by rw [hd]; rfl
      simp at h1
      simp [hx, h1]
  rw [← this]; exact ha

theorem At_add {ad : Addr} {cs : List Value} (h : At C ad cs) (j : Nat) : ad.add j = ⟨ad.block, ad.off + j, none⟩ := by
  unfold Addr.add
  split
  · rename_i hj; subst hj; cases ad; simp only [At] at h; simp [h.1]
  · cases ad; simp

theorem Below.lives {w w' : World} (hw : Below w.heap.size w w') {a : Addr} {v : Value} (h : w.cell? a = some v) : w'.cell? a = some v := by
  rw [hw.cell (World.block_lt_of_cell? w a h)]; exact h

/-- cells that stay, in a later world -/
theorem At_lives {w w' : World} (hs : ∀ a v, C a = some v → w.cell? a = some v) (hw : Below w.heap.size w w') {ad : Addr} {cs : List Value} (h : At C ad cs) :
    ∀ (j : Nat) (v : Value), cs[j]? = some v → w'.cell? (ad.add j) = some v := by
  intro j v hj
  rw [At_add h]
  exact Below.lives hw (hs _ _ (h.2 j v hj))

theorem convAV_run {E : Env} {s d : TypeId} {a v : AV} {x : Value} {ok : Bool} {w : World} (hs : ∀ a v, C a = some v → w.cell? a = some v) (ha : RV C g a x) (h : convAV E s d a = some (ok, v)) (_hok : ok = true) :
    ∃ z, RV C g v z ∧ ∀ w' : World, Below w.heap.size w w' → (convert s d x).run E.P w' = .ok z w' := by
  unfold convAV at h
  split at h
  · rename_i u k k' n h1 h2
    have e := RV_int1 ha
    subst e
    simp only [Option.some.injEq, Prod.mk.injEq] at h
    exact ⟨.int k (k.wrap n), by rw [← h.2]; exact mkInt_RV fun e => by subst e; exact wrap_u8 _, fun w' _ => by simp [convert, run_underlying h1, run_underlying h2, Conv.intToInt]⟩
  · rename_i u k b h1 h2
    have e := RV_u8 ha
    subst e
    simp only [Option.some.injEq, Prod.mk.injEq] at h
    exact ⟨.int k (k.wrap b.toNat), by rw [← h.2]; exact mkInt_RV fun e => by subst e; exact wrap_u8 _, fun w' _ => by simp [u8v, convert, run_underlying h1, run_underlying h2, Conv.intToInt]⟩
  · rename_i l h1 h2
    have e := RV_str ha
    subst e
    simp only [Option.some.injEq, Prod.mk.injEq] at h
    exact ⟨_, by rw [← h.2]; exact ha, fun w' _ => by simp [convert, run_underlying h1, run_underlying h2]⟩
  · rename_i e xs o h1 h2
    obtain ⟨hu, h3⟩ := cond_some h
    simp only [Option.some.injEq, Prod.mk.injEq] at h3
    have he := isU8_under hu
    obtain ⟨base, cap, rfl, hr, _, _, hlim⟩ := RV_sl ha
    refine ⟨.string ⟨(show List UInt8 from xs).toArray⟩, by rw [← h3.2]; exact .one (.str _ hlim) (by simp) (by simp), fun w' hw => ?_⟩
    by_cases hx : (xs : List UInt8) = []
    · cases base with
      | none => rw [run_convert_bytes_nil w' s e h1 he _ _ d h2]; rw [hx]; rfl
      | some ad =>
        have := run_convert_bytes_back (P := E.P) w' s d e ad cap [] h1 he h2 (fun j hj => by simp at hj)
        rw [hx]; simpa using this
    · obtain ⟨ad, rfl, hat⟩ := Row_u8 hr hx
      exact run_convert_bytes_back (P := E.P) w' s d e ad cap xs h1 he h2 (fun j hj => by
        have := At_lives hs hw hat j (u8v (List.get xs ⟨j, hj⟩)) (by rw [List.getElem?_map, List.getElem?_eq_getElem hj]; rfl)
        simpa [u8v] using this)
  · rename_i e h1 h2
    obtain ⟨hu, h3⟩ := cond_some h
    simp only [Option.some.injEq, Prod.mk.injEq] at h3
    have he := isU8_under hu
    have e := RV_nilsl ha
    subst e
    exact ⟨.string ⟨#[]⟩, by rw [← h3.2]; exact .one (.str [] (Nat.zero_le _)) (by simp) (by simp), fun w' hw => by rw [run_convert_bytes_nil w' s e h1 he _ _ d h2]; rfl⟩
  · simp at h

theorem okT_under {P : Program} {t : TypeId} (h : okT P t = true) : (∃ d, P.underlying t = some d) ∧ (clsT P t = 0 → P.cellsOf t = 1) := by
  unfold okT at h
  split at h
  · rename_i hu; exact ⟨⟨_, hu⟩, fun hc => by simp [clsT, hu] at hc⟩
  · rename_i hu; exact ⟨⟨_, hu⟩, fun hc => by simp [clsT, hu] at hc⟩
  · rename_i hu; exact ⟨⟨_, hu⟩, fun _ => by simpa using h⟩
  · cases h

/-- a variable is loaded: the cells that lie there -/
theorem loadVar_run {P : Program} {t : TypeId} (ht : okT P t = true) {u : AV} {mid : List Value} (hu : RC C g u mid) (hc : u.cls = clsT P t) (hn : mid.length = P.cellsOf t) :
    ∃ z, RV C g u z ∧ ∀ (ad : Addr) (w : World), (∀ (j : Nat) (v : Value), mid[j]? = some v → w.cell? (ad.add j) = some v) → (loadVar t ad).run P w = .ok z w := by
  obtain ⟨⟨d, hd⟩, h1⟩ := okT_under ht
  have hagg : ∀ w : World, (isAgg t).run P w = .ok (clsT P t != 0) w := by
    intro w
    simp only [isAgg, Sem.run_bind, run_underlying hd, Result.andThen_ok, clsT, hd]
    cases d <;> rfl
  by_cases h0 : clsT P t = 0
  · obtain ⟨x, rfl, hx⟩ := RC_RV0 hu (hc.trans h0) (by rw [hn]; exact h1 h0)
    refine ⟨x, hx, fun ad w hw => ?_⟩
    have := hw 0 x rfl
    simp only [Addr.add, if_true] at this
    simp [loadVar, hagg, h0, run_load, this]
  · have h12 : u.cls = 1 ∨ u.cls = 2 := by
      rw [hc]
      unfold clsT at h0 ⊢
      split <;> simp_all
    refine ⟨_, RC_RV1 hu h12, fun ad w hw => ?_⟩
    have hl := run_loadCells_list (P := P) w ad mid hw
    rw [hn] at hl
    have hb : (clsT P t != 0) = true := by simpa using h0
    simp [loadVar, hagg, hb, run_sizeOf' hd w, hl]

theorem box_of {X : Ctx} {st : St} {w0 w : World} {C0 : Mem} (hrel : Rel X w0 C0 C g st.mem w) {b off n c k : Nat} {u : AV} (h : memAt st b off n c = some u) (hk : Ghs.box g b = some k) :
    ∃ mid, RC C g u mid ∧ mid.length = n ∧ u.cls = c ∧ ∀ w' : World, Below w.heap.size w w' → ∀ (j : Nat) (v : Value), mid[j]? = some v → w'.cell? ⟨k, off + j, none⟩ = some v := by
  unfold memAt at h
  rw [mget_eq] at h
  unfold Ghs.box at hk
  split at hk
  · rename_i k' T hg
    simp only [Option.some.injEq] at hk
    subst hk
    split at h
    · rename_i v hm
      cases hrel.blk b _ _ hm hg with
      | box hk' hb hv hC =>
        obtain ⟨pre, mid, post, rfl, hp, hu, hs, hcl⟩ := at_spec _ hv h
        refine ⟨mid, hu, by rw [RC_size hu, hs], hcl, fun w' hw j v hj => ?_⟩
        have hb' : w'.heap[k']? = some (.cells (pre ++ mid ++ post).toArray T (0, 0)) := by rw [hw.block k' (blk_lt hb)]; exact hb
        have hlt : j < mid.length := by
          rcases Nat.lt_or_ge j mid.length with h | h
          · exact h
          · rw [List.getElem?_eq_none h] at hj; cases hj
        rw [cell_of_row w' k' _ _ _ _ hb']
        simp only [List.getElem?_toArray, List.append_assoc]
        rw [List.getElem?_append_right (by omega), List.getElem?_append_left (by omega)]
        rw [hp]
        simpa using hj
    · rename_i v hm
      cases hrel.blk b _ _ hm hg with
      | fro ha hv =>
        obtain ⟨pre, mid, post, rfl, hp, hu, hs, hcl⟩ := at_spec _ hv h
        refine ⟨mid, hu, by rw [RC_size hu, hs], hcl, fun w' hw j v hj => ?_⟩
        have hlt : j < mid.length := by
          rcases Nat.lt_or_ge j mid.length with h | h
          · exact h
          · rw [List.getElem?_eq_none h] at hj; cases hj
        refine Below.lives hw (hrel.sub _ _ ?_)
        have := ha.2 (off + j) v (by
          rw [List.append_assoc, List.getElem?_append_right (by omega), List.getElem?_append_left (by omega), hp]
          simpa using hj)
        simpa using this
    · simp at h
  · simp at hk

theorem RVL_at {vs : List AV} {xs : List Value} (h : RVL C g vs xs) {i : Nat} {v : AV} (e : mget vs i = some v) : ∃ x, xs[i]? = some x ∧ RV C g v x := RVL.get h i v (by rw [← mget_eq]; exact e)

theorem lenAV_run {P : Program} {v : AV} {n : Int} {x : Value} {t ty : TypeId} (hx : RV C g v x) (h : lenAV P t v = some n) (w : World) :
    (Builtin.len_ #[t] ty #[x]).run P w = .ok (.int .i64 n) w := by
  unfold lenAV at h
  split at h
  · rename_i hu
    split at h <;> simp only [Option.some.injEq, reduceCtorEq] at h
    have e := RV_str hx
    subst e; subst h
    have hz : (((⟨(show List UInt8 from ‹List UInt8›).toArray⟩ : ByteArray).size : Nat) : Int) = dlen (‹List UInt8›) := rfl
    simp only [Builtin.len_, List.getElem?_toArray, List.getElem?_cons_zero, Sem.run_bind, run_underlying hu, Result.andThen_ok, Sem.run_pure, goInt, hz]
  · rename_i e hu
    split at h <;> simp only [Option.some.injEq, reduceCtorEq] at h
    · obtain ⟨b, c, rfl, _, _, _⟩ := RV_sl hx
      subst h
      simp [Builtin.len_, run_underlying hu, goInt, dlen]
    · have e := RV_nilsl hx
      subst e; subst h
      simp [Builtin.len_, run_underlying hu, goInt]
    · obtain ⟨k, _, rfl⟩ := RV_idsl hx
      subst h
      simp [Builtin.len_, run_underlying hu, goInt]
    · obtain ⟨b, c, o, rfl, _, _⟩ := RV_raw hx
      subst h
      simp [Builtin.len_, run_underlying hu, goInt]
    · obtain ⟨blk, e', n', cap, base, rfl, _, h0, _⟩ := RV_asl hx
      subst h
      simp only [Builtin.len_, List.getElem?_toArray, List.getElem?_cons_zero, Sem.run_bind, run_underlying hu, Result.andThen_ok, Sem.run_pure, goInt, isub]
      congr 2
      omega
    · obtain ⟨ad, rfl, _⟩ := RV_lst hx
      subst h
      simp [Builtin.len_, run_underlying hu, goInt, mlen_eq]
  · simp at h

theorem minAll_run {P : Program} {f : Int → Int → Int} {F : Value → Value → Sem Value} (hF : ∀ (k k' : IntKind) (x y : Int), F (.int k x) (.int k' y) = pure (.int k (f x y))) : ∀ (r : List AV) (k : IntKind) (x : Int) (v : AV) (ys : List Value), notU8 k = true → minAll f k x r = some v → RVL C g r ys →
    ∃ z, RV C g v z ∧ ∀ w : World, (List.foldlM F (.int k x) ys).run P w = .ok z w := by
  intro r
  induction r with
  | nil =>
    intro k x v ys hk h hr
    cases hr
    simp only [minAll, Option.some.injEq] at h
    have hn : k ≠ .u8 := by rintro rfl; simp [notU8] at hk
    exact ⟨.int k x, by rw [← h]; exact mkInt_RV fun e => absurd e hn, fun w => by simp⟩
  | cons a r ih =>
    intro k x v ys hk h hr
    cases hr with
    | cons h1 h2 =>
      cases a <;> simp only [minAll, reduceCtorEq] at h
      rename_i k' y
      obtain ⟨_, h4⟩ := cond_some h
      have e := RV_int1 h1
      subst e
      obtain ⟨z, hz, hrun⟩ := ih k (f x y) v _ hk h4 h2
      exact ⟨z, hz, fun w => by simp only [List.foldlM_cons, Sem.run_bind, hF, Sem.run_pure, Result.andThen_ok, hrun]⟩

theorem min2_int (k k' : IntKind) (x y : Int) : Builtin.min2 (.int k x) (.int k' y) = pure (.int k (imin x y)) := by rw [imin_eq]; rfl
theorem max2_int (k k' : IntKind) (x y : Int) : Builtin.max2 (.int k x) (.int k' y) = pure (.int k (imax x y)) := by rw [imax_eq]; rfl

theorem indexAV_run {E : Env} {t : TypeId} {a ix v : AV} {x y : Value} {ok : Bool} (ha : RV C g a x) (hi : RV C g ix y) (h : indexAV E t a ix = some (ok, v)) (hok : ok = true) :
    ∃ z, RV C g v z ∧ ∀ w : World, (Instr.index t x y).run E.P w = .ok z w := by
  subst hok
  unfold indexAV at h
  cases hai : asInt ix with
  | none => simp [hai] at h
  | some p =>
    obtain ⟨k, i⟩ := p
    obtain ⟨rfl, _⟩ := RV_int hi hai
    cases a with
    | str l =>
      simp only [hai] at h
      have ex := RV_str ha
      subst ex
      obtain ⟨h1, h2⟩ := cond_some h
      have hu : E.P.underlying t = some .string := by
        split at h1
        · assumption
        · cases h1
      simp only [Option.some.injEq, Prod.mk.injEq] at h2
      obtain ⟨hb, rfl⟩ := h2
      simp only [Bool.and_eq_true, ile_iff, ilt_iff, dlen] at hb
      have hlt : i.toNat < l.length := by omega
      have hg : (⟨l.toArray⟩ : ByteArray)[i.toNat]? = some (sget l i) := by
        have hs : i.toNat < (⟨l.toArray⟩ : ByteArray).size := hlt
        rw [getElem?_pos (⟨l.toArray⟩ : ByteArray) i.toNat hs]
        simp only [sget, List.getD, List.getElem?_eq_getElem hlt, Option.getD_some]
        rfl
      exact ⟨_, .one (.u8 _) (by simp) (by simp), fun w => by simp [Instr.index, asIntOf, run_underlying hu, hb.1, hg, u8v]⟩
    | id a' =>
      simp only [hai] at h
      have ex := RV_id ha
      subst ex
      obtain ⟨h1, h2⟩ := cond_some h
      simp only [Option.some.injEq, Prod.mk.injEq] at h2
      obtain ⟨hb, rfl⟩ := h2
      simp only [Bool.and_eq_true, ile_iff, ilt_iff] at hb
      split at h1
      · rename_i len e hu
        simp only [Bool.and_eq_true, beq_iff_eq] at h1
        have he := isU8_under h1.1.2
        have hlt : i.toNat < a'.l.length := by rw [a'.h]; omega
        refine ⟨_, .one (.u8 _) (by simp) (by simp), fun w => ?_⟩
        have hg : ((a'.l.map u8v).toArray)[i.toNat]? = some (u8v (idget a' (inat i))) := by
          simp [idget, inat, Id.get, List.getD, List.getElem?_eq_getElem hlt]
        have hpart : (part e (a'.l.map u8v).toArray (i.toNat * 1)).run E.P w = .ok (u8v (idget a' (inat i))) w := by
          have hagg : (isAgg e).run E.P w = .ok false w := by simp [isAgg, run_underlying he]
          simp only [part, Sem.run_bind, hagg, Result.andThen_ok, Bool.false_eq_true, if_false, Nat.mul_one, hg, Sem.run_pure]
        have hl : (len : Int) = 32 := by exact_mod_cast h1.1.1
        simp only [Instr.index, asIntOf, Sem.run_bind, Sem.run_pure, Result.andThen_ok, run_underlying hu, Sem.run_ite, hl]
        rw [if_pos ⟨hb.1, hb.2⟩]
        simp only [run_sizeOf' he w, Result.andThen_ok, h1.2, hpart]
      · cases h1
    | _ => simp only [hai, reduceCtorEq] at h

end
end Am
end Go.Proofs.Ytkjpoongkdapoaa
