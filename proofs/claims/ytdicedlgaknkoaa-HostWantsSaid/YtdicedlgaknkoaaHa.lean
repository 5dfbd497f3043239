/-
  Hosts: what is wanted no more; the law of what a host asks.
-/
import Derived.Test.YtdicedlgaknkoaaHt
namespace Go.Proofs.Ytdicedlgaknkoaa
namespace Am
open Go Go.RowKit
set_option linter.unusedSimpArgs false
set_option linter.unusedVariables false

theorem badW_false {l : List Wn} {i : Nat} (hi : i < l.length) : badW l i = false ↔ ∀ j, j < i → (l.getD j noW).1 ≠ (l.getD i noW).1 := by
  unfold badW
  rw [Bool.not_eq_false', decide_eq_true_iff]
  unfold plc
  constructor
  · intro h j hj e
    cases hf : l.findIdx? (isW (l.getD i noW).1) with
    | none => rw [hf] at h; simp only at h; omega
    | some k =>
      rw [hf] at h
      simp only at h
      have hk : k = i := by omega
      subst hk
      obtain ⟨h1, h2, h3⟩ := List.findIdx?_eq_some_iff_getElem.1 hf
      have := h3 j hj
      have hjl : j < l.length := by omega
      have e2 : l.getD j noW = l[j] := by simp [hjl]
      rw [e2] at e
      simp only [isW, Bool.not_eq_true', decide_eq_false_iff_not] at this
      exact absurd e (by simpa using this)
  · intro h
    have hf : l.findIdx? (isW (l.getD i noW).1) = some i := by
      rw [List.findIdx?_eq_some_iff_getElem]
      refine ⟨hi, by simp [isW, hi], fun j hj => ?_⟩
      have := h j hj
      have hjl : j < l.length := by omega
      have e2 : l.getD j noW = l[j] := by simp [hjl]
      rw [e2] at this
      simp only [isW, Bool.not_eq_true', decide_eq_false_iff_not]
      simpa using this
    rw [hf]
theorem apart_iff {l : List Wn} : anyN (badW l) l.length 0 = false ↔ l.Pairwise (fun a b => a.1 ≠ b.1) := by
  rw [List.pairwise_iff_getElem]
  constructor
  · intro h i j hi hj hij
    have := (badW_false hj).1 (anyN_false h (j := j) (by omega) (by omega)) i hij
    simpa [hi, hj] using this
  · intro h
    cases hc : anyN (badW l) l.length 0 with
    | false => rfl
    | true =>
      obtain ⟨j, _, hj, hb⟩ := anyN_iff.1 hc
      have hj : j < l.length := by omega
      have : badW l j = false := (badW_false hj).2 (fun i hi => by
        have hil : i < l.length := by omega
        have := h i j hil hj hi
        simpa [hil, hj] using this)
      rw [this] at hb; cases hb
/-- a host without a want -/
def lessH (h : Hs) (j : Nat) : Hs := (h.1, h.2.1, h.2.2.1.eraseIdx j, h.2.2.2)
theorem less_right {h : Hs} {j : Nat} (hr : rightH h = true) : rightH (lessH h j) = true := by
  unfold rightH at hr ⊢
  simp only [Bool.and_eq_true, Bool.not_eq_true', decide_eq_true_iff] at hr ⊢
  obtain ⟨⟨r1, r2⟩, r3, r4⟩ := hr
  have hsub : (h.2.2.1.eraseIdx j).Sublist h.2.2.1 := List.eraseIdx_sublist ..
  refine ⟨⟨apart_iff.2 ((apart_iff.1 r1).sublist hsub), Nat.le_trans hsub.length_le r2⟩, ?_, r4⟩
  show (h.2.2.1.eraseIdx j).any lifeBad = false
  rw [List.any_eq_false] at r3 ⊢
  exact fun x hx => r3 x (hsub.subset hx)
def zeroH : Hs := (0, 0, [], [], [], ())
theorem del_eq (l : List Wn) (j : Nat) (hj : j < l.length) (hl : l.length ≤ 1000) :
    oslicesDelete (((0, (l.length : Int)), (j : Int), ((j + 1 : Nat) : Int), ()), (l, ())) = some (((0, (l.length : Int) - (((j + 1 : Nat) : Int) - (j : Int))), ()), (dDel (.pair .id (.pair (.int .i64) .unit)) l (j : Int) ((j + 1 : Nat) : Int), ())) := by
  show oDel _ _ = _
  unfold oDel
  simp only
  rw [if_pos ⟨trivial, trivial, by omega, by omega, by omega⟩]
theorem del_sub (l : List Wn) (j : Nat) (hj : j < l.length) : dsub (dDel (.pair .id (.pair (.int .i64) .unit)) l (j : Int) ((j + 1 : Nat) : Int)) 0 ((l.length : Int) - (((j + 1 : Nat) : Int) - (j : Int))) = l.eraseIdx j := by
  rw [show (l.length : Int) - (((j + 1 : Nat) : Int) - (j : Int)) = ((l.length - 1 : Nat) : Int) by omega, dsub_take]
  unfold dDel
  rw [Int.toNat_natCast, Int.toNat_natCast, List.eraseIdx_eq_take_drop_succ]
  have hl : (l.take j ++ l.drop (j + 1)).length = l.length - 1 := by rw [List.length_append, List.length_take, List.length_drop]; omega
  rw [← hl]
  exact List.take_left
theorem hostUnwant_eq (h : Hs) (id : Id) (hl : okL h) (hr : rightH h = true) : ohostUnwant ((h, id, ()), ()) = some (match h.2.2.1.findIdx? (isW id) with | some j => (lessH h j, 0, ()) | none => (zeroH, 6, ()), ()) := by
  rw [ohostUnwant_eq, bhostUnwant]
  simp only [hostRight_eq h hl, hr, bS_some, cond_true, cond_false, hostWants_eq h hl.1]
  rw [atW_eq _ _ (by rw [List.length_map]; exact hl.1), plcW]
  simp only [bS_some]
  cases hf : h.2.2.1.findIdx? (isW id) with
  | none => rw [plc_none hf]; rfl
  | some j =>
    obtain ⟨e, hj⟩ := plc_some hf
    have hl1 := hl.1
    have hc : oslicesClone ((h.2.2.1, ()), ()) = some (((0, (h.2.2.1.length : Int)), ()), (h.2.2.1, ())) := by
      show oClone _ _ = _
      unfold oClone
      rw [if_pos (show List.length _ ≤ 1073741824 from Nat.le_trans hl1 (by omega))]
    rw [e, ilt_f.2 (show (0 : Int) ≤ (j : Int) by omega), inc_nat (show j < 4611686018427387904 by omega)]
    simp only [cond_false, hc, bS_some, del_eq _ j hj hl1]
    rw [del_sub _ j hj]
    rfl
theorem turns_ok {h : Hs} (hr : rightH h = true) (id : Id) (now : Int) : noOk (turnsM h id now) = true := by
  unfold rightH at hr
  simp only [Bool.and_eq_true, Bool.not_eq_true', decide_eq_true_iff] at hr
  obtain ⟨_, _, _, r4, r5, r6, _⟩ := hr
  unfold turnsM
  cases hf : h.2.2.2.1.findIdx? (isH id) with
  | none => exact r6
  | some j =>
    obtain ⟨_, hj⟩ := plc_some hf
    have hx := r4
    rw [List.any_eq_false] at hx
    have := hx _ (mem_getD (d := noH) hj)
    simp only
    split
    · simp only [hintBad, Bool.or_eq_true, Bool.not_eq_true', not_or, Bool.not_eq_false] at this
      exact this.1
    · exact r6
theorem rem1000 (x : Int) : ∃ m : Nat, m ≤ 999 ∧ irem (iwrap IntKind.i64 (iadd (irem x 1000) 1000)) 1000 = (m : Int) := by
  have h1 : -1000 < Int.tmod x 1000 ∧ Int.tmod x 1000 < 1000 := by
    have a := Int.tmod_lt_of_pos x (show (0 : Int) < 1000 by omega)
    have b := Int.lt_tmod_of_pos x (show (0 : Int) < 1000 by omega)
    omega
  have e1 : iwrap IntKind.i64 (iadd (irem x 1000) 1000) = Int.tmod x 1000 + 1000 := by
    show iwrap IntKind.i64 (Int.tmod x 1000 + 1000) = _
    rw [iwrap_i64] <;> omega
  rw [e1]
  obtain ⟨n, hn⟩ : ∃ n : Nat, Int.tmod x 1000 + 1000 = n := ⟨(Int.tmod x 1000 + 1000).toNat, by omega⟩
  rw [hn]
  refine ⟨n % 1000, by omega, ?_⟩
  have := irem_nat n 1000
  exact this
theorem asks_loop1 (h : Hs) (id : Id) (m : Int) (hr : rightH h = true) (hl : okL h) : whl rlaw17HostAsksx9 ((m, (), (), h.2.2.1.map (askM h m), h.2.2.1.map (askM h m), dlen (h.2.2.1.map (askM h m)), 0, ()), h, id, ()) = some (.inr (.inl ((m, (), (), h.2.2.1.map (askM h m), ()), h, id, ()))) := by
  have hm : (h.2.2.1.map (askM h m)).length = h.2.2.1.length := List.length_map ..
  refine whl_up (g := rlaw17HostAsksx9) (fun k => ((m, (), (), h.2.2.1.map (askM h m), h.2.2.1.map (askM h m), dlen (h.2.2.1.map (askM h m)), (k : Int), ()), h, id, ())) (.inr (.inl ((m, (), (), h.2.2.1.map (askM h m), ()), h, id, ()))) h.2.2.1.length
    (by simp only [rlaw17HostAsksx9, bifF (ilt_len' (xs := h.2.2.1.map (askM h m)) (show (h.2.2.1.map (askM h m)).length ≤ h.2.2.1.length by rw [hm]; exact Nat.le_refl _))])
    (fun k hk => ?_) h.2.2.1.length 0 (by omega)
  have hl1 := hl.1
  have hg : (h.2.2.1.map (askM h m)).getD k noS = askM h m (h.2.2.1.getD k noW) := map_getD _ _ _ _ _ hk
  simp only [rlaw17HostAsksx9, ilt_len (show k < (h.2.2.1.map (askM h m)).length by omega), ilt_len hk, ile_nat, cond_true, snget, wget, hg, inc_nat (show k < 4611686018427387904 by omega)]
  generalize h.2.2.1.getD k noW = w
  have ht := turns_ok hr w.1 m
  simp only [noOk, Bool.and_eq_true, decide_eq_true_iff] at ht
  have b1 : (askM h m w).snd.fst.fst = 2 := rfl
  have b2 : (askM h m w).snd.fst.snd.fst = w.1 := rfl
  have b3 : (askM h m w).snd.fst.snd.snd.snd.snd.fst = w.2.1 := rfl
  have b4 : (askM h m w).snd.fst.snd.snd.fst.fst = 2 := rfl
  have b5 : (askM h m w).snd.fst.snd.snd.fst.snd.snd.fst = h.1 := rfl
  have b6 : (askM h m w).fst = turnsM h w.1 m := rfl
  have e1 : ilt (turnsM h w.1 m) 0 = false := ilt_f.2 ht.1
  have e2 : ilt 15 (turnsM h w.1 m) = false := ilt_f.2 (by omega)
  simp only [b1, b2, b3, b4, b5, b6, e1, e2, ieq_s, ideq_s, cond_true, cond_false]
theorem asks_loop2 (L M : List Sn) (id : Id) (g : Int) (hM : M.length ≤ 1000) (hs : ∀ s ∈ M, s.2.1.2.1 ≠ id) : whl rlaw17HostAsksx20 (((), L, M, g, M, dlen M, 0, ()), id, ()) = some (.inr (.inl ((L, M, g, ()), ()))) := by
  refine whl_up (g := rlaw17HostAsksx20) (fun k => (((), L, M, g, M, dlen M, (k : Int), ()), id, ())) (.inr (.inl ((L, M, g, ()), ()))) M.length
    (by simp only [rlaw17HostAsksx20, bifF (ilt_len' (xs := M) (Nat.le_refl _))])
    (fun k hk => ?_) M.length 0 (by omega)
  have := hs _ (mem_getD (d := noS) hk)
  simp only [rlaw17HostAsksx20, ilt_len hk, ile_nat, cond_true, snget, ideq_f.2 this, cond_false, inc_nat (show k < 4611686018427387904 by omega)]
theorem asks17 (h : Hs) (id : Id) (now : Int) : olaw17HostAsks ((h, id, now, ()), ()) = some ((true, ()), ()) := by
  rw [olaw17HostAsks_eq, blaw17HostAsks]
  have hok := fewH_ok h
  obtain ⟨m, hm, hmr⟩ := rem1000 now
  have e0 : ieq 1000 0 = false := rfl
  have htm : timeOk (m : Int) = true := by simp [timeOk]; omega
  simp only [few_eq, bS_some, e0, cond_true, cond_false, hmr]
  generalize fewH h = h at *
  simp only [hostAsk_eq h _ hok, htm, alive17, bS_some, cond_true, hostRight_eq h hok]
  cases hr : rightH h with
  | false => rfl
  | true =>
    have q1 : ieq (dlen (h.2.2.1.map (askM h m))) (dlen h.2.2.1) = true := ieq_t.2 (by rw [dlen_eq, dlen_eq, List.length_map])
    simp only [and_self, if_true, ieq_s, cond_true, cond_false, q1, wlaw17HostAsksx9_eq, asks_loop1 h id m hr hok, bL_inr, bL_inl, hostUnwant_eq h id hok hr, bS_some]
    cases hf : h.2.2.1.findIdx? (isW id) with
    | none => rfl
    | some j =>
      obtain ⟨_, hj⟩ := plc_some hf
      have hl1 := hok.1
      have hlen : (h.2.2.1.eraseIdx j).length = h.2.2.1.length - 1 := by rw [List.length_eraseIdx]; simp [hj]
      have hok2 : okL (lessH h j) := ⟨show (h.2.2.1.eraseIdx j).length ≤ 1000 by omega, hok.2.1, hok.2.2⟩
      have hrl := less_right (j := j) hr
      have hap : h.2.2.1.Pairwise (fun a b => a.1 ≠ b.1) := by
        unfold rightH at hr
        simp only [Bool.and_eq_true, Bool.not_eq_true'] at hr
        exact apart_iff.1 hr.1.1
      have hid : (h.2.2.1[j]).1 = id := by
        obtain ⟨h1, h2, _⟩ := List.findIdx?_eq_some_iff_getElem.1 hf
        simpa [isW] using h2
      have hne : ∀ s ∈ (h.2.2.1.eraseIdx j).map (askM (lessH h j) m), s.2.1.2.1 ≠ id := by
        intro s hs
        obtain ⟨w, hw, rfl⟩ := List.mem_map.1 hs
        show w.1 ≠ id
        obtain ⟨i, hi, hij, rfl⟩ := List.mem_eraseIdx_iff_getElem.1 hw
        rw [← hid]
        rw [List.pairwise_iff_getElem] at hap
        rcases Nat.lt_or_gt_of_ne hij with h1 | h1
        · exact hap i j hi hj h1
        · exact (hap j i hj hi h1).symm
      have hask := hostAsk_eq (lessH h j) (m : Int) hok2
      rw [if_pos ⟨hrl, htm⟩] at hask
      have hask : ohostAsk ((lessH h j, (m : Int), ()), ()) = some (((h.2.2.1.eraseIdx j).map (askM (lessH h j) m), 0, ()), ()) := hask
      have q2 : iwrap IntKind.i64 (isub (dlen (h.2.2.1.map (askM h m))) 1) = ((h.2.2.1.length - 1 : Nat) : Int) := by
        rw [dlen_eq, List.length_map]
        have e : isub (h.2.2.1.length : Int) 1 = ((h.2.2.1.length - 1 : Nat) : Int) := by simp only [isub]; omega
        rw [e, iwrap_i64] <;> omega
      have q3 : ieq (dlen ((h.2.2.1.eraseIdx j).map (askM (lessH h j) m))) ((h.2.2.1.length - 1 : Nat) : Int) = true := ieq_t.2 (by rw [dlen_eq, List.length_map, hlen])
      simp only [ieq_s, cond_true, cond_false, hask, bS_some, wlaw17HostAsksx20_eq]
      rw [asks_loop2 _ _ id 0 (by rw [List.length_map]; omega) hne]
      simp only [bL_inr, bL_inl, cond_true, ieq_s, q2, q3]

end Am
end Go.Proofs.Ytdicedlgaknkoaa
