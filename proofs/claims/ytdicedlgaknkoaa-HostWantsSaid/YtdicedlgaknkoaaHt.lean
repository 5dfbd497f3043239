/-
  Hosts: turns, asks, sends; the law of what a host sends.
-/
import Derived.Test.YtdicedlgaknkoaaHs
namespace Go.Proofs.Ytdicedlgaknkoaa
namespace Am
open Go Go.RowKit
set_option linter.unusedSimpArgs false
set_option linter.unusedVariables false

abbrev Trg := Id × (Ent × (Int × Unit))
def noT : Trg := (Id.zero, noE, 0, ())
abbrev Mg := Int × (Id × (Ent × (List Ent × (Int × (List UInt8 × (List UInt8 × Unit))))))
abbrev Sn := Int × (Mg × (Trg × Unit))
def noM : Mg := (0, Id.zero, noE, [], 0, [], [], ())
def noS : Sn := (0, noM, noT, ())
abbrev snT : Ty := ((Ty.int IntKind.i64).pair (((Ty.int IntKind.i64).pair (Ty.id.pair (((Ty.int IntKind.i64).pair (Ty.id.pair ((Ty.int IntKind.i64).pair Ty.unit))).pair (((Ty.int IntKind.i64).pair (Ty.id.pair ((Ty.int IntKind.i64).pair Ty.unit))).sl.pair ((Ty.int IntKind.i64).pair (Ty.str.pair (Ty.str.pair Ty.unit))))))).pair ((Ty.id.pair (((Ty.int IntKind.i64).pair (Ty.id.pair ((Ty.int IntKind.i64).pair Ty.unit))).pair ((Ty.int IntKind.i64).pair Ty.unit))).pair Ty.unit)))
theorem snget (l : List Sn) (i : Nat) : dget ((Ty.int IntKind.i64).pair (((Ty.int IntKind.i64).pair (Ty.id.pair (((Ty.int IntKind.i64).pair (Ty.id.pair ((Ty.int IntKind.i64).pair Ty.unit))).pair (((Ty.int IntKind.i64).pair (Ty.id.pair ((Ty.int IntKind.i64).pair Ty.unit))).sl.pair ((Ty.int IntKind.i64).pair (Ty.str.pair (Ty.str.pair Ty.unit))))))).pair ((Ty.id.pair (((Ty.int IntKind.i64).pair (Ty.id.pair ((Ty.int IntKind.i64).pair Ty.unit))).pair ((Ty.int IntKind.i64).pair Ty.unit))).pair Ty.unit))) l (i : Int) = l.getD i noS := dget_eq snT l i

noncomputable def turnsM (h : Hs) (id : Id) (now : Int) : Int := match h.2.2.2.1.findIdx? (isH id) with
  | some j => if now < (h.2.2.2.1.getD j noH).2.2.1 then (h.2.2.2.1.getD j noH).2.1 else h.2.1
  | none => h.2.1
theorem hostTurns_eq (h : Hs) (id : Id) (now : Int) (hl : h.2.2.2.1.length ≤ 1000) : ohostTurns ((h, id, now, ()), ()) = some ((turnsM h id now, ()), ()) := by
  rw [ohostTurns_eq, bhostTurns]
  simp only [hostHints_eq h hl, bS_some]
  rw [atH_eq _ _ (by rw [List.length_map]; exact hl), plcH]
  simp only [bS_some, turnsM]
  cases hf : h.2.2.2.1.findIdx? (isH id) with
  | none =>
    rw [plc_none hf]; rfl
  | some j =>
    obtain ⟨e, hj⟩ := plc_some hf
    rw [e]
    simp only [ile_nat, ilt_len hj, cond_true, hget]
    generalize h.2.2.2.1.getD j noH = x
    by_cases hx : now < x.2.2.1
    · rw [ilt_t.2 hx, if_pos hx]; rfl
    · rw [ilt_f.2 (by omega), if_neg hx]; rfl
theorem ref17Turns_eq (h : Hs) (id : Id) (now : Int) (hl : h.2.2.2.1.length ≤ 1000) : oref17Turns ((h, id, now, ()), ()) = some ((turnsM h id now, ()), ()) := by
  rw [oref17Turns_eq, bref17Turns]
  simp only [ref17Hinted_eq h _ hl, bS_some, turnsM]
  cases hf : h.2.2.2.1.findIdx? (isH id) with
  | none =>
    rw [plc_none hf]; rfl
  | some j =>
    obtain ⟨e, hj⟩ := plc_some hf
    rw [e]
    simp only [ile_nat, ilt_len hj, cond_true, hget]
    generalize h.2.2.2.1.getD j noH = x
    by_cases hx : now < x.2.2.1
    · rw [ilt_t.2 hx, if_pos hx]; rfl
    · rw [ilt_f.2 (by omega), if_neg hx]; rfl
def itselfM (h : Hs) : Ent := (2, Id.zero, h.1, ())
theorem hostItself_eq (h : Hs) : ohostItself ((h, ()), ()) = some ((itselfM h, ()), ()) := by rw [ohostItself_eq, bhostItself]; rfl
theorem ref17Itself_eq (h : Hs) : oref17Itself ((h, ()), ()) = some ((itselfM h, ()), ()) := by rw [oref17Itself_eq, bref17Itself]; rfl
noncomputable def askM (h : Hs) (now : Int) (w : Wn) : Sn := (turnsM h w.1 now, (2, w.1, itselfM h, [], w.2.1, [], [], ()), noT, ())
theorem hostAsk_eq (h : Hs) (now : Int) (hl : okL h) : ohostAsk ((h, now, ()), ()) = some (if rightH h = true ∧ timeOk now = true then (h.2.2.1.map (askM h now), 0, ()) else ([], 1, ()), ()) := by
  rw [ohostAsk_eq, bhostAsk]
  simp only [hostRight_eq h hl, time_eq, bS_some, whostAskx5_eq]
  have hw := whl_up (g := rhostAskx5) (fun k => ((now, (), (h.2.2.1.take k).map (askM h now), h.2.2.1, dlen h.2.2.1, (k : Int), ()), h, (), ())) (.inl ((h.2.2.1.map (askM h now), ()), ())) h.2.2.1.length
    (by simp only [rhostAskx5, bifF (ilt_len' (xs := h.2.2.1) (Nat.le_refl _)), List.take_length])
    (fun k hk => by
      have hl1 := hl.1
      simp only [rhostAskx5, bifT (ilt_len hk), bifT ile_nat, wget, hostTurns_eq h _ now hl.2.1, hostItself_eq, bS_some, inc_nat (show k < 4611686018427387904 by omega)]
      rw [fits1 _ 248 (by rw [List.length_map, List.length_take]; omega) (by rw [List.length_map, List.length_take]; omega), take_getD (d := noW) hk, List.map_append]
      rfl) h.2.2.1.length 0 (by omega)
  have hw : whl rhostAskx5 ((now, (), [], h.2.2.1, dlen h.2.2.1, 0, ()), h, (), ()) = _ := hw
  rw [hw]
  cases rightH h with
  | false => rfl
  | true => cases timeOk now <;> rfl
theorem ref17Ask_eq (h : Hs) (now : Int) (hl : okL h) : oref17Ask ((h, now, ()), ()) = some ((h.2.2.1.map (askM h now), ()), ()) := by
  rw [oref17Ask_eq, bref17Ask]
  simp only [wref17Askx3_eq]
  have hw := whl_up (g := rref17Askx3) (fun k => ((now, (), (h.2.2.1.take k).map (askM h now), h.2.2.1, dlen h.2.2.1, (k : Int), ()), h, (), ())) (.inl ((h.2.2.1.map (askM h now), ()), (), ())) h.2.2.1.length
    (by simp only [rref17Askx3, bifF (ilt_len' (xs := h.2.2.1) (Nat.le_refl _)), List.take_length])
    (fun k hk => by
      have hl1 := hl.1
      simp only [rref17Askx3, bifT (ilt_len hk), bifT ile_nat, wget, ref17Turns_eq h _ now hl.2.1, ref17Itself_eq, bS_some, inc_nat (show k < 4611686018427387904 by omega)]
      rw [fits1 _ 248 (by rw [List.length_map, List.length_take]; omega) (by rw [List.length_map, List.length_take]; omega), take_getD (d := noW) hk, List.map_append]
      rfl) h.2.2.1.length 0 (by omega)
  have hw : whl rref17Askx3 ((now, (), [], h.2.2.1, dlen h.2.2.1, 0, ()), h, (), ()) = _ := hw
  rw [hw]; rfl
theorem ent0 (l : List Ent) : dget ((Ty.int IntKind.i64).pair (Ty.id.pair ((Ty.int IntKind.i64).pair Ty.unit))) l 0 = l.getD 0 noE := entget l 0
theorem in0 {α : Type} (l : List α) (h : 1 ≤ l.length) : (bif ile 0 0 then ilt 0 (dlen l) else false) = true := by
  have e1 : ile 0 0 = true := rfl
  have e2 : ilt 0 (dlen l) = true := by rw [ilt_t, dlen_eq]; omega
  simp only [e1, e2, cond_true]
theorem rightS_len {l : List Ent} (h : rightS l = true) : 1 ≤ l.length ∧ l.length ≤ 4 ∧ l.all isE = true := by
  unfold rightS at h
  simpa [and_assoc] using h
noncomputable def sendM (h : Hs) (l : List Ent) (d : List UInt8) (now : Int) : Sn := (if (l.getD 0 noE).1 = 1 then turnsM h (l.getD 0 noE).2.1 now else h.2.1, (1, Id.zero, noE, l, 64, [], d, ()), noT, ())
theorem hostSend_eq (h : Hs) (l : List Ent) (d : List UInt8) (now : Int) (hl : okL h) (hll : l.length ≤ 1000) : ohostSend ((h, l, d, now, ()), ()) =
    some (if rightH h = true ∧ timeOk now = true then (if rightS l = true then (if 64 < d.length then (noS, 2, ()) else (sendM h l d now, 0, ())) else (noS, 1, ())) else (noS, 1, ()), ()) := by
  rw [ohostSend_eq, bhostSend]
  simp only [hostRight_eq h hl, time_eq, bS_some, stackRight_eq l (by omega)]
  cases rightH h with
  | false => rfl
  | true =>
    cases timeOk now with
    | false => rfl
    | true =>
      cases hs : rightS l with
      | false => rfl
      | true =>
        obtain ⟨l1, _, _⟩ := rightS_len hs
        simp only [and_self, if_true, cond_true, cond_false, in0 l l1, ent0]
        by_cases hd : 64 < d.length
        · have e : ilt 64 (dlen d) = true := by rw [ilt_t, dlen_eq]; omega
          rw [e, if_pos hd]; rfl
        · have e : ilt 64 (dlen d) = false := by rw [ilt_f, dlen_eq]; omega
          rw [e, if_neg hd]
          simp only [cond_false, hostTurns_eq h _ now hl.2.1, bS_some, sendM]
          by_cases hk : (l.getD 0 noE).1 = 1
          · rw [ieq_t.2 hk, if_pos hk]; rfl
          · rw [ieq_f.2 hk, if_neg hk]; rfl
theorem ref17Send_eq (h : Hs) (l : List Ent) (d : List UInt8) (now : Int) (hl : okL h) (hs : rightS l = true) : oref17Send ((h, l, d, now, ()), ()) = some ((sendM h l d now, ()), ()) := by
  obtain ⟨l1, _, _⟩ := rightS_len hs
  rw [oref17Send_eq, bref17Send]
  simp only [in0 l l1, ent0, cond_true, ref17Turns_eq h _ now hl.2.1, bS_some, sendM]
  by_cases hk : (l.getD 0 noE).1 = 1
  · rw [ieq_t.2 hk, if_pos hk]; rfl
  · rw [ieq_f.2 hk, if_neg hk]; rfl
theorem like_self (m : Mg) (h : m.2.2.2.1.length ≤ 1000) : oref05Like ((m, m, ()), ()) = some ((true, ()), ()) := by
  rw [oref05Like_eq, bref05Like]
  simp only [ieq_s, ideq_s, seq_s, cond_true, ref04Same_eq _ _ (show m.2.2.2.1.length ≤ 4611686018427387903 by omega), bS_some, decide_true]
theorem sends_self (l : List Sn) (hl : l.length ≤ 1000) (hs : ∀ s ∈ l, s.2.1.2.2.2.1.length ≤ 1000) : oref16Sends ((l, l, ()), ()) = some ((true, ()), ()) := by
  rw [oref16Sends_eq, bref16Sends]
  simp only [ieq_s, cond_true, cond_false, wref16Sendsx4_eq]
  have hw := whl_up (g := rref16Sendsx4) (fun k => ((l, l, dlen l, (k : Int), ()), ())) (.inr (.inl ((), ()))) l.length
    (by simp only [rref16Sendsx4, bifF (ilt_len' (xs := l) (Nat.le_refl _))])
    (fun k hk => by
      have hv := hs _ (mem_getD (d := noS) hk)
      simp only [rref16Sendsx4, bifT (ilt_len hk), bifT ile_nat, snget, ieq_s, ideq_s, cond_true, cond_false, inc_nat (show k < 4611686018427387904 by omega)]
      rw [like_self _ hv]
      simp only [bS_some, cond_true, cond_false]) l.length 0 (by omega)
  have hw : whl rref16Sendsx4 ((l, l, dlen l, 0, ()), ()) = _ := hw
  rw [hw]; rfl
theorem ask_lens (h : Hs) (now : Int) : ∀ s ∈ h.2.2.1.map (askM h now), s.2.1.2.2.2.1.length ≤ 1000 := by
  intro s hs
  obtain ⟨w, _, rfl⟩ := List.mem_map.1 hs
  show ([] : List Ent).length ≤ 1000
  simp

/-- the beginning of a host -/
def fewH (h : Hs) : Hs := (h.1, h.2.1, h.2.2.1.take 10, h.2.2.2.1.take 10, (h.2.2.2.2.1.take 34).map (fun s => s.take 70), ())
theorem fewH_ok (h : Hs) : okL (fewH h) := by
  refine ⟨?_, ?_, ?_⟩
  · show (h.2.2.1.take 10).length ≤ 1000; rw [List.length_take]; omega
  · show (h.2.2.2.1.take 10).length ≤ 1000; rw [List.length_take]; omega
  · show ((h.2.2.2.2.1.take 34).map (fun s => s.take 70)).length ≤ 1000; rw [List.length_map, List.length_take]; omega
theorem few_eq (h : Hs) : olaw17Few ((h, ()), ()) = some ((fewH h, ()), ()) := by
  rw [olaw17Few_eq, blaw17Few]
  have i1 : imin (dlen h.2.2.1) 10 = _ := imin_len h.2.2.1 10
  have i2 : imin (dlen h.2.2.2.1) 10 = _ := imin_len h.2.2.2.1 10
  have i3 : imin (dlen h.2.2.2.2.1) 34 = _ := imin_len h.2.2.2.2.1 34
  have e : ∀ n : Nat, ile 0 (n : Int) = true := fun n => ile_nat
  simp only [i1, i2, i3, ile00, e, ile_min, dsub_min, cond_true, wlaw17Fewx3_eq]
  have hl : (h.2.2.2.2.1.take 34).length ≤ 34 := by rw [List.length_take]; omega
  unfold fewH
  generalize h.2.2.2.2.1.take 34 = l at *
  have hw := whl_up (g := rlaw17Fewx3) (fun k => (((), (), l, dlen l, (k : Int), ()), (0, 0, (), (), (), ()), (h.1, h.2.1, h.2.2.1.take 10, h.2.2.2.1.take 10, (l.take k).map (fun s => s.take 70), ()), (), ())) (.inl (((), (), ()), (0, 0, (), (), (), ()), (h.1, h.2.1, h.2.2.1.take 10, h.2.2.2.1.take 10, l.map (fun s => s.take 70), ()), ())) l.length
    (by simp only [rlaw17Fewx3, bifF (ilt_len' (xs := l) (Nat.le_refl _)), List.take_length])
    (fun k hk => by
      have i4 : imin (dlen (l.getD k [])) 70 = _ := imin_len (l.getD k []) 70
      simp only [rlaw17Fewx3, bifT (ilt_len hk), bifT ile_nat, strget, i4, ile00, e, ile_min, dsub_min, cond_true, inc_nat (show k < 4611686018427387904 by omega)]
      rw [fits1 _ 16 (by rw [List.length_map, List.length_take]; omega) (by rw [List.length_map, List.length_take]; omega), take_getD (d := []) hk, List.map_append]
      rfl) l.length 0 (by omega)
  have hw : whl rlaw17Fewx3 (((), (), l, dlen l, 0, ()), (0, 0, (), (), (), ()), (h.1, h.2.1, h.2.2.1.take 10, h.2.2.2.1.take 10, [], ()), (), ()) = _ := hw
  rw [hw]; rfl
theorem clip_eq (l : List Wn) : oslicesClip ((l, ()), ()) = some ((l, ()), (), ()) := by
  rw [oslicesClip_eq, bslicesClip]
  simp only [ieq_s, cond_true]
theorem new_eq (a b : Int) (ha : noOk a = true) (hb : noOk b = true) : ohostNew ((a, b, ()), ()) = some (((a, b, [], [], [], ()), 0, ()), ()) := by
  rw [ohostNew_eq, bhostNew]
  simp only [number_eq, ha, hb, bS_some, cond_true, cond_false]
theorem alive17 : olaw17Alive ((), ()) = some ((true, ()), ()) := by
  rw [olaw17Alive_eq, blaw17Alive]
  have r0 : rightH (3, 1, [], [], [], ()) = true := by simp [rightH, anyN, noOk]
  have ok0 : okL (3, 1, [], [], [], ()) := ⟨by simp, by simp, by simp⟩
  generalize idset Id.zero 0 (iu8 7) = i7
  have r1 : rightH (3, 1, [(i7, 5, ())], [], [], ()) = true := by
    have : plc (isW i7) [(i7, 5, ())] = 0 := by simp [plc, isW, List.findIdx?_cons]
    simp [rightH, anyN, noOk, badW, lifeBad, this]
  have ok1 : okL (3, 1, [(i7, 5, ())], [], [], ()) := ⟨by simp, by simp, by simp⟩
  have hwant : ohostWant (((3, 1, [], [], [], ()), i7, 5, ()), ()) = some (((3, 1, [(i7, 5, ())], [], [], ()), 0, ()), ()) := by
    rw [ohostWant_eq, bhostWant]
    simp only [hostRight_eq _ ok0, r0, bS_some, hostWants_eq _ ok0.1, clip_eq]
    rw [show List.map keyW [] = [] from rfl, atW_eq [] i7 (by simp)]
    rfl
  simp only [new_eq 3 1 rfl rfl, bS_some, hwant, hostAsk_eq _ _ ok1, r1]
  rfl
theorem timeOk_f (now : Int) : (now < 0 ∨ 1099511627776 < now) ↔ timeOk now = false := by
  unfold timeOk
  rw [Bool.and_eq_false_iff]
  simp only [decide_eq_false_iff_not]
  omega
theorem sends17 (h : Hs) (l : List Ent) (d : List UInt8) (now : Int) : olaw17HostSends ((h, l, d, now, ()), ()) = some ((true, ()), ()) := by
  rw [olaw17HostSends_eq, blaw17HostSends]
  have i1 : imin (dlen l) 6 = _ := imin_len l 6
  have i2 : imin (dlen d) 70 = _ := imin_len d 70
  have e : ∀ n : Nat, ile 0 (n : Int) = true := fun n => ile_nat
  have hok := fewH_ok h
  have hl : (l.take 6).length ≤ 6 := by rw [List.length_take]; omega
  simp only [i1, i2, ile00, e, ile_min, dsub_min, cond_true, few_eq, bS_some, alive17]
  generalize fewH h = h at *
  generalize l.take 6 = l at *
  generalize d.take 70 = d at *
  have hn : oref16Sends (([noS], [noS], ()), ()) = some ((true, ()), ()) := sends_self [noS] (by simp) (by simp [noS, noM])
  have hn : oref16Sends (([noS], [(0, (0, Id.zero, (0, Id.zero, 0, ()), [], 0, [], [], ()), (Id.zero, (0, Id.zero, 0, ()), 0, ()), ())], ()), ()) = some ((true, ()), ()) := hn
  simp only [hostAsk_eq h now hok, hostSend_eq h l d now hok (by omega), ref17Right_eq h hok, bS_some, cond_false, cond_true]
  cases hr : rightH h with
  | false => simp only [Bool.false_eq_true, false_and, if_false, ieq_s, cond_true, cond_false, hn, bS_some]; rfl
  | true =>
    cases ht : timeOk now with
    | false =>
      simp only [Bool.false_eq_true, and_false, if_false, ieq_s, cond_true, cond_false, hn, bS_some]
      rcases (timeOk_f now).2 ht with h1 | h1
      · rw [ilt_t.2 h1]; rfl
      · rw [ilt_f.2 (show (0 : Int) ≤ now by omega), ilt_t.2 h1]; rfl
    | true =>
      have hnot : ¬ (now < 0 ∨ 1099511627776 < now) := fun hh => by rw [(timeOk_f now).1 hh] at ht; cases ht
      have t1 : ilt now 0 = false := ilt_f.2 (by omega)
      have t2 : ilt 1099511627776 now = false := ilt_f.2 (by omega)
      have hlm : (h.2.2.1.map (askM h now)).length ≤ 1000 := by rw [List.length_map]; exact hok.1
      simp only [and_self, if_true, t1, t2, ieq_s, cond_true, cond_false, ref17Ask_eq h now hok, bS_some, sends_self _ hlm (ask_lens h now), ref04Right_eq l (by omega)]
      cases hs : rightS l with
      | false => simp only [Bool.false_eq_true, if_false, ieq_s, cond_true, cond_false, hn, bS_some]
      | true =>
        obtain ⟨l1, l2, _⟩ := rightS_len hs
        simp only [if_true, cond_true, cond_false]
        by_cases hd : 64 < d.length
        · have e64 : ilt 64 (dlen d) = true := by rw [ilt_t, dlen_eq]; omega
          simp only [hd, if_true, e64, cond_true, ieq_s, hn, bS_some]
        · have e64 : ilt 64 (dlen d) = false := by rw [ilt_f, dlen_eq]; omega
          simp only [hd, if_false, e64, cond_false, cond_true, ieq_s, ref17Send_eq h l d now hok hs, bS_some]
          rw [sends_self [sendM h l d now] (by simp) (by
            intro s hs2
            simp only [List.mem_singleton] at hs2
            subst hs2
            show l.length ≤ 1000
            omega)]
          rfl

end Am
end Go.Proofs.Ytdicedlgaknkoaa
