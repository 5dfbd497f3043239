/-
  Hosts: wants; the law.
-/
import Derived.Test.YtdicedlgaknkoaaHr
namespace Go.Proofs.Ytdicedlgaknkoaa
namespace Am
open Go Go.RowKit
set_option linter.unusedVariables false
set_option linter.unusedSimpArgs false
set_option maxRecDepth 10000

def newM (a b : Int) : Hs × Int × Unit := if (noOk a && noOk b) = true then ((a, b, [], [], [], ()), 0, ()) else (zeroH, 1, ())
theorem newM_eq (a b : Int) : ohostNew ((a, b, ()), ()) = some (newM a b, ()) := by
  rw [ohostNew_eq, bhostNew]
  simp only [number_eq, bS_some]
  unfold newM
  cases noOk a <;> cases noOk b <;> rfl
def moreH (h : Hs) (id : Id) (life : Int) : Hs := (h.1, h.2.1, h.2.2.1 ++ [(id, life, ())], h.2.2.2)
def wantM (h : Hs) (id : Id) (life : Int) : Hs × Int × Unit :=
  if rightH h = true ∧ 1 ≤ life ∧ life ≤ 1048576 then (if 0 ≤ plc (isW id) h.2.2.1 then (zeroH, 7, ()) else if h.2.2.1.length = 8 then (zeroH, 8, ()) else (moreH h id life, 0, ())) else (zeroH, 1, ())
theorem hostWant_eq (h : Hs) (id : Id) (life : Int) (hl : okL h) : ohostWant ((h, id, life, ()), ()) = some (wantM h id life, ()) := by
  rw [ohostWant_eq, bhostWant]
  simp only [hostRight_eq h hl, bS_some, hostWants_eq h hl.1]
  rw [atW_eq _ _ (by rw [List.length_map]; exact hl.1), plcW]
  simp only [bS_some]
  unfold wantM
  cases hr : rightH h with
  | false => rfl
  | true =>
    by_cases h1 : life < 1
    · rw [if_neg (by omega)]
      simp only [ilt_t.2 h1, cond_true, cond_false]
      rfl
    · by_cases h2 : 1048576 < life
      · rw [if_neg (by omega)]
        simp only [ilt_f.2 (show 1 ≤ life by omega), ilt_t.2 h2, cond_true, cond_false]
        rfl
      · rw [if_pos ⟨rfl, by omega, by omega⟩]
        simp only [ilt_f.2 (show 1 ≤ life by omega), ilt_f.2 (show life ≤ 1048576 by omega), cond_true, cond_false]
        by_cases h3 : 0 ≤ plc (isW id) h.2.2.1
        · rw [ile_t.2 h3, if_pos h3]; rfl
        · rw [ile_f.2 (by omega), if_neg h3]
          have e8 : ieq (dlen h.2.2.1) 8 = decide (h.2.2.1.length = 8) := by rw [ieq_d, dlen_eq]; congr 1; rw [eq_iff_iff]; omega
          simp only [cond_false, e8]
          by_cases h4 : h.2.2.1.length = 8
          · simp only [h4, decide_true, cond_true, if_true]
            rfl
          · have := hl.1
            simp only [h4, decide_false, cond_false, if_false, clip_eq, bS_some]
            rw [fits1 _ 40 (by omega) (by omega)]
            rfl
def unwantM (h : Hs) (id : Id) : Hs × Int × Unit := if rightH h = true then (match h.2.2.1.findIdx? (isW id) with | some j => (lessH h j, 0, ()) | none => (zeroH, 6, ())) else (zeroH, 1, ())
theorem unwantM_eq (h : Hs) (id : Id) (hl : okL h) : ohostUnwant ((h, id, ()), ()) = some (unwantM h id, ()) := by
  cases hr : rightH h with
  | true =>
    rw [hostUnwant_eq h id hl hr]
    unfold unwantM
    rw [if_pos hr]
    cases h.2.2.1.findIdx? (isW id) <;> rfl
  | false =>
    rw [ohostUnwant_eq, bhostUnwant]
    simp only [hostRight_eq h hl, bS_some]
    unfold unwantM
    rw [hr]
    rfl
theorem zero_like : oref17Like ((zeroH, (0, 0, [], [], [], ()), ()), ()) = some ((true, ()), ()) := likeH_self zeroH zeroH_ok
theorem beq_s (c : Bool) : beq c c = true := by cases c <;> rfl
theorem w31 (x : Hs) (hx : okL x) : wlaw17HostWantsx1000031 (((), 0, (), ()), x, x, (), ()) = some (.inl ((true, ()), ())) := by
  obtain ⟨x1, x2, x3, x4, x5, ⟨⟩⟩ := x
  rw [wlaw17HostWantsx1000031_eq]
  simp only [rlaw17HostWantsx1000031, ieq_s, likeH_self _ hx, isS_some, getS_some, isB_some, getB_some, cond_true]
theorem w25 (h : Hs) (hl : okL h) (x y : Hs × Int × Unit) (at' bad : Int) (more : Hs) (id : Id) (hx1 : x.2.1 = bad) (hx2 : if bad = 0 then x.1 = more else x.1 = zeroH) (hm : okL more)
    (hy : match h.2.2.1.findIdx? (isW id) with | some j => y = (lessH h j, 0, ()) ∧ at' = (j : Int) | none => y = (zeroH, 6, ()) ∧ at' = -1) :
    wlaw17HostWantsx1000025 (((), (), x.2.1, (), y.2.1, (), at', bad, (), ()), h, x.1, y.1, (0, 0, (), (), (), ()), more, (), ()) = some (.inl ((true, ()), ())) := by
  obtain ⟨m1, m2, m3, m4, m5, ⟨⟩⟩ := more
  rw [wlaw17HostWantsx1000025_eq, hx1]
  have hl1 := hl.1
  simp only [rlaw17HostWantsx1000025, ieq_s, cond_true, cond_false]
  have hc : isB (bif bif ieq bad 0 then false else true then bif isS (oref17Like ((x.1, (0, 0, [], [], [], ()), ()), ())) then bif bif bif (getS (oref17Like ((x.1, (0, 0, [], [], [], ()), ()), ()))).1.1 then false else true then false else true then bif ieq bad 0 then bif isS (oref17Like ((x.1, (m1, m2, m3, m4, m5, ()), ()), ())) then some (bif (getS (oref17Like ((x.1, (m1, m2, m3, m4, m5, ()), ()), ()))).1.1 then false else true) else none else some false else some true else none else bif ieq bad 0 then bif isS (oref17Like ((x.1, (m1, m2, m3, m4, m5, ()), ()), ())) then some (bif (getS (oref17Like ((x.1, (m1, m2, m3, m4, m5, ()), ()), ()))).1.1 then false else true) else none else some false) = true ∧ getB (bif bif ieq bad 0 then false else true then bif isS (oref17Like ((x.1, (0, 0, [], [], [], ()), ()), ())) then bif bif bif (getS (oref17Like ((x.1, (0, 0, [], [], [], ()), ()), ()))).1.1 then false else true then false else true then bif ieq bad 0 then bif isS (oref17Like ((x.1, (m1, m2, m3, m4, m5, ()), ()), ())) then some (bif (getS (oref17Like ((x.1, (m1, m2, m3, m4, m5, ()), ()), ()))).1.1 then false else true) else none else some false else some true else none else bif ieq bad 0 then bif isS (oref17Like ((x.1, (m1, m2, m3, m4, m5, ()), ()), ())) then some (bif (getS (oref17Like ((x.1, (m1, m2, m3, m4, m5, ()), ()), ()))).1.1 then false else true) else none else some false) = false := by
    by_cases hb : bad = 0
    · rw [if_pos hb] at hx2
      rw [hx2, hb]
      simp only [ieq_s, cond_true, cond_false, likeH_self _ hm, isS_some, getS_some, isB_some, getB_some, and_self]
    · rw [if_neg hb] at hx2
      rw [hx2]
      simp only [ieq_f.2 hb, cond_true, cond_false, zero_like, isS_some, getS_some, isB_some, getB_some, and_self]
  rw [hc.1, hc.2]
  simp only [cond_true, cond_false]
  cases hf : h.2.2.1.findIdx? (isW id) with
  | none =>
    rw [hf] at hy
    obtain ⟨h1, h2⟩ := hy
    have e1 : ilt (-1) 0 = true := rfl
    rw [h1, h2]
    simp only [e1, ieq_s, cond_true, zero_like, isS_some, getS_some, isB_some, getB_some]
  | some j =>
    rw [hf] at hy
    obtain ⟨h1, h2⟩ := hy
    obtain ⟨_, hj⟩ := plc_some hf
    rw [h1, h2]
    have ee : h.2.2.1.take j ++ h.2.2.1.drop (j + 1) = h.2.2.1.eraseIdx j := (List.eraseIdx_eq_take_drop_succ ..).symm
    have s1 : dsub h.2.2.1 0 (j : Int) = h.2.2.1.take j := by rw [show (0 : Int) = ((0 : Nat) : Int) from rfl, dsub_eq]; simp
    have s2 : dsub h.2.2.1 ((j + 1 : Nat) : Int) (dlen h.2.2.1) = h.2.2.1.drop (j + 1) := by
      rw [dlen_eq, dsub_eq, List.take_of_length_le]
      rw [List.length_drop]; omega
    have f1 : fits 0 (dlen (h.2.2.1.take j)) 40 = true := by
      have := fits_of (xs := ([] : List Wn)) (ys := h.2.2.1.take j) (b := 40) (by simp; omega) (by simp; omega)
      exact this
    have f2 : fits (dlen (h.2.2.1.take j)) (dlen (h.2.2.1.drop (j + 1))) 40 = true := fits_of (by simp; omega) (by simp; omega)
    have d0 : ∀ y : List Wn, dapp [] y = y := fun _ => rfl
    have d1 : ∀ y z : List Wn, dapp y z = y ++ z := fun _ _ => rfl
    have i0 : ilt (j : Int) 0 = false := ilt_f.2 (by omega)
    have i2 : ile (j : Int) (dlen h.2.2.1) = true := ile_t.2 (by rw [dlen_eq]; omega)
    have i3 : ile ((j + 1 : Nat) : Int) (dlen h.2.2.1) = true := ile_t.2 (by rw [dlen_eq]; omega)
    have i4 : ile (dlen h.2.2.1) (dlen h.2.2.1) = true := ile_t.2 (Int.le_refl _)
    have i5 : ile 0 0 = true := rfl
    have hle : okL (lessH h j) := ⟨Nat.le_trans (List.length_eraseIdx_le ..) hl.1, hl.2.1, hl.2.2⟩
    have h31 : wlaw17HostWantsx1000031 (((), 0, (), ()), lessH h j, (h.1, h.2.1, h.2.2.1.eraseIdx j, h.2.2.2), (), ()) = some (.inl ((true, ()), ())) := w31 (lessH h j) hle
    simp only [i0, cond_false, cond_true, ile_nat, i2, i5, inc_nat (show j < 4611686018427387904 by omega), i3, i4, s1, s2, f1, d0, f2, d1, ee, h31, bL_inl]
theorem w23 (h : Hs) (hl : okL h) (x y : Hs × Int × Unit) (life at' bad : Int) (id : Id) (hx1 : x.2.1 = bad) (hx2 : if bad = 0 then x.1 = moreH h id life else x.1 = zeroH)
    (hl2 : h.2.2.1.length ≤ 900)
    (hy : match h.2.2.1.findIdx? (isW id) with | some j => y = (lessH h j, 0, ()) ∧ at' = (j : Int) | none => y = (zeroH, 6, ()) ∧ at' = -1) :
    wlaw17HostWantsx1000023 ((life, (), (), (), x.2.1, (), y.2.1, (), at', bad, ()), h, id, x.1, y.1, (0, 0, (), (), (), ()), ()) = some (.inl ((true, ()), ())) := by
  rw [wlaw17HostWantsx1000023_eq]
  have hl1 := hl.1
  have f0 : fits 0 (dlen h.2.2.1) 40 = true := by
    have := fits_of (xs := ([] : List Wn)) (ys := h.2.2.1) (b := 40) (by simp; omega) (by simp; omega)
    exact this
  have f1 : fits (dlen h.2.2.1) (1 : Int) 40 = true := fits1 _ 40 (by omega) (by omega)
  have d0 : ∀ y : List Wn, dapp [] y = y := fun _ => rfl
  have d1 : ∀ y z : List Wn, dapp y z = y ++ z := fun _ _ => rfl
  have hm : okL (moreH h id life) := ⟨by show (h.2.2.1 ++ [_]).length ≤ 1000; simp; omega, hl.2.1, hl.2.2⟩
  have h25 : wlaw17HostWantsx1000025 (((), (), x.2.1, (), y.2.1, (), at', bad, (), ()), h, x.1, y.1, (0, 0, (), (), (), ()), (h.1, h.2.1, h.2.2.1 ++ [(id, life, ())], h.2.2.2), (), ()) = some (.inl ((true, ()), ())) := w25 h hl x y at' bad (moreH h id life) id hx1 hx2 hm hy
  simp only [rlaw17HostWantsx1000023, f0, d0, f1, d1, cond_true, h25, bL_inl]
theorem w11 (h : Hs) (hl : okL h) (hl2 : h.2.2.1.length ≤ 900) (life : Int) (id : Id) :
    wlaw17HostWantsx1000011 ((life, (), (), (), (wantM h id life).2.1, (), (unwantM h id).2.1, (), ()), h, id, (wantM h id life).1, (unwantM h id).1, (0, 0, (), (), (), ()), ()) = some (.inl ((true, ()), ())) := by
  rw [wlaw17HostWantsx1000011_eq]
  simp only [rlaw17HostWantsx1000011, hostRight_eq h hl, ref17Right_eq h hl, alive17, isS_some, getS_some, beq_s, cond_true, cond_false, isB_some, getB_some, bS_some, ref17Wanted_eq h _ hl.1]
  cases hr : rightH h with
  | false =>
    have e1 : wantM h id life = (zeroH, 1, ()) := by unfold wantM; rw [hr]; rfl
    have e2 : unwantM h id = (zeroH, 1, ()) := by unfold unwantM; rw [hr]; rfl
    simp only [e1, e2, ieq_s, cond_true, cond_false, zero_like, isS_some, getS_some, isB_some, getB_some]
  | true =>
    have hy : match h.2.2.1.findIdx? (isW id) with | some j => unwantM h id = (lessH h j, 0, ()) ∧ plc (isW id) h.2.2.1 = (j : Int) | none => unwantM h id = (zeroH, 6, ()) ∧ plc (isW id) h.2.2.1 = -1 := by
      unfold unwantM
      rw [if_pos hr]
      cases hf : h.2.2.1.findIdx? (isW id) with
      | none => exact ⟨rfl, plc_none hf⟩
      | some j => exact ⟨rfl, (plc_some hf).1⟩
    have hc : isB (bif bif ilt life 1 then false else true then some (ilt 1048576 life) else some true) = true ∧ getB (bif bif ilt life 1 then false else true then some (ilt 1048576 life) else some true) = !decide (1 ≤ life ∧ life ≤ 1048576) := by
      simp only [ilt_eq]
      by_cases h1 : life < 1
      · simp [h1, show ¬ (1 ≤ life) by omega, isB, getB]
      · by_cases h2 : 1048576 < life
        · simp [h1, h2, show ¬ (life ≤ 1048576) by omega, isB, getB]
        · simp [h1, h2, show 1 ≤ life by omega, show life ≤ 1048576 by omega, isB, getB]
    rw [hc.1, hc.2]
    have e8 : ieq (dlen h.2.2.1) 8 = decide (h.2.2.1.length = 8) := by rw [ieq_d, dlen_eq]; congr 1; rw [eq_iff_iff]; omega
    simp only [cond_true, cond_false, e8, ile_eq]
    by_cases h1 : 1 ≤ life ∧ life ≤ 1048576
    · have hw : wantM h id life = if 0 ≤ plc (isW id) h.2.2.1 then (zeroH, 7, ()) else if h.2.2.1.length = 8 then (zeroH, 8, ()) else (moreH h id life, 0, ()) := by
        unfold wantM; rw [if_pos ⟨hr, h1⟩]
      simp only [h1, and_self, decide_true, Bool.not_true, cond_false]
      by_cases h3 : 0 ≤ plc (isW id) h.2.2.1
      · rw [if_pos h3] at hw
        simp only [h3, decide_true, cond_true]
        rw [w23 h hl (wantM h id life) (unwantM h id) life _ 7 id (by rw [hw]) (by rw [hw, if_neg (by decide)]) hl2 hy]
        rfl
      · rw [if_neg h3] at hw
        simp only [h3, decide_false, cond_false]
        by_cases h4 : h.2.2.1.length = 8
        · rw [if_pos h4] at hw
          simp only [h4, decide_true, cond_true]
          rw [w23 h hl (wantM h id life) (unwantM h id) life _ 8 id (by rw [hw]) (by rw [hw, if_neg (by decide)]) hl2 hy]
          rfl
        · rw [if_neg h4] at hw
          simp only [h4, decide_false, cond_false]
          rw [w23 h hl (wantM h id life) (unwantM h id) life _ 0 id (by rw [hw]) (by rw [hw, if_pos rfl]) hl2 hy]
          rfl
    · have hw : wantM h id life = (zeroH, 1, ()) := by unfold wantM; rw [if_neg (fun hh => h1 hh.2)]
      rw [decide_eq_false h1]
      simp only [Bool.not_false, cond_true]
      rw [w23 h hl (wantM h id life) (unwantM h id) life _ 1 id (by rw [hw]) (by rw [hw, if_neg (by decide)]) hl2 hy]
      rfl
theorem wants17 (h : Hs) (no gate : Int) (id : Id) (life : Int) : olaw17HostWants ((h, no, gate, id, life, ()), ()) = some ((true, ()), ()) := by
  rw [olaw17HostWants_eq, blaw17HostWants]
  have hok := fewH_ok h
  have hl2 : (fewH h).2.2.1.length ≤ 900 := by show (h.2.2.1.take 10).length ≤ 900; rw [List.length_take]; omega
  simp only [few_eq, bS_some]
  generalize fewH h = h at *
  simp only [newM_eq, hostWant_eq h id life hok, unwantM_eq h id hok, bS_some, w11 h hok hl2 life id, bL_inl]
  have hc : isB (bif bif ilt no 0 then false else true then bif bif ilt 15 no then false else true then bif bif ilt gate 0 then false else true then some (ilt 15 gate) else some true else some true else some true) = true ∧ getB (bif bif ilt no 0 then false else true then bif bif ilt 15 no then false else true then bif bif ilt gate 0 then false else true then some (ilt 15 gate) else some true else some true else some true) = !(noOk no && noOk gate) := by
    unfold noOk
    simp only [ilt_eq]
    by_cases a1 : no < 0
    · simp [a1, show ¬ (0 ≤ no) by omega, isB, getB]
    · by_cases a2 : 15 < no
      · simp [a1, a2, show ¬ (no < 16) by omega, isB, getB]
      · by_cases a3 : gate < 0
        · simp [a1, a2, a3, show ¬ (0 ≤ gate) by omega, isB, getB]
        · by_cases a4 : 15 < gate
          · simp [a1, a2, a3, a4, show ¬ (gate < 16) by omega, isB, getB]
          · simp [a1, a2, a3, a4, show (0 ≤ no) by omega, show no < 16 by omega, show 0 ≤ gate by omega, show gate < 16 by omega, isB, getB]
  rw [hc.1, hc.2]
  unfold newM
  cases hn : (noOk no && noOk gate) with
  | false =>
    simp only [Bool.not_false, Bool.false_eq_true, if_false, cond_true, cond_false, ieq_s, zero_like, isS_some, getS_some, isB_some, getB_some]
  | true =>
    have hlk : oref17Like (((no, gate, [], [], [], ()), (no, gate, [], [], [], ()), ()), ()) = some ((true, ()), ()) := likeH_self (no, gate, [], [], [], ()) ⟨by simp, by simp, by simp⟩
    simp only [Bool.not_true, if_true, cond_true, cond_false, ieq_s, hlk, isS_some, getS_some, isB_some, getB_some]

end Am
end Go.Proofs.Ytdicedlgaknkoaa
