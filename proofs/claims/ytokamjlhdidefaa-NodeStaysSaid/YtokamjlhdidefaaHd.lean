/-
  slices.Clone and slices.Delete, walked by hand (printed by mkhd.py).
-/
import Derived.Test.YtokamjlhdidefaaHg
import Derived.Test.YtokamjlhdidefaaProg
import Derived.WalkKit
import Derived.Deep.LoopGhost
import Derived.Deep.RegionLaw
import Derived.Lib.Walk
import Derived.Lib.SliceRun
import Derived.Shelf.RegionOpenPlain
namespace Go.Proofs.Ytokamjlhdidefaa
namespace Am
open Go Go.RowKit Go.Lib


set_option maxHeartbeats 2000000 in
set_option maxRecDepth 100000 in
theorem clone49 : CloneOk Try.prog 49 (.pair (.int .i64) (.pair .id .unit)) 25 := by
  intro C w base xs cap cs hcs hlim hnil hat
  obtain ⟨i0, z, hi, hz0, hzc, hz1, _⟩ := zeroOk_spec (show zeroOk Try.prog 25 (.pair (.int .i64) (.pair .id .unit)) = true by kernel_rfl)
  have hby : i0.bytes = 40 := by
    have : (Try.prog.info? 25).map (fun j => j.bytes) = some 40 := by kernel_rfl
    rw [hi] at this; exact Option.some.inj this
  have q : ∀ (w : World) (a : Option Addr) (n c n' c' : Nat), (binOp .eql 26 (.slice a n c) (.slice none n' c')).run Try.prog w = .ok (.bool a.isNone) w := fun w a n c n' c' => Lib.run_eql_slice_nil w _ _ a n c n' c' Try.underlying26
  have hzn : z.cells.size = 33 := by rw [← Array.length_toList, hzc]; rfl
  have hl := hcs.1
  have h1 := hcs.2.1
  cases base with
  | none =>
    have := hnil rfl
    subst this
    have hc0 : cs = [] := by simpa using hl
    subst hc0
    refine (show Calls Try.prog 49 #[.slice none 0 cap] w (fun ex w' => ex = .returned (.slice none 0 0) ∧ w' = w) from ?_).mono ?_
    · clear hat hcs
      go_enter Try.func49, Try.ntmps49
      go_wp2
      go_ret
      exact ⟨rfl, rfl⟩
    · rintro ex w' ⟨rfl, rfl⟩
      exact ⟨_, rfl, Below.refl _ _, by simp, .inl ⟨rfl, rfl⟩⟩
  | some ad =>
    have A : Aside (∀ j u, cs[j]? = some u → w.cell? (ad.add j) = some u) := hat ad rfl
    have hl' : cs.length = xs.length * 33 := hl
    generalize xs.length = n at *
    clear hat hnil hcs
    go_enter Try.func49, Try.ntmps49
    go_wp2_with (at_builtin; refine wpList_append_own _ rfl _ _ 26 rfl w.heap.size 25 i0 z 33 40 Try.underlying26 hi hz0 hz1 hby hzn (by decide) _ _ _ rfl (World.ownsRow_made w #[] 0 (Nat.le_refl _) (Nat.zero_le _) rfl) ad n cap cs rfl hl' ?qc2 h1 ?qc4 ?qc5 ?qc6 ?_)
    case qc2 =>
      intro j u hj
      exact Lib.cell?_alloc_some _ (A.out j u hj)
    case qc4 => unfold maxLen; omega
    case qc5 => omega
    case qc6 => simp
    intro v' w1 hown hgrow hnil
    go_wp2
    go_ret
    refine ⟨v', rfl, ?_, (show w1.ownsRow w.heap.size 25 33 v' n cs by simpa using hown)⟩
    exact ((Below.refl _ w).alloc (Nat.le_refl _) _).grown hgrow (by simp) (by intro k hk; simp [Value.ownBlock] at hk; omega)

end Am
end Go.Proofs.Ytokamjlhdidefaa
