/-
  The contract of the reference's round.
-/
import Derived.Test.YtnmooegegknmoaaDoorShaTurn
import Derived.StillTailTactics
namespace Go.Proofs.YtnmooegegknmoaaDoor
open Go.RowKit Go.Proofs.Sha

attribute [local go_sem] bits_xor bits_and bits_or add_mod sub_all_mod not_word

set_option maxHeartbeats 2000000 in
set_option maxRecDepth 100000 in
theorem refRound_any (g cap : Nat) (v : H8) (k m : BitVec 32) (w : World) (hv : Eight w g 0 v) :
    Calls Tryd.prog 32 #[.slice (some ⟨g, 0, none⟩) 8 cap, .int .u32 (u32 k), .int .u32 (u32 m)] w fun e w' => ∃ g', e = .returned (.slice (some ⟨g', 0, none⟩) 8 8) ∧ w.heap.size ≤ g' ∧ g' < w'.heap.size ∧ Eight w' g' 0 (v.step k m) ∧ Below w.heap.size w w' := by
  obtain ⟨v0, v1, v2, v3, v4, v5, v6, v7⟩ := v
  obtain ⟨h0, h1, h2, h3, h4, h5, h6, h7⟩ := hv
  simp only [Nat.zero_add] at h0 h1 h2 h3 h4 h5 h6 h7
  go_enter Tryd.func32, Tryd.ntmps32
  go_wp2_with fail
  go_quiet ((go_at_call 31; first | exact refTurn_q2 _ _ _ _ _ _ (by first | exact (rfl : (6 : Int) = ((6 : Nat) : Int)) | exact (rfl : (11 : Int) = ((11 : Nat) : Int)) | exact (rfl : (25 : Int) = ((25 : Nat) : Int))) (by decide) (by decide) | exact refTurn_q _ _ _ _ _ (by first | exact (rfl : (6 : Int) = ((6 : Nat) : Int)) | exact (rfl : (11 : Int) = ((11 : Nat) : Int)) | exact (rfl : (25 : Int) = ((25 : Nat) : Int))) (by decide) (by decide)))
  go_wp2_with fail
  go_quiet (fail)
  go_wp2_with fail
  go_quiet ((go_at_call 31; first | exact refTurn_q2 _ _ _ _ _ _ (by first | exact (rfl : (2 : Int) = ((2 : Nat) : Int)) | exact (rfl : (13 : Int) = ((13 : Nat) : Int)) | exact (rfl : (22 : Int) = ((22 : Nat) : Int))) (by decide) (by decide) | exact refTurn_q _ _ _ _ _ (by first | exact (rfl : (2 : Int) = ((2 : Nat) : Int)) | exact (rfl : (13 : Int) = ((13 : Nat) : Int)) | exact (rfl : (22 : Int) = ((22 : Nat) : Int))) (by decide) (by decide)))
  go_wp2_with fail
  go_quiet (fail)
  go_wp2_with fail
  simp only [World.drewN_drewN]
  generalize hw : World.drewN w _ = w1
  have Q : Eight w1 g 0 ⟨v0, v1, v2, v3, v4, v5, v6, v7⟩ ∧ Below w.heap.size w w1 ∧ w1.heap.size = w.heap.size := by
    subst hw
    refine ⟨⟨?_, ?_, ?_, ?_, ?_, ?_, ?_, ?_⟩, ?_, ?_⟩
    all_goals first | (simp only [World.cell?_drewN, Nat.zero_add]; assumption) | exact ⟨rfl, rfl, rfl, Nat.le_refl _, fun _ _ => rfl⟩ | rfl
  clear hw h0 h1 h2 h3 h4 h5 h6 h7
  obtain ⟨⟨h0, h1, h2, h3, h4, h5, h6, h7⟩, hb, hs⟩ := Q
  simp only [Nat.zero_add] at h0 h1 h2 h3 h4 h5 h6 h7
  go_still_tail 28, (by kernel_rfl)
  change wpList _ _ _ _ _ w1.drew
  have hb2 : Below w.heap.size w w1.drew := hb.drew
  have hs2 : w1.drew.heap.size = w.heap.size := hs
  generalize w1.drew = w2 at hb2 hs2 ⊢
  go_wp2
  go_ret
  refine ⟨w.heap.size, rfl, Nat.le_refl _, by simp; omega, ?_, hb2.alloc (by omega) _⟩
  simp only [Eight, H8.step, H8.t, H8.u, ← ch_or, ← maj_or, big0, big1]
  refine ⟨?_, ?_, ?_, ?_, ?_, ?_, ?_, ?_⟩
  all_goals first | simp [add_mod, ← hs2]; done | simp [add_mod, ← hs2, BitVec.add_assoc]
end Go.Proofs.YtnmooegegknmoaaDoor
