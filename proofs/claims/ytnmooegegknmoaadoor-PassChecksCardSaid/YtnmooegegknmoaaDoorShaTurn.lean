/-
  The contracts of turn, the program's and the reference's.
-/
import Derived.Test.YtnmooegegknmoaaDoorRows
import Derived.Test.YtnmooegegknmoaaDoorShaWord
import Derived.RegionTactic
import Derived.Deep.QuietTactic
import Derived.BigQuiet
namespace Go.Proofs.YtnmooegegknmoaaDoor
open Go.RowKit Go.Proofs.Sha

theorem rot_eq (x : BitVec 32) (n : Nat) : bits BinOp.or IntKind.u32 (u32 x / 2 ^ n) (u32 x * 2 ^ (32 - n) % 4294967296) = u32 (rot x n) := by
  rw [shr_word, shl_word, bits_or]
  rfl

set_option maxHeartbeats 1000000 in
theorem turn_any (x : BitVec 32) (n : Nat) (w : World) (h1 : 1 ≤ n) (h2 : n ≤ 31) :
    Calls Tryd.prog 42 #[.int .u32 (u32 x), .int .i64 n] w fun e w' => e = .returned (.int .u32 (u32 (rot x n))) ∧ ∃ k, w' = w.drewN k := by
  have hn1 : (1 : Int) ≤ (n : Int) := by omega
  have hn2 : (n : Int) ≤ 31 := by omega
  have hx0 := u32_nonneg x
  have hx1 := u32_lt x
  go_enter Tryd.func42, Tryd.ntmps42
  go_wp2_with fail
  go_region
  all_goals go_wp2_with fail
  all_goals go_ret
  all_goals exact ⟨by rw [rot_eq]; rfl, 1, rfl⟩

set_option maxHeartbeats 1000000 in
theorem refTurn_any (x : BitVec 32) (n : Nat) (w : World) (h1 : 1 ≤ n) (h2 : n ≤ 31) :
    Calls Tryd.prog 31 #[.int .u32 (u32 x), .int .u64 n] w fun e w' => e = .returned (.int .u32 (u32 (rot x n))) ∧ ∃ k, w' = w.drewN k := by
  have hn1 : (1 : Int) ≤ (n : Int) := by omega
  have hn2 : (n : Int) ≤ 31 := by omega
  have hx0 := u32_nonneg x
  have hx1 := u32_lt x
  go_enter Tryd.func31, Tryd.ntmps31
  go_wp2_with fail
  go_ret
  exact ⟨by rw [rot_eq]; rfl, 0, rfl⟩

theorem turn_q (x : BitVec 32) (m : Int) (n : Nat) (w : World) (k : Nat) (hm : m = (n : Int)) (h1 : 1 ≤ n) (h2 : n ≤ 31) :
    Calls Tryd.prog 42 #[.int .u32 (u32 x), .int .i64 m] (w.drewN k) fun e w'' => e = .returned (.int .u32 (u32 (rot x n))) ∧ ∃ i, w'' = w.drewN i := by
  subst hm
  refine (turn_any x n (w.drewN k) h1 h2).mono ?_
  rintro e w' ⟨h, i, rfl⟩
  exact ⟨h, k + i, by rw [World.drewN_drewN]⟩
theorem refTurn_q (x : BitVec 32) (m : Int) (n : Nat) (w : World) (k : Nat) (hm : m = (n : Int)) (h1 : 1 ≤ n) (h2 : n ≤ 31) :
    Calls Tryd.prog 31 #[.int .u32 (u32 x), .int .u64 m] (w.drewN k) fun e w'' => e = .returned (.int .u32 (u32 (rot x n))) ∧ ∃ i, w'' = w.drewN i := by
  subst hm
  refine (refTurn_any x n (w.drewN k) h1 h2).mono ?_
  rintro e w' ⟨h, i, rfl⟩
  exact ⟨h, k + i, by rw [World.drewN_drewN]⟩
/-- The same behind draws that went before. -/
theorem refTurn_q2 (x : BitVec 32) (m : Int) (n : Nat) (w : World) (a k : Nat) (hm : m = (n : Int)) (h1 : 1 ≤ n) (h2 : n ≤ 31) :
    Calls Tryd.prog 31 #[.int .u32 (u32 x), .int .u64 m] (w.drewN (a + k)) fun e w'' => e = .returned (.int .u32 (u32 (rot x n))) ∧ ∃ i, w'' = w.drewN (a + i) := by
  subst hm
  refine (refTurn_any x n (w.drewN (a + k)) h1 h2).mono ?_
  rintro e w' ⟨h, i, rfl⟩
  exact ⟨h, k + i, by rw [World.drewN_drewN, Nat.add_assoc]⟩

/-- The same behind draws that went before. -/
theorem turn_q2 (x : BitVec 32) (m : Int) (n : Nat) (w : World) (a k : Nat) (hm : m = (n : Int)) (h1 : 1 ≤ n) (h2 : n ≤ 31) :
    Calls Tryd.prog 42 #[.int .u32 (u32 x), .int .i64 m] (w.drewN (a + k)) fun e w'' => e = .returned (.int .u32 (u32 (rot x n))) ∧ ∃ i, w'' = w.drewN (a + i) := by
  subst hm
  refine (turn_any x n (w.drewN (a + k)) h1 h2).mono ?_
  rintro e w' ⟨h, i, rfl⟩
  exact ⟨h, k + i, by rw [World.drewN_drewN, Nat.add_assoc]⟩
/-- The same with its number as the code bears it. -/
theorem turn_c (x : BitVec 32) (m : Int) (n : Nat) (w : World) (hm : m = (n : Int)) (h1 : 1 ≤ n) (h2 : n ≤ 31) :
    Calls Tryd.prog 42 #[.int .u32 (u32 x), .int .i64 m] w fun e w'' => e = .returned (.int .u32 (u32 (rot x n))) ∧ ∃ i, w'' = w.drewN i := by
  subst hm
  exact turn_any x n w h1 h2
end Go.Proofs.YtnmooegegknmoaaDoor
