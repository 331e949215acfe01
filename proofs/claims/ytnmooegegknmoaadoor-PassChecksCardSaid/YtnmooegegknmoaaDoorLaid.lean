/-
  From what the row says of the program's variables to what the walks ask.
-/
import Derived.Test.YtnmooegegknmoaaDoorRows
import Derived.Test.YtnmooegegknmoaaDoorShaAll
import Derived.ProofKit
import Derived.LaidMore
import Derived.OpenShut
import Derived.Stop.Joined
import Derived.Lib.LaidTab
import Derived.Stop.LaidErr
namespace Go.Proofs.YtnmooegegknmoaaDoor
open Go.RowKit Go.Proofs.Sha

/-- The list that each row bears. -/
def laid2 : List (String × DataW Unit) := [("castellan/sha.rounds", Rows.laid_castellan_sha_rounds), ("castellan/sha.start", Rows.laid_castellan_sha_start)]
def zsRounds : List Int := (List.range 64).map fun i => (K0 i : Int)
def zsStart : List Int := (List.range 8).map fun i => ((H0.get i).toNat : Int)
theorem rounds_data : (Rows.laid_castellan_sha_rounds : DataW Unit) = Lib.tabData .u32 zsRounds := by kernel_rfl
theorem start_data : (Rows.laid_castellan_sha_start : DataW Unit) = Lib.tabData .u32 zsStart := by kernel_rfl
theorem zs_rounds : ∀ i, i < 64 → zsRounds.getD i 0 = u32 (KW i) := by decide +kernel
theorem zs_start : ∀ i, i < 8 → zsStart.getD i 0 = u32 (H0.get i) := by decide +kernel
theorem gRounds : Tryd.prog.globalNamed "castellan/sha.rounds" = some 1 := by kernel_rfl
theorem gStart : Tryd.prog.globalNamed "castellan/sha.start" = some 0 := by kernel_rfl
theorem tRounds : (Tryd.prog.globals[1]?).map (·.type) = some 71 := by kernel_rfl
theorem tStart : (Tryd.prog.globals[0]?).map (·.type) = some 63 := by kernel_rfl
theorem own : ownKnob Tryd.prog.godebug = none := by kernel_rfl
theorem laidOut : laidOutB Tryd.prog = true := by kernel_rfl

theorem door_met (os : Os) (args : Array Value) : laidMetH Tryd.prog laid2 ((World.doorLaid Tryd.prog 19 os).forCall (fun _ _ => 0) ⟨#[], args, []⟩).memory :=
  laidMetH_of_parts3 (fuel := 8) (laidMet_of_run' 8 (by kernel_rfl) (by kernel_rfl)) (by kernel_rfl) (by kernel_rfl)

theorem laid_of {W : World} (h : laidMetH Tryd.prog laid2 W) : Laid W := by
  rw [MakeChecks.laidMetH_plain _ _ _ (by kernel_rfl)] at h
  unfold laid2 at h
  rw [rounds_data, start_data] at h
  have h1 := Lib.tabIs_of_head gRounds tRounds Tryd.underlying71 Tryd.underlying59 (by kernel_rfl) (by kernel_rfl) h
  have h2 := Lib.tabIs_of_head gStart tStart Tryd.underlying63 Tryd.underlying59 (by kernel_rfl) (by kernel_rfl) h.tail
  have c1 := fun i (hi : i < 64) => h1.cell gRounds i hi
  have c2 := fun i (hi : i < 8) => h2.cell gStart i hi
  refine ⟨World.block_lt_of_cell? _ _ (c1 0 (by decide)), fun i hi => ?_, fun i hi => ?_⟩
  · rw [c1 i hi, zs_rounds i hi]
  · rw [c2 i hi, zs_start i hi]
end Go.Proofs.YtnmooegegknmoaaDoor
