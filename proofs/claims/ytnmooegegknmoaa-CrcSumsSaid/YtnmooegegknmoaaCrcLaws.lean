/-
  The walks of the laws CrcSums and CrcAdds.
-/
import Derived.Test.YtnmooegegknmoaaCrcMore
import Derived.Test.YtnmooegegknmoaaOpen
namespace Go.Proofs.Ytnmooegegknmoaa
open Go.RowKit

set_option maxHeartbeats 400000 in
theorem crcSums_walk (v : Value) (ss : List ByteArray) (w : World) (hv : StrsAt w v ss) :
    Calls Try.prog 3 #[v] w fun e w' => e = .returned (.bool true) ∧ Below w.heap.size w w' := by
  have HJ := Lib.hid (joined_any v ss w hv)
  have HV := Lib.hid hv; clear hv
  go_enter Try.func3, Try.ntmps3
  go_wp2_with fail
  refine (HJ.out).mono ?_
  rintro e w1 ⟨s, ok, rfl, hs, hcat, rfl⟩
  have HC := Lib.hid hcat; clear hcat
  cases ok
  · go_wp2_with fail
    refine (awake2_any _).mono ?_
    rintro e w1 ⟨rfl, hb1⟩
    go_wp2_with fail
    go_ret
    exact ⟨rfl, hb1⟩
  · go_wp2_with fail
    refine (awake2_any _).mono ?_
    rintro e w1 ⟨rfl, hb1⟩
    have H2 := Lib.hid (sum_any v ss w1 (HV.out.below hb1))
    have H3 := Lib.hid (fun w => refSum_any s w (by unfold maxLen; omega))
    rw [HC.out trivial] at H3
    go_wp2_with fail
    refine (H2.out).mono ?_
    rintro e w2 ⟨rfl, hb2⟩
    generalize ((Crc.add 0#32 (catB ss)).toNat : Nat) = N at *
    go_wp2_with fail
    refine (H3.out _).mono ?_
    rintro e w3 ⟨rfl, rfl⟩
    go_wp2_with fail
    go_ret
    have hz := hb1.size
    exact ⟨rfl, hb1.trans (hb2.mono (by omega))⟩

set_option maxHeartbeats 400000 in
theorem crcAdds_walk (sum : BitVec 32) (v : Value) (ss : List ByteArray) (w : World) (hv : StrsAt w v ss) :
    Calls Try.prog 4 #[.int .u32 (sum.toNat : Nat), v] w fun e w' => e = .returned (.bool true) ∧ Below w.heap.size w w' := by
  have HJ := Lib.hid (joined_any v ss w hv)
  have HV := Lib.hid hv; clear hv
  obtain ⟨S, hS⟩ : ∃ S : Nat, S = sum.toNat := ⟨_, rfl⟩
  rw [← hS]
  have HS := Lib.hid hS; clear hS
  go_enter Try.func4, Try.ntmps4
  go_wp2_with fail
  refine (HJ.out).mono ?_
  rintro e w1 ⟨s, ok, rfl, hs, hcat, rfl⟩
  have HC := Lib.hid hcat; clear hcat
  cases ok
  · go_wp2_with fail
    refine (awake2_any _).mono ?_
    rintro e w1 ⟨rfl, hb1⟩
    go_wp2_with fail
    go_ret
    exact ⟨rfl, hb1⟩
  · go_wp2_with fail
    refine (awake2_any _).mono ?_
    rintro e w1 ⟨rfl, hb1⟩
    have H2 := Lib.hid (add_any sum v ss w1 (HV.out.below hb1))
    have H3 := Lib.hid (fun w => refAdd_any sum s w (by unfold maxLen; omega))
    rw [HC.out trivial, ← HS.out] at H3
    rw [← HS.out] at H2
    go_wp2_with fail
    refine (H2.out).mono ?_
    rintro e w2 ⟨rfl, hb2⟩
    generalize ((Crc.add sum (catB ss)).toNat : Nat) = N at *
    go_wp2_with fail
    refine (H3.out _).mono ?_
    rintro e w3 ⟨rfl, rfl⟩
    go_wp2_with fail
    go_ret
    have hz := hb1.size
    exact ⟨rfl, hb1.trans (hb2.mono (by omega))⟩
end Go.Proofs.Ytnmooegegknmoaa
