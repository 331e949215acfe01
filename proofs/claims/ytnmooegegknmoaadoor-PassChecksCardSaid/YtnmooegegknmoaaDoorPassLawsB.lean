/-
  The statement PassStores.
-/
import Derived.Test.YtnmooegegknmoaaDoorPassLaws
namespace Go.Proofs.YtnmooegegknmoaaDoor
open Go.RowKit Go.Proofs.Sha Go.Proofs.Buf Go.Proofs.Reg

def saltN (l : List UInt8) : Nat := match storedOf l with | some b => Oct.get (b.take 8) | none => 0
theorem saltV_eq (l : List UInt8) : saltV l = .tuple #[.int .u64 ((saltN l : Nat) : Int), .bool (storedOf l).isSome] := by
  unfold saltV saltN
  cases storedOf l <;> rfl

set_option maxHeartbeats 800000 in
theorem passStores_walk (t : ByteArray) (w : World) (_hs : t.size ≤ maxLen) (hL : Laid w) : Calls Tryd.prog 8 #[.string t] w fun e w' => e = .returned (.bool true) ∧ Below w.heap.size w w' := by
  have HL := Lib.hid hL
  clear hL
  have HS := Lib.hid (saltV_eq (bs t))
  have HT := Lib.hid (fun w => stored_any t w)
  have HA := Lib.hid (fun w => salt_any t w)
  have HB := Lib.hid (fun w => refSalt_any t w)
  rw [HS.out] at HA HB
  generalize (storedOf (bs t)).isSome = o at HT HA HB
  generalize saltN (bs t) = n at HA HB
  clear HS
  go_enter Tryd.func8, Tryd.ntmps8
  go_wp2_with fail
  refine (HA.out _).mono ?_
  rintro e w1 ⟨rfl, hb1⟩
  go_wp2_with fail
  refine (HB.out _).mono ?_
  rintro e w2 ⟨rfl, hb2⟩
  have hb2' := hb1.trans (hb2.mono hb1.size)
  go_wp2_with fail
  refine (awake4_any _ (HL.out.below hb2' HL.out.size)).mono ?_
  rintro e w3 ⟨rfl, hb3⟩
  have hb3' := hb2'.trans (hb3.mono hb2'.size)
  go_wp2_with fail
  refine (HT.out _).mono ?_
  rintro e w4 ⟨rfl, hb4⟩
  go_wp2_with fail
  go_ret
  exact ⟨rfl, hb3'.trans (hb4.mono hb3'.size)⟩
end Go.Proofs.YtnmooegegknmoaaDoor
