/-
  The statements on the digest: 'awake', ShaNil, ShaParts.
-/
import Derived.Test.YtnmooegegknmoaaDoorShaAll
import Derived.WalkLawsBesides
namespace Go.Proofs.YtnmooegegknmoaaDoor
open Go.RowKit Go.Proofs.Sha Go.Proofs.Buf

theorem take_first (l m : List UInt8) (h : l.take 4 = m) : ByteArray.extract ⟨l.toArray⟩ 0 4 = ⟨m.toArray⟩ := by
  apply bs_ext
  rw [bs_extract, bs_mk, bs_mk, List.drop_zero]
  exact h

set_option maxHeartbeats 800000 in
theorem awake3_any (w : World) (hL : Laid w) : Calls Tryd.prog 12 #[] w fun e w' => e = .returned (.bool true) ∧ Below w.heap.size w w' := by
  have HL := Lib.hid hL
  clear hL
  have a1 : (ByteArray.mk (digest KW H0 [97, 98, 99]).toArray).size = 32 := by
    show (digest KW H0 [97, 98, 99]).toArray.size = 32
    rw [List.size_toArray, digest_length]
  have a2 := take_first _ _ digest_abc
  have a3 : (ByteArray.mk (digest KW H0 []).toArray).size = 32 := by
    show (digest KW H0 []).toArray.size = 32
    rw [List.size_toArray, digest_length]
  have a4 := take_first _ _ digest_none
  generalize ha : ByteArray.mk (digest KW H0 [97, 98, 99]).toArray = A at a1 a2
  generalize hb : ByteArray.mk (digest KW H0 []).toArray = B at a3 a4
  have HAB := Lib.hid (And.intro ha hb)
  clear ha hb
  go_enter Tryd.func12, Tryd.ntmps12
  go_wp2_with fail
  have hb0 := (Below.refl w.heap.size w).alloc (Nat.le_refl _) (.cells #[.string ⟨#[97, 98, 99]⟩] 9)
  refine (sum256_any _ [⟨#[97, 98, 99]⟩] _ (HL.out.below hb0 HL.out.size) ((parts_new w _ _ [⟨#[97, 98, 99]⟩] 1 rfl _ rfl).mono (fun _ _ _ => trivial)) (by decide) (by decide)).mono ?_
  rintro e w1 ⟨rfl, hb1⟩
  have hB1 := hb0.trans (hb1.mono (by simp))
  rw [show joinAll [⟨#[97, 98, 99]⟩] = [97, 98, 99] from rfl, HAB.out.1]
  clear hb0 hb1
  have HB1 := Lib.hid hB1
  clear hB1
  go_wp2_with fail
  refine (sum256_any _ [] w1 (HL.out.below HB1.out HL.out.size) (Parts.nil _ _ _ _) (by decide) (by decide)).mono ?_
  rintro e w2 ⟨rfl, hb2⟩
  have HB2 := Lib.hid (HB1.out.trans (hb2.mono HB1.out.size))
  clear hb2
  rw [show joinAll [] = [] from rfl, HAB.out.2]
  go_wp2_with fail
  go_ret
  exact ⟨rfl, HB2.out⟩

set_option maxHeartbeats 800000 in
theorem shaNil_walk (w : World) (hL : Laid w) : Calls Tryd.prog 6 #[] w fun e w' => e = .returned (.bool true) ∧ Below w.heap.size w w' := by
  have HL := Lib.hid hL
  clear hL
  go_enter Tryd.func6, Tryd.ntmps6
  go_wp2_with fail
  refine (write_nil _ _).mono ?_
  rintro e w1 ⟨rfl, rfl⟩
  have hb0 := Lib.hid ((Below.refl w.heap.size w).alloc (Nat.le_refl _) (.cells #[.string ⟨#[97]⟩] 9))
  go_wp2_with fail
  refine (awake3_any _ (HL.out.below hb0.out HL.out.size)).mono ?_
  rintro e w2 ⟨rfl, hb2⟩
  have HB2 := Lib.hid (hb0.out.trans (hb2.mono (by simp)))
  clear hb2
  go_wp2_with fail
  refine (sum_nil _).mono ?_
  rintro e w3 ⟨rfl, rfl⟩
  go_wp2_with fail
  refine (len_nil _).mono ?_
  rintro e w3 ⟨rfl, rfl⟩
  go_wp2_with fail
  go_ret
  exact ⟨rfl, HB2.out⟩
end Go.Proofs.YtnmooegegknmoaaDoor
