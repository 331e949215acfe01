/-
  The statements on stored passwords: 'awake', PassMakes, PassStores.
-/
import Derived.Test.YtnmooegegknmoaaDoorPassC
namespace Go.Proofs.YtnmooegegknmoaaDoor
open Go.RowKit Go.Proofs.Sha Go.Proofs.Buf Go.Proofs.Reg

theorem hex_append (a b : List UInt8) : Oct.hex (a ++ b) = Oct.hex a ++ Oct.hex b := by unfold Oct.hex; rw [List.flatMap_append]
theorem mkText_good {p : ByteArray} (n : Nat) (h : mkErr p = 0) : bs (mkText p n) = passOf (Oct.put n 8) (bs p) := by
  unfold mkErr at h
  unfold mkText
  split at h
  · cases h
  · split at h
    · cases h
    · rename_i h1 h2
      rw [if_neg h1, if_neg h2, bs_mk]
theorem stored_own (n : Nat) (p : List UInt8) : storedOf (passOf (Oct.put n 8) p) = some (Oct.put n 8 ++ digest KW H0 (Oct.put n 8 ++ p)) := by
  unfold passOf
  rw [List.append_assoc, ← hex_append]
  exact storedOf_mk _ (by rw [List.length_append, Oct.put_length, digest_length])
theorem check_own (p : ByteArray) (n : Nat) (h : mkErr p = 0) (hn : n < 18446744073709551616) : checkOf (mkText p n) p = true := by
  unfold checkOf
  rw [mkText_good n h, stored_own]
  show (decide (mkErr p = 0) && _) = true
  rw [List.take_append_of_le_length (by rw [Oct.put_length]; omega), List.take_of_length_le (by rw [Oct.put_length]; omega), Oct.get_put, Nat.mod_eq_of_lt (by simpa using hn), decide_eq_true h]
  simp

set_option maxHeartbeats 800000 in
theorem awake4_any (w : World) (hL : Laid w) : Calls Tryd.prog 19 #[] w fun e w' => e = .returned (.bool true) ∧ Below w.heap.size w w' := by
  have HL := Lib.hid hL
  clear hL
  have h0 : mkErr ⟨#[97]⟩ = 0 := rfl
  have HM := Lib.hid (makeV_eq ⟨#[97]⟩ 1)
  have HK := Lib.hid (check_own ⟨#[97]⟩ 1 h0 (by omega))
  have hb := mkText_good 1 h0
  rw [h0] at HM
  generalize mkText ⟨#[97]⟩ 1 = M at HM HK hb
  have h88 : M.size = 88 := by rw [← bs_length, hb, passOf_length, Oct.put_length]
  have h24 : ((M.extract 0 24).toList == [123, 83, 65, 76, 84, 69, 68, 125, 48, 48, 48, 48, 48, 48, 48, 48, 48, 48, 48, 48, 48, 48, 48, 49]) = true := by
    have h := bs_extract M 0 24
    rw [List.drop_zero, hb] at h
    rw [Lib.toList_data, show (M.extract 0 24).data.toList = bs (M.extract 0 24) from rfl, h]
    unfold passOf
    rw [List.take_append_of_le_length (by rw [List.length_append, Oct.hex_length, Oct.put_length]; decide)]
    rfl
  clear hb h0
  go_enter Tryd.func19, Tryd.ntmps19
  go_wp2_with fail
  refine (make_any ⟨#[97]⟩ 1 _ (by omega) (by decide) HL.out).mono ?_
  rintro e w1 ⟨rfl, hb1⟩
  rw [HM.out]
  go_wp2_with fail
  refine (check_any M ⟨#[97]⟩ _ (by decide) (HL.out.below hb1 HL.out.size)).mono ?_
  rintro e w2 ⟨rfl, hb2⟩
  rw [HK.out]
  go_wp2_with fail
  go_ret
  exact ⟨rfl, hb1.trans (hb2.mono hb1.size)⟩

set_option maxHeartbeats 800000 in
theorem passMakes_walk (p : ByteArray) (b : BitVec 64) (w : World) (hs : p.size ≤ maxLen) (hL : Laid w) : Calls Tryd.prog 7 #[.string p, .int .u64 (b.toNat : Nat)] w fun e w' => e = .returned (.bool true) ∧ Below w.heap.size w w' := by
  have HL := Lib.hid hL
  clear hL
  have hn : b.toNat < 18446744073709551616 := b.isLt
  have HM := Lib.hid (makeV_eq p b.toNat)
  generalize b.toNat = n at HM hn
  by_cases h2 : 2000 < p.size
  · go_enter Tryd.func7, Tryd.ntmps7
    go_wp2_with fail
    refine (awake4_any _ HL.out).mono ?_
    rintro e w1 ⟨rfl, hb1⟩
    go_wp2_with fail
    go_ret
    exact ⟨rfl, hb1⟩
  · have h3 : p.size ≤ 2000 := by omega
    go_enter Tryd.func7, Tryd.ntmps7
    go_wp2_with fail
    refine (make_any p n _ hn hs HL.out).mono ?_
    rintro e w1 ⟨rfl, hb1⟩
    rw [HM.out]
    go_wp2_with fail
    refine (refMake_any p n _ hn hs).mono ?_
    rintro e w2 ⟨rfl, hb2⟩
    rw [HM.out]
    have hb2' := hb1.trans (hb2.mono hb1.size)
    go_wp2_with fail
    refine (awake4_any _ (HL.out.below hb2' HL.out.size)).mono ?_
    rintro e w3 ⟨rfl, hb3⟩
    go_wp2_with fail
    go_ret
    exact ⟨rfl, hb2'.trans (hb3.mono hb2'.size)⟩
end Go.Proofs.YtnmooegegknmoaaDoor
