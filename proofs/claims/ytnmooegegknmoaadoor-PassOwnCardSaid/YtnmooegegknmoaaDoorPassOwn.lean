/-
  The statement PassOwn.
-/
import Derived.Test.YtnmooegegknmoaaDoorPassLawsB
namespace Go.Proofs.YtnmooegegknmoaaDoor
open Go.RowKit Go.Proofs.Sha Go.Proofs.Buf Go.Proofs.Reg

theorem hex_inj {a b : List UInt8} (h : Oct.hex a = Oct.hex b) : a = b := by
  have := Oct.unhex_hex a
  rw [h, Oct.unhex_hex] at this
  injection this with this
  exact this.symm
/-- A made password is another one's only if the digests are the same. -/
theorem check_other (p q : ByteArray) (n : Nat) (h : mkErr p = 0) (hn : n < 18446744073709551616) (hc : checkOf (mkText p n) q = true) : digest KW H0 (Oct.put n 8 ++ bs p) = digest KW H0 (Oct.put n 8 ++ bs q) := by
  unfold checkOf at hc
  rw [mkText_good n h, stored_own] at hc
  replace hc : (decide (mkErr q = 0) && ((mkText q (Oct.get ((Oct.put n 8 ++ digest KW H0 (Oct.put n 8 ++ bs p)).take 8))).toList == (mkText p n).toList)) = true := hc
  rw [List.take_append_of_le_length (by rw [Oct.put_length]; omega), List.take_of_length_le (by rw [Oct.put_length]; omega), Oct.get_put, Nat.mod_eq_of_lt (by simpa using hn)] at hc
  simp only [Bool.and_eq_true, decide_eq_true_eq, beq_iff_eq] at hc
  obtain ⟨hq, he⟩ := hc
  rw [Lib.toList_data, Lib.toList_data] at he
  have he' : bs (mkText q n) = bs (mkText p n) := he
  rw [mkText_good n hq, mkText_good n h] at he'
  unfold passOf at he'
  exact (hex_inj (List.append_cancel_left he')).symm
theorem salt_own (p : ByteArray) (n : Nat) (h : mkErr p = 0) (hn : n < 18446744073709551616) : saltV (bs (mkText p n)) = .tuple #[.int .u64 (n : Nat), .bool true] := by
  rw [mkText_good n h, saltV_some (stored_own n (bs p)), List.take_append_of_le_length (by rw [Oct.put_length]; omega), List.take_of_length_le (by rw [Oct.put_length]; omega), Oct.get_put, Nat.mod_eq_of_lt (by simpa using hn)]

set_option maxHeartbeats 800000 in
theorem passOwn_walk (p q : ByteArray) (b : BitVec 64) (w : World) (hs : p.size ≤ maxLen) (hs2 : q.size ≤ maxLen) (hL : Laid w) : Calls Tryd.prog 10 #[.string p, .string q, .int .u64 (b.toNat : Nat)] w fun e w' => e = .returned (.bool true) ∧ Below w.heap.size w w' := by
  have HL := Lib.hid hL
  clear hL
  have hn : b.toNat < 18446744073709551616 := b.isLt
  have HM := Lib.hid (makeV_eq p b.toNat)
  generalize b.toNat = n at HM hn
  by_cases h0 : mkErr p = 0
  · by_cases h2 : 2000 < q.size
    · rw [h0] at HM
      generalize mkText p n = M at HM
      clear h0
      go_enter Tryd.func10, Tryd.ntmps10
      go_wp2_with fail
      refine (make_any p n _ hn hs HL.out).mono ?_
      rintro e w1 ⟨rfl, hb1⟩
      rw [HM.out]
      go_wp2_with fail
      refine (awake4_any _ (HL.out.below hb1 HL.out.size)).mono ?_
      rintro e w2 ⟨rfl, hb2⟩
      have hb2' := hb1.trans (hb2.mono hb1.size)
      go_wp2_with fail
      refine (awake4_any _ (HL.out.below hb2' HL.out.size)).mono ?_
      rintro e w3 ⟨rfl, hb3⟩
      go_wp2_with fail
      go_ret
      exact ⟨rfl, hb2'.trans (hb3.mono hb2'.size)⟩
    · have h3 : q.size ≤ 2000 := by omega
      have hp : p.size ≤ 256 := by
        unfold mkErr at h0
        split at h0
        · cases h0
        · split at h0
          · cases h0
          · omega
      have HS := Lib.hid (salt_own p n h0 hn)
      have HT : Hid ((storedOf (bs (mkText p n))).isSome = true) := by show _ = _; rw [mkText_good n h0, stored_own]; rfl
      have HK := Lib.hid (check_own p n h0 hn)
      have HO := Lib.hid (check_other p q n h0 hn)
      rw [h0] at HM
      generalize mkText p n = M at HM HS HT HK HO
      clear h0 h2
      go_enter Tryd.func10, Tryd.ntmps10
      go_wp2_with fail
      refine (make_any p n _ hn hs HL.out).mono ?_
      rintro e w1 ⟨rfl, hb1⟩
      rw [HM.out]
      go_wp2_with fail
      refine (awake4_any _ (HL.out.below hb1 HL.out.size)).mono ?_
      rintro e w2 ⟨rfl, hb2⟩
      have HB2 := Lib.hid (hb1.trans (hb2.mono hb1.size))
      clear hb1 hb2
      go_wp2_with fail
      refine (put_any n 8 _ hn (by omega) (by omega)).mono ?_
      rintro e w3 ⟨rfl, hb3⟩
      have HB3 := Lib.hid (HB2.out.trans (hb3.mono HB2.out.size))
      clear hb3
      obtain ⟨A, hA, hA2⟩ : ∃ A : ByteArray, ByteArray.mk (Oct.put n 8).toArray = A ∧ bs A = Oct.put n 8 := ⟨_, rfl, bs_mk _⟩
      have hAs : A.size = 8 := by rw [← bs_length, hA2, Oct.put_length]
      rw [hA]
      have HA := Lib.hid hA2
      clear hA hA2
      go_wp2_with fail
      have HB4 := Lib.hid (HB3.out.alloc HB3.out.size (.cells #[.string A, .string p] 9))
      refine (sum256_any _ [A, p] _ (HL.out.below HB4.out HL.out.size) ((parts_new w3 _ _ [A, p] 2 rfl _ rfl).mono (fun _ _ _ => trivial)) ?q1 (by simp)).mono ?_
      case q1 =>
        rw [join_two, List.length_append, bs_length, bs_length]
        omega
      rintro e w4 ⟨rfl, hb4⟩
      have HB5 := Lib.hid (HB4.out.trans (hb4.mono HB4.out.size))
      clear hb4
      rw [join_two, HA.out]
      obtain ⟨D, hD, hDb⟩ : ∃ D : ByteArray, ByteArray.mk (digest KW H0 (Oct.put n 8 ++ bs p)).toArray = D ∧ bs D = digest KW H0 (Oct.put n 8 ++ bs p) := ⟨_, rfl, bs_mk _⟩
      rw [hD]
      have HD := Lib.hid hDb
      clear hD hDb
      go_wp2_with fail
      have HB6 := Lib.hid (HB5.out.alloc HB5.out.size (.cells #[.string A, .string q] 9))
      refine (sum256_any _ [A, q] _ (HL.out.below HB6.out HL.out.size) ((parts_new w4 _ _ [A, q] 2 rfl _ rfl).mono (fun _ _ _ => trivial)) ?q2 (by simp)).mono ?_
      case q2 =>
        rw [join_two, List.length_append, bs_length, bs_length]
        omega
      rintro e w5 ⟨rfl, hb5⟩
      have HB7 := Lib.hid (HB6.out.trans (hb5.mono HB6.out.size))
      clear hb5
      rw [join_two, HA.out]
      obtain ⟨F, hF, hFb⟩ : ∃ F : ByteArray, ByteArray.mk (digest KW H0 (Oct.put n 8 ++ bs q)).toArray = F ∧ bs F = digest KW H0 (Oct.put n 8 ++ bs q) := ⟨_, rfl, bs_mk _⟩
      rw [hF]
      have hsame : (D.toList == F.toList) = false → checkOf M q = false := by
        intro hr
        rw [Lib.toList_data, Lib.toList_data, beq_eq_false_iff_ne] at hr
        cases hc : checkOf M q with
        | false => rfl
        | true => exact absurd (show bs D = bs F by rw [HD.out, hFb]; exact HO.out hc) hr
      clear hF hFb HO
      generalize hck : checkOf M q = ck at hsame
      generalize hrr : (D.toList == F.toList) = r at hsame
      have HCK := Lib.hid hck
      clear hck
      go_wp2_with fail
      refine (salt_any M _).mono ?_
      rintro e w6 ⟨rfl, hb6⟩
      have HB8 := Lib.hid (HB7.out.trans (hb6.mono HB7.out.size))
      clear hb6
      rw [HS.out]
      go_wp2_with fail
      refine (stored_any M _).mono ?_
      rintro e w7 ⟨rfl, hb7⟩
      have HB9 := Lib.hid (HB8.out.trans (hb7.mono HB8.out.size))
      clear hb7
      rw [HT.out]
      go_wp2_with fail
      refine (check_any M p _ hs (HL.out.below HB9.out HL.out.size)).mono ?_
      rintro e w8 ⟨rfl, hb8⟩
      have HB10 := Lib.hid (HB9.out.trans (hb8.mono HB9.out.size))
      clear hb8
      rw [HK.out]
      cases r
      · obtain rfl := hsame rfl
        go_wp2_with fail
        refine (check_any M q _ hs2 (HL.out.below HB10.out HL.out.size)).mono ?_
        rintro e w9 ⟨rfl, hb9⟩
        rw [HCK.out]
        go_wp2_with fail
        go_ret
        exact ⟨rfl, HB10.out.trans (hb9.mono HB10.out.size)⟩
      · go_wp2_with fail
        go_ret
        exact ⟨rfl, HB10.out⟩
  · have hE : 1 ≤ mkErr p := by omega
    generalize mkErr p = E at HM hE
    generalize mkText p n = M at HM
    clear h0
    go_enter Tryd.func10, Tryd.ntmps10
    go_wp2_with fail
    refine (make_any p n _ hn hs HL.out).mono ?_
    rintro e w1 ⟨rfl, hb1⟩
    rw [HM.out]
    go_wp2_with fail
    refine (awake4_any _ (HL.out.below hb1 HL.out.size)).mono ?_
    rintro e w2 ⟨rfl, hb2⟩
    have hb2' := hb1.trans (hb2.mono hb1.size)
    go_wp2_with fail
    refine (awake4_any _ (HL.out.below hb2' HL.out.size)).mono ?_
    rintro e w3 ⟨rfl, hb3⟩
    go_wp2_with fail
    go_ret
    exact ⟨rfl, hb2'.trans (hb3.mono hb2'.size)⟩
end Go.Proofs.YtnmooegegknmoaaDoor
