/-
  The walks of the laws OctetFolds and OctetTwice.
-/
import Derived.Test.YtnmooegegknmoaaOctLaws
import Derived.Test.YtnmooegegknmoaaOctPlain
namespace Go.Proofs.Ytnmooegegknmoaa
open Go.RowKit Go.Proofs.Buf

set_option maxHeartbeats 400000 in
theorem octetFolds_walk (s : ByteArray) (w : World) (hs : s.size ≤ maxLen) :
    Calls Try.prog 9 #[.string s] w fun e w' => e = .returned (.bool true) ∧ Below w.heap.size w w' := by
  by_cases hl : 3000 < s.size
  · unfold maxLen at hs
    go_enter Try.func9, Try.ntmps9
    go_wp2_with fail
    refine (awake1_any _).mono ?_
    rintro e w1 ⟨rfl, hb1⟩
    go_wp2_with fail
    go_ret
    exact ⟨rfl, hb1⟩
  · have K1 := Lib.hid (fun w => fold_any s w hs)
    have K2 := Lib.hid (fun w => refFold_any s w (by omega))
    have K3 := Lib.hid (fun w => prep_any s w (by omega))
    have k4 := fun w => refPrep_any s w (by omega)
    rw [Oct.refPrep_eq] at k4
    have K4 := Lib.hid k4; clear k4
    generalize (ByteArray.mk (Oct.fold s.data.toList).toArray) = S at K1 K2
    generalize (ByteArray.mk (Oct.prep s.data.toList).toArray) = T at K3 K4
    go_enter Try.func9, Try.ntmps9
    go_wp2_with fail
    refine (awake1_any _).mono ?_
    rintro e w1 ⟨rfl, hb1⟩
    go_wp2_with fail
    refine (K1.out _).mono ?_
    rintro e w2 ⟨rfl, hb2⟩
    go_wp2_with fail
    refine (K2.out _).mono ?_
    rintro e w3 ⟨rfl, hb3⟩
    go_wp2_with fail
    refine (K3.out _).mono ?_
    rintro e w4 ⟨rfl, hb4⟩
    go_wp2_with fail
    refine (K4.out _).mono ?_
    rintro e w5 ⟨rfl, hb5⟩
    go_wp2_with fail
    go_ret
    have h1 := hb1.size
    have h2 := hb2.size
    have h3 := hb3.size
    have h4 := hb4.size
    exact ⟨rfl, (((hb1.trans (hb2.mono (by omega))).trans (hb3.mono (by omega))).trans (hb4.mono (by omega))).trans (hb5.mono (by omega))⟩

theorem mk_data (l : List UInt8) : (ByteArray.mk l.toArray).data.toList = l := by simp
theorem mk_size (l : List UInt8) : (ByteArray.mk l.toArray).size = l.length := by simp [ByteArray.size]
theorem mk_self (s : ByteArray) : ByteArray.mk s.data.toList.toArray = s := by simp
theorem wide_next (l : List UInt8) (n : Nat) : (ByteArray.mk #[32] ++ ByteArray.mk (Oct.wide l n).toArray) ++ ByteArray.mk #[32] = ByteArray.mk (Oct.wide l (n + 1)).toArray := by
  rw [← mk_self (_ ++ _)]
  congr 2
theorem wide_s (l : List UInt8) (n : Nat) (S : ByteArray) (h : S = ByteArray.mk (Oct.wide l n).toArray) : (ByteArray.mk #[32] ++ S) ++ ByteArray.mk #[32] = ByteArray.mk (Oct.wide l (n + 1)).toArray := by
  rw [h, wide_next]

set_option maxHeartbeats 1000000 in
theorem octetTwice_walk (s : ByteArray) (blanks : UInt8) (w : World) (hs : s.size ≤ maxLen) :
    Calls Try.prog 10 #[.string s, .int .u8 (blanks.toNat : Nat)] w fun e w' => e = .returned (.bool true) ∧ Below w.heap.size w w' := by
  by_cases hl : 5000 < s.size
  · unfold maxLen at hs
    go_enter Try.func10, Try.ntmps10
    go_wp2_with fail
    refine (awake1_any _).mono ?_
    rintro e w1 ⟨rfl, hb1⟩
    go_wp2_with fail
    go_ret
    exact ⟨rfl, hb1⟩
  · have hpl : (Oct.prep s.data.toList).length ≤ s.size := by
      have h1 := Oct.prepRaw_length (Oct.fold s.data.toList)
      rw [Oct.fold_length, len_bytes'] at h1
      have h2 : (Oct.prep s.data.toList).length ≤ (Oct.prepRaw (Oct.fold s.data.toList)).length := by
        unfold Oct.prep Oct.prepCut
        split
        · rw [List.length_dropLast]; omega
        · exact Nat.le_refl _
      omega
    have KP := Lib.hid (fun w => prep_any s w (by omega))
    have kPP := fun w => prep_any ⟨(Oct.prep s.data.toList).toArray⟩ w (by rw [mk_size]; omega)
    rw [mk_data, Oct.prep_prep] at kPP
    have kPW := fun n (hn : n ≤ 8) w => prep_any ⟨(Oct.wide s.data.toList n).toArray⟩ w (by rw [mk_size, Oct.wide_length, len_bytes']; omega)
    simp only [Oct.prep_wide] at kPW
    have KF := Lib.hid (fun w => fold_any s w hs)
    have kPF := fun w => prep_any ⟨(Oct.fold s.data.toList).toArray⟩ w (by rw [mk_size, Oct.fold_length, len_bytes']; omega)
    rw [mk_data, Oct.prep_fold] at kPF
    have kFF := fun w => fold_any ⟨(Oct.fold s.data.toList).toArray⟩ w (by rw [mk_size, Oct.fold_length, len_bytes']; exact hs)
    rw [mk_data, Oct.fold_fold] at kFF
    have hF : (ByteArray.mk (Oct.fold s.data.toList).toArray).size = s.size := by rw [mk_size, Oct.fold_length, len_bytes']
    have KPP := Lib.hid kPP; clear kPP
    have KPW := Lib.hid kPW; clear kPW
    have KPF := Lib.hid kPF; clear kPF
    have KFF := Lib.hid kFF; clear kFF
    generalize (ByteArray.mk (Oct.fold s.data.toList).toArray) = F at KF KPF KFF hF
    generalize (ByteArray.mk (Oct.prep s.data.toList).toArray) = P at KP KPP KPW KPF
    have hF1 : (F.size : Int) ≤ s.size := by omega
    have hF2 : (s.size : Int) ≤ F.size := by omega
    have HF := Lib.hid hF
    clear hF hpl
    have hbl := blanks.toNat_lt
    generalize blanks.toNat = b at *
    go_enter Try.func10, Try.ntmps10
    go_wp2_with fail
    refine (KP.out _).mono ?_
    rintro e w1 ⟨rfl, hb1⟩
    go_wp2_with fail
    go_loop [6, 16] (fun ws i => ∃ (j : Nat) (W : ByteArray), j ≤ b % 9 ∧ i = .int .u8 j ∧ ws = .string W ∧ W.size = s.size + 2 * j ∧ Hid (W = ByteArray.mk (Oct.wide s.data.toList j).toArray)) (fun _ i => 9 - (intOf i).toNat)
    case atStart => exact ⟨0, s, by omega, rfl, rfl, rfl, (mk_self s).symm⟩
    case round =>
      obtain ⟨j, W, hj, rfl, rfl, hW, HW⟩ := hrel
      have HWS := Lib.hid hW; clear hW
      have hWb : W.size ≤ 6000 := by rw [HWS.out]; omega
      by_cases hlt : j < b % 9
      · go_wp2_with fail
        go_round
        case rel => exact ⟨j + 1, _, by omega, by go_num, rfl, by
          rw [ByteArray.size_append, ByteArray.size_append, HWS.out]
          have : (ByteArray.mk #[32]).size = 1 := rfl
          omega, wide_s _ _ _ HW.out⟩
        case measure => simp [intOf]; omega
      · obtain rfl : j = b % 9 := by omega
        have KPW2 := Lib.hid (KPW.out (b % 9) (by omega))
        rw [← HW.out] at KPW2
        go_wp2_with fail
        refine (awake1_any _).mono ?_
        rintro e w2 ⟨rfl, hb2⟩
        go_wp2_with fail
        refine (KPP.out _).mono ?_
        rintro e w3 ⟨rfl, hb3⟩
        go_wp2_with fail
        refine (KPW2.out _).mono ?_
        rintro e w4 ⟨rfl, hb4⟩
        go_wp2_with fail
        refine (KF.out _).mono ?_
        rintro e w5 ⟨rfl, hb5⟩
        go_wp2_with fail
        refine (KPF.out _).mono ?_
        rintro e w6 ⟨rfl, hb6⟩
        go_wp2_with fail
        refine (KF.out _).mono ?_
        rintro e w7 ⟨rfl, hb7⟩
        go_wp2_with fail
        refine (KFF.out _).mono ?_
        rintro e w8 ⟨rfl, hb8⟩
        go_wp2_with fail
        refine (KF.out _).mono ?_
        rintro e w9 ⟨rfl, hb9⟩
        go_wp2_with fail
        refine (KF.out _).mono ?_
        rintro e w10 ⟨rfl, hb10⟩
        have heq : ((F.size : Int) == (s.size : Int)) = true := by rw [beq_iff_eq]; omega
        go_wp2_with fail
        go_ret
        have h1 := hb1.size
        have h2 := hb2.size
        have h3 := hb3.size
        have h4 := hb4.size
        have h5 := hb5.size
        have h6 := hb6.size
        have h7 := hb7.size
        have h8 := hb8.size
        have h9 := hb9.size
        exact ⟨rfl, ((((((((hb1.trans (hb2.mono (by omega))).trans (hb3.mono (by omega))).trans (hb4.mono (by omega))).trans (hb5.mono (by omega))).trans (hb6.mono (by omega))).trans (hb7.mono (by omega))).trans (hb8.mono (by omega))).trans (hb9.mono (by omega))).trans (hb10.mono (by omega))⟩
end Go.Proofs.Ytnmooegegknmoaa
