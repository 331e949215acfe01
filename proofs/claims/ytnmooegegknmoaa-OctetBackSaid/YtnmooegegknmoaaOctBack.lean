/-
  The walk of the law OctetBack.
-/
import Derived.Test.YtnmooegegknmoaaOctLaws
import Derived.RegionTactic
import Derived.Deep.Cut
namespace Go.Proofs.Ytnmooegegknmoaa
open Go.RowKit Go.Proofs.Buf

theorem wrap64_mod8 (a : Int) : ∃ k : Nat, k ≤ 7 ∧ wrap64 ((IntKind.u64.wrap a).tmod 8) = (k : Int) := by
  have h1 : 0 ≤ IntKind.u64.wrap a := by rw [IntKind.wrap_u64]; omega
  have e : (IntKind.u64.wrap a).tmod 8 = (IntKind.u64.wrap a) % 8 := Int.tmod_eq_emod_of_nonneg h1
  refine ⟨((IntKind.u64.wrap a) % 8).toNat, by omega, ?_⟩
  rw [e, IntWalk.wrap64_in _ ⟨by omega, by omega⟩]
  omega

theorem and_mask (m K : Nat) (hm : m < 18446744073709551616) (h : K < 8) : bits BinOp.and IntKind.u64 (m : Int) (IntKind.u64.wrap (IntKind.u64.wrap (2 ^ (8 * K)) - 1)) = ((m % 256 ^ K : Nat) : Int) := by
  have h1 : (2 : Nat) ^ (8 * K) = 256 ^ K := by rw [show (256 : Nat) = 2 ^ 8 from rfl, ← Nat.pow_mul]
  have h2 : (256 : Nat) ^ K ≤ 256 ^ 7 := Nat.pow_le_pow_right (by decide) (by omega)
  have h3 : (256 : Nat) ^ 7 = 72057594037927936 := by decide
  have h4 : 0 < (256 : Nat) ^ K := Nat.pow_pos (by decide)
  have e1 : (2 : Int) ^ (8 * K) = ((256 ^ K : Nat) : Int) := by rw [← h1]; simp
  rw [e1, IntKind.wrap_u64, IntKind.wrap_u64]
  have e2 : (((256 ^ K : Nat) : Int) % 18446744073709551616 - 1) % 18446744073709551616 = ((256 ^ K - 1 : Nat) : Int) := by omega
  rw [e2, u64_and_nat m (256 ^ K - 1) hm (by omega), ← h1, Nat.and_two_pow_sub_one_eq_mod]
theorem take_mid (a s b : ByteArray) (K : Nat) (h : s.size = K) : ((a ++ s ++ b).data.toList.drop a.size).take K = s.data.toList := by
  have e : (a ++ s ++ b).data.toList = a.data.toList ++ (s.data.toList ++ b.data.toList) := by simp
  have h1 : a.data.toList.length = a.size := len_bytes' a
  have h2 : s.data.toList.length = s.size := len_bytes' s
  rw [e, ← h1, List.drop_left, ← h, ← h2, List.take_left]

set_option maxHeartbeats 1000000 in
theorem octetBack_walk (n : BitVec 64) (size : Int) (ah be : ByteArray) (w : World) (h1 : ah.size ≤ 140737488355328) (h2 : be.size ≤ 140737488355328) :
    Calls Try.prog 13 #[.int .u64 (n.toNat : Nat), .int .i64 size, .agg #[.string ah, .string be]] w fun e w' => e = .returned (.bool true) ∧ Below w.heap.size w w' := by
  have hn := n.isLt
  generalize n.toNat = m at *
  obtain ⟨k, hk, hwrap⟩ := wrap64_mod8 size
  have HK := Lib.hid hwrap; clear hwrap
  obtain ⟨K, hK, hK1, hK8⟩ : ∃ K : Nat, wrap64 (1 + (k : Int)) = (K : Int) ∧ 1 ≤ K ∧ K ≤ 8 := ⟨k + 1, by rw [IntWalk.wrap64_in _ ⟨by omega, by omega⟩]; omega, by omega, by omega⟩
  have HK2 := Lib.hid hK; clear hK
  go_enter Try.func13, Try.ntmps13
  go_wp2_with fail
  go_region
  go_upto_region 3 with (fail)
  rw [HK.out, HK2.out]
  clear HK HK2
  obtain ⟨N, hN, hNl⟩ : ∃ N : Nat, N = m % 256 ^ K ∧ N < 18446744073709551616 := ⟨_, rfl, Nat.lt_of_le_of_lt (Nat.mod_le _ _) hn⟩
  have hHX : (ByteArray.mk (Oct.hex ah.data.toList).toArray).size = 2 * ah.size := by rw [ByteArray.size, List.size_toArray, Oct.hex_length, len_bytes']
  have KP := Lib.hid (fun w => put_any N K w hNl hK1 hK8)
  have KHX := Lib.hid (fun w => hex_any ah w (by omega))
  have kUH := fun w => unhex_any ⟨(Oct.hex ah.data.toList).toArray⟩ w (by rw [hHX]; omega)
  have hd : (ByteArray.mk (Oct.hex ah.data.toList).toArray).data.toList = Oct.hex ah.data.toList := by simp
  rw [hd, unhexV_some (Oct.unhex_hex ah.data.toList)] at kUH
  have hself : (ByteArray.mk ah.data.toList.toArray) = ah := by simp
  rw [hself] at kUH
  have KUH := Lib.hid kUH; clear kUH
  generalize ByteArray.mk (Oct.hex ah.data.toList).toArray = HX at KHX KUH hHX
  have hps : (ByteArray.mk (Oct.put N K).toArray).size = K := by rw [ByteArray.size, List.size_toArray, Oct.put_length]
  have hpd : (ByteArray.mk (Oct.put N K).toArray).data.toList = Oct.put N K := by simp
  generalize ByteArray.mk (Oct.put N K).toArray = S at KP hps hpd
  have hget := Oct.get_put N K
  have hNN : N % 256 ^ K = N := by rw [hN, Nat.mod_mod]
  rw [hNN] at hget
  have hcs : (ah ++ S ++ be).size = ah.size + K + be.size := by rw [ByteArray.size_append, ByteArray.size_append, hps]
  have kG := fun w => get_yes (ah ++ S ++ be) ah.size K w (by rw [hcs]; unfold maxLen; omega) hK1 hK8 (by rw [hcs]; omega)
  rw [take_mid ah S be K hps, hpd, hget] at kG
  have KG := Lib.hid kG; clear kG
  have hps2 : S.size ≤ 8 := by omega
  have hM : Hid (K < 8 → bits BinOp.and IntKind.u64 (m : Int) (IntKind.u64.wrap (IntKind.u64.wrap (2 ^ (8 * K)) - 1)) = (N : Int)) := fun h8 => by rw [and_mask m K hn h8, ← hN]
  have hM8 : Hid (¬ K < 8 → N = m) := fun h8 => by
    have : K = 8 := by omega
    subst this
    rw [hN]
    exact Nat.mod_eq_of_lt hn
  clear hd hself hHX hps hpd hget hNN hcs hN
  by_cases h8 : K < 8
  · have hm0 : (0 : Int) ≤ 8 * (K : Int) := by omega
    have hm1 : 8 * (K : Int) < 64 := by omega
    have HM := Lib.hid (hM.out h8)
    clear hM hM8
    go_wp2_with fail
    rw [HM.out]
    refine (KP.out _).mono ?_
    rintro e w1 ⟨rfl, hb1⟩
    go_wp2_with fail
    refine (KG.out _).mono ?_
    rintro e w2 ⟨rfl, hb2⟩
    go_wp2_with fail
    refine (KHX.out _).mono ?_
    rintro e w3 ⟨rfl, hb3⟩
    go_wp2_with fail
    refine (KUH.out _).mono ?_
    rintro e w4 ⟨rfl, hb4⟩
    go_wp2_with fail
    refine (awake1_any _).mono ?_
    rintro e w5 ⟨rfl, hb5⟩
    go_wp2_with fail
    go_ret
    have z1 := hb1.size
    have z2 := hb2.size
    have z3 := hb3.size
    have z4 := hb4.size
    simp at z1 hb1
    exact ⟨rfl, ((((((Below.refl _ _).alloc (Nat.le_refl _) _).drew.trans (hb1.mono (by omega))).trans (hb2.mono (by omega))).trans (hb3.mono (by omega))).trans (hb4.mono (by omega))).trans (hb5.mono (by omega))⟩
  · obtain rfl := hM8.out h8
    clear hM hM8
    go_wp2_with fail
    refine (KP.out _).mono ?_
    rintro e w1 ⟨rfl, hb1⟩
    go_wp2_with fail
    refine (KG.out _).mono ?_
    rintro e w2 ⟨rfl, hb2⟩
    go_wp2_with fail
    refine (KHX.out _).mono ?_
    rintro e w3 ⟨rfl, hb3⟩
    go_wp2_with fail
    refine (KUH.out _).mono ?_
    rintro e w4 ⟨rfl, hb4⟩
    go_wp2_with fail
    refine (awake1_any _).mono ?_
    rintro e w5 ⟨rfl, hb5⟩
    go_wp2_with fail
    go_ret
    have z1 := hb1.size
    have z2 := hb2.size
    have z3 := hb3.size
    have z4 := hb4.size
    simp at z1 hb1
    exact ⟨rfl, ((((((Below.refl _ _).alloc (Nat.le_refl _) _).drew.trans (hb1.mono (by omega))).trans (hb2.mono (by omega))).trans (hb3.mono (by omega))).trans (hb4.mono (by omega))).trans (hb5.mono (by omega))⟩
end Go.Proofs.Ytnmooegegknmoaa
