/-
  What the package 'pass' computes, as plain lists; and the contracts of the two Makes.
-/
import Derived.Test.YtnmooegegknmoaaDoorShaRefSum
import Derived.Test.YtnmooegegknmoaaDoorShaLaws
import Derived.Test.YtnmooegegknmoaaDoorOctRefUnhex
import Derived.Test.YtnmooegegknmoaaDoorOctGet
namespace Go.Proofs.YtnmooegegknmoaaDoor
open Go.RowKit Go.Proofs.Sha Go.Proofs.Buf

/-- The mark ahead of a stored password. -/
def passPre : List UInt8 := [123, 83, 65, 76, 84, 69, 68, 125]
/-- A stored password, of the salt's bytes and the password's. -/
def passOf (s p : List UInt8) : List UInt8 := passPre ++ Oct.hex s ++ Oct.hex (digest KW H0 (s ++ p))
theorem passOf_length (s p : List UInt8) : (passOf s p).length = 72 + 2 * s.length := by
  unfold passOf passPre
  rw [List.length_append, List.length_append, Oct.hex_length, Oct.hex_length, digest_length]
  simp; omega
/-- What the two Makes answer. -/
def makeV (p : ByteArray) (n : Nat) : Value :=
  if p.size = 0 then .tuple #[.string ⟨#[]⟩, .int .i64 2] else if 256 < p.size then .tuple #[.string ⟨#[]⟩, .int .i64 5] else .tuple #[.string ⟨(passOf (Oct.put n 8) (bs p)).toArray⟩, .int .i64 0]
theorem makeV_zero {p : ByteArray} {n : Nat} (h : p.size = 0) : makeV p n = .tuple #[.string ⟨#[]⟩, .int .i64 2] := by unfold makeV; rw [if_pos h]
theorem makeV_long {p : ByteArray} {n : Nat} (h : 256 < p.size) : makeV p n = .tuple #[.string ⟨#[]⟩, .int .i64 5] := by unfold makeV; rw [if_neg (by omega), if_pos h]
theorem makeV_good {p : ByteArray} {n : Nat} (h : 1 ≤ p.size) (h2 : p.size ≤ 256) : makeV p n = .tuple #[.string ⟨(passOf (Oct.put n 8) (bs p)).toArray⟩, .int .i64 0] := by unfold makeV; rw [if_neg (by omega), if_neg (by omega)]
theorem mk_append (a b : List UInt8) : ByteArray.mk a.toArray ++ ByteArray.mk b.toArray = ByteArray.mk (a ++ b).toArray := by
  apply bs_ext
  rw [bs_mk]
  simp [bs]
theorem join_two (a b : ByteArray) : joinAll [a, b] = bs a ++ bs b := by simp [joinAll]
theorem isEmpty_size (p : ByteArray) : p.toList.isEmpty = decide (p.size = 0) := by
  rw [Lib.toList_data, ← len_bytes' p]
  cases p.data.toList <;> simp

set_option maxHeartbeats 800000 in
theorem refMake_any (p : ByteArray) (n : Nat) (w : World) (hn : n < 18446744073709551616) (_hs : p.size ≤ maxLen) :
    Calls Tryd.prog 21 #[.string p, .int .u64 n] w fun e w' => e = .returned (makeV p n) ∧ Below w.heap.size w w' := by
  by_cases h0 : p.size = 0
  · rw [makeV_zero h0]
    have hz : ((p.size : Int) == 0) = true := by rw [beq_iff_eq]; omega
    go_enter Tryd.func21, Tryd.ntmps21
    go_wp2_with fail
    go_ret2
    exact ⟨rfl, Below.refl _ _⟩
  by_cases h2 : 256 < p.size
  · rw [makeV_long h2]
    have h1 : 1 ≤ p.size := by omega
    go_enter Tryd.func21, Tryd.ntmps21
    go_wp2_with fail
    go_ret2
    exact ⟨rfl, Below.refl _ _⟩
  have h1 : 1 ≤ p.size := by omega
  have h3 : p.size ≤ 256 := by omega
  have HV := Lib.hid (makeV_good (n := n) h1 h3)
  rw [HV.out]
  go_enter Tryd.func21, Tryd.ntmps21
  go_wp2_with fail
  refine (refPut_any n 8 w hn (by omega)).mono ?_
  rintro e w1 ⟨rfl, hb1⟩
  obtain ⟨A, hA, hA2⟩ : ∃ A : ByteArray, ByteArray.mk (Oct.put n 8).toArray = A ∧ bs A = Oct.put n 8 := ⟨_, rfl, bs_mk _⟩
  have hAs : A.size = 8 := by rw [← bs_length, hA2, Oct.put_length]
  rw [hA]
  have HB1 := Lib.hid hb1
  have HA := Lib.hid hA2
  have HN := Lib.hid hn
  clear hb1 hA hA2 hn
  go_wp2_with fail
  refine (refHex_any A w1 (by omega)).mono ?_
  rintro e w2 ⟨rfl, hb2⟩
  obtain ⟨C, hC, hC2⟩ : ∃ C : ByteArray, ByteArray.mk (Oct.hex A.data.toList).toArray = C ∧ bs C = Oct.hex (Oct.put n 8) := ⟨_, rfl, by rw [bs_mk, ← HA.out]; rfl⟩
  have hCs : C.size = 16 := by rw [← bs_length, hC2, Oct.hex_length, Oct.put_length]
  rw [hC]
  have HB2 := Lib.hid (HB1.out.trans (hb2.mono HB1.out.size))
  have HC := Lib.hid hC2
  clear hb2 hC hC2 HB1
  go_wp2_with fail
  refine (refSum_any _ _ (by rw [ByteArray.size_append]; omega)).mono ?_
  rintro e w3 ⟨rfl, hb3⟩
  obtain ⟨D, hD, hD2⟩ : ∃ D : ByteArray, ByteArray.mk (digest KW H0 (bs (A ++ p))).toArray = D ∧ bs D = digest KW H0 (Oct.put n 8 ++ bs p) := ⟨_, rfl, by rw [bs_mk, bs_cat, HA.out]⟩
  have hDs : D.size = 32 := by rw [← bs_length, hD2, digest_length]
  rw [hD]
  have HB3 := Lib.hid (HB2.out.trans (hb3.mono HB2.out.size))
  have HD := Lib.hid hD2
  clear hb3 hD hD2 HB2
  go_wp2_with fail
  refine (refHex_any D _ (by omega)).mono ?_
  rintro e w4 ⟨rfl, hb4⟩
  obtain ⟨E, hE, hE2⟩ : ∃ E : ByteArray, ByteArray.mk (Oct.hex D.data.toList).toArray = E ∧ bs E = Oct.hex (digest KW H0 (Oct.put n 8 ++ bs p)) := ⟨_, rfl, by rw [bs_mk, ← HD.out]; rfl⟩
  have hEs : E.size = 64 := by rw [← bs_length, hE2, Oct.hex_length, digest_length]
  rw [hE]
  have HB4 := Lib.hid (HB3.out.trans (hb4.mono HB3.out.size))
  have HE := Lib.hid hE2
  clear hb4 hE hE2 HB3
  go_wp2_with fail
  go_ret2
  refine ⟨?_, HB4.out⟩
  have hF : ByteArray.mk #[123, 83, 65, 76, 84, 69, 68, 125] ++ C ++ E = ⟨(passOf (Oct.put n 8) (bs p)).toArray⟩ := by
    apply bs_ext
    rw [bs_cat, bs_cat, bs_mk (passOf _ _), HC.out, HE.out]
    rfl
  rw [← hF]
  rfl

set_option maxHeartbeats 800000 in
theorem make_any (p : ByteArray) (n : Nat) (w : World) (hn : n < 18446744073709551616) (_hs : p.size ≤ maxLen) (hL : Laid w) :
    Calls Tryd.prog 20 #[.string p, .int .u64 n] w fun e w' => e = .returned (makeV p n) ∧ Below w.heap.size w w' := by
  by_cases h0 : p.size = 0
  · rw [makeV_zero h0]
    have hz : p.toList.isEmpty = true := by rw [isEmpty_size]; exact decide_eq_true h0
    go_enter Tryd.func20, Tryd.ntmps20
    go_wp2_with fail
    go_ret2
    exact ⟨rfl, Below.refl _ _⟩
  have hz : p.toList.isEmpty = false := by rw [isEmpty_size]; exact decide_eq_false h0
  by_cases h2 : 256 < p.size
  · rw [makeV_long h2]
    have h1 : 1 ≤ p.size := by omega
    go_enter Tryd.func20, Tryd.ntmps20
    go_wp2_with fail
    go_ret2
    exact ⟨rfl, Below.refl _ _⟩
  have h1 : 1 ≤ p.size := by omega
  have h3 : p.size ≤ 256 := by omega
  have HV := Lib.hid (makeV_good (n := n) h1 h3)
  have HL := Lib.hid hL
  clear hL h0
  rw [HV.out]
  go_enter Tryd.func20, Tryd.ntmps20
  go_wp2_with fail
  refine (put_any n 8 _ hn (by omega) (by omega)).mono ?_
  rintro e w1 ⟨rfl, hb1⟩
  obtain ⟨A, hA, hA2⟩ : ∃ A : ByteArray, ByteArray.mk (Oct.put n 8).toArray = A ∧ bs A = Oct.put n 8 := ⟨_, rfl, bs_mk _⟩
  have hAs : A.size = 8 := by rw [← bs_length, hA2, Oct.put_length]
  rw [hA]
  have HB1 := Lib.hid hb1
  have HA := Lib.hid hA2
  have HN := Lib.hid hn
  clear hb1 hA hA2 hn
  go_wp2_with fail
  refine (hex_any A w1 (by omega)).mono ?_
  rintro e w2 ⟨rfl, hb2⟩
  obtain ⟨C, hC, hC2⟩ : ∃ C : ByteArray, ByteArray.mk (Oct.hex A.data.toList).toArray = C ∧ bs C = Oct.hex (Oct.put n 8) := ⟨_, rfl, by rw [bs_mk, ← HA.out]; rfl⟩
  have hCs : C.size = 16 := by rw [← bs_length, hC2, Oct.hex_length, Oct.put_length]
  rw [hC]
  have HB2 := Lib.hid (HB1.out.trans (hb2.mono HB1.out.size))
  have HC := Lib.hid hC2
  clear hb2 hC hC2 HB1
  go_wp2_with fail
  have HB2' := Lib.hid (HB2.out.alloc HB2.out.size (.cells #[.string A, .string p] 9))
  refine (sum256_any _ [A, p] _ (HL.out.below HB2'.out HL.out.size) ((parts_new w2 _ _ [A, p] 2 rfl _ rfl).mono (fun _ _ _ => trivial)) ?q1 (by simp)).mono ?_
  case q1 =>
    rw [join_two, List.length_append, bs_length, bs_length]
    omega
  rintro e w3 ⟨rfl, hb3⟩
  obtain ⟨D, hD, hD2⟩ : ∃ D : ByteArray, ByteArray.mk (digest KW H0 (joinAll [A, p])).toArray = D ∧ bs D = digest KW H0 (Oct.put n 8 ++ bs p) := ⟨_, rfl, by rw [bs_mk, join_two, HA.out]⟩
  have hDs : D.size = 32 := by rw [← bs_length, hD2, digest_length]
  rw [hD]
  have HB3 := Lib.hid (HB2'.out.trans (hb3.mono HB2'.out.size))
  have HD := Lib.hid hD2
  clear hb3 hD hD2 HB2 HB2'
  go_wp2_with fail
  refine (hex_any D _ (by omega)).mono ?_
  rintro e w4 ⟨rfl, hb4⟩
  obtain ⟨E, hE, hE2⟩ : ∃ E : ByteArray, ByteArray.mk (Oct.hex D.data.toList).toArray = E ∧ bs E = Oct.hex (digest KW H0 (Oct.put n 8 ++ bs p)) := ⟨_, rfl, by rw [bs_mk, ← HD.out]; rfl⟩
  have hEs : E.size = 64 := by rw [← bs_length, hE2, Oct.hex_length, digest_length]
  rw [hE]
  have HB4 := Lib.hid (HB3.out.trans (hb4.mono HB3.out.size))
  have HE := Lib.hid hE2
  clear hb4 hE hE2 HB3
  go_wp2_with fail
  go_ret2
  refine ⟨?_, HB4.out⟩
  have hF : ByteArray.mk #[123, 83, 65, 76, 84, 69, 68, 125] ++ C ++ E = ⟨(passOf (Oct.put n 8) (bs p)).toArray⟩ := by
    apply bs_ext
    rw [bs_cat, bs_cat, bs_mk (passOf _ _), HC.out, HE.out]
    rfl
  rw [← hF]
  rfl
end Go.Proofs.YtnmooegegknmoaaDoor
