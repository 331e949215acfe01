/-
  The contracts of octet.Put and of the reference's Put.
-/
import Derived.Test.YtnmooegegknmoaaDoorRows
import Derived.Test.YtnmooegegknmoaaDoorOctMath
import Derived.Test.YtnmooegegknmoaaDoorBuf
import Derived.WalkKit
import Derived.WalkSpells
import Derived.WalkLawsBesides
import Derived.Laws.IdiomStrings
import Derived.Lib.Hide
namespace Go.Proofs.YtnmooegegknmoaaDoor
open Go.RowKit Go.Proofs.Buf

theorem infoU8 : (Tryd.prog.info? 5).map (fun i => (i.zero, i.size, i.bytes)) = some (some (.int .u8 0), 1, 1) := by kernel_rfl
theorem len_bytes' (s : ByteArray) : s.data.toList.length = s.size := Array.length_toList

set_option maxHeartbeats 400000 in
theorem put_none (n : Nat) (size : Int) (w : World) (h : size < 1 ∨ 8 < size) :
    Calls Tryd.prog 27 #[.int .u64 n, .int .i64 size] w fun e w' => e = .returned (.string ⟨#[]⟩) ∧ w = w' := by
  rcases h with h | h
  · go_enter Tryd.func27, Tryd.ntmps27
    go_wp2
    go_ret
    exact ⟨rfl, rfl⟩
  · have h' : ¬ size < 1 := by omega
    go_enter Tryd.func27, Tryd.ntmps27
    go_wp2
    go_ret
    exact ⟨rfl, rfl⟩

theorem put_next {v n j : Nat} (h : v = n / 256 ^ j) : Hid (v / 256 = n / 256 ^ (j + 1)) := by
  show v / 256 = n / 256 ^ (j + 1)
  rw [h, Nat.pow_succ, Nat.div_div_eq_div_mul]
theorem div256 (v : Nat) : (v : Int) / 256 = ((v / 256 : Nat) : Int) := by omega
theorem mod256 (v : Nat) : (v : Int) % 256 = (((UInt8.ofNat (v % 256)).toNat : Nat) : Int) := by
  rw [UInt8.toNat_ofNat', Nat.mod_eq_of_lt (a := v % 256) (by omega)]
  omega
theorem put_set (n k j v : Nat) (h : j < k) (hv : v = n / 256 ^ j) : (List.replicate (k - j) 0 ++ Oct.put n j).set (k - 1 - j) (UInt8.ofNat (v % 256)) = List.replicate (k - (j + 1)) 0 ++ Oct.put n (j + 1) := by
  subst hv
  obtain ⟨m, rfl⟩ : ∃ m, k = m + 1 + j := ⟨k - 1 - j, by omega⟩
  have e1 : m + 1 + j - j = m + 1 := by omega
  have e2 : m + 1 + j - 1 - j = m := by omega
  have e3 : m + 1 + j - (j + 1) = m := by omega
  rw [e1, e2, e3, List.replicate_succ', List.append_assoc, List.set_append, if_neg (by simp)]
  simp [Oct.put]
theorem bytesAt_lit (w : World) (T : TypeId) (v : Nat) : BytesAt (w.alloc (.cells #[.int .u8 ((v : Int) % 256)] T)) w.heap.size [UInt8.ofNat (v % 256)] := by
  refine ⟨fun j hj => ?_, fun j hj => World.frozen?_alloc_at _ _ _ _ rfl⟩
  have : j = 0 := by simpa using hj
  subst this
  rw [World.cell?_alloc_mark, mod256]
  rfl

set_option maxHeartbeats 1000000 in
theorem put_any (n : Nat) (k : Nat) (w : World) (hn : n < 18446744073709551616) (h1 : 1 ≤ k) (h8 : k ≤ 8) :
    Calls Tryd.prog 27 #[.int .u64 n, .int .i64 k] w fun e w' => e = .returned (.string ⟨(Oct.put n k).toArray⟩) ∧ Below w.heap.size w w' := by
  obtain ⟨i, hi, hz0, hz1, hz2⟩ := info_parts infoU8
  have hmk := fun w : World => run_make (P := Tryd.prog) w 51 5 i (.int .u8 0) Tryd.underlying51 hi hz0 .i64 .i64 k k (by omega) (by omega) (by rw [hz2]; omega) (by omega)
  simp only [hz1, Int.toNat_natCast, Nat.mul_one] at hmk
  clear hz0 hz1 hz2 hi i
  go_enter Tryd.func27, Tryd.ntmps27
  go_wp2
  go_loopw [0, 6, 17] (fun m iv i wr => ∃ (j v : Nat), j ≤ k ∧ v < 18446744073709551616 ∧ Hid (v = n / 256 ^ j) ∧ i = .int .i64 j ∧ m = .int .u64 v ∧ Below w.heap.size w wr ∧ w.heap.size < wr.heap.size ∧ BytesAt wr w.heap.size (List.replicate (k - j) 0 ++ Oct.put n j)) (fun _ _ i _ => k - (intOf i).toNat)
  case atStart => exact ⟨0, n, Nat.zero_le _, hn, (by show n = n / 256 ^ 0; simp), rfl, rfl, (Below.refl _ _).alloc (Nat.le_refl _) _, by simp, by simpa [Oct.put] using bytesAt_made w k 5⟩
  case round =>
    obtain ⟨j, v, hj, hv, HV, rfl, rfl, hbel, hsz, hat⟩ := hrel
    by_cases hlt : j < k
    · have hlen : (List.replicate (k - j) 0 ++ Oct.put n j).length = k := by rw [List.length_append, List.length_replicate, Oct.put_length]; omega
      have hcell := hat.get (k - 1 - j) (by rw [hlen]; omega)
      have hfz := hat.2 (k - 1 - j) (by rw [hlen]; omega)
      have HA := Lib.hid hat; clear hat hlen
      have hi0 : (0 : Int) ≤ (k : Int) - 1 - j := by omega
      have hi1 : (k : Int) - 1 - j < k := by omega
      generalize (List.replicate (k - j) 0 ++ Oct.put n j).getD (k - 1 - j) 0 = c at hcell
      go_wp2
      go_roundw
      case rel => exact ⟨j + 1, v / 256, by omega, by omega, put_next HV.out, by go_num, by rw [div256], hbel.setCell (Nat.le_refl _) _, by simpa using hsz, by
        rw [mod256]
        have h := HA.out.set (k - 1 - j) (by rw [List.length_append, List.length_replicate, Oct.put_length]; omega) (UInt8.ofNat (v % 256))
        rw [put_set n k j v hlt HV.out] at h
        exact h⟩
      case measure => simp [intOf]; omega
    · obtain rfl : j = k := by omega
      have hst := hat.string (P := Tryd.prog) (cap := j) j (by rw [List.length_append, List.length_replicate, Oct.put_length]; omega) Tryd.underlying51 Tryd.underlying5 Tryd.underlying9
      rw [Nat.sub_self, List.replicate_zero, List.nil_append] at hst
      go_wp2
      go_ret
      exact ⟨rfl, hbel⟩

set_option maxHeartbeats 1000000 in
theorem refPut_none (n : Nat) (size : Int) (w : World) (h : size < 1 ∨ 8 < size) :
    Calls Tryd.prog 35 #[.int .u64 n, .int .i64 size] w fun e w' => e = .returned (.string ⟨#[]⟩) ∧ Below w.heap.size w w' := by
  rcases h with h | h
  · go_enter Tryd.func35, Tryd.ntmps35
    go_wp2
    refine wp_loop_rounds 1 ?_
    rw [rounds_succ]
    go_wp2
    go_ret
    exact ⟨rfl, Below.refl _ _⟩
  · go_enter Tryd.func35, Tryd.ntmps35
    go_wp2
    refine wp_loop_rounds 1 ?_
    rw [rounds_succ]
    go_wp2
    go_ret
    exact ⟨rfl, Below.refl _ _⟩

set_option maxHeartbeats 1000000 in
theorem refPut_any (n : Nat) (k : Nat) (w : World) (hn : n < 18446744073709551616) (h8 : k ≤ 8) :
    Calls Tryd.prog 35 #[.int .u64 n, .int .i64 k] w fun e w' => e = .returned (.string ⟨(Oct.put n k).toArray⟩) ∧ Below w.heap.size w w' := by
  go_enter Tryd.func35, Tryd.ntmps35
  go_wp2
  go_loopw [0, 5, 6] (fun m s i wr => ∃ (j v : Nat), j ≤ k ∧ v < 18446744073709551616 ∧ Hid (v = n / 256 ^ j) ∧ i = .int .i64 j ∧ m = .int .u64 v ∧ Below w.heap.size w wr ∧ s = .string ⟨(Oct.put n j).toArray⟩) (fun _ _ i _ => k - (intOf i).toNat)
  case atStart => exact ⟨0, n, Nat.zero_le _, hn, (by show n = n / 256 ^ 0; simp), rfl, rfl, Below.refl _ _, rfl⟩
  case round =>
    obtain ⟨j, v, hj, hv, HV, rfl, rfl, hbel, rfl⟩ := hrel
    have hsz : (ByteArray.mk (Oct.put n j).toArray).size = j := by rw [← len_bytes']; exact Oct.put_length n j
    have HS := Lib.hid hsz; clear hsz
    obtain ⟨s, hs⟩ : ∃ s, s = ByteArray.mk (Oct.put n j).toArray := ⟨_, rfl⟩
    rw [← hs] at HS ⊢
    have HSS := Lib.hid hs; clear hs
    by_cases hlt : j < k
    · have hconv := fun w : World => (Buf.BytesAt.string (P := Tryd.prog) (w := w.alloc (.cells #[.int .u8 ((v : Int) % 256)] 5)) (B := w.heap.size) (cap := 1) (l := [UInt8.ofNat (v % 256)]) (bytesAt_lit w _ v) 1 rfl Tryd.underlying51 Tryd.underlying5 Tryd.underlying9)
      have hss : (s.size : Int) ≤ 8 := by rw [HS.out]; omega
      go_wp2
      go_roundw
      case rel => exact ⟨j + 1, v / 256, by omega, by omega, put_next HV.out, by go_num, by rw [div256], hbel.alloc hbel.size _, by
        rw [HSS.out, show v = n / 256 ^ j from HV.out]
        rfl⟩
      case measure => simp [intOf]; omega
    · obtain rfl : j = k := by omega
      go_wp2
      go_ret
      exact ⟨by rw [HSS.out]; rfl, hbel⟩
end Go.Proofs.YtnmooegegknmoaaDoor
