/-
  The contracts of octet.Get and of the reference's Get.
-/
import Derived.Test.YtnmooegegknmoaaDoorOctFold
namespace Go.Proofs.YtnmooegegknmoaaDoor
open Go.RowKit Go.Proofs.Buf

/-- Where there is no number. -/
def GetNo (s : ByteArray) (pos size : Int) : Prop := size < 1 ∨ 8 < size ∨ pos < 0 ∨ (s.size : Int) - size < pos

theorem getNo_or (s : ByteArray) (pos size : Int) : GetNo s pos size ∨ ∃ a k : Nat, pos = a ∧ size = k ∧ 1 ≤ k ∧ k ≤ 8 ∧ a + k ≤ s.size := by
  unfold GetNo
  by_cases h : size < 1 ∨ 8 < size ∨ pos < 0 ∨ (s.size : Int) - size < pos
  · exact .inl h
  · exact .inr ⟨pos.toNat, size.toNat, by omega, by omega, by omega, by omega, by omega⟩

set_option maxHeartbeats 1000000 in
theorem get_no (s : ByteArray) (pos size : Int) (w : World) (hs : s.size ≤ maxLen) (h : GetNo s pos size) :
    Calls Tryd.prog 38 #[.string s, .int .i64 pos, .int .i64 size] w fun e w' => e = .returned (.tuple #[.int .u64 0, .bool false]) ∧ w = w' := by
  unfold maxLen at hs
  by_cases h1 : size < 1
  · clear h
    go_enter Tryd.func38, Tryd.ntmps38
    go_wp2
    go_ret2
    exact ⟨rfl, rfl⟩
  · by_cases h2 : 8 < size
    · clear h
      go_enter Tryd.func38, Tryd.ntmps38
      go_wp2
      go_ret2
      exact ⟨rfl, rfl⟩
    · by_cases h3 : pos < 0
      · clear h
        go_enter Tryd.func38, Tryd.ntmps38
        go_wp2
        go_ret2
        exact ⟨rfl, rfl⟩
      · have h4 : (s.size : Int) - size < pos := by unfold GetNo at h; omega
        clear h
        go_enter Tryd.func38, Tryd.ntmps38
        go_wp2
        go_ret2
        exact ⟨rfl, rfl⟩

theorem get_bound (l : List UInt8) (h : l.length ≤ 7) : Oct.get l < 72057594037927936 := by
  have h1 := Oct.get_lt l
  have h2 : 256 ^ l.length ≤ 256 ^ 7 := Nat.pow_le_pow_right (by decide) h
  have h3 : (256 : Nat) ^ 7 = 72057594037927936 := by decide
  omega
theorem or_byte (n : Nat) (c : UInt8) (h : n < 72057594037927936) : bits BinOp.or IntKind.u64 ((n : Int) * 256) (c.toNat : Int) = (((n * 256 + c.toNat : Nat)) : Int) := by
  have hc := c.toNat_lt
  have e := u64_or_nat (n * 256) c.toNat (by omega) (by omega)
  rw [show (((n * 256 : Nat)) : Int) = (n : Int) * 256 from by omega] at e
  rw [e]
  congr 1
  have := Nat.shiftLeft_add_eq_or_of_lt (i := 8) (b := c.toNat) hc n
  rw [Nat.shiftLeft_eq] at this
  exact this.symm

set_option maxHeartbeats 1000000 in
theorem get_yes (s : ByteArray) (a k : Nat) (w : World) (hs : s.size ≤ maxLen) (h1 : 1 ≤ k) (h8 : k ≤ 8) (hak : a + k ≤ s.size) :
    Calls Tryd.prog 38 #[.string s, .int .i64 a, .int .i64 k] w fun e w' => e = .returned (.tuple #[.int .u64 (Oct.get ((s.data.toList.drop a).take k) : Nat), .bool true]) ∧ Below w.heap.size w w' := by
  unfold maxLen at hs
  have kc := fun (w : World) (s : ByteArray) => run_bytes_of_string (P := Tryd.prog) w 9 51 5 s Tryd.underlying9 Tryd.underlying51 Tryd.underlying5
  have hxl : (s.extract a (a + k)).size = k := by rw [ByteArray.size_extract]; omega
  have hxd : (s.extract a (a + k)).data.toList = (s.data.toList.drop a).take k := by
    simp only [ByteArray.data_extract, Array.toList_extract, List.extract_eq_take_drop]
    rw [Nat.add_sub_cancel_left]
  have HXL := Lib.hid hxl
  have HXD := Lib.hid hxd
  clear hxl hxd
  go_enter Tryd.func38, Tryd.ntmps38
  go_wp2
  have hb0 : Below w.heap.size w (w.alloc (.cells (bytesRow (s.extract a (a + k)) (grownCap w k 0 5)) 5 ((bytesRow (s.extract a (a + k)) (grownCap w k 0 5)).size, (bytesRow (s.extract a (a + k)) (grownCap w k 0 5)).size + 1))).drew := ((Below.refl _ _).alloc (Nat.le_refl _) _).drew
  go_loop [8, 10, 37] (fun m c i => ∃ (j n : Nat), j ≤ k ∧ i = .int .i64 j ∧ m = .int .u64 n ∧ n = Oct.get ((s.extract a (a + k)).data.toList.take j)) (fun _ _ i => k - (intOf i).toNat)
  case atStart => exact ⟨0, 0, Nat.zero_le _, rfl, rfl, rfl⟩
  case round =>
    obtain ⟨j, n, hj, rfl, rfl, hn⟩ := hrel
    have HN := Lib.hid hn; clear hn
    by_cases hlt : j < k
    · have hn56 : n < 72057594037927936 := by rw [HN.out]; exact get_bound _ (by rw [List.length_take]; omega)
      have hcell := bytes_at (w := w) (s.extract a (a + k)) (grownCap w k 0 5) 5 j (by rw [HXL.out]; exact hlt)
      have HG : Hid (Oct.get ((s.extract a (a + k)).data.toList.take (j + 1)) = Oct.get ((s.extract a (a + k)).data.toList.take j) * 256 + ((s.extract a (a + k)).data[j]'(by have := HXL.out; exact (by rw [← this] at hlt; exact hlt))).toNat) := by
        show _ = _
        rw [List.take_succ_eq_append_getElem (by rw [len_bytes', HXL.out]; exact hlt), Oct.get_snoc]
        rfl
      generalize (s.extract a (a + k)).data[j]'_ = c at hcell HG
      have hor := or_byte n c hn56
      have hc := c.toNat_lt
      go_wp2
      go_round
      case rel => exact ⟨j + 1, n * 256 + c.toNat, by omega, by go_num, rfl, by rw [HG.out, HN.out]⟩
      case measure => simp [intOf]; omega
    · obtain rfl : j = k := by omega
      rw [List.take_of_length_le (by rw [len_bytes', HXL.out]; omega)] at HN
      go_wp2
      go_ret2
      have e := HN.out
      rw [HXD.out] at e
      subst e
      exact ⟨rfl, hb0⟩

set_option maxHeartbeats 1000000 in
theorem refGet_no (s : ByteArray) (pos size : Int) (w : World) (hs : s.size ≤ maxLen) (h : GetNo s pos size) :
    Calls Tryd.prog 40 #[.string s, .int .i64 pos, .int .i64 size] w fun e w' => e = .returned (.tuple #[.int .u64 0, .bool false]) ∧ w = w' := by
  unfold maxLen at hs
  by_cases h1 : size < 1
  · clear h
    go_enter Tryd.func40, Tryd.ntmps40
    go_wp2
    go_ret2
    exact ⟨rfl, rfl⟩
  · by_cases h2 : 8 < size
    · clear h
      go_enter Tryd.func40, Tryd.ntmps40
      go_wp2
      go_ret2
      exact ⟨rfl, rfl⟩
    · by_cases h3 : pos < 0
      · clear h
        go_enter Tryd.func40, Tryd.ntmps40
        go_wp2
        go_ret2
        exact ⟨rfl, rfl⟩
      · have h4 : (s.size : Int) - size < pos := by unfold GetNo at h; omega
        clear h
        by_cases h5 : (s.size : Int) < size
        · go_enter Tryd.func40, Tryd.ntmps40
          go_wp2
          go_ret2
          exact ⟨rfl, rfl⟩
        · go_enter Tryd.func40, Tryd.ntmps40
          go_wp2
          go_ret2
          exact ⟨rfl, rfl⟩

set_option maxHeartbeats 1000000 in
theorem refGet_yes (s : ByteArray) (a k : Nat) (w : World) (hs : s.size ≤ maxLen) (h1 : 1 ≤ k) (h8 : k ≤ 8) (hak : a + k ≤ s.size) :
    Calls Tryd.prog 40 #[.string s, .int .i64 a, .int .i64 k] w fun e w' => e = .returned (.tuple #[.int .u64 (Oct.get ((s.data.toList.drop a).take k) : Nat), .bool true]) ∧ w = w' := by
  unfold maxLen at hs
  go_enter Tryd.func40, Tryd.ntmps40
  go_wp2
  go_loop [8, 9] (fun m i => ∃ (j n : Nat), j ≤ k ∧ i = .int .i64 j ∧ m = .int .u64 n ∧ n = Oct.get ((s.data.toList.drop a).take j)) (fun _ i => k - (intOf i).toNat)
  case atStart => exact ⟨0, 0, Nat.zero_le _, rfl, rfl, rfl⟩
  case round =>
    obtain ⟨j, n, hj, rfl, rfl, hn⟩ := hrel
    have HN := Lib.hid hn; clear hn
    by_cases hlt : j < k
    · have hn56 : n < 72057594037927936 := by rw [HN.out]; exact get_bound _ (by rw [List.length_take]; omega)
      have hi0 : (0 : Int) ≤ (a : Int) + j := by omega
      have hi1 : (a : Int) + j < s.size := by omega
      have hc := s[a + j].toNat_lt
      have HG : Hid (Oct.get ((s.data.toList.drop a).take (j + 1)) = Oct.get ((s.data.toList.drop a).take j) * 256 + s[a + j].toNat) := by
        show _ = _
        rw [List.take_succ_eq_append_getElem (by rw [List.length_drop, len_bytes']; omega), Oct.get_snoc, List.getElem_drop]
        rfl
      go_wp2
      go_round
      case rel => exact ⟨j + 1, n * 256 + s[a + j].toNat, by omega, by go_num, by go_num, by rw [HG.out, HN.out]⟩
      case measure => simp [intOf]; omega
    · obtain rfl : j = k := by omega
      go_wp2
      go_ret2
      have e := HN.out
      subst e
      exact ⟨rfl, rfl⟩
end Go.Proofs.YtnmooegegknmoaaDoor
