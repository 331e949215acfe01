/-
  The contracts of octet.Hex, and of the reference's digit and Hex.
-/
import Derived.Test.YtnmooegegknmoaaDoorOctPut
namespace Go.Proofs.YtnmooegegknmoaaDoor
open Go.RowKit Go.Proofs.Buf

set_option maxHeartbeats 400000 in
theorem digit_any (n : Nat) (w : World) (hn : n < 16) :
    Calls Tryd.prog 43 #[.int .u8 n] w fun e w' => e = .returned (.int .u8 ((Oct.digit n).toNat : Nat)) ∧ w = w' := by
  by_cases h : n < 10
  · have hd : ((Oct.digit n).toNat : Int) = 48 + (n : Int) := by
      unfold Oct.digit
      rw [if_pos h, UInt8.toNat_ofNat', Nat.mod_eq_of_lt (by omega)]
      omega
    have HD := Lib.hid hd; clear hd
    go_enter Tryd.func43, Tryd.ntmps43
    go_wp2
    go_ret
    exact ⟨by rw [HD.out]; go_num, rfl⟩
  · have hd : ((Oct.digit n).toNat : Int) = 87 + (n : Int) := by
      unfold Oct.digit
      rw [if_neg h, UInt8.toNat_ofNat', Nat.mod_eq_of_lt (by omega)]
      omega
    have HD := Lib.hid hd; clear hd
    go_enter Tryd.func43, Tryd.ntmps43
    go_wp2
    go_ret
    exact ⟨by rw [HD.out]; go_num, rfl⟩

theorem digit_at (m : Int) (n : Nat) (w : World) (hm : m = (n : Int)) (hn : n < 16) :
    Calls Tryd.prog 43 #[.int .u8 m] w fun e w' => e = .returned (.int .u8 ((Oct.digit n).toNat : Nat)) ∧ w = w' := by
  subst hm
  exact digit_any n w hn
theorem hex_take (s : ByteArray) (j : Nat) (h : j < s.size) : Oct.hex (s.data.toList.take (j + 1)) = Oct.hex (s.data.toList.take j) ++ [Oct.digit (s[j].toNat / 16)] ++ [Oct.digit (s[j].toNat % 16)] := by
  rw [List.take_succ_eq_append_getElem (by rw [len_bytes']; exact h), Oct.hex_snoc, List.append_assoc]
  rfl

set_option maxHeartbeats 1000000 in
theorem refHex_any (s : ByteArray) (w : World) (hs : 2 * s.size ≤ 140737488355328) :
    Calls Tryd.prog 36 #[.string s] w fun e w' => e = .returned (.string ⟨(Oct.hex s.data.toList).toArray⟩) ∧ Below w.heap.size w w' := by
  go_enter Tryd.func36, Tryd.ntmps36
  go_wp2
  go_loopw [3, 4] (fun b i wr => ∃ (j : Nat), j ≤ s.size ∧ i = .int .i64 j ∧ Below w.heap.size w wr ∧ Buf wr w.heap.size 5 b (Oct.hex (s.data.toList.take j))) (fun _ i _ => s.size - (intOf i).toNat)
  case atStart => exact ⟨0, Nat.zero_le _, rfl, Below.refl _ _, Buf.nil _ _ _⟩
  case round =>
    obtain ⟨j, hj, rfl, hbel, hbuf⟩ := hrel
    by_cases hlt : j < s.size
    · have hb : s[j].toNat < 256 := s[j].toNat_lt
      have HT := Lib.hid (hex_take s j hlt)
      have hlen : (Oct.hex (s.data.toList.take j)).length ≤ 2 * j := by rw [Oct.hex_length, List.length_take]; omega
      have hsz := hbel.size
      go_wp2_with fail
      refine (digit_at _ (s[j].toNat / 16) _ (by omega) (by omega)).mono ?_
      rintro e w1 ⟨rfl, rfl⟩
      go_wp2_with (at_builtin; refine Buf.wpList_append rfl (.tmp 11) (.tmp 17) 51 rfl Tryd.underlying51 infoU8 rfl (hbuf.alloc _) ⟨wr.heap.size, 0, none⟩ 1 1 [Oct.digit (s[j].toNat / 16)] rfl rfl ?c1 ?c2 ?c3 ?_)
      case c1 => exact At.one _ _ _ _ rfl
      case c2 => omega
      case c3 => simp; omega
      intro v1 w1 hb1 hg1
      have hbel1 := (hbel.alloc hsz (.cells #[.int .u8 ((Oct.digit (s[j].toNat / 16)).toNat : Nat)] 5)).grown hg1 (by simp; omega) (fun k hk => (hbuf.lt k hk).1)
      clear hg1
      have hsz1 := hbel1.size
      go_wp2_with fail
      refine (digit_at _ (s[j].toNat % 16) _ (by omega) (by omega)).mono ?_
      rintro e w2 ⟨rfl, rfl⟩
      go_wp2_with (at_builtin; refine Buf.wpList_append rfl (.tmp 19) (.tmp 25) 51 rfl Tryd.underlying51 infoU8 rfl (hb1.alloc _) ⟨w1.heap.size, 0, none⟩ 1 1 [Oct.digit (s[j].toNat % 16)] rfl rfl ?d1 ?d2 ?d3 ?_)
      case d1 => exact At.one _ _ _ _ rfl
      case d2 => rw [List.length_append, List.length_singleton]; omega
      case d3 => simp; omega
      intro v2 w2 hb2 hg2
      have hbel2 := (hbel1.alloc hsz1 (.cells #[.int .u8 ((Oct.digit (s[j].toNat % 16)).toNat : Nat)] 5)).grown hg2 (by simp; omega) (fun k hk => (hb1.lt k hk).1)
      clear hg2
      have hb3 : Buf w2 w.heap.size 5 v2 (Oct.hex (s.data.toList.take (j + 1))) := by
        rw [HT.out]
        simpa using hb2
      clear hb1 hbuf hb2
      go_wp2_with fail
      go_roundw
      case rel => exact ⟨j + 1, by omega, by go_num, hbel2, hb3⟩
      case measure => simp [intOf]; omega
    · obtain rfl : j = s.size := by omega
      rw [List.take_of_length_le (by rw [len_bytes']; omega)] at hbuf
      have hst := hbuf.string (P := Tryd.prog) Tryd.underlying51 Tryd.underlying5 Tryd.underlying9
      go_wp2_with fail
      go_ret
      exact ⟨rfl, hbel⟩

theorem hex_take2 (s : ByteArray) (j : Nat) (h : j < s.size) : Oct.hex (s.data.toList.take (j + 1)) = Oct.hex (s.data.toList.take j) ++ [Oct.digit (s.data[j].toNat / 16), Oct.digit (s.data[j].toNat % 16)] := by
  rw [List.take_succ_eq_append_getElem (by rw [len_bytes']; exact h), Oct.hex_snoc]
  rfl

theorem hex_digits (n : Nat) (h : n < 16) : (#[48, 49, 50, 51, 52, 53, 54, 55, 56, 57, 97, 98, 99, 100, 101, 102] : Array UInt8)[n]? = some (Oct.digit n) := by
  have : n = 0 ∨ n = 1 ∨ n = 2 ∨ n = 3 ∨ n = 4 ∨ n = 5 ∨ n = 6 ∨ n = 7 ∨ n = 8 ∨ n = 9 ∨ n = 10 ∨ n = 11 ∨ n = 12 ∨ n = 13 ∨ n = 14 ∨ n = 15 := by omega
  rcases this with rfl | rfl | rfl | rfl | rfl | rfl | rfl | rfl | rfl | rfl | rfl | rfl | rfl | rfl | rfl | rfl <;> rfl
theorem hex_index (m : Int) (n : Nat) (hm : m = (n : Int)) (h : n < 16) (w : World) :
    (Instr.index 9 (.string ⟨#[48, 49, 50, 51, 52, 53, 54, 55, 56, 57, 97, 98, 99, 100, 101, 102]⟩) (.int .u8 m)).run Tryd.prog w = .ok (.int .u8 ((Oct.digit n).toNat : Nat)) w := by
  subst hm
  rw [run_index_string _ _ _ _ _ Tryd.underlying9]
  have hs : (ByteArray.mk #[48, 49, 50, 51, 52, 53, 54, 55, 56, 57, 97, 98, 99, 100, 101, 102]).size = 16 := rfl
  rw [dif_pos ⟨by omega, by rw [hs]; omega⟩]
  have e := hex_digits n h
  have e2 : ∀ (i : Nat) (hi : i < (ByteArray.mk #[48, 49, 50, 51, 52, 53, 54, 55, 56, 57, 97, 98, 99, 100, 101, 102]).size), i = n → (ByteArray.mk #[48, 49, 50, 51, 52, 53, 54, 55, 56, 57, 97, 98, 99, 100, 101, 102])[i] = Oct.digit n := by
    intro i hi hin
    subst hin
    exact (Array.getElem?_eq_some_iff.1 e).2
  rw [e2 _ _ (Int.toNat_natCast n)]
theorem hex_index1 (c : UInt8) (w : World) :
    (Instr.index 9 (.string ⟨#[48, 49, 50, 51, 52, 53, 54, 55, 56, 57, 97, 98, 99, 100, 101, 102]⟩) (.int .u8 ((c.toNat : Int) / 16))).run Tryd.prog w = .ok (.int .u8 ((Oct.digit (c.toNat / 16)).toNat : Nat)) w :=
  hex_index _ _ (by omega) (by have := c.toNat_lt; omega) w
theorem hex_index2 (c : UInt8) (w : World) :
    (Instr.index 9 (.string ⟨#[48, 49, 50, 51, 52, 53, 54, 55, 56, 57, 97, 98, 99, 100, 101, 102]⟩) (.int .u8 ((c.toNat : Int) % 16))).run Tryd.prog w = .ok (.int .u8 ((Oct.digit (c.toNat % 16)).toNat : Nat)) w :=
  hex_index _ _ (by omega) (by omega) w
theorem hex_start (w : World) (s : ByteArray) (hm : 2 * s.size ≤ maxLen) : Buf (((w.alloc (.cells (madeCells #[.int .u8 0] (2 * s.size)) 5)).alloc (.cells (bytesRow s (grownCap (w.alloc (.cells (madeCells #[.int .u8 0] (2 * s.size)) 5)) s.size 0 5)) 5 ((bytesRow s (grownCap (w.alloc (.cells (madeCells #[.int .u8 0] (2 * s.size)) 5)) s.size 0 5)).size, (bytesRow s (grownCap (w.alloc (.cells (madeCells #[.int .u8 0] (2 * s.size)) 5)) s.size 0 5)).size + 1))).drew) w.heap.size 5 (.slice (some ⟨w.heap.size, 0, none⟩) 0 (2 * s.size)) [] := by
  refine Buf.drew (Buf.alloc ?_ _)
  have h := World.ownsRow_made (base := w.heap.size) (e := 5) (size := 1) w (madeCells #[.int .u8 0] (2 * s.size)) (2 * s.size) (Nat.le_refl _) hm (by rw [size_madeCells, Nat.mul_one])
  exact h
theorem hex_src (w : World) (s : ByteArray) (cap : Nat) : BytesAt (((w.alloc (.cells (madeCells #[.int .u8 0] (2 * s.size)) 5)).alloc (.cells (bytesRow s cap) 5 ((bytesRow s cap).size, (bytesRow s cap).size + 1))).drew) (w.heap.size + 1) s.data.toList := by
  have h := bytesAt_new (w.alloc (.cells (madeCells #[.int .u8 0] (2 * s.size)) 5)) s cap 5
  simpa using h.drew

theorem hex_kept {wr w1 : World} {B : Nat} {l : List UInt8} {o : Obj} (h : BytesAt wr (B + 1) l) (hg : (wr.drew.alloc o).grownBy w1 (some B)) (hB : B + 1 < wr.heap.size) : BytesAt w1 (B + 1) l := by
  have hb : w1.heap[B + 1]? = wr.heap[B + 1]? := by
    rw [hg.block (B + 1) (by simp; omega) (by simp)]
    exact Below.heap_alloc _ _ _ (by simpa using hB)
  exact ⟨fun j hj => (World.cell?_of_block (w := wr) (a := ⟨B + 1, j, none⟩) hb).trans (h.1 j hj), fun j hj => (World.frozen?_of_block (w := wr) (a := ⟨B + 1, j, none⟩) hb).trans (h.2 j hj)⟩

set_option maxHeartbeats 1000000 in
theorem hex_any (s : ByteArray) (w : World) (hs : 2 * s.size ≤ 281474976710656) :
    Calls Tryd.prog 34 #[.string s] w fun e w' => e = .returned (.string ⟨(Oct.hex s.data.toList).toArray⟩) ∧ Below w.heap.size w w' := by
  obtain ⟨i, hi, hz0, hz1, hz2⟩ := info_parts infoU8
  have hmk := fun w : World => run_make (P := Tryd.prog) w 51 5 i (.int .u8 0) Tryd.underlying51 hi hz0 .i64 .i64 0 (2 * (s.size : Int)) (by omega) (by omega) (by rw [hz2]; omega) (by omega)
  have he : (2 * (s.size : Int)).toNat = 2 * s.size := by omega
  simp only [hz1, Int.toNat_zero, Nat.mul_one, he] at hmk
  clear hz0 hz1 hz2 hi i he
  have kc := fun (w : World) (s : ByteArray) => run_bytes_of_string (P := Tryd.prog) w 9 51 5 s Tryd.underlying9 Tryd.underlying51 Tryd.underlying5
  go_enter Tryd.func34, Tryd.ntmps34
  go_wp2_with fail
  go_loopw [3, 5, 13] (fun b c i wr => ∃ (j : Nat), j ≤ s.size ∧ i = .int .i64 j ∧ b = .slice (some ⟨w.heap.size, 0, none⟩) (2 * j) (2 * s.size) ∧ Below w.heap.size w wr ∧ w.heap.size + 1 < wr.heap.size ∧ Buf wr w.heap.size 5 (.slice (some ⟨w.heap.size, 0, none⟩) (2 * j) (2 * s.size)) (Oct.hex (s.data.toList.take j)) ∧ BytesAt wr (w.heap.size + 1) s.data.toList) (fun _ _ i _ => s.size - (intOf i).toNat)
  case atStart => exact ⟨0, Nat.zero_le _, rfl, rfl, (((Below.refl _ _).alloc (Nat.le_refl _) _).alloc (by simp) _).drew, by simp, hex_start w s (by unfold maxLen; omega), hex_src w s _⟩
  case round =>
    obtain ⟨j, hj, rfl, rfl, hbel, hsz, hbuf, hsrc⟩ := hrel
    by_cases hlt : j < s.size
    · have hcell := hsrc.1 j (by rw [len_bytes']; exact hlt)
      have HT := Lib.hid (hex_take2 s j hlt)
      have hget : s.data.toList[j]'(by rw [len_bytes']; exact hlt) = s.data[j] := by simp
      rw [hget] at hcell
      clear hget
      generalize s.data[j] = c at hcell HT
      have hc := c.toNat_lt
      have hi1 := hex_index1 c
      have hi2 := hex_index2 c
      have hand : bits BinOp.and IntKind.u8 (c.toNat : Int) 15 = (c.toNat : Int) % 16 := u8_and15 _ (by omega) (by omega)
      have HS := Lib.hid hsrc; clear hsrc
      go_wp2_with fail
      go_region_law (refine Buf.step_append_fits rfl (.tmp 17) (.tmp 24) 51 rfl Tryd.underlying51 infoU8 rfl ((hbuf.drew).alloc _) (by rw [Oct.hex_length, List.length_take, len_bytes']; omega) ⟨wr.heap.size, 0, none⟩ 2 2 [Oct.digit (c.toNat / 16), Oct.digit (c.toNat % 16)] rfl rfl (At.two _ _ _ _ _ _ rfl rfl) (by omega) ?_; intro w1 hb1 hg1)
      all_goals
        have hbel1 := ((hbel.drew).alloc hbel.size (.cells #[.int .u8 ((Oct.digit (c.toNat / 16)).toNat : Nat), .int .u8 ((Oct.digit (c.toNat % 16)).toNat : Nat)] 5)).grown hg1 (by have := hbel.size; simp; omega) (fun k hk => by simp at hk; omega)
        have hsrc1 : BytesAt w1 (w.heap.size + 1) s.data.toList := hex_kept HS.out hg1 hsz
        have hsz1 : w.heap.size + 1 < w1.heap.size := by have := hg1.size; simp at this; omega
        rw [← HT.out] at hb1
        clear hg1 hbuf
        go_wp2_with fail
        go_roundw
        case rel => exact ⟨j + 1, by omega, by go_num, rfl, hbel1, hsz1, hb1, hsrc1⟩
        case measure => simp [intOf]; omega
    · obtain rfl : j = s.size := by omega
      rw [List.take_of_length_le (by rw [len_bytes']; omega)] at hbuf
      have hst := hbuf.string (P := Tryd.prog) Tryd.underlying51 Tryd.underlying5 Tryd.underlying9
      go_wp2_with fail
      go_ret
      exact ⟨rfl, hbel⟩
end Go.Proofs.YtnmooegegknmoaaDoor
