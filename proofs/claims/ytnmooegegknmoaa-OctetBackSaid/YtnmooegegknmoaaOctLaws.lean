/-
  castellanlaw01's awake; the walks of the laws OctetPuts, OctetHexes, OctetGets, OctetUnhexes.
-/
import Derived.Test.YtnmooegegknmoaaOctRefUnhex
import Derived.Test.YtnmooegegknmoaaOctRefPrep
import Derived.Test.YtnmooegegknmoaaOctGet
namespace Go.Proofs.Ytnmooegegknmoaa
open Go.RowKit Go.Proofs.Buf

theorem put258 : (Oct.put 258 3).toArray = #[0, 1, 2] := by decide +kernel
theorem hex00ff : (Oct.hex [0, 255]).toArray = #[48, 48, 102, 102] := by decide +kernel
theorem prepAb : (Oct.prep [32, 32, 65, 32, 32, 98, 32]).toArray = #[97, 32, 98] := by decide +kernel

theorem put_258 (w : World) : Calls Try.prog 21 #[.int .u64 258, .int .i64 3] w fun e w' => e = .returned (.string ⟨#[0, 1, 2]⟩) ∧ Below w.heap.size w w' := by
  have h := put_any 258 3 w (by decide) (by decide) (by decide)
  rw [put258] at h
  exact h
theorem hex_00ff (w : World) : Calls Try.prog 23 #[.string ⟨#[0, 255]⟩] w fun e w' => e = .returned (.string ⟨#[48, 48, 102, 102]⟩) ∧ Below w.heap.size w w' := by
  have h := hex_any ⟨#[0, 255]⟩ w (by decide)
  rw [show (ByteArray.mk #[0, 255]).data.toList = [0, 255] from rfl, hex00ff] at h
  exact h
theorem prep_Ab (w : World) : Calls Try.prog 27 #[.string ⟨#[32, 32, 65, 32, 32, 98, 32]⟩] w fun e w' => e = .returned (.string ⟨#[97, 32, 98]⟩) ∧ Below w.heap.size w w' := by
  have h := prep_any ⟨#[32, 32, 65, 32, 32, 98, 32]⟩ w (by decide)
  rw [show (ByteArray.mk #[32, 32, 65, 32, 32, 98, 32]).data.toList = [32, 32, 65, 32, 32, 98, 32] from rfl, prepAb] at h
  exact h

set_option maxHeartbeats 400000 in
theorem awake1_any (w : World) :
    Calls Try.prog 20 #[] w fun e w' => e = .returned (.bool true) ∧ Below w.heap.size w w' := by
  go_enter Try.func20, Try.ntmps20
  go_wp2_with fail
  refine (put_258 _).mono ?_
  rintro e w1 ⟨rfl, hb1⟩
  go_wp2_with fail
  refine (hex_00ff _).mono ?_
  rintro e w2 ⟨rfl, hb2⟩
  go_wp2_with fail
  refine (prep_Ab _).mono ?_
  rintro e w3 ⟨rfl, hb3⟩
  go_wp2_with fail
  go_ret
  have h1 := hb1.size
  have h2 := hb2.size
  exact ⟨rfl, (hb1.trans (hb2.mono (by omega))).trans (hb3.mono (by omega))⟩

/-- Put and the reference's Put give one string. -/
theorem puts (n : BitVec 64) (size : Int) : ∃ S : ByteArray, (∀ w, Calls Try.prog 21 #[.int .u64 (n.toNat : Nat), .int .i64 size] w fun e w' => e = .returned (.string S) ∧ Below w.heap.size w w') ∧
    (∀ w, Calls Try.prog 22 #[.int .u64 (n.toNat : Nat), .int .i64 size] w fun e w' => e = .returned (.string S) ∧ Below w.heap.size w w') := by
  by_cases h : size < 1 ∨ 8 < size
  · exact ⟨_, fun w => (put_none n.toNat size w h).mono (fun e w' ⟨a, b⟩ => ⟨a, b ▸ Below.refl _ _⟩), fun w => refPut_none n.toNat size w h⟩
  · obtain ⟨k, rfl⟩ := Int.eq_ofNat_of_zero_le (show 0 ≤ size by omega)
    exact ⟨_, fun w => put_any n.toNat k w n.isLt (by omega) (by omega), fun w => refPut_any n.toNat k w n.isLt (by omega)⟩

set_option maxHeartbeats 400000 in
theorem octetPuts_walk (n : BitVec 64) (size : Int) (w : World) :
    Calls Try.prog 7 #[.int .u64 (n.toNat : Nat), .int .i64 size] w fun e w' => e = .returned (.bool true) ∧ Below w.heap.size w w' := by
  obtain ⟨S, k1, k2⟩ := puts n size
  have K1 := Lib.hid k1; clear k1
  have K2 := Lib.hid k2; clear k2
  generalize n.toNat = m at *
  go_enter Try.func7, Try.ntmps7
  go_wp2_with fail
  refine (awake1_any _).mono ?_
  rintro e w1 ⟨rfl, hb1⟩
  go_wp2_with fail
  refine (K1.out _).mono ?_
  rintro e w2 ⟨rfl, hb2⟩
  go_wp2_with fail
  refine (K2.out _).mono ?_
  rintro e w3 ⟨rfl, hb3⟩
  go_wp2_with fail
  go_ret
  have h1 := hb1.size
  have h2 := hb2.size
  exact ⟨rfl, (hb1.trans (hb2.mono (by omega))).trans (hb3.mono (by omega))⟩

set_option maxHeartbeats 400000 in
theorem octetHexes_walk (s : ByteArray) (w : World) (hs : s.size ≤ 1048576) :
    Calls Try.prog 8 #[.string s] w fun e w' => e = .returned (.bool true) ∧ Below w.heap.size w w' := by
  have K1 := Lib.hid (fun w => hex_any s w (by omega))
  have K2 := Lib.hid (fun w => refHex_any s w (by omega))
  generalize (ByteArray.mk (Oct.hex s.data.toList).toArray) = S at K1 K2
  go_enter Try.func8, Try.ntmps8
  go_wp2_with fail
  refine (awake1_any _).mono ?_
  rintro e w1 ⟨rfl, hb1⟩
  go_wp2_with fail
  refine (K1.out _).mono ?_
  rintro e w2 ⟨rfl, hb2⟩
  go_wp2_with fail
  refine (K2.out _).mono ?_
  rintro e w3 ⟨rfl, hb3⟩
  go_wp2_with fail
  go_ret
  have h1 := hb1.size
  have h2 := hb2.size
  exact ⟨rfl, (hb1.trans (hb2.mono (by omega))).trans (hb3.mono (by omega))⟩

/-- Get and the reference's Get give one answer. -/
theorem gets (s : ByteArray) (pos size : Int) (hs : s.size ≤ maxLen) : ∃ (N : Nat) (B : Bool), (∀ w, Calls Try.prog 29 #[.string s, .int .i64 pos, .int .i64 size] w fun e w' => e = .returned (.tuple #[.int .u64 N, .bool B]) ∧ Below w.heap.size w w') ∧
    (∀ w, Calls Try.prog 30 #[.string s, .int .i64 pos, .int .i64 size] w fun e w' => e = .returned (.tuple #[.int .u64 N, .bool B]) ∧ w = w') := by
  rcases getNo_or s pos size with h | ⟨a, k, rfl, rfl, h1, h8, hak⟩
  · exact ⟨0, false, fun w => (get_no s pos size w hs h).mono (fun e w' ⟨a, b⟩ => ⟨a, b ▸ Below.refl _ _⟩), fun w => refGet_no s pos size w hs h⟩
  · exact ⟨_, true, fun w => get_yes s a k w hs h1 h8 hak, fun w => refGet_yes s a k w hs h1 h8 hak⟩

set_option maxHeartbeats 400000 in
theorem octetGets_walk (s : ByteArray) (pos size : Int) (w : World) (hs : s.size ≤ maxLen) :
    Calls Try.prog 11 #[.string s, .int .i64 pos, .int .i64 size] w fun e w' => e = .returned (.bool true) ∧ Below w.heap.size w w' := by
  obtain ⟨N, B, k1, k2⟩ := gets s pos size hs
  have K1 := Lib.hid k1; clear k1
  have K2 := Lib.hid k2; clear k2
  go_enter Try.func11, Try.ntmps11
  go_wp2_with fail
  refine (K1.out _).mono ?_
  rintro e w1 ⟨rfl, hb1⟩
  go_wp2_with fail
  refine (K2.out _).mono ?_
  rintro e w2 ⟨rfl, rfl⟩
  go_wp2_with fail
  refine (awake1_any _).mono ?_
  rintro e w2 ⟨rfl, hb2⟩
  cases B
  all_goals
    go_wp2_with fail
    go_ret
    have h1 := hb1.size
    exact ⟨rfl, hb1.trans (hb2.mono (by omega))⟩

set_option maxHeartbeats 400000 in
theorem octetUnhexes_walk (s : ByteArray) (w : World) (hs : s.size ≤ maxLen) :
    Calls Try.prog 12 #[.string s] w fun e w' => e = .returned (.bool true) ∧ Below w.heap.size w w' := by
  unfold maxLen at hs
  by_cases hl : 3000 < s.size
  · go_enter Try.func12, Try.ntmps12
    go_wp2_with fail
    refine (awake1_any _).mono ?_
    rintro e w1 ⟨rfl, hb1⟩
    go_wp2_with fail
    go_ret
    exact ⟨rfl, hb1⟩
  · have K1 := Lib.hid (fun w => unhex_any s w (by omega))
    have K2 := Lib.hid (fun w => refUnhex_any s w (by omega))
    obtain ⟨S, B, hV⟩ : ∃ (S : ByteArray) (B : Bool), unhexV s.data.toList = .tuple #[.string S, .bool B] := by
      unfold unhexV
      split
      · exact ⟨_, _, rfl⟩
      · exact ⟨_, _, rfl⟩
    rw [hV] at K1 K2
    clear hV
    go_enter Try.func12, Try.ntmps12
    go_wp2_with fail
    refine (K1.out _).mono ?_
    rintro e w1 ⟨rfl, hb1⟩
    go_wp2_with fail
    refine (K2.out _).mono ?_
    rintro e w2 ⟨rfl, hb2⟩
    go_wp2_with fail
    refine (awake1_any _).mono ?_
    rintro e w3 ⟨rfl, hb3⟩
    cases B
    all_goals
      go_wp2_with fail
      go_ret
      have h1 := hb1.size
      have h2 := hb2.size
      exact ⟨rfl, (hb1.trans (hb2.mono (by omega))).trans (hb3.mono (by omega))⟩
end Go.Proofs.Ytnmooegegknmoaa
