/-
  More contracts: castellanlaw02's joined and awake; crc.Sum.
-/
import Derived.Test.YtnmooegegknmoaaCrcWalks
namespace Go.Proofs.Ytnmooegegknmoaa
open Go.RowKit

theorem bytes_append (a b : ByteArray) : (a ++ b).data.toList = a.data.toList ++ b.data.toList := by simp
/-- What 'joined' gives. -/
def Joined (ss : List ByteArray) (w : World) (e : Ending) (w' : World) : Prop :=
  ∃ (s : ByteArray) (ok : Bool), e = .returned (.tuple #[.string s, .bool ok]) ∧ s.size ≤ 20000 ∧ (ok = true → s.data.toList = catB ss) ∧ w = w'

set_option maxHeartbeats 400000 in
theorem joined_any (v : Value) (ss : List ByteArray) (w : World) (hv : StrsAt w v ss) :
    Calls Try.prog 14 #[v] w (Joined ss w) := by
  rcases hv with ⟨rfl, a, cap, rfl⟩ | ⟨b, off, cap, rfl, hb, hm, hc, hs⟩
  · go_enter Try.func14, Try.ntmps14
    go_wp2
    go_loop [4, 6, 9] (fun s p i => i = .int .i64 0 ∧ s = .string ⟨#[]⟩) (fun _ _ i => 0)
    case atStart => exact ⟨rfl, rfl⟩
    case round =>
      obtain ⟨rfl, rfl⟩ := hrel
      go_wp2
      go_ret2
      exact ⟨_, _, rfl, by decide, fun _ => rfl, rfl⟩
  · unfold maxLen at hm
    have HC := Lib.hid hc; clear hc
    have HZ := Lib.hid hs; clear hs
    obtain ⟨len, hlen⟩ : ∃ len : Nat, len = ss.length := ⟨_, rfl⟩
    rw [← hlen] at hm ⊢
    have HL := Lib.hid hlen; clear hlen
    go_enter Try.func14, Try.ntmps14
    go_wp2
    go_loop [4, 6, 9] (fun s p i => ∃ (j : Nat) (acc : ByteArray), j ≤ len ∧ acc.size ≤ 20000 ∧ Hid (acc.data.toList = catB (ss.take j)) ∧ i = .int .i64 j ∧ s = .string acc) (fun _ _ i => len - (intOf i).toNat)
    case atStart => exact ⟨0, ⟨#[]⟩, Nat.zero_le _, by decide, rfl, rfl, rfl⟩
    case round =>
      obtain ⟨j, acc, hj, hacc, HA, rfl, rfl⟩ := hrel
      by_cases hlt : j < len
      · have hjs : j < ss.length := by rw [← HL.out]; exact hlt
        have hcell : w.cell? ⟨b, off + j, none⟩ = some (.string ss[j]) := HC.out j hjs
        have hsz : ss[j].size ≤ maxLen := HZ.out _ (List.getElem_mem hjs)
        have HT := Lib.hid (catB_take ss j hjs)
        unfold maxLen at hsz
        generalize ss[j] = s at hcell hsz HT
        clear hjs
        by_cases h1 : 100 < len
        · go_wp2
          go_ret2
          exact ⟨_, _, rfl, by decide, (by intro h; cases h), rfl⟩
        · by_cases h2 : 10000 < s.size
          · go_wp2
            go_ret2
            exact ⟨_, _, rfl, by decide, (by intro h; cases h), rfl⟩
          · by_cases h3 : 10000 < acc.size
            · go_wp2
              go_ret2
              exact ⟨_, _, rfl, by decide, (by intro h; cases h), rfl⟩
            · go_wp2
              go_round
              case rel => exact ⟨j + 1, acc ++ s, by omega, by rw [ByteArray.size_append]; omega, by
                show (acc ++ s).data.toList = _
                rw [HT.out, ← HA.out]
                exact bytes_append acc s, by go_num, rfl⟩
              case measure => simp [intOf]; omega
      · go_wp2
        go_ret2
        exact ⟨_, _, rfl, hacc, fun _ => by
          have h := HA.out
          rw [List.take_of_length_le (by rw [← HL.out]; omega)] at h
          exact h, rfl⟩

set_option maxHeartbeats 400000 in
theorem sum_any (v : Value) (ss : List ByteArray) (w : World) (hv : StrsAt w v ss) :
    Calls Try.prog 16 #[v] w fun e w' => e = .returned (.int .u32 ((Crc.add 0#32 (catB ss)).toNat : Nat)) ∧ Below w.heap.size w w' := by
  have hc := add_any 0#32 v ss w hv
  rw [show ((((0#32 : BitVec 32).toNat : Nat)) : Int) = 0 from rfl] at hc
  have HC := Lib.hid hc; clear hc hv
  go_enter Try.func16, Try.ntmps16
  go_wp2_with (go_at_call 18; refine (HC.out).mono ?_; rintro e w' ⟨rfl, hb⟩)
  go_ret
  exact ⟨rfl, hb⟩

theorem crc_check : (Crc.add 0#32 [49, 50, 51, 52, 53, 54, 55, 56, 57]).toNat = 3421780262 := by decide +kernel
theorem strsAt_one (w : World) (T : TypeId) (s : ByteArray) (hs : s.size ≤ maxLen) : StrsAt (w.alloc (.cells #[.string s] T)) (.slice (some ⟨w.heap.size, 0, none⟩) 1 1) [s] := by
  refine .inr ⟨w.heap.size, 0, 1, rfl, by simp, by simp [maxLen], fun i hi => ?_, fun x hx => by rw [List.mem_singleton.1 hx]; exact hs⟩
  have : i = 0 := by simp at hi; exact hi
  subst this
  rw [World.cell?_alloc_mark]
  simp
theorem strsAt_two (w : World) (T : TypeId) (s t : ByteArray) (hs : s.size ≤ maxLen) (ht : t.size ≤ maxLen) : StrsAt (w.alloc (.cells #[.string s, .string t] T)) (.slice (some ⟨w.heap.size, 0, none⟩) 2 2) [s, t] := by
  refine .inr ⟨w.heap.size, 0, 2, rfl, by simp, by simp [maxLen], fun i hi => ?_, fun x hx => by rcases List.mem_cons.1 hx with rfl | hx; exact hs; rw [List.mem_singleton.1 hx]; exact ht⟩
  rw [World.cell?_alloc_mark]
  match i, hi with
  | 0, _ => simp
  | 1, _ => simp
theorem sum_nine (v : Value) (ss : List ByteArray) (w : World) (hv : StrsAt w v ss) (hc : catB ss = [49, 50, 51, 52, 53, 54, 55, 56, 57]) :
    Calls Try.prog 16 #[v] w fun e w' => e = .returned (.int .u32 3421780262) ∧ Below w.heap.size w w' := by
  have h := sum_any v ss w hv
  rw [hc, crc_check] at h
  exact h

set_option maxHeartbeats 400000 in
theorem awake2_any (w : World) :
    Calls Try.prog 15 #[] w fun e w' => e = .returned (.bool true) ∧ Below w.heap.size w w' := by
  have k1 := fun w => sum_nine _ _ _ (strsAt_one w 9 ⟨#[49, 50, 51, 52, 53, 54, 55, 56, 57]⟩ (by decide)) rfl
  have k2 := fun w => sum_nine _ _ _ (strsAt_two w 9 ⟨#[49, 50, 51, 52]⟩ ⟨#[53, 54, 55, 56, 57]⟩ (by decide) (by decide)) rfl
  have K1 := Lib.hid k1; clear k1
  have K2 := Lib.hid k2; clear k2
  go_enter Try.func15, Try.ntmps15
  go_wp2_with fail
  refine (K1.out _).mono ?_
  rintro e w1 ⟨rfl, hb1⟩
  go_wp2_with fail
  refine (K2.out _).mono ?_
  rintro e w2 ⟨rfl, hb2⟩
  go_wp2_with fail
  go_ret
  have hz := hb1.size
  have hz2 := hb2.size
  simp at hz hz2 hb1 hb2
  exact ⟨rfl, (((Below.refl _ _).alloc (Nat.le_refl _) _).trans (hb1.mono (by omega))).trans (((Below.refl _ _).alloc (by omega) _).trans (hb2.mono (by omega)))⟩
end Go.Proofs.Ytnmooegegknmoaa
