/-
  The contracts of octet.Fold and of the reference's Fold.
-/
import Derived.Test.YtnmooegegknmoaaDoorOctHex
import Derived.RegionTactic
namespace Go.Proofs.YtnmooegegknmoaaDoor
open Go.RowKit Go.Proofs.Buf

theorem low_yes (c : UInt8) (h : 65 ≤ c.toNat) (h2 : c.toNat ≤ 90) : ((Oct.low c).toNat : Int) = (c.toNat : Int) + 32 := by
  unfold Oct.low
  rw [if_pos ⟨h, h2⟩, UInt8.toNat_ofNat', Nat.mod_eq_of_lt (by omega)]
  omega
theorem low_no (c : UInt8) (h : ¬ (65 ≤ c.toNat ∧ c.toNat ≤ 90)) : Oct.low c = c := by
  unfold Oct.low
  rw [if_neg h]
theorem fold_take (s : ByteArray) (j : Nat) (h : j < s.size) : Oct.fold (s.data.toList.take (j + 1)) = Oct.fold (s.data.toList.take j) ++ [Oct.low s[j]] := by
  unfold Oct.fold
  rw [List.take_succ_eq_append_getElem (by rw [len_bytes']; exact h), List.map_append]
  rfl

set_option maxHeartbeats 1000000 in
theorem refFold_any (s : ByteArray) (w : World) (hs : s.size ≤ 140737488355328) :
    Calls Tryd.prog 45 #[.string s] w fun e w' => e = .returned (.string ⟨(Oct.fold s.data.toList).toArray⟩) ∧ Below w.heap.size w w' := by
  go_enter Tryd.func45, Tryd.ntmps45
  go_wp2
  go_loopw [3, 4, 5] (fun b i c wr => ∃ (j : Nat), j ≤ s.size ∧ i = .int .i64 j ∧ Below w.heap.size w wr ∧ Buf wr w.heap.size 5 b (Oct.fold (s.data.toList.take j))) (fun _ i _ _ => s.size - (intOf i).toNat)
  case atStart => exact ⟨0, Nat.zero_le _, rfl, Below.refl _ _, Buf.nil _ _ _⟩
  case round =>
    obtain ⟨j, hj, rfl, hbel, hbuf⟩ := hrel
    by_cases hlt : j < s.size
    · have hb : s[j].toNat < 256 := s[j].toNat_lt
      have HT := Lib.hid (fold_take s j hlt)
      have hlen : (Oct.fold (s.data.toList.take j)).length ≤ j := by unfold Oct.fold; rw [List.length_map, List.length_take]; omega
      have hsz := hbel.size
      have HLY := Lib.hid (low_yes s[j])
      have HLN := Lib.hid (low_no s[j])
      by_cases hu : 65 ≤ s[j].toNat ∧ s[j].toNat ≤ 90
      · obtain ⟨hu1, hu2⟩ := hu
        go_wp2_with (at_builtin; refine Buf.wpList_append rfl (.tmp 24) (.tmp 26) 51 rfl Tryd.underlying51 infoU8 rfl (hbuf.alloc _) ⟨wr.heap.size, 0, none⟩ 1 1 [Oct.low s[j]] rfl rfl ?c1 ?c2 ?c3 ?_)
        case c1 => exact At.one _ _ _ _ (by rw [HLY.out hu1 hu2]; omega)
        case c2 => omega
        case c3 => simp; omega
        intro v1 w1 hb1 hg1
        have hbel1 := (hbel.alloc hsz _).grown hg1 (by simp; omega) (fun k hk => (hbuf.lt k hk).1)
        rw [← HT.out] at hb1
        clear hg1 hbuf
        go_wp2_with fail
        go_roundw
        case rel => exact ⟨j + 1, by omega, by go_num, hbel1, hb1⟩
        case measure => simp [intOf]; omega
      · have HU := Lib.hid hu; clear HLY
        have hu' : s[j].toNat < 65 ∨ 90 < s[j].toNat := by omega
        clear hu
        rcases hu' with hu' | hu'
        all_goals
          go_wp2_with (at_builtin; refine Buf.wpList_append rfl (.tmp 24) (.tmp 26) 51 rfl Tryd.underlying51 infoU8 rfl (hbuf.alloc _) ⟨wr.heap.size, 0, none⟩ 1 1 [Oct.low s[j]] rfl rfl (by exact At.one _ _ _ _ (by rw [HLN.out HU.out])) (by omega) (by simp; omega) ?_)
          intro v1 w1 hb1 hg1
          have hbel1 := (hbel.alloc hsz _).grown hg1 (by simp; omega) (fun k hk => (hbuf.lt k hk).1)
          rw [← HT.out] at hb1
          clear hg1 hbuf
          go_wp2_with fail
          go_roundw
          case rel => exact ⟨j + 1, by omega, by go_num, hbel1, hb1⟩
          case measure => simp [intOf]; omega
    · obtain rfl : j = s.size := by omega
      rw [List.take_of_length_le (by rw [len_bytes']; omega)] at hbuf
      have hst := hbuf.string (P := Tryd.prog) Tryd.underlying51 Tryd.underlying5 Tryd.underlying9
      go_wp2_with fail
      go_ret
      exact ⟨rfl, hbel⟩

end Go.Proofs.YtnmooegegknmoaaDoor
