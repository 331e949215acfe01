/-
  The contracts of octet.Fold and of the reference's Fold.
-/
import Derived.Test.YtnmooegegknmoaaOctHex
import Derived.RegionTactic
namespace Go.Proofs.Ytnmooegegknmoaa
open Go.RowKit Go.Proofs.Buf

theorem low_yes (c : UInt8) (h : 65 ≤ c.toNat) (h2 : c.toNat ≤ 90) : ((Oct.low c).toNat : Int) = (c.toNat : Int) + 32 := by
  unfold Oct.low
  rw [if_pos ⟨h, h2⟩, UInt8.toNat_ofNat', Nat.mod_eq_of_lt (by omega)]
  omega
theorem low_no (c : UInt8) (h : ¬ (65 ≤ c.toNat ∧ c.toNat ≤ 90)) : Oct.low c = c := by
  unfold Oct.low
  rw [if_neg h]
theorem fold_take (s : ByteArray) (j : Nat) (h : j < s.size) : Oct.fold (s.data.toList.take (j + 1)) = Oct.fold (s.data.toList.take j) ++ [Oct.low s[j]] := by
  unfold Oct.fold
  rw [List.take_succ_eq_append_getElem (by rw [len_bytes']; exact h), List.map_append]
  rfl

set_option maxHeartbeats 1000000 in
theorem refFold_any (s : ByteArray) (w : World) (hs : s.size ≤ 140737488355328) :
    Calls Try.prog 26 #[.string s] w fun e w' => e = .returned (.string ⟨(Oct.fold s.data.toList).toArray⟩) ∧ Below w.heap.size w w' := by
  go_enter Try.func26, Try.ntmps26
  go_wp2
  go_loopw [3, 4, 5] (fun b i c wr => ∃ (j : Nat), j ≤ s.size ∧ i = .int .i64 j ∧ Below w.heap.size w wr ∧ Buf wr w.heap.size 5 b (Oct.fold (s.data.toList.take j))) (fun _ i _ _ => s.size - (intOf i).toNat)
  case atStart => exact ⟨0, Nat.zero_le _, rfl, Below.refl _ _, Buf.nil _ _ _⟩
  case round =>
    obtain ⟨j, hj, rfl, hbel, hbuf⟩ := hrel
    by_cases hlt : j < s.size
    · have hb : s[j].toNat < 256 := s[j].toNat_lt
      have HT := Lib.hid (fold_take s j hlt)
      have hlen : (Oct.fold (s.data.toList.take j)).length ≤ j := by unfold Oct.fold; rw [List.length_map, List.length_take]; omega
      have hsz := hbel.size
      have HLY := Lib.hid (low_yes s[j])
      have HLN := Lib.hid (low_no s[j])
      by_cases hu : 65 ≤ s[j].toNat ∧ s[j].toNat ≤ 90
      · obtain ⟨hu1, hu2⟩ := hu
        go_wp2_with (at_builtin; refine Buf.wpList_append rfl (.tmp 24) (.tmp 26) 35 rfl Try.underlying35 infoU8 rfl (hbuf.alloc _) ⟨wr.heap.size, 0, none⟩ 1 1 [Oct.low s[j]] rfl rfl ?c1 ?c2 ?c3 ?_)
        case c1 => exact At.one _ _ _ _ (by rw [HLY.out hu1 hu2]; omega)
        case c2 => omega
        case c3 => simp; omega
        intro v1 w1 hb1 hg1
        have hbel1 := (hbel.alloc hsz _).grown hg1 (by simp; omega) (fun k hk => (hbuf.lt k hk).1)
        rw [← HT.out] at hb1
        clear hg1 hbuf
        go_wp2_with fail
        go_roundw
        case rel => exact ⟨j + 1, by omega, by go_num, hbel1, hb1⟩
        case measure => simp [intOf]; omega
      · have HU := Lib.hid hu; clear HLY
        have hu' : s[j].toNat < 65 ∨ 90 < s[j].toNat := by omega
        clear hu
        rcases hu' with hu' | hu'
        all_goals
          go_wp2_with (at_builtin; refine Buf.wpList_append rfl (.tmp 24) (.tmp 26) 35 rfl Try.underlying35 infoU8 rfl (hbuf.alloc _) ⟨wr.heap.size, 0, none⟩ 1 1 [Oct.low s[j]] rfl rfl (by exact At.one _ _ _ _ (by rw [HLN.out HU.out])) (by omega) (by simp; omega) ?_)
          intro v1 w1 hb1 hg1
          have hbel1 := (hbel.alloc hsz _).grown hg1 (by simp; omega) (fun k hk => (hbuf.lt k hk).1)
          rw [← HT.out] at hb1
          clear hg1 hbuf
          go_wp2_with fail
          go_roundw
          case rel => exact ⟨j + 1, by omega, by go_num, hbel1, hb1⟩
          case measure => simp [intOf]; omega
    · obtain rfl : j = s.size := by omega
      rw [List.take_of_length_le (by rw [len_bytes']; omega)] at hbuf
      have hst := hbuf.string (P := Try.prog) Try.underlying35 Try.underlying5 Try.underlying9
      go_wp2_with fail
      go_ret
      exact ⟨rfl, hbel⟩

/-- The first j letters are small. -/
def folded (l : List UInt8) (j : Nat) : List UInt8 := Oct.fold (l.take j) ++ l.drop j
theorem folded_length (l : List UInt8) (j : Nat) : (folded l j).length = l.length := by
  unfold folded Oct.fold
  rw [List.length_append, List.length_map, List.length_take, List.length_drop]; omega
theorem folded_get (l : List UInt8) (j : Nat) (h : j < l.length) : (folded l j)[j]'(by rw [folded_length]; exact h) = l[j] := by
  have hl : (Oct.fold (l.take j)).length = j := by unfold Oct.fold; rw [List.length_map, List.length_take]; omega
  unfold folded
  rw [List.getElem_append_right (by omega)]
  simp [hl]
theorem folded_set (l : List UInt8) (j : Nat) (h : j < l.length) : (folded l j).set j (Oct.low l[j]) = folded l (j + 1) := by
  have hl : (Oct.fold (l.take j)).length = j := by unfold Oct.fold; rw [List.length_map, List.length_take]; omega
  have e : Oct.fold (l.take (j + 1)) = Oct.fold (l.take j) ++ [Oct.low l[j]] := by
    unfold Oct.fold
    rw [List.take_succ_eq_append_getElem h, List.map_append]
    rfl
  unfold folded
  rw [List.set_append, if_neg (by omega), hl, Nat.sub_self, List.drop_eq_getElem_cons h, List.set_cons_zero, e, List.append_assoc]
  rfl
theorem folded_same (l : List UInt8) (j : Nat) (h : j < l.length) (he : Oct.low l[j] = l[j]) : folded l j = folded l (j + 1) := by
  rw [← folded_set l j h, he]
  apply List.ext_getElem (by simp)
  intro i h1 h2
  by_cases hij : j = i
  · subst hij
    rw [List.getElem_set_self, folded_get l j h]
  · rw [List.getElem_set_ne hij]

set_option maxHeartbeats 1000000 in
theorem fold_any (s : ByteArray) (w : World) (hs : s.size ≤ maxLen) :
    Calls Try.prog 25 #[.string s] w fun e w' => e = .returned (.string ⟨(Oct.fold s.data.toList).toArray⟩) ∧ Below w.heap.size w w' := by
  unfold maxLen at hs
  have kc := fun (w : World) (s : ByteArray) => run_bytes_of_string (P := Try.prog) w 9 35 5 s Try.underlying9 Try.underlying35 Try.underlying5
  have hll := len_bytes' s
  have HLL := Lib.hid hll; clear hll
  go_enter Try.func25, Try.ntmps25
  go_wp2
  go_loopw [4, 5, 10] (fun iv c i wr => ∃ (j : Nat), j ≤ s.size ∧ i = .int .i64 j ∧ Below w.heap.size w wr ∧ BytesAt wr w.heap.size (folded s.data.toList j)) (fun _ _ i _ => s.size - (intOf i).toNat)
  case atStart => exact ⟨0, Nat.zero_le _, rfl, ((Below.refl _ _).alloc (Nat.le_refl _) _).drew, (bytesAt_new w s _ _).drew⟩
  case round =>
    obtain ⟨j, hj, rfl, hbel, hat⟩ := hrel
    by_cases hlt : j < s.size
    · have hjl : j < s.data.toList.length := by rw [HLL.out]; exact hlt
      have hcell := hat.1 j (by rw [folded_length]; exact hjl)
      rw [folded_get _ _ hjl] at hcell
      have hfz := hat.2 j (by rw [folded_length]; exact hjl)
      have HSET := Lib.hid (folded_set s.data.toList j hjl)
      have HSAME := Lib.hid (folded_same s.data.toList j hjl)
      have HAT := Lib.hid hat; clear hat
      have HJL := Lib.hid hjl
      generalize s.data.toList[j]'hjl = c at hcell HSET HSAME
      clear hjl
      have hc := c.toNat_lt
      by_cases hu : 65 ≤ c.toNat ∧ c.toNat ≤ 90
      · obtain ⟨hu1, hu2⟩ := hu
        go_wp2
        go_roundw
        case rel => exact ⟨j + 1, by omega, by go_num, hbel.setCell (Nat.le_refl _) _, by
          have h := HAT.out.set j (by rw [folded_length]; exact HJL.out) (Oct.low c)
          rw [HSET.out, low_yes c hu1 hu2] at h
          exact h⟩
        case measure => simp [intOf]; omega
      · have hsame := HSAME.out (low_no c hu)
        rw [hsame] at HAT
        clear HSET HSAME hsame
        have hu' : c.toNat < 65 ∨ 90 < c.toNat := by omega
        clear hu
        rcases hu' with hu' | hu'
        all_goals
          go_wp2
          go_roundw
          case rel => exact ⟨j + 1, by omega, by go_num, hbel, HAT.out⟩
          case measure => simp [intOf]; omega
    · obtain rfl : j = s.size := by omega
      have hst := hat.string (P := Try.prog) (cap := grownCap w s.size 0 5) s.size (by rw [folded_length, HLL.out]) Try.underlying35 Try.underlying5 Try.underlying9
      have e : folded s.data.toList s.size = Oct.fold s.data.toList := by
        unfold folded
        rw [List.take_of_length_le (by rw [HLL.out]; omega), List.drop_eq_nil_of_le (by rw [HLL.out]; omega), List.append_nil]
      rw [e] at hst
      go_wp2_with fail
      go_ret
      exact ⟨rfl, hbel⟩
end Go.Proofs.Ytnmooegegknmoaa
