/-
  The contract of the reference's Prep.
-/
import Derived.Test.YtnmooegegknmoaaOctPrep
namespace Go.Proofs.Ytnmooegegknmoaa
open Go.RowKit Go.Proofs.Buf

theorem anyNe_snoc (l : List UInt8) (c : UInt8) (h : Oct.anyNe l = false) : Oct.anyNe (l ++ [c]) = decide (c ≠ 32) := by
  unfold Oct.anyNe at h ⊢
  rw [List.any_append, h]
  simp
theorem byte_ne (c : UInt8) : ((c.toNat : Int) != 32) = decide (c ≠ 32) := by
  by_cases h : c = 32
  · subst h; rfl
  · rw [decide_eq_true h, bne_iff_ne]
    intro e
    exact h (UInt8.toNat_inj.1 (by rw [show (32 : UInt8).toNat = 32 from rfl]; omega))

theorem anyNe_all (FS : ByteArray) (j m : Nat) (b : Bool) (hjm : j ≤ m) (hm : m ≤ FS.size) (h : Oct.anyNe ((FS.data.toList.drop j).take (m - j)) = b) (hg : ¬ (m < FS.size ∧ b = false)) : Oct.anyNe (FS.data.toList.drop j) = b := by
  cases b with
  | false =>
    have : m = FS.size := by
      rcases Nat.lt_or_ge m FS.size with h' | h'
      · exact absurd ⟨h', rfl⟩ hg
      · omega
    subst this
    rw [List.take_of_length_le (by rw [List.length_drop, len_bytes']; omega)] at h
    exact h
  | true =>
    unfold Oct.anyNe at h ⊢
    rw [← List.take_append_drop (m - j) (FS.data.toList.drop j), List.any_append, h]
    rfl
theorem getD_byte (FS : ByteArray) (j : Nat) (h : j < FS.size) : FS.data.toList.getD j 0 = FS[j] := by
  rw [List.getD_eq_getElem?_getD, List.getElem?_eq_getElem (by rw [len_bytes']; exact h)]
  rfl
theorem rp_skip (FS : ByteArray) (j : Nat) (h : Oct.anyNe (FS.data.toList.drop j) = false) : Oct.rp FS.data.toList (j + 1) = Oct.rp FS.data.toList j := by
  show Oct.rpStep _ _ _ = _
  unfold Oct.rpStep
  rw [if_pos (.inl h)]
theorem rp_skip0 (FS : ByteArray) (j : Nat) (h : j < FS.size) (hc : FS[j] = 32) (hn : Oct.rp FS.data.toList j = []) : Oct.rp FS.data.toList (j + 1) = Oct.rp FS.data.toList j := by
  show Oct.rpStep _ _ _ = _
  unfold Oct.rpStep
  rw [if_pos (.inr ⟨by rw [getD_byte _ _ h]; exact hc, .inl hn⟩)]
theorem rp_skip1 (FS : ByteArray) (p : Nat) (h : p + 1 < FS.size) (hc : FS[p + 1] = 32) (hp : FS[p] = 32) : Oct.rp FS.data.toList (p + 1 + 1) = Oct.rp FS.data.toList (p + 1) := by
  show Oct.rpStep _ _ _ = _
  unfold Oct.rpStep
  rw [if_pos (.inr ⟨by rw [getD_byte _ _ h]; exact hc, .inr (by rw [Nat.add_sub_cancel, getD_byte _ _ (by omega)]; exact hp)⟩)]
theorem rp_keep (FS : ByteArray) (j : Nat) (h : j < FS.size) (hl : Oct.anyNe (FS.data.toList.drop j) = true) (hc : FS[j] ≠ 32) : Oct.rp FS.data.toList (j + 1) = Oct.rp FS.data.toList j ++ [FS[j]] := by
  show Oct.rpStep _ _ _ = _
  unfold Oct.rpStep
  rw [if_neg (by rw [hl, getD_byte _ _ h]; simp [hc]), getD_byte _ _ h]
theorem rp_keep1 (FS : ByteArray) (p : Nat) (h : p + 1 < FS.size) (hl : Oct.anyNe (FS.data.toList.drop (p + 1)) = true) (hp : FS[p] ≠ 32) (q : List UInt8) (d : UInt8) (hq : Oct.rp FS.data.toList (p + 1) = q ++ [d]) :
    Oct.rp FS.data.toList (p + 1 + 1) = Oct.rp FS.data.toList (p + 1) ++ [FS[p + 1]] := by
  show Oct.rpStep _ _ _ = _
  unfold Oct.rpStep
  rw [if_neg (by rw [hl, Nat.add_sub_cancel, getD_byte _ _ (by omega : p < FS.size), hq]; simp [hp]), getD_byte _ _ h]

set_option maxHeartbeats 2000000 in
theorem refPrep_any (s : ByteArray) (w : World) (hs : s.size ≤ 140737488355328) :
    Calls Try.prog 28 #[.string s] w fun e w' => e = .returned (.string ⟨(Oct.refPrep s.data.toList).toArray⟩) ∧ Below w.heap.size w w' := by
  have K1 := Lib.hid (refFold_any s w hs)
  have hfl : (Oct.fold s.data.toList).length = s.size := by unfold Oct.fold; rw [List.length_map, len_bytes']
  have hrp : Oct.refPrep s.data.toList = Oct.rp (Oct.fold s.data.toList) s.size := by unfold Oct.refPrep; rw [len_bytes']
  obtain ⟨FS, hFS⟩ : ∃ FS : ByteArray, FS.data.toList = Oct.fold s.data.toList ∧ ByteArray.mk (Oct.fold s.data.toList).toArray = FS := ⟨_, by simp, rfl⟩
  rw [hFS.2] at K1
  rw [← hFS.1] at hrp hfl
  have hle : FS.size ≤ 140737488355328 := by rw [← len_bytes', hfl]; exact hs
  rw [← hfl, len_bytes'] at hrp
  have HR := Lib.hid hrp
  clear hrp hFS hfl
  go_enter Try.func28, Try.ntmps28
  go_wp2_with fail
  refine (K1.out).mono ?_
  rintro e w1 ⟨rfl, hb1⟩
  go_wp2_with fail
  have hz1 := hb1.size
  go_loopw [4, 5, 6, 7] (fun b i l k wr => ∃ (j : Nat), j ≤ FS.size ∧ i = .int .i64 j ∧ Below w.heap.size w wr ∧ Buf wr w.heap.size 5 b (Oct.rp FS.data.toList j)) (fun _ i _ _ _ => FS.size - (intOf i).toNat)
  case atStart => exact ⟨0, Nat.zero_le _, rfl, hb1, Buf.nil _ _ _⟩
  case round =>
    obtain ⟨j, hj, rfl, hbel, hbuf⟩ := hrel
    by_cases hlt : j < FS.size
    · go_wp2_with fail
      go_loop [6, 7] (fun l k => ∃ (m : Nat) (b : Bool), j ≤ m ∧ m ≤ FS.size ∧ k = .int .i64 m ∧ l = .bool b ∧ Hid (Oct.anyNe ((FS.data.toList.drop j).take (m - j)) = b)) (fun _ k => FS.size - (intOf k).toNat)
      case atStart => exact ⟨j, false, Nat.le_refl _, by omega, rfl, rfl, by show _ = _; simp [Oct.anyNe]⟩
      case round =>
        obtain ⟨m, b, hjm, hm, rfl, rfl, HB⟩ := hrel
        by_cases hgo : m < FS.size ∧ b = false
        · obtain ⟨hmlt, rfl⟩ := hgo
          have HBN := Lib.hid (byte_ne FS[m])
          go_wp2_with fail
          go_round
          case rel => exact ⟨m + 1, _, by omega, by omega, by go_num, rfl, by
            show _ = _
            have e : (FS.data.toList.drop j).take (m + 1 - j) = (FS.data.toList.drop j).take (m - j) ++ [FS[m]] := by
              have h1 : m + 1 - j = (m - j) + 1 := by omega
              rw [h1, List.take_succ_eq_append_getElem (by rw [List.length_drop, len_bytes']; omega), List.getElem_drop]
              have h2 : j + (m - j) = m := by omega
              simp only [h2]
              rfl
            rw [e, anyNe_snoc _ _ HB.out, HBN.out]⟩
          case measure => simp [intOf]; omega
        · have hcs : (¬ m < FS.size ∧ b = false) ∨ (m < FS.size ∧ b = true) ∨ (¬ m < FS.size ∧ b = true) := by
            cases b
            · exact .inl ⟨fun h => hgo ⟨h, rfl⟩, rfl⟩
            · by_cases h : m < FS.size
              · exact .inr (.inl ⟨h, rfl⟩)
              · exact .inr (.inr ⟨h, rfl⟩)
          have HLAT : Hid (Oct.anyNe (FS.data.toList.drop j) = b) := anyNe_all FS j m b hjm hm HB.out (fun h => hgo ⟨h.1, h.2⟩)
          have hlen : (Oct.rp FS.data.toList j).length ≤ j := Oct.rp_length _ _
          have hszw := hbel.size
          clear hgo HB
          rcases hcs with ⟨hm', rfl⟩ | hcs
          · have HS := Lib.hid (rp_skip FS j HLAT.out)
            go_wp2_with fail
            go_roundw
            case rel => exact ⟨j + 1, by omega, by go_num, hbel, by rw [HS.out]; exact hbuf⟩
            case measure => simp [intOf]; omega
          · have hc := FS[j].toNat_lt
            by_cases hc32 : FS[j] = 32
            · have hc' : ((FS[j].toNat : Int) == 32) = true := by rw [hc32]; rfl
              rcases list_snoc (Oct.rp FS.data.toList j) with hnil | ⟨q, d, hq⟩
              · have HS : Hid (Oct.rp FS.data.toList (j + 1) = Oct.rp FS.data.toList j) := rp_skip0 FS j hlt hc32 hnil
                rw [hnil] at hbuf HS
                obtain ⟨a0, cap, hu3⟩ := hbuf.len
                simp only [List.length_nil] at hu3
                subst hu3
                clear hnil hc32 hlen
                rcases hcs with ⟨hm', rfl⟩ | ⟨hm', rfl⟩
                all_goals
                  go_wp2_with fail
                  go_roundw
                  case rel => exact ⟨j + 1, by omega, by go_num, hbel, by rw [HS.out]; exact hbuf⟩
                  case measure => simp [intOf]; omega
              · have hj0 : 1 ≤ j := by rw [hq, List.length_append, List.length_singleton] at hlen; omega
                have hbl : Hid (Oct.rp FS.data.toList j = q ++ [d]) := hq
                have hbuf' := hbuf
                rw [hq] at hbuf'
                obtain ⟨a0, cap, hu3⟩ := hbuf'.len
                rw [List.length_append, List.length_singleton] at hu3
                rw [hq, List.length_append, List.length_singleton] at hlen
                clear hbuf' hq
                obtain ⟨p, hp⟩ : ∃ p, j = p + 1 := ⟨j - 1, by omega⟩
                subst hp
                subst hu3
                obtain ⟨ql, hql⟩ : ∃ ql, ql = q.length := ⟨_, rfl⟩
                rw [← hql] at hbuf hlen ⊢
                clear hql
                by_cases hp32 : FS[p] = 32
                · have HS := Lib.hid (rp_skip1 FS p hlt hc32 hp32)
                  have hp' : ((FS[p].toNat : Int) == 32) = true := by rw [hp32]; rfl
                  clear hc32 hp32
                  rcases hcs with ⟨hm', rfl⟩ | ⟨hm', rfl⟩
                  all_goals
                    go_wp2_with fail
                    go_roundw
                    case rel => exact ⟨p + 1 + 1, by omega, by go_num, hbel, by rw [HS.out]; exact hbuf⟩
                    case measure => simp [intOf]; omega
                · have HS := Lib.hid (rp_keep1 FS p hlt (by
                    rcases hcs with ⟨_, rfl⟩ | ⟨_, rfl⟩ <;> exact HLAT.out) hp32 q d hbl.out)
                  have hp' := ne32 hp32
                  have hc' : ((FS[p + 1].toNat : Int) == 32) = true := by rw [hc32]; rfl
                  have hlen2 : (Oct.rp FS.data.toList (p + 1)).length + 1 ≤ 140737488355328 := by have := Oct.rp_length FS.data.toList (p + 1); omega
                  clear hc32 hp32 hlen
                  rcases hcs with ⟨hm', rfl⟩ | ⟨hm', rfl⟩
                  all_goals
                    go_wp2_with (at_builtin; refine Buf.wpList_append rfl (.tmp 51) (.tmp 55) 35 rfl Try.underlying35 infoU8 rfl (hbuf.alloc _) ⟨wr.heap.size, 0, none⟩ 1 1 [FS[p + 1]] rfl rfl (by exact At.one _ _ _ _ rfl) (by omega) (by simp; omega) ?_)
                    intro v2 w2 hb2 hg2
                    have hbel2 := (hbel.alloc hszw _).grown hg2 (by simp; omega) (fun k hk => (hbuf.lt k hk).1)
                    rw [← HS.out] at hb2
                    clear hg2 hbuf
                    go_wp2_with fail
                    go_roundw
                    case rel => exact ⟨p + 1 + 1, by omega, by go_num, hbel2, hb2⟩
                    case measure => simp [intOf]; omega
            · have HS := Lib.hid (rp_keep FS j hlt (by
                rcases hcs with ⟨_, rfl⟩ | ⟨_, rfl⟩ <;> exact HLAT.out) hc32)
              have hc' := ne32 hc32
              clear hc32
              rcases hcs with ⟨hm', rfl⟩ | ⟨hm', rfl⟩
              all_goals
                go_wp2_with (at_builtin; refine Buf.wpList_append rfl (.tmp 51) (.tmp 55) 35 rfl Try.underlying35 infoU8 rfl (hbuf.alloc _) ⟨wr.heap.size, 0, none⟩ 1 1 [FS[j]] rfl rfl (by exact At.one _ _ _ _ rfl) (by omega) (by simp; omega) ?_)
                intro v2 w2 hb2 hg2
                have hbel2 := (hbel.alloc hszw _).grown hg2 (by simp; omega) (fun k hk => (hbuf.lt k hk).1)
                rw [← HS.out] at hb2
                clear hg2 hbuf
                go_wp2_with fail
                go_roundw
                case rel => exact ⟨j + 1, by omega, by go_num, hbel2, hb2⟩
                case measure => simp [intOf]; omega
    · obtain rfl : j = FS.size := by omega
      have hst := hbuf.string (P := Try.prog) Try.underlying35 Try.underlying5 Try.underlying9
      go_wp2_with fail
      go_ret
      exact ⟨by rw [HR.out]; rfl, hbel⟩
end Go.Proofs.Ytnmooegegknmoaa
