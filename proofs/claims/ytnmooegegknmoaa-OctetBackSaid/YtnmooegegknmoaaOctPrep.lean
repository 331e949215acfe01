/-
  The contract of octet.Prep.
-/
import Derived.Test.YtnmooegegknmoaaOctFold
namespace Go.Proofs.Ytnmooegegknmoaa
open Go.RowKit Go.Proofs.Buf

theorem prep_keep (m : List UInt8) (c : UInt8) (h : c ≠ 32) : Oct.prepStep m c = m ++ [c] := by unfold Oct.prepStep; rw [if_neg (by simp [h])]
theorem prep_keep2 (m : List UInt8) (d c : UInt8) (h : d ≠ 32) : Oct.prepStep (m ++ [d]) c = m ++ [d] ++ [c] := by unfold Oct.prepStep; rw [if_neg (by simp [h])]
theorem prep_drop0 : Oct.prepStep [] 32 = [] := rfl
theorem prep_drop (m : List UInt8) : Oct.prepStep (m ++ [32]) 32 = m ++ [32] := by unfold Oct.prepStep; rw [if_pos (by simp)]
theorem prep_take (l : List UInt8) (j : Nat) (h : j < l.length) : Oct.prepRaw (l.take (j + 1)) = Oct.prepStep (Oct.prepRaw (l.take j)) l[j] := by
  unfold Oct.prepRaw
  rw [List.take_succ_eq_append_getElem h, List.foldl_append]
  rfl
theorem list_snoc (l : List UInt8) : l = [] ∨ ∃ m c, l = m ++ [c] := by
  rcases List.eq_nil_or_concat l with h | ⟨m, c, h⟩
  · exact .inl h
  · exact .inr ⟨m, c, by simpa using h⟩
theorem ne32 {c : UInt8} (h : c ≠ 32) : ((c.toNat : Int) == 32) = false := by
  rw [beq_eq_false_iff_ne]
  intro e
  exact h (UInt8.toNat_inj.1 (by rw [show (32 : UInt8).toNat = 32 from rfl]; omega))

set_option maxHeartbeats 2000000 in
theorem prep_any (s : ByteArray) (w : World) (hs : s.size ≤ 140737488355328) :
    Calls Try.prog 27 #[.string s] w fun e w' => e = .returned (.string ⟨(Oct.prep s.data.toList).toArray⟩) ∧ Below w.heap.size w w' := by
  have kc := fun (w : World) (s : ByteArray) => run_bytes_of_string (P := Try.prog) w 9 35 5 s Try.underlying9 Try.underlying35 Try.underlying5
  have K1 := Lib.hid (fold_any s w (by unfold maxLen; omega))
  have hfl : (Oct.fold s.data.toList).length = s.size := by unfold Oct.fold; rw [List.length_map, len_bytes']
  generalize hF : (Oct.fold s.data.toList) = F at K1 hfl
  have HF := Lib.hid hF; clear hF
  have hFsz : (ByteArray.mk F.toArray).size = F.length := by simp [ByteArray.size]
  have hFd : (ByteArray.mk F.toArray).data.toList = F := by simp
  generalize hFS : ByteArray.mk F.toArray = FS at K1 hFsz hFd
  have HFS := Lib.hid hFS; clear hFS
  obtain ⟨n, hn⟩ : ∃ n, n = FS.size := ⟨_, rfl⟩
  have HFD := Lib.hid hFd; clear hFd
  have HN : Hid (F.length = FS.size) := hFsz.symm
  have hle : FS.size ≤ 140737488355328 := by rw [hFsz, hfl]; exact hs
  clear hFsz hfl hn n
  go_enter Try.func27, Try.ntmps27
  go_wp2_with fail
  refine (K1.out).mono ?_
  rintro e w1 ⟨rfl, hb1⟩
  go_wp2_with fail
  have hz1 := hb1.size
  go_loopw [3, 5, 10] (fun b c i wr => ∃ (j : Nat), j ≤ FS.size ∧ i = .int .i64 j ∧ Below w.heap.size w wr ∧ w1.heap.size < wr.heap.size ∧ BytesAt wr w1.heap.size F ∧ Buf wr (w1.heap.size + 1) 5 b (Oct.prepRaw (F.take j))) (fun _ _ i _ => FS.size - (intOf i).toNat)
  case atStart => exact ⟨0, Nat.zero_le _, rfl, (hb1.alloc hz1 _).drew, by simp, by
    have h := bytesAt_new w1 FS (grownCap w1 FS.size 0 5) 5
    rw [HFD.out] at h
    exact h.drew, Buf.nil _ _ _⟩
  case round =>
    obtain ⟨j, hj, rfl, hbel, hsz, hat, hbuf⟩ := hrel
    by_cases hlt : j < FS.size
    · have hjl : j < F.length := by rw [HN.out]; exact hlt
      have hcell := hat.1 j hjl
      have HT := Lib.hid (prep_take F j hjl)
      generalize F[j]'hjl = c at hcell HT
      clear hjl
      have hlen : (Oct.prepRaw (F.take j)).length ≤ j := Nat.le_trans (Oct.prepRaw_length _) (by rw [List.length_take]; omega)
      have hszw := hbel.size
      have HB := Lib.hid hbuf
      by_cases hc : c = 32
      · subst hc
        rcases list_snoc (Oct.prepRaw (F.take j)) with hnil | ⟨m, d, hm⟩
        · rw [hnil] at hbuf HT
          rw [prep_drop0] at HT
          obtain ⟨a0, cap, hu3⟩ := hbuf.len
          simp only [List.length_nil] at hu3
          subst hu3
          go_wp2_with fail
          go_roundw
          case rel => exact ⟨j + 1, by omega, by go_num, hbel, hsz, hat, by rw [HT.out]; exact hbuf⟩
          case measure => simp [intOf]; omega
        · rw [hm] at hbuf HT hlen
          obtain ⟨g, cap, hu3, hcap, hlast, hcut⟩ := hbuf.last
          subst hu3
          have hml : m.length + 2 ≤ 140737488355328 := by rw [List.length_append, List.length_singleton] at hlen; omega
          obtain ⟨k, hk⟩ : ∃ k, k = m.length := ⟨_, rfl⟩
          rw [← hk] at hml hcap hlast
          have HK := Lib.hid hk
          rw [← hk]
          clear hlen hcut hm hk
          have HBUF := Lib.hid hbuf
          clear hbuf
          by_cases hd : d = 32
          · subst hd
            rw [prep_drop] at HT
            go_wp2_with fail
            go_roundw
            case rel => exact ⟨j + 1, by omega, by go_num, hbel, hsz, hat, by
              rw [HT.out, HK.out]
              exact HBUF.out⟩
            case measure => simp [intOf]; omega
          · have hd' := ne32 hd
            rw [prep_keep2 _ _ _ hd] at HT
            have hbuf : Buf wr (w1.heap.size + 1) 5 (.slice (some ⟨g, 0, none⟩) (k + 1) cap) (m ++ [d]) := by rw [HK.out]; exact HBUF.out
            go_wp2_with (at_builtin; refine Buf.wpList_append rfl (.tmp 30) (.tmp 32) 35 rfl Try.underlying35 infoU8 rfl (hbuf.alloc _) ⟨wr.heap.size, 0, none⟩ 1 1 [32] rfl rfl ?d1 ?d2 ?d3 ?_)
            case d1 => exact At.one _ _ _ _ rfl
            case d2 => rw [List.length_append, List.length_singleton, ← HK.out]; omega
            case d3 => simp; omega
            intro v2 w2 hb2 hg2
            have hbel2 := (hbel.alloc hszw _).grown hg2 (by simp; omega) (fun k hk => by have := (hbuf.lt k hk).1; omega)
            have hat2 := (hat.alloc hsz (.cells #[.int .u8 32] 5)).grown hg2 (by simp; omega) (fun e => by have := (hbuf.lt _ e.symm).1; omega)
            have hsz2 : w1.heap.size < w2.heap.size := by have := hg2.size; simp at this; omega
            have hb3 : Buf w2 (w1.heap.size + 1) 5 v2 (Oct.prepRaw (F.take (j + 1))) := by
              rw [HT.out]
              simpa using hb2
            clear hg2 hbuf hat hb2
            go_wp2_with fail
            go_roundw
            case rel => exact ⟨j + 1, by omega, by go_num, hbel2, hsz2, hat2, hb3⟩
            case measure => simp [intOf]; omega
      · have hc' := ne32 hc
        go_wp2_with (at_builtin; refine Buf.wpList_append rfl (.tmp 30) (.tmp 32) 35 rfl Try.underlying35 infoU8 rfl (hbuf.alloc _) ⟨wr.heap.size, 0, none⟩ 1 1 [c] rfl rfl ?c1 ?c2 ?c3 ?_)
        case c1 => exact At.one _ _ _ _ rfl
        case c2 => omega
        case c3 => simp; omega
        intro v2 w2 hb2 hg2
        have hbel2 := (hbel.alloc hszw _).grown hg2 (by simp; omega) (fun k hk => by have := (hbuf.lt k hk).1; omega)
        have hat2 := (hat.alloc hsz (.cells #[.int .u8 (c.toNat : Nat)] 5)).grown hg2 (by simp; omega) (fun e => by have := (hbuf.lt _ e.symm).1; omega)
        have hsz2 : w1.heap.size < w2.heap.size := by have := hg2.size; simp at this; omega
        rw [← prep_keep _ c hc, ← HT.out] at hb2
        clear hg2 hbuf hat
        go_wp2_with fail
        go_roundw
        case rel => exact ⟨j + 1, by omega, by go_num, hbel2, hsz2, hat2, hb2⟩
        case measure => simp [intOf]; omega
    · obtain rfl : j = FS.size := by omega
      rw [List.take_of_length_le (by rw [HN.out]; omega)] at hbuf
      have hlen : (Oct.prepRaw F).length ≤ F.length := Oct.prepRaw_length _
      rw [HN.out] at hlen
      have HP : Hid (Oct.prep s.data.toList = Oct.prepCut (Oct.prepRaw F)) := by
        show _ = _
        unfold Oct.prep
        rw [HF.out]
      rcases list_snoc (Oct.prepRaw F) with hnil | ⟨m, d, hm⟩
      · rw [hnil] at hbuf HP
        have hst := hbuf.string (P := Try.prog) Try.underlying35 Try.underlying5 Try.underlying9
        obtain ⟨a0, cap, hu3⟩ := hbuf.len
        simp only [List.length_nil] at hu3
        subst hu3
        go_wp2_with fail
        go_ret
        exact ⟨by rw [HP.out]; rfl, hbel⟩
      · rw [hm] at hbuf HP hlen
        have hst := hbuf.string (P := Try.prog) Try.underlying35 Try.underlying5 Try.underlying9
        obtain ⟨g, cap, hu3, hcap, hlast, hcut⟩ := hbuf.last
        subst hu3
        have hst2 := hcut.string (P := Try.prog) Try.underlying35 Try.underlying5 Try.underlying9
        have hml : m.length + 1 ≤ 140737488355328 := by rw [List.length_append, List.length_singleton] at hlen; omega
        obtain ⟨k, hk⟩ : ∃ k, k = m.length := ⟨_, rfl⟩
        rw [← hk] at hml hcap hlast hst hst2
        have HK := Lib.hid hk
        rw [← hk]
        have HBUF := Lib.hid hbuf
        clear hlen hcut hm hk hbuf
        by_cases hd : d = 32
        · subst hd
          go_wp2_with fail
          go_ret
          exact ⟨by rw [HP.out]; unfold Oct.prepCut; rw [if_pos (by simp), List.dropLast_concat]; rfl, hbel⟩
        · have hd' := ne32 hd
          go_wp2_with fail
          go_ret
          exact ⟨by rw [HP.out]; unfold Oct.prepCut; rw [if_neg (by simp [hd])]; rfl, hbel⟩
end Go.Proofs.Ytnmooegegknmoaa
