/-
  The statement ShaParts.
-/
import Derived.Test.YtnmooegegknmoaaDoorShaLaws
import Derived.Test.YtnmooegegknmoaaDoorRegion
import Derived.IntWalk
import Derived.Outline
namespace Go.Proofs.YtnmooegegknmoaaDoor
open Go.RowKit Go.Proofs.Sha Go.Proofs.Buf Go.Proofs.Reg

/-- Go's int(uint(x) % uint(n + 1)). -/
theorem wrap64_mod (a : Int) (n : Nat) (h : n < 4611686018427387904) : ∃ k : Nat, k ≤ n ∧ wrap64 ((IntKind.u64.wrap a).tmod (n + 1)) = (k : Int) := by
  have h1 : 0 ≤ IntKind.u64.wrap a := by rw [IntKind.wrap_u64]; omega
  have e : (IntKind.u64.wrap a).tmod ((n : Int) + 1) = (IntKind.u64.wrap a) % ((n : Int) + 1) := Int.tmod_eq_emod_of_nonneg h1
  have h2 : 0 ≤ (IntKind.u64.wrap a) % ((n : Int) + 1) := Int.emod_nonneg _ (by omega)
  have h3 : (IntKind.u64.wrap a) % ((n : Int) + 1) < (n : Int) + 1 := Int.emod_lt_of_pos _ (by omega)
  refine ⟨((IntKind.u64.wrap a) % ((n : Int) + 1)).toNat, by omega, ?_⟩
  rw [e, IntWalk.wrap64_in _ ⟨by omega, by omega⟩]
  omega
theorem cut3 (s : ByteArray) (i k : Nat) (hi : i ≤ k) (hk : k ≤ s.size) : bs (s.extract 0 i) ++ bs (s.extract i k) ++ bs (s.extract k s.size) = bs s := by
  have hl := bs_length s
  rw [bs_extract, bs_extract, bs_extract, List.drop_zero, Nat.sub_zero]
  rw [List.take_of_length_le (l := (bs s).drop k) (by rw [List.length_drop]; omega)]
  have e : ((bs s).drop i).take (k - i) ++ (bs s).drop k = (bs s).drop i := by
    have h := List.take_append_drop (k - i) ((bs s).drop i)
    rw [List.drop_drop, show i + (k - i) = k by omega] at h
    exact h
  rw [List.append_assoc, e, List.take_append_drop]

/-- What the slots of the second Write hold. -/
def P8 (B W0 : Nat) (i k : Nat) (s s1 s2 : ByteArray) : List (List Tmp × (Value → World → Prop)) :=
  [([9, 43], fun v _ => v = .pointer (some ⟨B, 0, none⟩)), ([0, 44, 48], fun v _ => v = .string s), ([7, 45], fun v _ => v = .int .i64 (i : Nat)), ([8, 46, 49], fun v _ => v = .int .i64 (k : Nat)),
   ([47], fun v _ => v = .string s1), ([50], fun v _ => v = .string s2), ([51], fun v w => Parts w (fun b => W0 ≤ b) v [s1, ⟨#[]⟩, s2])]
theorem p8_mono (B W0 i k : Nat) (s s1 s2 : ByteArray) : monoL (P8 B W0 i k s s1 s2) := by
  refine ⟨?_, ?_, ?_, ?_, ?_, ?_, ?_, trivial⟩
  all_goals intro v w w' h hb
  all_goals first | exact h | exact Parts.below h hb
def P9 (B : Nat) (i k : Nat) (s s0 s1 s2 dg : ByteArray) : List (List Tmp × (Value → World → Prop)) :=
  [([53, 54, 70, 71, 72, 78, 79, 6], fun v _ => v = .bool true), ([0, 55, 58, 62, 67, 75], fun v _ => v = .string s), ([7, 56, 59], fun v _ => v = .int .i64 (i : Nat)), ([8, 60, 63], fun v _ => v = .int .i64 (k : Nat)),
   ([57], fun v _ => v = .string s0), ([61], fun v _ => v = .string s1), ([64], fun v _ => v = .string s2), ([65], fun v w => Parts w (fun _ => True) v [s0, s1, s2]), ([68, 76], fun v w => Parts w (fun _ => True) v [s]),
   ([66, 69, 74, 77], fun v _ => v = .string dg), ([9, 73], fun v _ => v = .pointer (some ⟨B, 0, none⟩))]
theorem p9_mono (B i k : Nat) (s s0 s1 s2 dg : ByteArray) : monoL (P9 B i k s s0 s1 s2 dg) := by
  refine ⟨?_, ?_, ?_, ?_, ?_, ?_, ?_, ?_, ?_, ?_, ?_, trivial⟩
  all_goals intro v w w' h hb
  all_goals first | exact h | exact Parts.below h hb

set_option maxHeartbeats 2000000 in
set_option maxRecDepth 100000 in
theorem shaParts_walk (s : ByteArray) (p t : Int) (w : World) (hs : s.size ≤ maxLen) (hL : Laid w) : Calls Tryd.prog 4 #[.string s, .int .i64 p, .int .i64 t] w fun e w' => e = .returned (.bool true) ∧ Below w.heap.size w w' := by
  have HL := Lib.hid hL
  clear hL
  by_cases h1 : 20000 < s.size
  · unfold maxLen at hs
    go_enter Tryd.func4, Tryd.ntmps4
    go_wp2_with fail
    refine (awake3_any _ HL.out).mono ?_
    rintro e w1 ⟨rfl, hb1⟩
    go_wp2_with fail
    go_ret
    exact ⟨rfl, hb1⟩
  · obtain ⟨i, hi, e1⟩ := wrap64_mod p s.size (by omega)
    have h2 : ∃ d : Nat, d ≤ s.size - i ∧ wrap64 ((IntKind.u64.wrap t).tmod (((s.size : Nat) : Int) - (i : Int) + 1)) = (d : Int) := by
      have h := wrap64_mod t (s.size - i) (by omega)
      rw [show ((s.size - i : Nat) : Int) = (s.size : Int) - (i : Int) by omega] at h
      exact h
    obtain ⟨d, hd, e2⟩ := h2
    obtain ⟨k, hk⟩ : ∃ k : Nat, i + d = k := ⟨_, rfl⟩
    have e3 : (i : Int) + (d : Int) = (k : Int) := by omega
    have hik : i ≤ k := by omega
    have hks : k ≤ s.size := by omega
    have q1 : (i : Int) ≤ (s.size : Int) := by omega
    have q2 : (k : Int) ≤ (s.size : Int) := by omega
    have q3 : (i : Int) ≤ (k : Int) := by omega
    have q4 : (0 : Int) ≤ (i : Int) := by omega
    have q5 : (0 : Int) ≤ (k : Int) := by omega
    have q6 : (d : Int) ≤ (s.size : Int) - (i : Int) := by omega
    have q7 : (0 : Int) ≤ (s.size : Int) - (i : Int) := by omega
    have hsz : s.size ≤ 20000 := by omega
    clear hk hd
    go_enter Tryd.func4, Tryd.ntmps4
    go_wp2_with fail
    refine (new_any w HL.out).mono ?_
    rintro e w1 ⟨rfl, hS1, hb1⟩
    go_wp2_with fail
    have hb1' : Below w.heap.size w (w1.alloc (.cells #[.string (s.extract 0 i)] 9)) := hb1.out.alloc hb1.out.size _
    have hw1 : w.heap.size < w1.heap.size := hS1.out.hi
    refine (write_any w.heap.size (.slice none 0 0) _ [] [s.extract 0 i] _ (hS1.out.alloc _) ((parts_new w1 _ _ [s.extract 0 i] 1 rfl 1 rfl).mono (fun b _ hb => ⟨by omega, by simp [Value.ownBlock]⟩)) ?c1 (by simp)).mono ?_
    case c1 =>
      show ([] : List UInt8).length + ([s.extract 0 i].flatMap bs).length ≤ _
      simp only [List.flatMap_cons, List.flatMap_nil, List.append_nil, List.length_nil, bs_length, ByteArray.size_extract]
      omega
    rintro e w2 ⟨rfl, v2, hS2, hU2⟩
    rw [List.nil_append, show joinAll [s.extract 0 i] = bs (s.extract 0 i) by simp [joinAll]] at hS2
    have hB2 : Below w.heap.size w w2 := hb1'.trans (hU2.toBelow (Nat.le_refl _) (fun k hk => by simp [Value.ownBlock] at hk) hb1'.size)
    have HS2 := Lib.hid hS2
    have HB2 := Lib.hid hB2
    clear hS1 hb1 hb1' hS2 hU2 hB2 hw1
    go_wp2_with fail
    have hl0 : (bs (s.extract 0 i)).length ≤ 1099511627776 := by
      rw [bs_length, ByteArray.size_extract]
      omega
    refine (sum_any w.heap.size v2 _ w2 HS2.out hl0).mono ?_
    rintro e w3 ⟨rfl, hb3⟩
    have HS3 := Lib.hid (HS2.out.below hb3)
    have HB3 := Lib.hid (HB2.out.trans (hb3.mono HB2.out.size))
    clear hl0 hb3 HS2 HB2
    go_wp2_with fail
    refine region_inv_tail 9 (slotT (P8 w.heap.size w3.heap.size i k s (s.extract i k) (s.extract k s.size))) [0, 7, 8, 9] (by kernel_rfl) (by kernel_rfl) (by kernel_rfl) (by kernel_rfl) ?_ (slotT_mono (p8_mono _ _ _ _ _ _ _)) ?_ ?_
    · exact ⟨⟨_, rfl, rfl⟩, ⟨_, rfl, rfl⟩, ⟨_, rfl, rfl⟩, ⟨_, rfl, rfl⟩, trivial⟩
    · refine ⟨?_, ?_, ?_, ?_, ?_, ?_, ?_, ?_, ?_, trivial⟩
      all_goals refine step_open rfl ?_
      all_goals (intro a w' hb hs hl; clear hs; repeat (first | (obtain ⟨⟨_, e, rfl⟩, hl⟩ := hl) | (obtain ⟨⟨_, e, h⟩, hl⟩ := hl)))
      all_goals ((try clear hl); unfold Oper.wp; go_simp)
      all_goals first | exact ⟨_, rfl, Below.refl _ _, rfl⟩ | skip
      have hle := hb.size
      exact ⟨_, rfl, (Below.refl _ _).alloc (Nat.le_refl _) _, (parts_new w' _ _ [s.extract i k, ⟨#[]⟩, s.extract k s.size] 3 rfl 3 rfl).mono (fun b _ hbb => by rw [hbb]; exact hle)⟩
    · intro a w4 hb hsm hd
      obtain ⟨_, e43, rfl⟩ := hd 43 (by decide)
      obtain ⟨_, e44, rfl⟩ := hd 44 (by decide)
      obtain ⟨_, e45, rfl⟩ := hd 45 (by decide)
      obtain ⟨_, e46, rfl⟩ := hd 46 (by decide)
      obtain ⟨_, e47, rfl⟩ := hd 47 (by decide)
      obtain ⟨_, e48, rfl⟩ := hd 48 (by decide)
      obtain ⟨_, e49, rfl⟩ := hd 49 (by decide)
      obtain ⟨_, e50, rfl⟩ := hd 50 (by decide)
      obtain ⟨pv, e51, hP⟩ := hd 51 (by decide)
      replace hP : Parts w4 (fun b => w3.heap.size ≤ b) pv [s.extract i k, ⟨#[]⟩, s.extract k s.size] := hP
      obtain ⟨u52, e52⟩ := hsm.some_at 52 (Nat.le_of_ble_eq_true (by kernel_rfl))
      have hA := same_put hsm [(43, .pointer (some ⟨w.heap.size, 0, none⟩)), (44, .string s), (45, .int .i64 (i : Nat)), (46, .int .i64 (k : Nat)), (47, .string (s.extract i k)), (48, .string s), (49, .int .i64 (k : Nat)), (50, .string (s.extract k s.size)), (51, pv), (52, u52)] (atL_of ⟨e43, e44, e45, e46, e47, e48, e49, e50, e51, e52, trivial⟩) (by kernel_rfl)
      clear hsm hd e43 e44 e45 e46 e47 e48 e49 e50 e51 e52
      subst hA
      have HS4 := Lib.hid (HS3.out.drew.below hb)
      have HB4 := Lib.hid (HB3.out.drew.trans (hb.mono HB3.out.size))
      have hP4 := Lib.hid (hP.mono (k' := fun b => b ≠ w.heap.size ∧ some b ≠ v2.ownBlock) (fun b _ hbb => ⟨by have := HS3.out.hi; omega, fun e => by have := (World.ownsRow.lt HS3.out.buf b e.symm).2; omega⟩))
      clear hb hP
      simp only [List.foldl, List.drop_succ_cons, List.drop_zero]
      go_wp2_with fail
      have hj : joinAll [s.extract i k, ⟨#[]⟩, s.extract k s.size] = bs (s.extract i k) ++ bs (s.extract k s.size) := by
        simp [joinAll, bs]
      refine (write_any w.heap.size v2 pv _ [s.extract i k, ⟨#[]⟩, s.extract k s.size] w4 HS4.out hP4.out ?c2 (by simp)).mono ?_
      case c2 =>
        rw [hj, List.length_append, bs_length, bs_length, bs_length, ByteArray.size_extract, ByteArray.size_extract, ByteArray.size_extract]
        omega
      rintro e w5 ⟨rfl, v5, hS5, hU5⟩
      rw [hj, ← List.append_assoc, cut3 s i k hik hks] at hS5
      have hB5 : Below w.heap.size w w5 := HB4.out.trans (hU5.toBelow (Nat.le_refl _) (fun k hk => by have := (World.ownsRow.lt HS4.out.buf k hk).1; omega) HB4.out.size)
      have HS5 := Lib.hid hS5
      have HB5 := Lib.hid hB5
      clear hS5 hU5 hB5 hj hP4 HS4 HB4
      go_wp2_with fail
      generalize hdg : ByteArray.mk (digest KW H0 (bs s)).toArray = dg
      have HD := Lib.hid hdg
      clear hdg
      have hj1 : joinAll [s.extract 0 i, s.extract i k, s.extract k s.size] = bs s := by
        rw [← cut3 s i k hik hks]
        simp [joinAll]
      have hj2 : joinAll [s] = bs s := by simp [joinAll]
      have hlb : (bs s).length ≤ 1099511627776 := by rw [bs_length]; omega
      have HJ := Lib.hid (And.intro hj1 (And.intro hj2 hlb))
      clear hj1 hj2 hlb
      refine region_inv (slotT (P9 w.heap.size i k s (s.extract 0 i) (s.extract i k) (s.extract k s.size) dg)) [0, 7, 8, 9] (by kernel_rfl) (by kernel_rfl) (by kernel_rfl) (by kernel_rfl) ?_ (slotT_mono (p9_mono _ _ _ _ _ _ _ _)) ?_ ?_
      · exact ⟨⟨_, rfl, rfl⟩, ⟨_, rfl, rfl⟩, ⟨_, rfl, rfl⟩, ⟨_, rfl, rfl⟩, trivial⟩
      · refine ⟨?_, ?_, ?_, ?_, ?_, ?_, ?_, ?_, ?_, ?_, ?_, ?_, ?_, ?_, ?_, ?_, ?_, ?_, ?_, ?_, ?_, ?_, ?_, ?_, ?_, ?_, ?_, ?_, trivial⟩
        all_goals first | refine step_open rfl ?_ | refine step_yes rfl rfl (fun v w h => h) (by decide) ?_
        all_goals (intro a w6 hb hs hl; clear hs; repeat (first | (obtain ⟨⟨_, e, rfl⟩, hl⟩ := hl) | (obtain ⟨⟨_, e, h⟩, hl⟩ := hl)))
        all_goals (have HB6 := Lib.hid (HB5.out.drew.trans (hb.mono HB5.out.size)); have HS6 := Lib.hid (HS5.out.drew.below hb); clear hb)
        all_goals ((try clear hl); unfold Oper.wp; go_simp)
        all_goals first | exact ⟨_, rfl, Below.refl _ _, rfl⟩ | skip
        all_goals first | exact ⟨_, rfl, (Below.refl _ _).alloc (Nat.le_refl _) _, (parts_new w6 _ _ [s.extract 0 i, s.extract i k, s.extract k s.size] 3 rfl 3 rfl).mono (fun _ _ _ => trivial)⟩ | exact ⟨_, rfl, (Below.refl _ _).alloc (Nat.le_refl _) _, (parts_new w6 _ _ [s] 1 rfl 1 rfl).mono (fun _ _ _ => trivial)⟩ | skip
        all_goals first
          | exact (awake3_any _ (HL.out.below HB6.out HL.out.size)).mono (by rintro e w' ⟨rfl, hb2⟩; exact ⟨_, rfl, hb2, rfl⟩)
          | exact (sum256_any _ [s.extract 0 i, s.extract i k, s.extract k s.size] _ (HL.out.below HB6.out HL.out.size) (h : Parts w6 (fun _ => True) _ [s.extract 0 i, s.extract i k, s.extract k s.size]) (by rw [HJ.out.1]; exact HJ.out.2.2) (by simp)).mono (by rintro e w' ⟨rfl, hb2⟩; rw [HJ.out.1, HD.out]; exact ⟨_, rfl, hb2, rfl⟩)
          | exact (sum256_any _ [s] _ (HL.out.below HB6.out HL.out.size) (h : Parts w6 (fun _ => True) _ [s]) (by rw [HJ.out.2.1]; exact HJ.out.2.2) (by simp)).mono (by rintro e w' ⟨rfl, hb2⟩; rw [HJ.out.2.1, HD.out]; exact ⟨_, rfl, hb2, rfl⟩)
          | exact (sum_any w.heap.size v5 (bs s) w6 HS6.out HJ.out.2.2).mono (by rintro e w' ⟨rfl, hb2⟩; rw [HD.out]; exact ⟨_, rfl, hb2, rfl⟩)
      · intro a w7 hb hsm hd
        obtain ⟨v, e, rfl⟩ := hd 6 (by decide)
        have hdef := hsm.1
        have HB7 := Lib.hid (HB5.out.trans (hb.mono HB5.out.size))
        clear hsm hd hb
        refine (by assumption : ∀ (a : Act) (w : World), Code.wp Tryd.prog Code.ret _ a w → _) _ _ ?_
        go_wp2
        exact bodyPost_ret (v := .bool true) (by simp [results, Tryd.results4, e, go_sem]) hdef ⟨rfl, HB7.out⟩
end Go.Proofs.YtnmooegegknmoaaDoor
