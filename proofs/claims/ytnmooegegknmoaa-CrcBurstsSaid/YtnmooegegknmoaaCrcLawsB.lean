/-
  The walk of the law CrcParts: its last statement draws its order; it goes by the law of YtnmooegegknmoaaRegion.
-/
import Derived.Test.YtnmooegegknmoaaCrcMore
import Derived.Test.YtnmooegegknmoaaOpen
import Derived.Test.YtnmooegegknmoaaRegion
namespace Go.Proofs.Ytnmooegegknmoaa
open Go.RowKit Go.Proofs.Reg

theorem wrap64_mod (a : Int) (n : Nat) (h : n < 4611686018427387904) : ∃ k : Nat, k ≤ n ∧ wrap64 ((IntKind.u64.wrap a).tmod (n + 1)) = (k : Int) := by
  have h1 : 0 ≤ IntKind.u64.wrap a := by rw [IntKind.wrap_u64]; omega
  have e : (IntKind.u64.wrap a).tmod ((n : Int) + 1) = (IntKind.u64.wrap a) % ((n : Int) + 1) := Int.tmod_eq_emod_of_nonneg h1
  have h2 : 0 ≤ (IntKind.u64.wrap a) % ((n : Int) + 1) := Int.emod_nonneg _ (by omega)
  have h3 : (IntKind.u64.wrap a) % ((n : Int) + 1) < (n : Int) + 1 := Int.emod_lt_of_pos _ (by omega)
  refine ⟨((IntKind.u64.wrap a) % ((n : Int) + 1)).toNat, by omega, ?_⟩
  rw [e, IntWalk.wrap64_in _ ⟨by omega, by omega⟩]
  omega

/-- What the slots of CrcParts' last statement hold. -/
def PartsT (s sa sb : ByteArray) (k : Int) (N NA : Nat) : List (List Tmp × (Value → World → Prop)) :=
  [([18, 19, 31, 32, 33, 47, 48, 49, 58, 59, 4], fun v _ => v = .bool true),
   ([0, 20, 23, 28, 34, 39, 44, 50, 55], fun v _ => v = .string s),
   ([5, 21, 24, 35, 40], fun v _ => v = .int .i64 k),
   ([22, 36], fun v _ => v = .string sa),
   ([25, 41], fun v _ => v = .string sb),
   ([26], fun v w => StrsAt w v [sa, sb]),
   ([29, 45, 51, 56], fun v w => StrsAt w v [s]),
   ([37], fun v w => StrsAt w v [sa]),
   ([42], fun v w => StrsAt w v [sb]),
   ([53], fun v w => StrsAt w v [⟨#[]⟩]),
   ([38], fun v _ => v = .int .u32 NA),
   ([27, 30, 43, 46, 52, 54, 57], fun v _ => v = .int .u32 N)]

theorem partsT_mono (s sa sb : ByteArray) (k : Int) (N NA : Nat) : monoL (PartsT s sa sb k N NA) :=
  ⟨fun _ _ _ h _ => h, fun _ _ _ h _ => h, fun _ _ _ h _ => h, fun _ _ _ h _ => h, fun _ _ _ h _ => h, fun _ _ _ h hb => h.below hb, fun _ _ _ h hb => h.below hb, fun _ _ _ h hb => h.below hb, fun _ _ _ h hb => h.below hb, fun _ _ _ h hb => h.below hb, fun _ _ _ h _ => h, fun _ _ _ h _ => h, trivial⟩

theorem sum_at {v : Value} {ss : List ByteArray} {w : World} {l : List UInt8} (hv : StrsAt w v ss) (hl : catB ss = l) :
    Calls Try.prog 16 #[v] w fun e w' => e = .returned (.int .u32 ((Crc.add 0#32 l).toNat : Nat)) ∧ Below w.heap.size w w' := by
  subst hl
  exact sum_any v ss w hv
theorem add_at {v : Value} {ss : List ByteArray} {w : World} {l m : List UInt8} (hv : StrsAt w v ss) (hl : m ++ catB ss = l) :
    Calls Try.prog 18 #[.int .u32 ((Crc.add 0#32 m).toNat : Nat), v] w fun e w' => e = .returned (.int .u32 ((Crc.add 0#32 l).toNat : Nat)) ∧ Below w.heap.size w w' := by
  subst hl
  rw [Crc.add_append]
  exact add_any _ v ss w hv
theorem cat_to (s : ByteArray) (k : Nat) : catB [s.extract 0 k] = s.data.toList.take k := by simp [catB]
theorem cat_both (s : ByteArray) (k : Nat) (hk : k ≤ s.size) : catB [s.extract 0 k, s.extract k s.size] = s.data.toList := by
  have : s.data.toList.length = s.size := len_bytes s
  simp only [catB, List.map_cons, List.map_nil, List.flatten_cons, List.flatten_nil, List.append_nil, ByteArray.data_extract, Array.toList_extract, List.extract_eq_take_drop, List.drop_zero, Nat.sub_zero]
  rw [List.take_of_length_le (l := s.data.toList.drop k) (by rw [List.length_drop]; omega), List.take_append_drop]
theorem cat_from (s : ByteArray) (k : Nat) (hk : k ≤ s.size) : s.data.toList.take k ++ catB [s.extract k s.size] = s.data.toList := by
  rw [← cat_to s k]
  have h := cat_both s k hk
  simp only [catB, List.map_cons, List.map_nil, List.flatten_cons, List.flatten_nil, List.append_nil] at h ⊢
  exact h
theorem cat_one (s : ByteArray) : catB [s] = s.data.toList := by simp [catB]
theorem cat_more (s : ByteArray) : s.data.toList ++ catB [⟨#[]⟩] = s.data.toList := by simp [catB]
theorem size_extract_le (s : ByteArray) (i j : Nat) (h : s.size ≤ maxLen) : (s.extract i j).size ≤ maxLen := by
  rw [ByteArray.size_extract]; omega

set_option maxHeartbeats 1000000 in
theorem crcParts_walk (s : ByteArray) (at_ : Int) (w : World) (hs : s.size ≤ maxLen) :
    Calls Try.prog 5 #[.string s, .int .i64 at_] w fun e w' => e = .returned (.bool true) ∧ Below w.heap.size w w' := by
  by_cases h1 : 20000 < s.size
  · unfold maxLen at hs
    go_enter Try.func5, Try.ntmps5
    go_wp2_with fail
    refine (awake2_any _).mono ?_
    rintro e w1 ⟨rfl, hb1⟩
    go_wp2_with fail
    go_ret
    exact ⟨rfl, hb1⟩
  · obtain ⟨k, hk, hwrap⟩ := wrap64_mod at_ s.size (by omega)
    have HW := Lib.hid hwrap; clear hwrap
    go_enter Try.func5, Try.ntmps5
    go_wp2_with fail
    rw [HW.out]
    refine region_inv (slotT (PartsT s (s.extract 0 k) (s.extract k s.size) k ((Crc.add 0#32 s.data.toList).toNat) ((Crc.add 0#32 (s.data.toList.take k)).toNat))) [0, 5] (by kernel_rfl) (by kernel_rfl) (by kernel_rfl) (by kernel_rfl) ?_ (slotT_mono (partsT_mono _ _ _ _ _ _)) ?_ ?_
    · exact ⟨⟨_, rfl, rfl⟩, ⟨_, rfl, rfl⟩, trivial⟩
    · refine ⟨?_, ?_, ?_, ?_, ?_, ?_, ?_, ?_, ?_, ?_, ?_, ?_, ?_, ?_, ?_, ?_, ?_, ?_, ?_, ?_, ?_, ?_, ?_, ?_, ?_, ?_, ?_, ?_, ?_, ?_, ?_, ?_, ?_, ?_, ?_, ?_, ?_, ?_, ?_, ?_, ?_, ?_, ?_, trivial⟩
      all_goals first | refine step_open rfl ?_ | refine step_yes rfl rfl (fun v w h => h) (by decide) ?_
      all_goals (intro a w hb hs hl; clear hs; repeat (first | (obtain ⟨⟨_, e, rfl⟩, hl⟩ := hl) | (obtain ⟨⟨_, e, h⟩, hl⟩ := hl)))
      all_goals ((try clear hl); unfold Oper.wp; go_simp)
      all_goals first | exact ⟨_, rfl, Below.refl _ _, rfl⟩ | skip
      all_goals first | exact ⟨_, rfl, (Below.refl _ _).alloc (Nat.le_refl _) _, strsAt_one _ _ _ (by first | decide | assumption | exact size_extract_le _ _ _ hs)⟩ | skip
      all_goals first | exact ⟨_, rfl, (Below.refl _ _).alloc (Nat.le_refl _) _, strsAt_two _ _ _ _ (size_extract_le _ _ _ hs) (size_extract_le _ _ _ hs)⟩ | skip
      · exact (awake2_any _).mono (by rintro e w' ⟨rfl, hb2⟩; exact ⟨_, rfl, hb2, rfl⟩)
      · exact (sum_at (h : StrsAt w _ [s.extract 0 k, s.extract k s.size]) (cat_both s k hk)).mono (by rintro e w' ⟨rfl, hb2⟩; exact ⟨_, rfl, hb2, rfl⟩)
      · exact (sum_at (h : StrsAt w _ [s]) (cat_one s)).mono (by rintro e w' ⟨rfl, hb2⟩; exact ⟨_, rfl, hb2, rfl⟩)
      · exact (sum_at (h : StrsAt w _ [s.extract 0 k]) (cat_to s k)).mono (by rintro e w' ⟨rfl, hb2⟩; exact ⟨_, rfl, hb2, rfl⟩)
      · exact (add_at (h : StrsAt w _ [s.extract k s.size]) (cat_from s k hk)).mono (by rintro e w' ⟨rfl, hb2⟩; exact ⟨_, rfl, hb2, rfl⟩)
      · exact (sum_at (h : StrsAt w _ [s]) (cat_one s)).mono (by rintro e w' ⟨rfl, hb2⟩; exact ⟨_, rfl, hb2, rfl⟩)
      · exact (sum_at (h : StrsAt w _ [s]) (cat_one s)).mono (by rintro e w' ⟨rfl, hb2⟩; exact ⟨_, rfl, hb2, rfl⟩)
      · exact (add_at (h : StrsAt w _ [⟨#[]⟩]) (cat_more s)).mono (by rintro e w' ⟨rfl, hb2⟩; exact ⟨_, rfl, hb2, rfl⟩)
      · exact (sum_at (h : StrsAt w _ [s]) (cat_one s)).mono (by rintro e w' ⟨rfl, hb2⟩; exact ⟨_, rfl, hb2, rfl⟩)
    · intro a w1 hb hsm hd
      obtain ⟨v, e, rfl⟩ := hd 4 (by decide)
      have hdef := hsm.1
      clear hsm hd
      refine (by assumption : ∀ (a : Act) (w : World), Code.wp Try.prog Code.ret _ a w → _) _ _ ?_
      go_wp2
      exact bodyPost_ret (v := .bool true) (by simp [results, Try.results5, e, go_sem]) hdef ⟨rfl, hb⟩
end Go.Proofs.Ytnmooegegknmoaa
