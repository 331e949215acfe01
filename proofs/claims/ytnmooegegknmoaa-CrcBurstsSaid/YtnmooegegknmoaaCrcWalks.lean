/-
  The contracts of the check sum's functions: crc.Add, crc.Sum (any parts) and the reference's Add, Sum return the sum of Derived.Test.YtnmooegegknmoaaCrcMath, and write nothing that was there.
-/
import Derived.Test.YtnmooegegknmoaaRows
import Derived.Test.YtnmooegegknmoaaCrcMath
import Derived.WalkKit
import Derived.WalkSpells
import Derived.WalkLawsBesides
import Derived.Laws.IdiomStrings
import Derived.Lib.Hide
namespace Go.Proofs.Ytnmooegegknmoaa
open Go.RowKit

/-- The strings' bytes, one behind the other. -/
def catB (ss : List ByteArray) : List UInt8 := (ss.map fun s => s.data.toList).flatten
theorem catB_nil : catB [] = [] := rfl
theorem catB_take (ss : List ByteArray) (j : Nat) (h : j < ss.length) : catB (ss.take (j + 1)) = catB (ss.take j) ++ ss[j].data.toList := by
  unfold catB
  rw [List.take_succ_eq_append_getElem h, List.map_append, List.flatten_append]
  simp only [List.map_cons, List.map_nil, List.flatten_cons, List.flatten_nil, List.append_nil]
theorem take_byte (s : ByteArray) (k : Nat) (h : k < s.size) : s.data.toList.take (k + 1) = s.data.toList.take k ++ [s.data[k]] := by
  rw [List.take_succ_eq_append_getElem (by simpa using h)]; rfl

theorem len_bytes (s : ByteArray) : s.data.toList.length = s.size := Array.length_toList
/-- The slice v's elements are the strings ss; each is no longer than a string can be. -/
def StrsAt (w : World) (v : Value) (ss : List ByteArray) : Prop :=
  (ss = [] ∧ ∃ a cap, v = .slice a 0 cap) ∨
  ∃ b off cap, v = .slice (some ⟨b, off, none⟩) ss.length cap ∧ b < w.heap.size ∧ ss.length ≤ maxLen ∧ (∀ i, (h : i < ss.length) → w.cell? ⟨b, off + i, none⟩ = some (.string ss[i])) ∧ ∀ s ∈ ss, s.size ≤ maxLen

theorem StrsAt.below {w w' : World} {v : Value} {ss : List ByteArray} (h : StrsAt w v ss) (hb : Below w.heap.size w w') : StrsAt w' v ss := by
  rcases h with h | ⟨b, off, cap, e, hlt, hl, hc, hs⟩
  · exact .inl h
  · exact .inr ⟨b, off, cap, e, Nat.lt_of_lt_of_le hlt hb.size, hl, fun i hi => by rw [hb.cell (p := ⟨b, off + i, none⟩) hlt]; exact hc i hi, hs⟩

theorem ret_u32 {a b : Nat} (h : a = b) : Ending.returned (.int .u32 (a : Int)) = .returned (.int .u32 (b : Int)) := by rw [h]
theorem cast_eq {a b : Nat} (h : a = b) : (a : Int) = (b : Int) := by rw [h]

/-! The steps, as the walk spells them. -/
theorem xor_byte (v : BitVec 32) (c : UInt8) : bits BinOp.xor IntKind.u32 ((v.toNat : Nat) : Int) ((c.toNat : Int) % 4294967296) = (((v ^^^ BitVec.ofNat 32 c.toNat).toNat : Nat) : Int) := by
  have hc := c.toNat_lt
  have h1 := v.isLt
  have e : ((c.toNat : Int) % 4294967296) = ((c.toNat : Nat) : Int) := by omega
  rw [e, u32_xor_nat _ _ h1 (by omega), BitVec.toNat_xor, BitVec.toNat_ofNat, Nat.mod_eq_of_lt (by omega)]
theorem poly_nat : (3988292384#32).toNat = 3988292384 := rfl
theorem lsb_iff (v : BitVec 32) : v.getLsbD 0 = decide (v.toNat % 2 = 1) := by
  rw [BitVec.getLsbD, Nat.testBit_zero]
theorem ref_odd (v : BitVec 32) (h : v.toNat % 2 = 1) : bits BinOp.xor IntKind.u32 ((v.toNat : Int) / 2) 3988292384 = (((Crc.step v).toNat : Nat) : Int) := by
  have h1 := v.isLt
  have e := u32_xor_nat (v.toNat / 2) 3988292384 (by omega) (by decide)
  have e2 : (((v.toNat / 2 : Nat)) : Int) = (v.toNat : Int) / 2 := by omega
  have e3 : ((3988292384 : Nat) : Int) = (3988292384 : Int) := rfl
  rw [e2, e3] at e
  rw [e]
  unfold Crc.step
  rw [lsb_iff, decide_eq_true h]
  simp [BitVec.toNat_xor, Nat.shiftRight_eq_div_pow]
theorem ref_even (v : BitVec 32) (h : v.toNat % 2 = 0) : ((v.toNat : Int) / 2) = (((Crc.step v).toNat : Nat) : Int) := by
  unfold Crc.step
  rw [lsb_iff, decide_eq_false (by omega)]
  simp [Nat.shiftRight_eq_div_pow]

set_option maxHeartbeats 400000 in
theorem refAdd_any (sum : BitVec 32) (s : ByteArray) (w : World) (hs : s.size ≤ maxLen) :
    Calls Try.prog 19 #[.int .u32 (sum.toNat : Nat), .string s] w fun e w' => e = .returned (.int .u32 ((Crc.add sum s.data.toList).toNat : Nat)) ∧ w = w' := by
  unfold maxLen at hs
  have h0 := sum.isLt
  have hneg : ((4294967295 : Int) - (sum.toNat : Int)) = (((~~~ sum).toNat : Nat) : Int) := by rw [BitVec.toNat_not]; omega
  have HN := Lib.hid hneg; clear hneg
  obtain ⟨S, hS, hSl⟩ : ∃ S : Nat, S = sum.toNat ∧ S < 4294967296 := ⟨_, rfl, h0⟩
  rw [← hS] at HN ⊢
  have HS := Lib.hid hS; clear hS h0
  go_enter Try.func19, Try.ntmps19
  go_wp2
  go_loop [5, 6, 7, 8] (fun r i k o => ∃ (j v : Nat), j ≤ s.size ∧ v < 4294967296 ∧ Hid (v = (Crc.fold (~~~ sum) (s.data.toList.take j)).toNat) ∧ i = .int .i64 j ∧ r = .int .u32 v) (fun _ i _ _ => s.size - (intOf i).toNat)
  case atStart => exact ⟨0, _, Nat.zero_le _, (~~~ sum).isLt, rfl, rfl, by rw [HN.out]⟩
  case round =>
    obtain ⟨j, v, hj, hv, HV, rfl, rfl⟩ := hrel
    by_cases hlt : j < s.size
    · go_wp2
      go_loop [5, 7, 8] (fun r k o => ∃ (n v : Nat), n ≤ 8 ∧ v < 4294967296 ∧ Hid (v = (Crc.steps n (Crc.fold (~~~ sum) (s.data.toList.take j) ^^^ BitVec.ofNat 32 s.data[j].toNat)).toNat) ∧ k = .int .i64 n ∧ r = .int .u32 v) (fun _ k _ => 8 - (intOf k).toNat)
      case atStart => exact ⟨0, _, by omega, BitVec.isLt _, rfl, rfl, by rw [show v = _ from HV.out]; exact congrArg _ (xor_byte _ s.data[j])⟩
      case round =>
        obtain ⟨n, v, hn, hv, HV2, rfl, rfl⟩ := hrel
        by_cases hn8 : n < 8
        · by_cases ho : v % 2 = 1
          · have ho' : ((v : Int) % 2 == 1) = true := by rw [beq_iff_eq]; omega
            clear ho
            go_wp2
            go_round
            case rel => exact ⟨n + 1, _, by omega, BitVec.isLt _, rfl, by go_num, by
              have h := HV2.out
              rw [beq_iff_eq] at ho'
              subst h
              exact congrArg _ (ref_odd _ (by omega))⟩
            case measure => simp [intOf]; omega
          · have ho' : ((v : Int) % 2 == 1) = false := by rw [beq_eq_false_iff_ne]; omega
            clear ho
            go_wp2
            go_round
            case rel => exact ⟨n + 1, _, by omega, BitVec.isLt _, rfl, by go_num, by
              have h := HV2.out
              rw [beq_eq_false_iff_ne] at ho'
              subst h
              exact congrArg _ (ref_even _ (by omega))⟩
            case measure => simp [intOf]; omega
        · go_wp2
          go_round
          case rel => exact ⟨j + 1, v, by omega, hv, by
            have h := HV2.out
            have : n = 8 := by omega
            subst this
            rw [h, take_byte s j hlt, Crc.fold_snoc]
            exact rfl, by go_num, rfl⟩
          case measure => simp [intOf]; omega
    · go_wp2
      go_ret
      refine ⟨?_, rfl⟩
      have h := HV.out
      rw [List.take_of_length_le (by simp; omega)] at h
      unfold Crc.add
      rw [BitVec.toNat_not, ← h]
      have e : ((4294967295 - v : Nat) : Int) = 4294967295 - (v : Int) := by omega
      exact congrArg _ (congrArg _ e.symm)

set_option maxHeartbeats 400000 in
theorem refSum_any (s : ByteArray) (w : World) (hs : s.size ≤ maxLen) :
    Calls Try.prog 17 #[.string s] w fun e w' => e = .returned (.int .u32 ((Crc.add 0#32 s.data.toList).toNat : Nat)) ∧ w = w' := by
  go_enter Try.func17, Try.ntmps17
  go_wp2_with (go_at_call 19; refine (refAdd_any 0#32 s _ hs).mono ?_; rintro e w' ⟨rfl, rfl⟩)
  go_ret
  exact ⟨rfl, rfl⟩

theorem bit_step (v : BitVec 32) : bits BinOp.xor IntKind.u32 ((v.toNat : Int) / 2) (bits BinOp.and IntKind.u32 3988292384 (-bits BinOp.and IntKind.u32 (v.toNat : Int) 1 % 4294967296)) = (((Crc.step v).toNat : Nat) : Int) := by
  have h1 := v.isLt
  have e1 : bits BinOp.and IntKind.u32 (v.toNat : Int) 1 = ((v.toNat % 2 : Nat) : Int) := by
    have := u32_and_nat v.toNat 1 (by omega) (by decide)
    rw [show ((1 : Nat) : Int) = (1 : Int) from rfl] at this
    rw [this, Nat.and_one_is_mod]
  rw [e1]
  by_cases h : v.toNat % 2 = 1
  · rw [h]
    have e2 : bits BinOp.and IntKind.u32 3988292384 (-((1 : Nat) : Int) % 4294967296) = 3988292384 := by decide
    rw [e2]
    exact ref_odd v h
  · have h0 : v.toNat % 2 = 0 := by omega
    rw [h0]
    have e2 : bits BinOp.and IntKind.u32 3988292384 (-((0 : Nat) : Int) % 4294967296) = 0 := by decide
    rw [e2, ← ref_even v h0]
    have e := u32_xor_nat (v.toNat / 2) 0 (by omega) (by decide)
    have e3 : (((v.toNat / 2 : Nat)) : Int) = (v.toNat : Int) / 2 := by omega
    rw [Nat.xor_zero, e3] at e
    exact e
theorem not_u32 (v : BitVec 32) : bits BinOp.xor IntKind.u32 IntKind.u32.max (v.toNat : Int) = (((~~~ v).toNat : Nat) : Int) := by
  have e := u32_xor_nat 4294967295 v.toNat (by decide) v.isLt
  rw [show IntKind.u32.max = ((4294967295 : Nat) : Int) from rfl, e]
  have : (~~~ v) = (4294967295#32 ^^^ v) := by
    apply BitVec.eq_of_getLsbD_eq
    intro i hi
    simp only [BitVec.getLsbD_not, BitVec.getLsbD_xor, hi, decide_true, Bool.true_and]
    have : (4294967295#32).getLsbD i = true := by
      have : (4294967295#32) = BitVec.allOnes 32 := rfl
      rw [this, BitVec.getLsbD_allOnes]
      simpa using hi
    rw [this, Bool.true_xor]
  rw [this, BitVec.toNat_xor]
  rfl

set_option maxHeartbeats 400000 in
theorem add_any (sum : BitVec 32) (v : Value) (ss : List ByteArray) (w : World) (hv : StrsAt w v ss) :
    Calls Try.prog 18 #[.int .u32 (sum.toNat : Nat), v] w fun e w' => e = .returned (.int .u32 ((Crc.add sum (catB ss)).toNat : Nat)) ∧ Below w.heap.size w w' := by
  have h0 := sum.isLt
  have HN := Lib.hid (not_u32 sum)
  obtain ⟨S, hS, hSl⟩ : ∃ S : Nat, S = sum.toNat ∧ S < 4294967296 := ⟨_, rfl, h0⟩
  rw [← hS] at HN ⊢
  have HS := Lib.hid hS; clear hS h0
  rcases hv with ⟨rfl, a, cap, rfl⟩ | ⟨b, off, cap, rfl, hb, hm, hc, hs⟩
  · go_enter Try.func18, Try.ntmps18
    go_wp2
    go_loop [5, 7, 9, 10, 15] (fun r p c l i => i = .int .i64 0 ∧ r = .int .u32 (bits BinOp.xor IntKind.u32 IntKind.u32.max ↑S)) (fun _ _ _ _ i => 0)
    case atStart => exact ⟨rfl, rfl⟩
    case round =>
      obtain ⟨rfl, rfl⟩ := hrel
      go_wp2
      go_ret
      refine ⟨?_, Below.refl _ _⟩
      rw [HN.out, not_u32]
      rfl
  · unfold maxLen at hm
    have HC := Lib.hid hc; clear hc
    have HZ := Lib.hid hs; clear hs
    have kc := fun (w : World) (s : ByteArray) => run_bytes_of_string (P := Try.prog) w 9 35 5 s Try.underlying9 Try.underlying35 Try.underlying5
    obtain ⟨len, hlen⟩ : ∃ len : Nat, len = ss.length := ⟨_, rfl⟩
    rw [← hlen] at hm ⊢
    have HL := Lib.hid hlen; clear hlen
    go_enter Try.func18, Try.ntmps18
    go_wp2
    go_loopw [5, 7, 9, 10, 15] (fun r p c l i wr => ∃ (j v : Nat), j ≤ len ∧ v < 4294967296 ∧ Hid (v = (Crc.fold (~~~ sum) (catB (ss.take j))).toNat) ∧ i = .int .i64 j ∧ r = .int .u32 v ∧ Below w.heap.size w wr) (fun _ _ _ _ i _ => len - (intOf i).toNat)
    case atStart => exact ⟨0, _, Nat.zero_le _, BitVec.isLt _, rfl, rfl, by rw [HN.out]; rfl, Below.refl _ _⟩
    case round =>
      obtain ⟨j, v, hj, hv, HV, rfl, rfl, hbel⟩ := hrel
      by_cases hlt : j < len
      · have hjs : j < ss.length := by rw [← HL.out]; exact hlt
        have hcell : wr.cell? ⟨b, off + j, none⟩ = some (.string ss[j]) := by rw [hbel.cell (p := ⟨b, off + j, none⟩) hb]; exact HC.out j hjs
        have hsz : ss[j].size ≤ maxLen := HZ.out _ (List.getElem_mem hjs)
        have HT := Lib.hid (catB_take ss j hjs)
        unfold maxLen at hsz
        generalize ss[j] = s at hcell hsz HT
        clear hjs
        go_wp2
        go_loop [5, 9, 10, 22] (fun r c l i => ∃ (k v : Nat), k ≤ s.size ∧ v < 4294967296 ∧ Hid (v = (Crc.fold (Crc.fold (~~~ sum) (catB (ss.take j))) (s.data.toList.take k)).toNat) ∧ i = .int .i64 k ∧ r = .int .u32 v) (fun _ _ _ i => s.size - (intOf i).toNat)
        case atStart => exact ⟨0, v, Nat.zero_le _, hv, HV, rfl, rfl⟩
        case round =>
          obtain ⟨k, v, hk, hv, HV2, rfl, rfl⟩ := hrel
          by_cases hlt2 : k < s.size
          · have hcell2 := World.cell?_alloc_mark wr (bytesRow s (grownCap wr s.size 0 5)) 5 ((bytesRow s (grownCap wr s.size 0 5)).size, (bytesRow s (grownCap wr s.size 0 5)).size + 1) k
            rw [bytesRow_at s _ k hlt2] at hcell2
            go_wp2
            go_loop [5, 10, 30] (fun r l i => ∃ (n v' : Nat), n ≤ 8 ∧ v' < 4294967296 ∧ Hid (v' = (Crc.steps n (Crc.fold (Crc.fold (~~~ sum) (catB (ss.take j))) (s.data.toList.take k) ^^^ BitVec.ofNat 32 s.data[k].toNat)).toNat) ∧ i = .int .i64 n ∧ r = .int .u32 v') (fun _ _ i => 8 - (intOf i).toNat)
            case atStart => exact ⟨0, _, by omega, BitVec.isLt _, rfl, rfl, by rw [show v = _ from HV2.out]; exact congrArg _ (xor_byte _ s.data[k])⟩
            case round =>
              obtain ⟨n, v', hn, hv', HV3, rfl, rfl⟩ := hrel
              by_cases hn8 : n < 8
              · go_wp2
                go_round
                case rel => exact ⟨n + 1, _, by omega, BitVec.isLt _, rfl, by go_num, by
                  have h := HV3.out
                  subst h
                  exact congrArg _ (bit_step _)⟩
                case measure => simp [intOf]; omega
              · go_wp2
                go_round
                case rel => exact ⟨k + 1, v', by omega, hv', by
                  have h := HV3.out
                  have : n = 8 := by omega
                  subst this
                  rw [h, take_byte s k hlt2, Crc.fold_snoc]
                  exact rfl, by go_num, rfl⟩
                case measure => simp [intOf]; omega
          · go_wp2
            go_roundw
            case rel => exact ⟨j + 1, v, by omega, hv, by
              have h := HV2.out
              rw [List.take_of_length_le (l := s.data.toList) (by rw [len_bytes]; omega), ← Crc.fold_append, ← HT.out] at h
              exact h, by go_num, rfl, (hbel.alloc hbel.size _).drew⟩
            case measure => simp [intOf]; omega
      · go_wp2
        go_ret
        refine ⟨?_, hbel⟩
        have h := HV.out
        rw [List.take_of_length_le (by rw [← HL.out]; omega)] at h
        rw [h, not_u32]
        rfl
end Go.Proofs.Ytnmooegegknmoaa
