/-
  The walk of the law CrcBursts.
-/
import Derived.Test.YtnmooegegknmoaaCrcLawsB
import Derived.RegionTactic
namespace Go.Proofs.Ytnmooegegknmoaa
open Go.RowKit Go.Proofs.Reg

/-- The block B reads as the bytes l, and may be written. -/
def BytesAt (w : World) (B : Nat) (l : List UInt8) : Prop :=
  (∀ j, (h : j < l.length) → w.cell? ⟨B, j, none⟩ = some (.int .u8 (l[j].toNat : Nat))) ∧ (∀ j, j < l.length → w.frozen? ⟨B, j, none⟩ = false)

theorem bytesAt_new (w : World) (s : ByteArray) (cap : Nat) (T : TypeId) : BytesAt (w.alloc (.cells (bytesRow s cap) T ((bytesRow s cap).size, (bytesRow s cap).size + 1))) w.heap.size s.data.toList := by
  refine ⟨fun j hj => ?_, fun j hj => ?_⟩
  · rw [World.cell?_alloc_mark, bytesRow_at s cap j (by simpa using hj)]
    simp
  · rw [World.frozen?_alloc_mark]
    have : j < (bytesRow s cap).size := by
      simp [bytesRow] at hj ⊢
      omega
    simp
    omega
theorem BytesAt.drew {w : World} {B : Nat} {l : List UInt8} (h : BytesAt w B l) : BytesAt w.drew B l := h
theorem BytesAt.set {w : World} {B : Nat} {l : List UInt8} (h : BytesAt w B l) (i : Nat) (hi : i < l.length) (c : UInt8) : BytesAt (w.setCell ⟨B, i, none⟩ (.int .u8 (c.toNat : Nat))) B (l.set i c) := by
  refine ⟨fun j hj => ?_, fun j hj => ?_⟩
  · have hj' : j < l.length := by simpa using hj
    by_cases hij : i = j
    · subst hij
      rw [World.cell?_setCell_same _ _ _ (h.1 i hi)]
      simp
    · rw [World.cell?_setCell_other _ _ _ _ (by intro e; injection e with e1 e2; omega), h.1 j hj']
      simp [hij]
  · have hj' : j < l.length := by simpa using hj
    rw [World.frozen?_setCell]
    exact h.2 j hj'
theorem wrap64_mod3 (a : Int) (n : Nat) (h : n < 4611686018427387904) (h4 : 4 ≤ n) : ∃ k : Nat, k + 4 ≤ n ∧ wrap64 ((IntKind.u64.wrap a).tmod (n - 3)) = (k : Int) := by
  obtain ⟨k, hk, e⟩ := wrap64_mod a (n - 4) (by omega)
  refine ⟨k, by omega, ?_⟩
  rw [← e]
  congr 2
  omega

/-- The bytes of t. -/
def byteOf (t : Nat) (i : Nat) : UInt8 := UInt8.ofNat (t / 256 ^ i % 256)
/-- The list with the first i of four bytes from k on turned. -/
def turned (l : List UInt8) (k t : Nat) : Nat → List UInt8
  | 0 => l
  | i + 1 => (turned l k t i).set (k + i) ((turned l k t i).getD (k + i) 0 ^^^ byteOf t i)
theorem turned_length (l : List UInt8) (k t i : Nat) : (turned l k t i).length = l.length := by
  induction i with
  | zero => rfl
  | succ i ih => simp [turned, ih]

theorem turn_byte (c : UInt8) (t n : Nat) : bits BinOp.xor IntKind.u8 (c.toNat : Int) ((t : Int) / 2 ^ (8 * n) % 256) = (((c ^^^ byteOf t n).toNat : Nat) : Int) := by
  have hc := c.toNat_lt
  have e : ((t : Int) / 2 ^ (8 * n) % 256) = ((t / 256 ^ n % 256 : Nat) : Int) := by
    have p : (2 : Int) ^ (8 * n) = ((256 ^ n : Nat) : Int) := by
      rw [show (256 : Nat) = 2 ^ 8 from rfl, ← Nat.pow_mul]
      simp
    rw [p]
    omega
  rw [e, u8_xor_nat _ _ hc (by omega), UInt8.toNat_xor]
  unfold byteOf
  rw [UInt8.toNat_ofNat', Nat.mod_eq_of_lt (a := t / 256 ^ n % 256) (by omega)]

/-- Four bytes are turned, by a number that is none: the sum is another. -/
theorem sum_turned (l : List UInt8) (k : Nat) (turn : BitVec 32) (hk : k + 4 ≤ l.length) (h : turn.toNat ≠ 0) :
    (Crc.add 0#32 (turned l k turn.toNat 4)).toNat ≠ (Crc.add 0#32 l).toNat := by
  obtain ⟨p, r, hp, e⟩ : ∃ p r, p.length = k ∧ l = p ++ r := ⟨l.take k, l.drop k, by rw [List.length_take]; omega, (List.take_append_drop _ _).symm⟩
  subst e
  have hr : 4 ≤ r.length := by rw [List.length_append] at hk; omega
  match r, hr with
  | a0 :: a1 :: a2 :: a3 :: r, _ =>
    subst hp
    have et : turned (p ++ a0 :: a1 :: a2 :: a3 :: r) p.length turn.toNat 4 = p ++ (a0 ^^^ byteOf turn.toNat 0) :: (a1 ^^^ byteOf turn.toNat 1) :: (a2 ^^^ byteOf turn.toNat 2) :: (a3 ^^^ byteOf turn.toNat 3) :: r := by
      simp [turned, List.getD_eq_getElem?_getD]
    rw [et]
    intro hh
    have hh := BitVec.eq_of_toNat_eq hh
    unfold Crc.add at hh
    have hh := congrArg (fun x => ~~~ x) hh
    simp only [BitVec.not_not] at hh
    rw [Crc.fold_append, Crc.fold_append] at hh
    have q : ∀ (a : UInt8) (i m : Nat), m = turn.toNat / 256 ^ i % 256 → BitVec.ofNat 32 (a ^^^ byteOf turn.toNat i).toNat = BitVec.ofNat 32 a.toNat ^^^ BitVec.ofNat 32 m := by
      intro a i m hm
      have ha := a.toNat_lt
      apply BitVec.eq_of_toNat_eq
      rw [UInt8.toNat_xor, BitVec.toNat_xor, BitVec.toNat_ofNat, BitVec.toNat_ofNat, BitVec.toNat_ofNat]
      unfold byteOf
      rw [UInt8.toNat_ofNat', Nat.mod_eq_of_lt (a := turn.toNat / 256 ^ i % 256) (by omega), ← hm]
      have h1 : m < 2 ^ 8 := by omega
      have h2 : a.toNat ^^^ m < 2 ^ 8 := Nat.xor_lt_two_pow ha h1
      rw [Nat.mod_eq_of_lt (by omega), Nat.mod_eq_of_lt (by omega), Nat.mod_eq_of_lt (by omega)]
    refine Crc.fold_burst _ turn a0 a1 a2 a3 _ _ _ _ r (fun e => h (by rw [e]; rfl)) (q _ 0 _ ?_) (q _ 1 _ ?_) (q _ 2 _ ?_) (q _ 3 _ ?_) hh
    · simp
    · simp
    · rfl
    · rfl

set_option maxHeartbeats 1000000 in
theorem crcBursts_walk (s : ByteArray) (at_ : Int) (turn : BitVec 32) (w : World) (hs : s.size ≤ maxLen) :
    Calls Try.prog 6 #[.string s, .int .i64 at_, .int .u32 (turn.toNat : Nat)] w fun e w' => e = .returned (.bool true) ∧ Below w.heap.size w w' := by
  have ht := turn.isLt
  by_cases h1 : 20000 < s.size
  · unfold maxLen at hs
    go_enter Try.func6, Try.ntmps6
    go_wp2_with fail
    refine (awake2_any _).mono ?_
    rintro e w1 ⟨rfl, hb1⟩
    go_wp2_with fail
    go_ret
    exact ⟨rfl, hb1⟩
  · by_cases h2 : s.size < 4
    · go_enter Try.func6, Try.ntmps6
      go_wp2_with fail
      refine (awake2_any _).mono ?_
      rintro e w1 ⟨rfl, hb1⟩
      go_wp2_with fail
      go_ret
      exact ⟨rfl, hb1⟩
    · obtain ⟨t, hteq⟩ : ∃ t : Nat, t = turn.toNat := ⟨_, rfl⟩
      rw [← hteq] at ht ⊢
      have HT := Lib.hid hteq; clear hteq
      by_cases h3 : t = 0
      · subst h3
        go_enter Try.func6, Try.ntmps6
        go_wp2_with fail
        refine (awake2_any _).mono ?_
        rintro e w1 ⟨rfl, hb1⟩
        go_wp2_with fail
        go_ret
        exact ⟨rfl, hb1⟩
      · have h3' : ((t : Int) == 0) = false := by simp; omega
        have H3 := Lib.hid h3; clear h3
        have kc := fun (w : World) (s : ByteArray) => run_bytes_of_string (P := Try.prog) w 9 35 5 s Try.underlying9 Try.underlying35 Try.underlying5
        obtain ⟨k, hk, hwrap⟩ := wrap64_mod3 at_ s.size (by omega) (by omega)
        have HK := Lib.hid hwrap; clear hwrap
        go_enter Try.func6, Try.ntmps6
        go_wp2_with fail
        rw [HK.out]
        go_loopw [9, 33] (fun iv i wr => ∃ (n : Nat), n ≤ 4 ∧ i = .int .i64 n ∧ Below w.heap.size w wr ∧ w.heap.size < wr.heap.size ∧ BytesAt wr w.heap.size (turned s.data.toList k t n)) (fun _ i _ => 4 - (intOf i).toNat)
        case atStart => exact ⟨0, by omega, rfl, ((Below.refl _ _).alloc (Nat.le_refl _) _).drew, by simp, (bytesAt_new w s _ 5).drew⟩
        case round =>
          obtain ⟨n, hn, rfl, hbel, hsz, hat⟩ := hrel
          by_cases hn4 : n < 4
          · have hlen := turned_length s.data.toList k t n
            have hcell := hat.1 (k + n) (by rw [hlen, len_bytes]; omega)
            have hfz := hat.2 (k + n) (by rw [hlen, len_bytes]; omega)
            have hget : (turned s.data.toList k t n)[k + n]'(by rw [hlen, len_bytes]; omega) = (turned s.data.toList k t n).getD (k + n) 0 := by
              rw [List.getD_eq_getElem?_getD, List.getElem?_eq_getElem (by rw [hlen, len_bytes]; omega)]; rfl
            rw [hget] at hcell
            clear hget
            have HL := Lib.hid hlen; clear hlen
            have HA := Lib.hid hat; clear hat
            have hi0 : (0 : Int) ≤ (k : Int) + n := by omega
            have hi1 : (k : Int) + n < s.size := by omega
            generalize hc : (turned s.data.toList k t n).getD (k + n) 0 = c at hcell
            have HC := Lib.hid hc; clear hc
            have hm0 : (0 : Int) ≤ 8 * (n : Int) := by omega
            have hm1 : 8 * (n : Int) < 32 := by omega
            go_wp2
            go_region
            all_goals go_wp2
            rw [turn_byte c t n]
            go_roundw
            case rel => exact ⟨n + 1, by omega, by go_num, (hbel.setCell (Nat.le_refl _) _).drew, by simpa using hsz, by
              have h := (HA.out).set (k + n) (by rw [HL.out, len_bytes]; omega) (c ^^^ byteOf t n)
              rw [← HC.out] at h ⊢
              exact h.drew⟩
            case measure => simp [intOf]; omega
          · go_wp2_with fail
            refine (awake2_any _).mono ?_
            rintro e w1 ⟨rfl, hb1⟩
            obtain rfl : n = 4 := by omega
            have hlen := turned_length s.data.toList k t 4
            have hne := sum_turned s.data.toList k turn (by rw [len_bytes]; omega) (by rw [← HT.out]; exact H3.out)
            rw [← HT.out] at hne
            generalize turned s.data.toList k t 4 = L at hat hlen hne
            have hback := run_convert_bytes_back (P := Try.prog) w1 35 9 5 ⟨w.heap.size, 0, none⟩ (grownCap w s.size 0 5) L Try.underlying35 Try.underlying5 Try.underlying9 (fun j hj => by
              rw [Go.WideShapes.add_plain, Nat.zero_add, hb1.cell (p := ⟨w.heap.size, j, none⟩) hsz]
              exact hat.1 j hj)
            rw [hlen, len_bytes] at hback
            have K1 := Lib.hid (fun (v : Value) (w : World) (hv : StrsAt w v [⟨L.toArray⟩]) => sum_at (l := L) hv (by simp [catB]))
            have K2 := Lib.hid (fun (v : Value) (w : World) (hv : StrsAt w v [s]) => sum_at (l := s.data.toList) hv (cat_one s))
            generalize hN1 : (Crc.add 0#32 L).toNat = N1 at hne K1
            generalize hN2 : (Crc.add 0#32 s.data.toList).toNat = N2 at hne K2
            have hne' : ((N1 : Int) != (N2 : Int)) = true := by rw [bne_iff_ne]; omega
            have hsL : (ByteArray.mk L.toArray).size ≤ maxLen := by
              have : (ByteArray.mk L.toArray).size = L.length := by simp [ByteArray.size]
              unfold maxLen
              rw [this, hlen, len_bytes]; omega
            have HS := Lib.hid hsL
            have HS2 := Lib.hid hs
            clear hlen hat hN1 hN2 hne hs hsL
            go_wp2_with fail
            refine (K1.out _ _ (strsAt_one _ 9 _ HS.out)).mono ?_
            rintro e w2 ⟨rfl, hb2⟩
            go_wp2_with fail
            refine (K2.out _ _ (strsAt_one _ 9 _ HS2.out)).mono ?_
            rintro e w3 ⟨rfl, hb3⟩
            go_wp2_with fail
            go_ret
            have z1 := hb1.size
            have z2 := hb2.size
            have z3 := hb3.size
            have z0 := hbel.size
            simp at z2 z3 hb2 hb3
            exact ⟨rfl, (((hbel.trans (hb1.mono (by omega))).alloc (by omega) _).trans (hb2.mono (by omega))).trans (((Below.refl _ _).alloc (by omega) _).trans (hb3.mono (by omega)))⟩
end Go.Proofs.Ytnmooegegknmoaa
