/-
  The contracts of octet's half and Unhex.
-/
import Derived.Test.YtnmooegegknmoaaDoorOctFold
namespace Go.Proofs.YtnmooegegknmoaaDoor
open Go.RowKit Go.Proofs.Buf

set_option maxHeartbeats 1000000 in
theorem half_any (c : UInt8) (w : World) :
    Calls Tryd.prog 44 #[.int .u8 (c.toNat : Nat)] w fun e w' => e = .returned (.tuple #[.int .u8 ((Oct.half c).1 : Nat), .bool (Oct.half c).2]) ∧ w = w' := by
  have hc := c.toNat_lt
  have hh : Oct.half c = Oct.half c := rfl
  conv at hh => rhs; unfold Oct.half
  have HH := Lib.hid hh
  clear hh
  generalize Oct.half c = r at HH ⊢
  generalize c.toNat = n at *
  by_cases h1 : n < 48
  · rw [if_neg (by omega), if_neg (by omega), if_neg (by omega)] at HH
    go_enter Tryd.func44, Tryd.ntmps44
    go_wp2
    go_ret2
    exact ⟨by rw [HH.out]; rfl, rfl⟩
  · by_cases h2 : n ≤ 57
    · rw [if_pos (by omega)] at HH
      go_enter Tryd.func44, Tryd.ntmps44
      go_wp2
      go_ret2
      refine ⟨?_, rfl⟩
      rw [HH.out]
      have e : (n : Int) - 48 = ((n - 48 : Nat) : Int) := by omega
      rw [← e]
      rfl
    · by_cases h3 : n < 65
      · rw [if_neg (by omega), if_neg (by omega), if_neg (by omega)] at HH
        go_enter Tryd.func44, Tryd.ntmps44
        go_wp2
        go_ret2
        exact ⟨by rw [HH.out]; rfl, rfl⟩
      · by_cases h4 : n ≤ 70
        · rw [if_neg (by omega), if_neg (by omega), if_pos (by omega)] at HH
          go_enter Tryd.func44, Tryd.ntmps44
          go_wp2
          go_ret2
          refine ⟨?_, rfl⟩
          rw [HH.out]
          have e : (n : Int) - 65 + 10 = ((n - 55 : Nat) : Int) := by omega
          rw [← e]
          rfl
        · by_cases h5 : n < 97
          · rw [if_neg (by omega), if_neg (by omega), if_neg (by omega)] at HH
            go_enter Tryd.func44, Tryd.ntmps44
            go_wp2
            go_ret2
            exact ⟨by rw [HH.out]; rfl, rfl⟩
          · by_cases h6 : n ≤ 102
            · rw [if_neg (by omega), if_pos (by omega)] at HH
              go_enter Tryd.func44, Tryd.ntmps44
              go_wp2
              go_ret2
              refine ⟨?_, rfl⟩
              rw [HH.out]
              have e : (n : Int) - 97 + 10 = ((n - 87 : Nat) : Int) := by omega
              rw [← e]
              rfl
            · rw [if_neg (by omega), if_neg (by omega), if_neg (by omega)] at HH
              go_enter Tryd.func44, Tryd.ntmps44
              go_wp2
              go_ret2
              exact ⟨by rw [HH.out]; rfl, rfl⟩

/-- What Unhex hands back. -/
def unhexV (l : List UInt8) : Value :=
  match Oct.unhex l with
  | some b => .tuple #[.string ⟨b.toArray⟩, .bool true]
  | none => .tuple #[.string ⟨#[]⟩, .bool false]
theorem unhexV_none {l : List UInt8} (h : Oct.unhex l = none) : unhexV l = .tuple #[.string ⟨#[]⟩, .bool false] := by unfold unhexV; rw [h]
theorem unhexV_some {l b : List UInt8} (h : Oct.unhex l = some b) : unhexV l = .tuple #[.string ⟨b.toArray⟩, .bool true] := by unfold unhexV; rw [h]

theorem getD_byte' (FS : ByteArray) (j : Nat) (h : j < FS.size) : FS.data.toList.getD j 0 = FS[j] := by
  rw [List.getD_eq_getElem?_getD, List.getElem?_eq_getElem (by rw [len_bytes']; exact h)]
  rfl
theorem uh_some {s : ByteArray} {n : Nat} {acc : List UInt8} (hn : s.size = 2 * n) (h : Oct.uhTo s.data.toList n = some acc) : Oct.unhex s.data.toList = some acc := by
  unfold Oct.unhex
  rw [len_bytes', if_neg (by omega)]
  have : s.size / 2 = n := by omega
  rw [this]
  exact h
theorem uh_none {s : ByteArray} {n j : Nat} {acc : List UInt8} {f : List UInt8 → Option (List UInt8)} (hn : s.size = 2 * n) (hT : Oct.uhTo s.data.toList (j + 1) = (Oct.uhTo s.data.toList j).bind f) (h : Oct.uhTo s.data.toList j = some acc) (hj : j < n) (hf : f acc = none) : Oct.unhex s.data.toList = none := by
  unfold Oct.unhex
  rw [len_bytes', if_neg (by omega)]
  refine Oct.uhTo_none _ (j + 1) _ ?_ (by omega)
  rw [hT, h]
  exact hf
theorem nib_or (a b : Nat) (ha : a < 16) (hb : b < 16) : bits BinOp.or IntKind.u8 ((a : Int) * 16) (b : Int) = 16 * (a : Int) + (b : Int) := by
  have e := u8_or_nat (a * 16) b (by omega) (by omega)
  rw [show (((a * 16 : Nat)) : Int) = (a : Int) * 16 from by omega] at e
  rw [e]
  have := Nat.shiftLeft_add_eq_or_of_lt (i := 4) (b := b) (by omega) a
  rw [Nat.shiftLeft_eq, show (2 : Nat) ^ 4 = 16 from rfl] at this
  omega
theorem nib_val (a b : Nat) (ha : a < 16) (hb : b < 16) : 16 * (a : Int) + (b : Int) = (((UInt8.ofNat (16 * a + b)).toNat : Nat) : Int) := by
  rw [UInt8.toNat_ofNat', Nat.mod_eq_of_lt (a := 16 * a + b) (by omega)]
  omega

set_option maxHeartbeats 1000000 in
theorem unhex_any (s : ByteArray) (w : World) (hs : s.size ≤ 281474976710656) :
    Calls Tryd.prog 37 #[.string s] w fun e w' => e = .returned (unhexV s.data.toList) ∧ Below w.heap.size w w' := by
  by_cases hodd : s.size % 2 = 1
  · have HV : Hid (unhexV s.data.toList = .tuple #[.string ⟨#[]⟩, .bool false]) := unhexV_none (by unfold Oct.unhex; rw [len_bytes', if_pos hodd])
    have hodd' : ((s.size : Int) % 2 == 1) = true := by rw [beq_iff_eq]; omega
    clear hodd
    go_enter Tryd.func37, Tryd.ntmps37
    go_wp2_with fail
    go_ret2
    exact ⟨by rw [HV.out]; rfl, Below.refl _ _⟩
  · obtain ⟨i, hi, hz0, hz1, hz2⟩ := info_parts infoU8
    obtain ⟨n, hn⟩ : ∃ n, s.size = 2 * n := ⟨s.size / 2, by omega⟩
    have hmk := fun w : World => run_make (P := Tryd.prog) w 51 5 i (.int .u8 0) Tryd.underlying51 hi hz0 .i64 .i64 0 (n : Int) (by omega) (by omega) (by rw [hz2]; omega) (by omega)
    simp only [hz1, Int.toNat_zero, Nat.mul_one, Int.toNat_natCast] at hmk
    clear hz0 hz1 hz2 hi i
    have hodd' : ((s.size : Int) % 2 == 1) = false := by rw [beq_eq_false_iff_ne]; omega
    have hdiv : (s.size : Int) / 2 = (n : Int) := by omega
    have HN := Lib.hid hn
    have hle : s.size ≤ 2 * n := by omega
    have hge : 2 * n ≤ s.size := by omega
    clear hodd hn
    go_enter Tryd.func37, Tryd.ntmps37
    go_wp2_with fail
    go_loopw [4, 5, 6, 7, 8, 9] (fun b i x1 x2 x3 x4 wr => ∃ (j : Nat) (acc : List UInt8), j ≤ n ∧ i = .int .i64 (2 * (j : Int)) ∧ b = .slice (some ⟨w.heap.size, 0, none⟩) j n ∧ Hid (Oct.uhTo s.data.toList j = some acc) ∧ Hid (acc.length = j) ∧ Below w.heap.size w wr ∧ Buf wr w.heap.size 5 (.slice (some ⟨w.heap.size, 0, none⟩) j n) acc) (fun _ i _ _ _ _ _ => s.size - (intOf i).toNat)
    case atStart => exact ⟨0, [], Nat.zero_le _, rfl, rfl, rfl, rfl, (Below.refl _ _).alloc (Nat.le_refl _) _, by
      have h := World.ownsRow_made (base := w.heap.size) (e := 5) (size := 1) w (madeCells #[.int .u8 0] n) n (Nat.le_refl _) (by unfold maxLen; omega) (by rw [size_madeCells, Nat.mul_one])
      exact h⟩
    case round =>
      obtain ⟨j, acc, hj, rfl, rfl, HU, HL, hbel, hbuf⟩ := hrel
      have hszw := hbel.size
      by_cases hlt : j < n
      · have hx0 : 2 * j < s.size := by omega
        have hx1 : 2 * j + 1 < s.size := by omega
        have hi0 : (0 : Int) ≤ 2 * (j : Int) := by omega
        have hi1 : 2 * (j : Int) + 1 < s.size := by omega
        have HT : Hid (Oct.uhTo s.data.toList (j + 1) = (Oct.uhTo s.data.toList j).bind fun acc => if (Oct.half s[2 * j]).2 && (Oct.half s[2 * j + 1]).2 then some (acc ++ [UInt8.ofNat (16 * (Oct.half s[2 * j]).1 + (Oct.half s[2 * j + 1]).1)]) else none) := by
          show _ = _
          simp only [Oct.uhTo]
          rw [getD_byte' s _ hx0, getD_byte' s _ hx1]
        have hb0 := s[2 * j].toNat_lt
        have hb1 := s[2 * j + 1].toNat_lt
        have hh0 := Oct.half_lt s[2 * j]
        have hh1 := Oct.half_lt s[2 * j + 1]
        have K0 := Lib.hid (fun w => half_any s[2 * j] w)
        have K1 := Lib.hid (fun w => half_any s[2 * j + 1] w)
        generalize Oct.half s[2 * j] = p0 at HT hh0 K0
        generalize Oct.half s[2 * j + 1] = p1 at HT hh1 K1
        obtain ⟨n0, ok0⟩ := p0
        obtain ⟨n1, ok1⟩ := p1
        simp only at hh0 hh1 K0 K1
        go_wp2_with fail
        refine (K0.out _).mono ?_
        rintro e w1 ⟨rfl, rfl⟩
        go_wp2_with fail
        refine (K1.out _).mono ?_
        rintro e w1 ⟨rfl, rfl⟩
        cases ok0
        · have HV : Hid (unhexV s.data.toList = .tuple #[.string ⟨#[]⟩, .bool false]) := unhexV_none (uh_none HN.out HT.out HU.out hlt (by simp))
          go_wp2_with fail
          go_ret2
          exact ⟨by rw [HV.out]; rfl, hbel⟩
        · cases ok1
          · have HV : Hid (unhexV s.data.toList = .tuple #[.string ⟨#[]⟩, .bool false]) := unhexV_none (uh_none HN.out HT.out HU.out hlt (by simp))
            go_wp2_with fail
            go_ret2
            exact ⟨by rw [HV.out]; rfl, hbel⟩
          · have hor := nib_or n0 n1 hh0 hh1
            have HNV := Lib.hid (nib_val n0 n1 hh0 hh1)
            have HTT : Hid (Oct.uhTo s.data.toList (j + 1) = some (acc ++ [UInt8.ofNat (16 * n0 + n1)])) := by
              show _ = _
              rw [HT.out, HU.out]
              simp
            clear HT
            generalize UInt8.ofNat (16 * n0 + n1) = cc at HNV HTT
            go_wp2_with (at_builtin; refine Buf.wpList_fits rfl (.tmp 45) (.tmp 50) 51 rfl Tryd.underlying51 infoU8 rfl (hbuf.alloc _) ?c0 ⟨wr.heap.size, 0, none⟩ 1 1 [cc] rfl rfl ?c1 ?c2 ?_)
            case c0 => exact HL.out.symm
            case c1 => exact At.one _ _ _ _ HNV.out
            case c2 => omega
            intro w2 hb2 hg2
            have hbel2 := (hbel.alloc hszw _).grown hg2 (by simp; omega) (fun k hk => by simp at hk; omega)
            have HL2 : Hid ((acc ++ [cc]).length = j + 1) := by
              show _ = _
              rw [List.length_append, HL.out]
              rfl
            clear hg2 hbuf
            go_wp2_with fail
            go_roundw
            case rel => exact ⟨j + 1, _, by omega, by go_num, rfl, HTT, HL2, hbel2, hb2⟩
            case measure => simp [intOf]; omega
      · obtain rfl : j = n := by omega
        have HV : Hid (unhexV s.data.toList = .tuple #[.string ⟨acc.toArray⟩, .bool true]) := unhexV_some (uh_some HN.out HU.out)
        have hst := hbuf.string (P := Tryd.prog) Tryd.underlying51 Tryd.underlying5 Tryd.underlying9
        go_wp2_with fail
        go_ret2
        exact ⟨by rw [HV.out]; rfl, hbel⟩
end Go.Proofs.YtnmooegegknmoaaDoor
