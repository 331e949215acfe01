/-
  The contract of the reference's Unhex.
-/
import Derived.Test.YtnmooegegknmoaaDoorOctUnhex
import Derived.Deep.QuietTactic
import Derived.BigQuiet
namespace Go.Proofs.YtnmooegegknmoaaDoor
open Go.RowKit Go.Proofs.Buf

/-- The number that two digits are; 256: none. -/
def pairV (a b : UInt8) : Nat := if (Oct.half a).2 && (Oct.half b).2 then 16 * (Oct.half a).1 + (Oct.half b).1 else 256
theorem pairV_le (a b : UInt8) : pairV a b ≤ 256 := by
  have h1 := Oct.half_lt a
  have h2 := Oct.half_lt b
  unfold pairV
  split <;> omega
theorem pairV_mt (a b : UInt8) (m : Nat) (h : m < 256) : Oct.mt (Oct.low a) (Oct.low b) m = decide (m = pairV a b) := by
  have h1 := Oct.half_lt a
  have h2 := Oct.half_lt b
  rw [Bool.eq_iff_iff, Oct.mt_iff a b m h, decide_eq_true_iff]
  unfold pairV
  constructor
  · rintro ⟨e1, e2⟩
    rw [e1, e2]
    simp
    omega
  · intro e
    split at e
    · rename_i hh
      rw [Bool.and_eq_true] at hh
      constructor
      · apply Prod.ext
        · simp; omega
        · exact hh.1
      · apply Prod.ext
        · simp; omega
        · exact hh.2
    · omega
theorem uhTo_pair (s : ByteArray) (j : Nat) (acc : List UInt8) (h0 : 2 * j < s.size) (h1 : 2 * j + 1 < s.size) (hu : Oct.uhTo s.data.toList j = some acc) :
    Oct.uhTo s.data.toList (j + 1) = if pairV s[2 * j] s[2 * j + 1] < 256 then some (acc ++ [UInt8.ofNat (pairV s[2 * j] s[2 * j + 1])]) else none := by
  simp only [Oct.uhTo, hu]
  rw [getD_byte' s _ h0, getD_byte' s _ h1]
  have hh1 := Oct.half_lt s[2 * j]
  have hh2 := Oct.half_lt s[2 * j + 1]
  unfold pairV
  simp only [Option.bind_some]
  split
  · rw [if_pos (by omega)]
  · rw [if_neg (by omega)]
theorem ru_none {s : ByteArray} {j : Nat} (h : Oct.uhTo s.data.toList (j + 1) = none) (hj : 2 * j + 1 < s.size) : Oct.unhex s.data.toList = none := by
  unfold Oct.unhex
  rw [len_bytes']
  split
  · rfl
  · exact Oct.uhTo_none _ _ _ h (by omega)
theorem fold_get (s F : ByteArray) (h : F.data.toList = Oct.fold s.data.toList) (i : Nat) (hi : i < F.size) (hs : i < s.size) : F[i] = Oct.low s[i] := by
  have e1 := getD_byte' F i hi
  have e2 := getD_byte' s i hs
  rw [← e1, ← e2, h]
  unfold Oct.fold
  rw [List.getD_eq_getElem?_getD, List.getD_eq_getElem?_getD, List.getElem?_map, List.getElem?_eq_getElem (by rw [len_bytes']; exact hs)]
  rfl
theorem byte_eq (a b : UInt8) : ((a.toNat : Int) == (b.toNat : Int)) = (a == b) := by
  rw [Bool.eq_iff_iff, beq_iff_eq, beq_iff_eq]
  constructor
  · intro h
    exact UInt8.toNat_inj.1 (by omega)
  · intro h
    rw [h]

theorem index_at (F : ByteArray) (i : Nat) (z : Int) (hz : z = (i : Int)) (hi : i < F.size) (w : World) :
    (Instr.index 9 (.string F) (.int .i64 z)).run Tryd.prog w = .ok (.int .u8 ((F[i].toNat : Nat) : Int)) w := by
  subst hz
  rw [run_index_string _ _ _ _ _ Tryd.underlying9, dif_pos ⟨by omega, by omega⟩]
  rfl

theorem buf_drewN {w : World} {base : Nat} {e : TypeId} {v : Value} {l : List UInt8} (h : Buf w base e v l) (n : Nat) : Buf (w.drewN n) base e v l := h
theorem mt_no1 {x0 x1 : UInt8} {m : Nat} (h : (Oct.digit (m / 16) == x0) = false) : Oct.mt x0 x1 m = false := by unfold Oct.mt; rw [h]; rfl
theorem mt_no2 {x0 x1 : UInt8} {m : Nat} (h : (Oct.digit (m % 16) == x1) = false) : Oct.mt x0 x1 m = false := by unfold Oct.mt; rw [h, Bool.and_false]
theorem mt_lt {x0 x1 : UInt8} {m v : Nat} (h0 : m ≤ v) (h : Oct.mt x0 x1 m = decide (m = v)) (hf : Oct.mt x0 x1 m = false) : m + 1 ≤ v := by
  rw [hf] at h
  have := of_decide_eq_false h.symm
  omega
theorem byte_small (m : Nat) (h : m < 256) : (m : Int) = (((UInt8.ofNat m).toNat : Nat) : Int) := by
  rw [UInt8.toNat_ofNat', Nat.mod_eq_of_lt (a := m) (by omega)]
theorem div16 (m : Nat) : (m : Int) / 16 = ((m / 16 : Nat) : Int) := by omega
theorem mod16 (m : Nat) : (m : Int) % 16 = ((m % 16 : Nat) : Int) := by omega
theorem digit_q (m : Int) (n : Nat) (w : World) (k : Nat) (hm : m = (n : Int)) (hn : n < 16) :
    Calls Tryd.prog 43 #[.int .u8 m] (w.drewN k) fun e w'' => e = .returned (.int .u8 ((Oct.digit n).toNat : Nat)) ∧ ∃ i, w'' = w.drewN i :=
  Calls.quiet_of_same ((digit_at m n _ hm hn).mono fun _ _ ⟨a, b⟩ => ⟨a, b.symm⟩)

set_option maxRecDepth 100000 in
set_option maxHeartbeats 2000000 in
theorem refUnhex_any (s : ByteArray) (w : World) (hs : s.size ≤ 140737488355328) :
    Calls Tryd.prog 39 #[.string s] w fun e w' => e = .returned (unhexV s.data.toList) ∧ Below w.heap.size w w' := by
  have K1 := Lib.hid (refFold_any s w hs)
  have hfl : (Oct.fold s.data.toList).length = s.size := by unfold Oct.fold; rw [List.length_map, len_bytes']
  obtain ⟨FS, hFS⟩ : ∃ FS : ByteArray, FS.data.toList = Oct.fold s.data.toList ∧ ByteArray.mk (Oct.fold s.data.toList).toArray = FS := ⟨_, by simp, rfl⟩
  rw [hFS.2] at K1
  have HFS := Lib.hid hFS.1
  have hsz1 : FS.size ≤ s.size := by rw [← len_bytes', hFS.1, hfl]; omega
  have hsz2 : s.size ≤ FS.size := by rw [← len_bytes' FS, hFS.1, hfl]; omega
  clear hFS hfl
  go_enter Tryd.func39, Tryd.ntmps39
  go_wp2_with fail
  refine (K1.out).mono ?_
  rintro e w1 ⟨rfl, hb1⟩
  go_wp2_with fail
  have hz1 := hb1.size
  go_loopw [4, 6, 7, 8] (fun b i f n wr => ∃ (j : Nat) (acc : List UInt8), 2 * j ≤ FS.size ∧ i = .int .i64 (2 * (j : Int)) ∧ Hid (Oct.uhTo s.data.toList j = some acc) ∧ Below w.heap.size w wr ∧ Buf wr w.heap.size 5 b acc) (fun _ i _ _ _ => FS.size - (intOf i).toNat)
  case atStart => exact ⟨0, [], by omega, rfl, rfl, hb1, Buf.nil _ _ _⟩
  case round =>
    obtain ⟨j, acc, hj, rfl, HU, hbel, hbuf⟩ := hrel
    by_cases hlt : 2 * j + 1 < FS.size
    · have hx0 : 2 * j < FS.size := by omega
      have hi0 : (0 : Int) ≤ 2 * (j : Int) := by omega
      have hi1 : 2 * (j : Int) + 1 < FS.size := by omega
      have HP := Lib.hid (uhTo_pair s j acc (by omega) (by omega) HU.out)
      have HM := Lib.hid (pairV_mt (s[2 * j]'(by omega)) (s[2 * j + 1]'(by omega)))
      have hvle := pairV_le (s[2 * j]'(by omega)) (s[2 * j + 1]'(by omega))
      have HG0 := Lib.hid (fold_get s FS HFS.out (2 * j) hx0 (by omega))
      have HG1 := Lib.hid (fold_get s FS HFS.out (2 * j + 1) hlt (by omega))
      rw [← HG0.out, ← HG1.out] at HM
      have hix0 := index_at FS (2 * j) (2 * (j : Int)) (by omega) hx0
      have hix1 := index_at FS (2 * j + 1) (2 * (j : Int) + 1) (by omega) hlt
      clear HG0 HG1
      generalize FS[2 * j] = x0 at HM hix0
      generalize FS[2 * j + 1] = x1 at HM hix1
      have hacc : acc.length ≤ j := by rw [Oct.uhTo_length _ _ _ HU.out]; omega
      generalize pairV (s[2 * j]'(by omega)) (s[2 * j + 1]'(by omega)) = v at HP HM hvle
      go_wp2_with fail
      go_loopw [4, 7, 8] (fun b f n wx => ∃ (m : Nat) (fd : Bool), m ≤ 256 ∧ n = .int .i64 m ∧ f = .bool fd ∧ Below w.heap.size w wx ∧ Hid (fd = false → m ≤ v) ∧ Hid (fd = true → v < 256) ∧ Buf wx w.heap.size 5 b (acc ++ (if fd then [UInt8.ofNat v] else []))) (fun _ _ n _ => 256 - (intOf n).toNat)
      case atStart => exact ⟨0, false, by omega, rfl, rfl, hbel, (fun _ => Nat.zero_le _), (fun h => by cases h), by simpa using hbuf⟩
      case round =>
        obtain ⟨m, fd, hm, rfl, rfl, hbelx, HF1, HF2, hbufx⟩ := hrel
        by_cases hgo : m < 256 ∧ fd = false
        · obtain ⟨hm256, rfl⟩ := hgo
          have hmv0 : m ≤ v := HF1.out rfl
          clear HF1 HF2
          have HMM := Lib.hid (HM.out m hm256)
          have hbx0 := x0.toNat_lt
          have hbx1 := x1.toNat_lt
          have hw1 : IntKind.i64.wrap ((m : Int) / 16) = (m : Int) / 16 := IntWalk.i64_in _ (by omega)
          have hw2 : IntKind.u8.wrap ((m : Int) / 16) = (m : Int) / 16 := by rw [IntKind.wrap_u8]; omega
          have hw3 : IntKind.u8.wrap ((m : Int) % 16) = (m : Int) % 16 := by rw [IntKind.wrap_u8]; omega
          have hw4 : IntKind.i64.wrap (2 * (j : Int) + 1) = 2 * (j : Int) + 1 := IntWalk.i64_in _ (by omega)
          cases he1 : (Oct.digit (m / 16) == x0)
          · have he1' : (((Oct.digit (m / 16)).toNat : Int) == (x0.toNat : Int)) = false := by rw [byte_eq]; exact he1
            have HE1 := Lib.hid he1; clear he1
            go_wp2_with fail
            go_quiet ((go_at_call 43; exact digit_q _ _ _ _ (by first | exact div16 m | exact mod16 m) (by omega)))
            go_wp2_with fail
            go_roundw
            case rel => exact ⟨m + 1, false, by omega, by go_num, rfl, below_drewN hbelx _, (fun _ => mt_lt hmv0 HMM.out (mt_no1 HE1.out)), (fun h => by cases h), buf_drewN hbufx _⟩
            case measure => simp [intOf]; omega
          · have he1' : (((Oct.digit (m / 16)).toNat : Int) == (x0.toNat : Int)) = true := by rw [byte_eq]; exact he1
            have HE1 := Lib.hid he1; clear he1
            cases he2 : (Oct.digit (m % 16) == x1)
            · have he2' : (((Oct.digit (m % 16)).toNat : Int) == (x1.toNat : Int)) = false := by rw [byte_eq]; exact he2
              have HE2 := Lib.hid he2; clear he2
              go_wp2_with fail
              go_quiet ((go_at_call 43; exact digit_q _ _ _ _ (by first | exact div16 m | exact mod16 m) (by omega)))
              go_wp2_with fail
              go_roundw
              case rel => exact ⟨m + 1, false, by omega, by go_num, rfl, below_drewN hbelx _, (fun _ => mt_lt hmv0 HMM.out (mt_no2 HE2.out)), (fun h => by cases h), buf_drewN hbufx _⟩
              case measure => simp [intOf]; omega
            · have he2' : (((Oct.digit (m % 16)).toNat : Int) == (x1.toNat : Int)) = true := by rw [byte_eq]; exact he2
              have HE2 := Lib.hid he2; clear he2
              have hmv : m = v := by
                have := HMM.out
                unfold Oct.mt at this
                rw [HE1.out, HE2.out] at this
                exact of_decide_eq_true this.symm
              subst hmv
              simp only [Bool.false_eq_true, if_false, List.append_nil] at hbufx
              have hszx := hbelx.size
              have hmu : IntKind.u8.wrap (m : Int) = (((UInt8.ofNat m).toNat : Nat) : Int) := by
                rw [IntKind.wrap_u8, UInt8.toNat_ofNat', Nat.mod_eq_of_lt (a := m) (by omega)]
                omega
              have HMU := Lib.hid hmu; clear hmu
              go_wp2_with fail
              go_quiet ((go_at_call 43; exact digit_q _ _ _ _ (by first | exact div16 m | exact mod16 m) (by omega)))
              go_wp2_with (at_builtin; refine Buf.wpList_append rfl (.tmp 45) (.tmp 48) 51 rfl Tryd.underlying51 infoU8 rfl ((buf_drewN hbufx nq).alloc _) ⟨wr.heap.size, 0, none⟩ 1 1 [UInt8.ofNat m] rfl rfl ?c1 ?c2 ?c3 ?_)
              case c1 => exact At.one _ _ _ _ (byte_small m hm256)
              case c2 => omega
              case c3 => simp; omega
              intro v2 w2 hb2 hg2
              have hbel2 := ((below_drewN hbelx nq).alloc hszx (.cells #[.int .u8 (m : Int)] 5)).grown hg2 (by simp; omega) (fun k hk => (hbufx.lt k hk).1)
              have hb3 : Buf w2 w.heap.size 5 v2 (acc ++ (if true then [UInt8.ofNat m] else [])) := by simpa using hb2
              clear hg2 hbufx hb2
              go_wp2_with fail
              go_roundw
              case rel => exact ⟨m + 1, true, by omega, by go_num, rfl, hbel2, (fun h => by cases h), (fun _ => hm256), hb3⟩
              case measure => simp [intOf]; omega
        · cases fd
          · have hm256 : m = 256 := by
              have : ¬ m < 256 := fun h => hgo ⟨h, rfl⟩
              omega
            have hv256 : v = 256 := by have := HF1.out rfl; omega
            have HV : Hid (unhexV s.data.toList = .tuple #[.string ⟨#[]⟩, .bool false]) := unhexV_none (by
              have h := HP.out
              rw [if_neg (by omega)] at h
              exact ru_none h (by omega))
            clear HF1 HF2
            go_wp2_with fail
            go_ret2
            exact ⟨by rw [HV.out]; rfl, hbelx⟩
          · have hv256 : v < 256 := HF2.out rfl
            have HU2 : Hid (Oct.uhTo s.data.toList (j + 1) = some (acc ++ [UInt8.ofNat v])) := by
              have h := HP.out
              rw [if_pos hv256] at h
              exact h
            simp only [if_true] at hbufx
            clear HF1 HF2 hgo hv256
            have hmc : m < 256 ∨ ¬ m < 256 := by omega
            rcases hmc with hmc | hmc
            all_goals
              go_wp2_with fail
              go_roundw
              case rel => exact ⟨j + 1, _, by omega, by go_num, HU2, hbelx, hbufx⟩
              case measure => simp [intOf]; omega
    · by_cases hodd : s.size % 2 = 1
      · have HV : Hid (unhexV s.data.toList = .tuple #[.string ⟨#[]⟩, .bool false]) := unhexV_none (by unfold Oct.unhex; rw [len_bytes', if_pos hodd])
        have hodd' : ((s.size : Int) % 2 == 1) = true := by rw [beq_iff_eq]; omega
        clear hodd
        go_wp2_with fail
        go_ret2
        exact ⟨by rw [HV.out]; rfl, hbel⟩
      · have hodd' : ((s.size : Int) % 2 == 1) = false := by rw [beq_eq_false_iff_ne]; omega
        have HV : Hid (unhexV s.data.toList = .tuple #[.string ⟨acc.toArray⟩, .bool true]) := unhexV_some (uh_some (n := j) (by omega) HU.out)
        have hst := hbuf.string (P := Tryd.prog) Tryd.underlying51 Tryd.underlying5 Tryd.underlying9
        clear hodd
        go_wp2_with fail
        go_ret2
        exact ⟨by rw [HV.out]; rfl, hbel⟩
end Go.Proofs.YtnmooegegknmoaaDoor
