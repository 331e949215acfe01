/-
  Stored passwords: Stored, Salt, Check of the program and of the reference.
-/
import Derived.Test.YtnmooegegknmoaaDoorPass
namespace Go.Proofs.Reg
open Go.RowKit
section
variable {P : Program} {ops : Array Oper} {Q : Exit → Act → World → Prop}
/-- The duty of an operation whose guard says no. -/
theorem step_no {T : Tmp → Value → World → Prop} {a0 : Act} {w0 : World} {o : Oper} {g : Nat} {b c : Bool} {d : Tmp} (hg : o.guard = some (g, b)) (hd : (ops[g]?).bind (·.dst) = some d) (hT : ∀ v w, T d v w → v = .bool c) (hne : c ≠ b) (hm : d ∈ o.looksAt ops)
    (hu : ∀ d w, o.dst = some d → T d undef w) :
    Step P ops Q T a0 w0 o := by
  intro a w hb hs hl
  obtain ⟨v, hv, ht⟩ := has_of hl d hm
  rw [hT v w ht] at hv
  rw [if_neg (by rw [wanted_no hg hd hv hne]; simp)]
  exact fun d h => hu d w h
end
end Go.Proofs.Reg
namespace Go.Proofs.YtnmooegegknmoaaDoor
open Go.RowKit Go.Proofs.Sha Go.Proofs.Buf Go.Proofs.Reg

/-- The 40 bytes of a stored password. -/
def storedOf (l : List UInt8) : Option (List UInt8) :=
  if l.length = 88 ∧ l.take 8 = passPre then
    match Oct.unhex (l.drop 8) with
    | some b => if Oct.hex b = l.drop 8 then some b else none
    | none => none
  else none
theorem storedOf_some {l b : List UInt8} (h : storedOf l = some b) : l = passPre ++ Oct.hex b ∧ b.length = 40 := by
  unfold storedOf at h
  split at h
  · rename_i h1
    split at h
    · split at h
      · rename_i b' hb hx
        injection h with h
        subst h
        have e : l = passPre ++ Oct.hex b' := by rw [hx, ← h1.2, List.take_append_drop]
        refine ⟨e, ?_⟩
        have hl := h1.1
        rw [e, List.length_append, Oct.hex_length] at hl
        unfold passPre at hl
        simp at hl
        omega
      · cases h
    · cases h
  · cases h
theorem storedOf_mk (b : List UInt8) (hb : b.length = 40) : storedOf (passPre ++ Oct.hex b) = some b := by
  unfold storedOf
  have h8 : (passPre ++ Oct.hex b).drop 8 = Oct.hex b := by unfold passPre; rfl
  have ht : (passPre ++ Oct.hex b).take 8 = passPre := by unfold passPre; rfl
  rw [h8, ht, Oct.unhex_hex, if_pos ⟨by rw [List.length_append, Oct.hex_length, hb]; rfl, rfl⟩]
  simp
/-- What the two Salts answer. -/
def saltV (l : List UInt8) : Value :=
  match storedOf l with
  | some b => .tuple #[.int .u64 (Oct.get (b.take 8) : Nat), .bool true]
  | none => .tuple #[.int .u64 0, .bool false]

theorem pre_test (t : ByteArray) : ((t.extract 0 8).toList == [123, 83, 65, 76, 84, 69, 68, 125]) = decide ((bs t).take 8 = passPre) := by
  rw [Lib.toList_data]
  have e : (t.extract 0 8).data.toList = (bs t).take 8 := by
    have := bs_extract t 0 8
    rw [List.drop_zero] at this
    exact this
  rw [e]
  by_cases h : (bs t).take 8 = passPre
  · rw [decide_eq_true h, h]; rfl
  · rw [decide_eq_false h, beq_eq_false_iff_ne]; exact h
theorem bs_drop (t : ByteArray) (n m : Nat) (h : t.size = m) : (t.extract n m).data.toList = (bs t).drop n := by
  have := bs_extract t n m
  rw [List.take_of_length_le (by rw [List.length_drop, bs_length]; omega)] at this
  exact this
theorem unhex_length {l b : List UInt8} (h : Oct.unhex l = some b) : 2 * b.length ≤ l.length := by
  unfold Oct.unhex at h
  split at h
  · cases h
  · have := Oct.uhTo_length _ _ _ h
    omega
theorem stored_len {l : List UInt8} (h : l.length ≠ 88) : storedOf l = none := by
  unfold storedOf
  rw [if_neg (fun x => h x.1)]
theorem stored_pre {l : List UInt8} (h : l.take 8 ≠ passPre) : storedOf l = none := by
  unfold storedOf
  rw [if_neg (fun x => h x.2)]
theorem stored_hex {l : List UInt8} (h : Oct.unhex (l.drop 8) = none) : storedOf l = none := by
  unfold storedOf
  rw [h]
  simp
theorem stored_back {l b : List UInt8} (h1 : l.length = 88) (h2 : l.take 8 = passPre) (h : Oct.unhex (l.drop 8) = some b) : storedOf l = if Oct.hex b = l.drop 8 then some b else none := by
  unfold storedOf
  rw [if_pos ⟨h1, h2⟩, h]

def SNo (t : ByteArray) : List (List Tmp × (Value → World → Prop)) :=
  [([4, 19, 20, 26, 2], fun v _ => v = .bool false), ([0], fun v _ => v = .string t), ([3], fun v _ => v = .string ⟨#[]⟩), ([21, 22, 23, 24, 25], fun v _ => v = undef)]
theorem sNo_mono (t : ByteArray) : monoL (SNo t) := by
  refine ⟨?_, ?_, ?_, ?_, trivial⟩
  all_goals exact fun v w w' h hb => h
def SYes (t B C : ByteArray) (r : Bool) : List (List Tmp × (Value → World → Prop)) :=
  [([4, 19, 20], fun v _ => v = .bool true), ([0, 23], fun v _ => v = .string t), ([3, 21], fun v _ => v = .string B), ([22], fun v _ => v = .string C), ([24], fun v _ => v = .string (t.extract 8 88)), ([25, 26, 2], fun v _ => v = .bool r)]
theorem sYes_mono (t B C : ByteArray) (r : Bool) : monoL (SYes t B C r) := by
  refine ⟨?_, ?_, ?_, ?_, ?_, ?_, trivial⟩
  all_goals exact fun v w w' h hb => h

set_option maxHeartbeats 800000 in
theorem stored_any (t : ByteArray) (w : World) :
    Calls Tryd.prog 24 #[.string t] w fun e w' => e = .returned (.bool (storedOf (bs t)).isSome) ∧ Below w.heap.size w w' := by
  by_cases h88 : t.size = 88
  · have hl2 : (bs t).length = 88 := by rw [bs_length]; exact h88
    by_cases hp : (bs t).take 8 = passPre
    · have ht : ((t.extract 0 8).toList == [123, 83, 65, 76, 84, 69, 68, 125]) = true := by rw [pre_test]; exact decide_eq_true hp
      have hr := bs_drop t 8 88 h88
      have HR := Lib.hid hr
      cases hu : Oct.unhex ((bs t).drop 8) with
      | none =>
        have HN := Lib.hid (stored_hex hu)
        have HU : Hid (unhexV (t.extract 8 88).data.toList = _) := unhexV_none (by rw [hr]; exact hu)
        clear hu hr hp hl2
        rw [HN.out]
        go_enter Tryd.func24, Tryd.ntmps24
        go_wp2_with fail
        refine (unhex_any _ _ (by rw [ByteArray.size_extract]; omega)).mono ?_
        rintro e w1 ⟨rfl, hb1⟩
        rw [HU.out]
        go_wp2_with fail
        refine region_inv (slotT (SNo t)) [0, 3, 4] (by kernel_rfl) (by kernel_rfl) (by kernel_rfl) (by kernel_rfl) ?_ (slotT_mono (sNo_mono _)) ?_ ?_
        · exact ⟨⟨_, rfl, rfl⟩, ⟨_, rfl, rfl⟩, ⟨_, rfl, rfl⟩, trivial⟩
        · refine ⟨?_, ?_, ?_, ?_, ?_, ?_, ?_, ?_, ?_, trivial⟩
          all_goals first | refine step_open rfl ?_ | exact step_no rfl rfl (fun v w h => h) (by decide) (by decide) (fun d w hd => by cases hd; rfl)
          all_goals (intro a w6 hb hs hl; clear hs; repeat (first | (obtain ⟨⟨_, e, rfl⟩, hl⟩ := hl) | (obtain ⟨⟨_, e, h⟩, hl⟩ := hl)))
          all_goals ((try clear hl); unfold Oper.wp; go_simp)
          all_goals first | exact ⟨_, rfl, Below.refl _ _, rfl⟩ | skip
        · intro a w7 hb hsm hd
          obtain ⟨v, e, rfl⟩ := hd 2 (by decide)
          have hdef := hsm.1
          have HB7 := Lib.hid (hb1.trans (hb.mono hb1.size))
          clear hsm hd hb
          go_wp2
          exact bodyPost_ret (v := .bool false) (by simp [results, Tryd.results24, e, go_sem]) hdef ⟨rfl, HB7.out⟩
      | some b =>
        have HN := Lib.hid (stored_back hl2 hp hu)
        have HU : Hid (unhexV (t.extract 8 88).data.toList = _) := unhexV_some (by rw [hr]; exact hu)
        have hbl : 2 * b.length ≤ 88 := by
          have h := unhex_length hu
          rw [List.length_drop] at h
          omega
        clear hu hr hp hl2
        rw [HN.out]
        obtain ⟨r, hrr⟩ : ∃ r, (if Oct.hex b = (bs t).drop 8 then some b else none).isSome = r := ⟨_, rfl⟩
        rw [hrr]
        have HRR := Lib.hid hrr
        clear hrr
        go_enter Tryd.func24, Tryd.ntmps24
        go_wp2_with fail
        refine (unhex_any _ _ (by rw [ByteArray.size_extract]; omega)).mono ?_
        rintro e w1 ⟨rfl, hb1⟩
        rw [HU.out]
        obtain ⟨B, hB, hB2⟩ : ∃ B : ByteArray, ByteArray.mk b.toArray = B ∧ bs B = b := ⟨_, rfl, bs_mk _⟩
        rw [hB]
        have hBs : 2 * B.size ≤ 88 := by rw [← bs_length, hB2]; exact hbl
        clear hbl hB
        have hb1d := Lib.hid hb1
        clear hb1
        go_wp2_with fail
        obtain ⟨C, hC, hC2⟩ : ∃ C : ByteArray, ByteArray.mk (Oct.hex B.data.toList).toArray = C ∧ bs C = Oct.hex b := ⟨_, rfl, by rw [bs_mk, ← hB2]; rfl⟩
        have HC := Lib.hid hC
        have HR2 : Hid ((C.toList == (t.extract 8 88).toList) = (if Oct.hex b = (bs t).drop 8 then some b else none).isSome) := by
          show _ = _
          rw [Lib.toList_data, Lib.toList_data, HR.out, show C.data.toList = bs C from rfl, hC2]
          by_cases hx : Oct.hex b = (bs t).drop 8
          · rw [if_pos hx, hx]; simp
          · rw [if_neg hx]; simpa using hx
        clear hC hC2
        have hrr : (C.toList == (t.extract 8 88).toList) = r := by rw [HR2.out, HRR.out]
        refine region_inv (slotT (SYes t B C r)) [0, 3, 4] (by kernel_rfl) (by kernel_rfl) (by kernel_rfl) (by kernel_rfl) ?_ (slotT_mono (sYes_mono _ _ _ _)) ?_ ?_
        · exact ⟨⟨_, rfl, rfl⟩, ⟨_, rfl, rfl⟩, ⟨_, rfl, rfl⟩, trivial⟩
        · refine ⟨?_, ?_, ?_, ?_, ?_, ?_, ?_, ?_, ?_, trivial⟩
          all_goals first | refine step_open rfl ?_ | refine step_yes rfl rfl (fun v w h => h) (by decide) ?_
          all_goals (intro a w6 hb hs hl; clear hs; repeat (first | (obtain ⟨⟨_, e, rfl⟩, hl⟩ := hl) | (obtain ⟨⟨_, e, h⟩, hl⟩ := hl)))
          all_goals ((try clear hl); unfold Oper.wp; go_simp)
          all_goals first | exact ⟨_, rfl, Below.refl _ _, rfl⟩ | skip
          all_goals exact (hex_any B _ (by omega)).mono (by rintro e w' ⟨rfl, hb2⟩; rw [HC.out]; exact ⟨_, rfl, hb2, rfl⟩)
        · intro a w7 hb hsm hd
          obtain ⟨v, e, rfl⟩ := hd 2 (by decide)
          have hdef := hsm.1
          have HB7 := Lib.hid (hb1d.out.trans (hb.mono hb1d.out.size))
          clear hsm hd hb
          go_wp2
          exact bodyPost_ret (v := .bool r) (by simp [results, Tryd.results24, e, go_sem]) hdef ⟨rfl, HB7.out⟩
    · have ht : ((t.extract 0 8).toList == [123, 83, 65, 76, 84, 69, 68, 125]) = false := by rw [pre_test]; exact decide_eq_false hp
      have HN := Lib.hid (stored_pre hp)
      clear hp hl2
      rw [HN.out]
      go_enter Tryd.func24, Tryd.ntmps24
      go_wp2_with fail
      go_ret
      exact ⟨rfl, Below.refl _ _⟩
  · have HN := Lib.hid (stored_len (l := bs t) (by rw [bs_length]; exact h88))
    rw [HN.out]
    go_enter Tryd.func24, Tryd.ntmps24
    go_wp2_with fail
    go_ret
    exact ⟨rfl, Below.refl _ _⟩
theorem saltV_none {l : List UInt8} (h : storedOf l = none) : saltV l = .tuple #[.int .u64 0, .bool false] := by unfold saltV; rw [h]
theorem saltV_some {l b : List UInt8} (h : storedOf l = some b) : saltV l = .tuple #[.int .u64 (Oct.get (b.take 8) : Nat), .bool true] := by unfold saltV; rw [h]
theorem hex_takes (b : List UInt8) (n : Nat) : (Oct.hex b).take (2 * n) = Oct.hex (b.take n) := by
  have e : Oct.hex b = Oct.hex (b.take n) ++ Oct.hex (b.drop n) := by
    unfold Oct.hex
    rw [← List.flatMap_append, List.take_append_drop]
  by_cases h : n ≤ b.length
  · rw [e, List.take_append_of_le_length (by rw [Oct.hex_length, List.length_take]; omega), List.take_of_length_le (by rw [Oct.hex_length, List.length_take]; omega)]
  · rw [List.take_of_length_le (by rw [Oct.hex_length]; omega), List.take_of_length_le (by omega)]

set_option maxHeartbeats 800000 in
theorem salt_any (t : ByteArray) (w : World) :
    Calls Tryd.prog 22 #[.string t] w fun e w' => e = .returned (saltV (bs t)) ∧ Below w.heap.size w w' := by
  cases hst : storedOf (bs t) with
  | none =>
    have HV := Lib.hid (saltV_none hst)
    have HS : Hid ((storedOf (bs t)).isSome = false) := by show _ = _; rw [hst]; rfl
    clear hst
    rw [HV.out]
    go_enter Tryd.func22, Tryd.ntmps22
    go_wp2_with fail
    refine (stored_any t _).mono ?_
    rintro e w1 ⟨rfl, hb1⟩
    rw [HS.out]
    go_wp2_with fail
    go_ret2
    exact ⟨rfl, hb1⟩
  | some b =>
    have HV := Lib.hid (saltV_some hst)
    have HS : Hid ((storedOf (bs t)).isSome = true) := by show _ = _; rw [hst]; rfl
    obtain ⟨h1, h2⟩ := storedOf_some hst
    have h88 : t.size = 88 := by rw [← bs_length, h1, List.length_append, Oct.hex_length, h2]; rfl
    have hx : (t.extract 8 24).data.toList = Oct.hex (b.take 8) := by
      have h := bs_extract t 8 24
      rw [h1, show (passPre ++ Oct.hex b).drop 8 = Oct.hex b from by unfold passPre; rfl, show 24 - 8 = 2 * 8 from rfl, hex_takes] at h
      exact h
    have HU : Hid (unhexV (t.extract 8 24).data.toList = _) := unhexV_some (by rw [hx]; exact Oct.unhex_hex _)
    obtain ⟨B, hB, hB2⟩ : ∃ B : ByteArray, ByteArray.mk (b.take 8).toArray = B ∧ B.data.toList = b.take 8 := ⟨_, rfl, bs_mk _⟩
    rw [hB] at HU
    have hBs : B.size = 8 := by rw [← bs_length]; unfold bs; rw [hB2, List.length_take, h2]; rfl
    have HG : Hid ((Oct.get (b.take 8) : Nat) = Oct.get ((B.data.toList.drop 0).take 8)) := by
      show _ = _
      rw [hB2, List.drop_zero, List.take_take]; rfl
    clear hst h1 h2 hx hB hB2
    rw [HV.out, HG.out]
    go_enter Tryd.func22, Tryd.ntmps22
    go_wp2_with fail
    refine (stored_any t _).mono ?_
    rintro e w1 ⟨rfl, hb1⟩
    rw [HS.out]
    go_wp2_with fail
    refine (unhex_any _ _ (by rw [ByteArray.size_extract]; omega)).mono ?_
    rintro e w2 ⟨rfl, hb2⟩
    rw [HU.out]
    have hb2' := hb1.trans (hb2.mono hb1.size)
    go_wp2_with fail
    refine (get_yes B 0 8 _ (by unfold maxLen; omega) (by omega) (by omega) (by omega)).mono ?_
    rintro e w3 ⟨rfl, hb3⟩
    go_wp2_with fail
    go_ret2
    exact ⟨rfl, hb2'.trans (hb3.mono hb2'.size)⟩
theorem stored_ref {l b : List UInt8} (h1 : l.length = 88) (h : Oct.unhex (l.drop 8) = some b) : storedOf l = if passPre ++ Oct.hex b = l then some b else none := by
  by_cases he : passPre ++ Oct.hex b = l
  · rw [if_pos he]
    have ht : l.take 8 = passPre := by rw [← he]; rfl
    have hd : l.drop 8 = Oct.hex b := by rw [← he]; rfl
    rw [stored_back h1 ht h, if_pos hd.symm]
  · rw [if_neg he]
    cases hs : storedOf l with
    | none => rfl
    | some b' =>
      obtain ⟨e1, e2⟩ := storedOf_some hs
      exfalso
      apply he
      have hd : l.drop 8 = Oct.hex b' := by rw [e1]; rfl
      rw [hd, Oct.unhex_hex] at h
      injection h with h
      rw [← h, ← e1]

set_option maxHeartbeats 800000 in
theorem refSalt_any (t : ByteArray) (w : World) :
    Calls Tryd.prog 23 #[.string t] w fun e w' => e = .returned (saltV (bs t)) ∧ Below w.heap.size w w' := by
  by_cases h88 : t.size = 88
  · have hl2 : (bs t).length = 88 := by rw [bs_length]; exact h88
    have hr := bs_drop t 8 88 h88
    cases hu : Oct.unhex ((bs t).drop 8) with
    | none =>
      have HV := Lib.hid (saltV_none (stored_hex hu))
      have HU : Hid (unhexV (t.extract 8 88).data.toList = _) := unhexV_none (by rw [hr]; exact hu)
      clear hu hr hl2
      rw [HV.out]
      go_enter Tryd.func23, Tryd.ntmps23
      go_wp2_with fail
      refine (refUnhex_any _ _ (by rw [ByteArray.size_extract]; omega)).mono ?_
      rintro e w1 ⟨rfl, hb1⟩
      rw [HU.out]
      go_wp2_with fail
      go_ret2
      exact ⟨rfl, hb1⟩
    | some b =>
      have hst := stored_ref hl2 hu
      have HU : Hid (unhexV (t.extract 8 88).data.toList = _) := unhexV_some (by rw [hr]; exact hu)
      have hbl : 2 * b.length ≤ 88 := by
        have h := unhex_length hu
        rw [List.length_drop] at h
        omega
      obtain ⟨B, hB, hB2⟩ : ∃ B : ByteArray, ByteArray.mk b.toArray = B ∧ B.data.toList = b := ⟨_, rfl, bs_mk _⟩
      rw [hB] at HU
      have hBs : 2 * B.size ≤ 88 := by rw [← bs_length]; unfold bs; rw [hB2]; exact hbl
      obtain ⟨C, hC, hC2⟩ : ∃ C : ByteArray, ByteArray.mk (Oct.hex B.data.toList).toArray = C ∧ bs C = Oct.hex b := ⟨_, rfl, by rw [bs_mk, hB2]⟩
      have HC := Lib.hid hC
      have hCs : C.size ≤ 88 := by rw [← bs_length, hC2, Oct.hex_length]; exact hbl
      have hcat : bs (ByteArray.mk #[123, 83, 65, 76, 84, 69, 68, 125] ++ C) = passPre ++ Oct.hex b := by rw [bs_cat, hC2]; rfl
      by_cases he : passPre ++ Oct.hex b = bs t
      · rw [if_pos he] at hst
        have HV := Lib.hid (saltV_some hst)
        obtain ⟨h1, h2⟩ := storedOf_some hst
        have hB40 : B.size = 40 := by rw [← bs_length]; unfold bs; rw [hB2, h2]
        have HG : Hid ((Oct.get (b.take 8) : Nat) = Oct.get ((B.data.toList.drop 0).take 8)) := by
          show _ = _
          rw [hB2, List.drop_zero]
        have hE : ByteArray.mk #[123, 83, 65, 76, 84, 69, 68, 125] ++ C = t := bs_ext (by rw [hcat]; exact he)
        clear hu hr hl2 hst h1 h2 he hcat hbl hB hB2 hC2 hBs
        rw [HV.out, HG.out]
        go_enter Tryd.func23, Tryd.ntmps23
        go_wp2_with fail
        refine (refUnhex_any _ _ (by rw [ByteArray.size_extract]; omega)).mono ?_
        rintro e w1 ⟨rfl, hb1⟩
        rw [HU.out]
        have HB1 := Lib.hid hb1
        clear hb1
        go_wp2_with fail
        refine (refHex_any B _ (by omega)).mono ?_
        rintro e w2 ⟨rfl, hb2⟩
        rw [HC.out]
        have HB2 := Lib.hid (HB1.out.trans (hb2.mono HB1.out.size))
        clear hb2
        go_wp2_with fail
        refine (refGet_yes B 0 8 _ (by unfold maxLen; omega) (by omega) (by omega) (by omega)).mono ?_
        rintro e w3 ⟨rfl, rfl⟩
        go_wp2_with fail
        go_ret2
        exact ⟨rfl, HB2.out⟩
      · rw [if_neg he] at hst
        have HV := Lib.hid (saltV_none hst)
        have hE : ((ByteArray.mk #[123, 83, 65, 76, 84, 69, 68, 125] ++ C).toList == t.toList) = false := by
          rw [Lib.toList_data, Lib.toList_data, beq_eq_false_iff_ne]
          intro h
          exact he (hcat ▸ h)
        clear hu hr hl2 hst he hcat hbl hB hB2 hC2
        rw [HV.out]
        go_enter Tryd.func23, Tryd.ntmps23
        go_wp2_with fail
        refine (refUnhex_any _ _ (by rw [ByteArray.size_extract]; omega)).mono ?_
        rintro e w1 ⟨rfl, hb1⟩
        rw [HU.out]
        have HB1 := Lib.hid hb1
        clear hb1
        go_wp2_with fail
        refine (refHex_any B _ (by omega)).mono ?_
        rintro e w2 ⟨rfl, hb2⟩
        rw [HC.out]
        have HB2 := Lib.hid (HB1.out.trans (hb2.mono HB1.out.size))
        clear hb2
        go_wp2_with fail
        go_ret2
        exact ⟨rfl, HB2.out⟩
  · have HV := Lib.hid (saltV_none (stored_len (l := bs t) (by rw [bs_length]; exact h88)))
    rw [HV.out]
    go_enter Tryd.func23, Tryd.ntmps23
    go_wp2_with fail
    go_ret2
    exact ⟨rfl, Below.refl _ _⟩
end Go.Proofs.YtnmooegegknmoaaDoor
