/-
  Check of the program and of the reference.
-/
import Derived.Test.YtnmooegegknmoaaDoorPassB
namespace Go.Proofs.YtnmooegegknmoaaDoor
open Go.RowKit Go.Proofs.Sha Go.Proofs.Buf Go.Proofs.Reg

def mkErr (p : ByteArray) : Nat := if p.size = 0 then 2 else if 256 < p.size then 5 else 0
def mkText (p : ByteArray) (n : Nat) : ByteArray := if p.size = 0 then ⟨#[]⟩ else if 256 < p.size then ⟨#[]⟩ else ⟨(passOf (Oct.put n 8) (bs p)).toArray⟩
theorem makeV_eq (p : ByteArray) (n : Nat) : makeV p n = .tuple #[.string (mkText p n), .int .i64 ((mkErr p : Nat) : Int)] := by
  unfold makeV mkErr mkText
  split
  · rfl
  · split <;> rfl
/-- What the two Checks answer. -/
def checkOf (t p : ByteArray) : Bool :=
  match storedOf (bs t) with
  | none => false
  | some b => decide (mkErr p = 0) && ((mkText p (Oct.get (b.take 8))).toList == t.toList)
theorem get8_lt (b : List UInt8) : Oct.get (b.take 8) < 18446744073709551616 := by
  have h := Oct.get_lt (b.take 8)
  have h2 : 256 ^ (b.take 8).length ≤ 256 ^ 8 := Nat.pow_le_pow_right (by decide) (by rw [List.length_take]; omega)
  have h3 : (256 : Nat) ^ 8 = 18446744073709551616 := by decide
  omega

set_option maxHeartbeats 800000 in
theorem check_any (t p : ByteArray) (w : World) (hs : p.size ≤ maxLen) (hL : Laid w) :
    Calls Tryd.prog 25 #[.string t, .string p] w fun e w' => e = .returned (.bool (checkOf t p)) ∧ Below w.heap.size w w' := by
  have HL := Lib.hid hL
  clear hL
  cases hst : storedOf (bs t) with
  | none =>
    have HV := Lib.hid (saltV_none hst)
    have HC : Hid (checkOf t p = false) := by show _ = _; unfold checkOf; rw [hst]
    clear hst
    rw [HC.out]
    go_enter Tryd.func25, Tryd.ntmps25
    go_wp2_with fail
    refine (salt_any t _).mono ?_
    rintro e w1 ⟨rfl, hb1⟩
    rw [HV.out]
    go_wp2_with fail
    go_ret
    exact ⟨rfl, hb1⟩
  | some b =>
    have HV := Lib.hid (saltV_some hst)
    have HC : Hid (checkOf t p = (decide (mkErr p = 0) && ((mkText p (Oct.get (b.take 8))).toList == t.toList))) := by show _ = _; unfold checkOf; rw [hst]
    have hg := get8_lt b
    clear hst
    generalize Oct.get (b.take 8) = n at HV HC hg
    have HM := Lib.hid (makeV_eq p n)
    generalize mkText p n = M at HM HC
    obtain ⟨r, hr⟩ : ∃ r, (M.toList == t.toList) = r := ⟨_, rfl⟩
    rw [hr] at HC
    rw [HC.out]
    by_cases h0 : mkErr p = 0
    · rw [h0] at HM
      rw [decide_eq_true h0, Bool.true_and]
      clear HC
      go_enter Tryd.func25, Tryd.ntmps25
      go_wp2_with fail
      refine (salt_any t _).mono ?_
      rintro e w1 ⟨rfl, hb1⟩
      rw [HV.out]
      go_wp2_with fail
      refine (make_any p n _ hg hs (HL.out.below hb1 HL.out.size)).mono ?_
      rintro e w2 ⟨rfl, hb2⟩
      rw [HM.out]
      go_wp2_with fail
      go_ret
      exact ⟨rfl, hb1.trans (hb2.mono hb1.size)⟩
    · rw [decide_eq_false h0, Bool.false_and]
      have hE : 1 ≤ mkErr p := by omega
      generalize mkErr p = E at HM hE
      clear HC h0
      go_enter Tryd.func25, Tryd.ntmps25
      go_wp2_with fail
      refine (salt_any t _).mono ?_
      rintro e w1 ⟨rfl, hb1⟩
      rw [HV.out]
      go_wp2_with fail
      refine (make_any p n _ hg hs (HL.out.below hb1 HL.out.size)).mono ?_
      rintro e w2 ⟨rfl, hb2⟩
      rw [HM.out]
      go_wp2_with fail
      go_ret
      exact ⟨rfl, hb1.trans (hb2.mono hb1.size)⟩

set_option maxHeartbeats 800000 in
theorem refCheck_any (t p : ByteArray) (w : World) (hs : p.size ≤ maxLen) :
    Calls Tryd.prog 26 #[.string t, .string p] w fun e w' => e = .returned (.bool (checkOf t p)) ∧ Below w.heap.size w w' := by
  cases hst : storedOf (bs t) with
  | none =>
    have HV := Lib.hid (saltV_none hst)
    have HC : Hid (checkOf t p = false) := by show _ = _; unfold checkOf; rw [hst]
    have HM := Lib.hid (makeV_eq p 0)
    generalize mkText p 0 = M at HM
    generalize mkErr p = E at HM
    clear hst
    rw [HC.out]
    go_enter Tryd.func26, Tryd.ntmps26
    go_wp2_with fail
    refine (refSalt_any t _).mono ?_
    rintro e w1 ⟨rfl, hb1⟩
    rw [HV.out]
    go_wp2_with fail
    refine (refMake_any p 0 _ (by omega) hs).mono ?_
    rintro e w2 ⟨rfl, hb2⟩
    rw [HM.out]
    go_wp2_with fail
    go_ret
    exact ⟨rfl, hb1.trans (hb2.mono hb1.size)⟩
  | some b =>
    have HV := Lib.hid (saltV_some hst)
    have HC : Hid (checkOf t p = (decide (mkErr p = 0) && ((mkText p (Oct.get (b.take 8))).toList == t.toList))) := by show _ = _; unfold checkOf; rw [hst]
    have hg := get8_lt b
    clear hst
    generalize Oct.get (b.take 8) = n at HV HC hg
    have HM := Lib.hid (makeV_eq p n)
    generalize mkText p n = M at HM HC
    obtain ⟨r, hr⟩ : ∃ r, (M.toList == t.toList) = r := ⟨_, rfl⟩
    rw [hr] at HC
    rw [HC.out]
    by_cases h0 : mkErr p = 0
    · rw [h0] at HM
      rw [decide_eq_true h0, Bool.true_and]
      clear HC
      go_enter Tryd.func26, Tryd.ntmps26
      go_wp2_with fail
      refine (refSalt_any t _).mono ?_
      rintro e w1 ⟨rfl, hb1⟩
      rw [HV.out]
      go_wp2_with fail
      refine (refMake_any p n _ hg hs).mono ?_
      rintro e w2 ⟨rfl, hb2⟩
      rw [HM.out]
      go_wp2_with fail
      go_ret
      exact ⟨rfl, hb1.trans (hb2.mono hb1.size)⟩
    · rw [decide_eq_false h0, Bool.false_and]
      have hE : 1 ≤ mkErr p := by omega
      generalize mkErr p = E at HM hE
      clear HC h0
      go_enter Tryd.func26, Tryd.ntmps26
      go_wp2_with fail
      refine (refSalt_any t _).mono ?_
      rintro e w1 ⟨rfl, hb1⟩
      rw [HV.out]
      go_wp2_with fail
      refine (refMake_any p n _ hg hs).mono ?_
      rintro e w2 ⟨rfl, hb2⟩
      rw [HM.out]
      go_wp2_with fail
      go_ret
      exact ⟨rfl, hb1.trans (hb2.mono hb1.size)⟩
end Go.Proofs.YtnmooegegknmoaaDoor
