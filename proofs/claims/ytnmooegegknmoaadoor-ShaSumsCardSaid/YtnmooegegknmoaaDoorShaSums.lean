/-
  The statement ShaSums.
-/
import Derived.Test.YtnmooegegknmoaaDoorShaJoin
import Derived.Test.YtnmooegegknmoaaDoorShaRefSum
namespace Go.Proofs.YtnmooegegknmoaaDoor
open Go.RowKit Go.Proofs.Sha Go.Proofs.Buf

set_option maxHeartbeats 1000000 in
theorem shaSums_walk (pv : Value) (ps : List ByteArray) (w : World) (h : Parts w (fun _ => True) pv ps ∧ ps.length ≤ maxLen ∧ ∀ s ∈ ps, s.size ≤ maxLen) (hL : Laid w) :
    Calls Tryd.prog 3 #[pv] w fun e w' => e = .returned (.bool true) ∧ Below w.heap.size w w' := by
  have HL := Lib.hid hL
  have HP := Lib.hid h
  clear hL h
  go_enter Tryd.func3, Tryd.ntmps3
  go_wp2_with fail
  refine (joined_any ps pv 2000 w HP.out.1 HP.out.2.1 HP.out.2.2 (by decide)).mono ?_
  rintro e w' ⟨t, b, rfl, hb, rfl⟩
  have HB := Lib.hid hb
  clear hb
  cases b
  · go_wp2_with fail
    refine (awake3_any _ HL.out).mono ?_
    rintro e w1 ⟨rfl, hb1⟩
    have HB1 := Lib.hid hb1
    clear hb1
    go_wp2_with fail
    go_ret
    exact ⟨rfl, HB1.out⟩
  · have hj := HB.out rfl
    have hlen : (joinAll ps).length ≤ 1099511627776 := by
      rw [← hj.1, bs_length]
      omega
    have HJ := Lib.hid (And.intro hj hlen)
    clear hj hlen HB
    go_wp2_with fail
    refine (awake3_any _ HL.out).mono ?_
    rintro e w1 ⟨rfl, hb1⟩
    have HB1 := Lib.hid hb1
    clear hb1
    go_wp2_with fail
    refine (sum256_any pv ps w1 (HL.out.below HB1.out HL.out.size) (HP.out.1.below HB1.out) HJ.out.2 (by have := HJ.out.1.2.2; omega)).mono ?_
    rintro e w2 ⟨rfl, hb2⟩
    rw [← HJ.out.1.1]
    generalize hd : ByteArray.mk (digest KW H0 (bs t)).toArray = dg
    have HD := Lib.hid hd
    have HB2 := Lib.hid (HB1.out.trans (hb2.mono HB1.out.size))
    clear hb2 hd
    go_wp2_with fail
    refine (refSum_any t w2 (by have := HJ.out.1.2.1; omega)).mono ?_
    rintro e w3 ⟨rfl, hb3⟩
    rw [HD.out]
    have HB3 := Lib.hid (HB2.out.trans (hb3.mono HB2.out.size))
    clear hb3
    go_wp2_with fail
    go_ret
    exact ⟨rfl, HB3.out⟩
end Go.Proofs.YtnmooegegknmoaaDoor
