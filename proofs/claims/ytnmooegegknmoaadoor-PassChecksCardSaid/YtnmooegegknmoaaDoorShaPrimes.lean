/-
  The reference's primes.
-/
import Derived.Test.YtnmooegegknmoaaDoorShaRef
import Derived.Test.YtnmooegegknmoaaDoorNums
namespace Go.Proofs.YtnmooegegknmoaaDoor
open Go.RowKit Go.Proofs.Sha Go.Proofs.Nums

theorem info37 : (Tryd.prog.info? 37).map (fun i => (i.zero, i.size, i.bytes)) = some (some (.int .u64 0), 1, 8) := by kernel_rfl
theorem primes_next (p : Nat) (h : 2 ≤ p) : primesTo (p + 1) = if (primesTo p).all (fun q => p % q != 0) then primesTo p ++ [p] else primesTo p := by
  match p, h with
  | n + 2, _ => rfl
theorem primes_low : ∀ p, p < 312 → (primesTo p).length < 64 := by decide +kernel
theorem primes_pos : ∀ p, p < 313 → ∀ i, i < (primesTo p).length → 0 < (primesTo p).getD i 0 := by decide +kernel
/-- The primes that the reference uses. -/
def prime64 : List Nat := primesTo 312
theorem prime64_length : prime64.length = 64 := primes_64
def okTo (l : List Nat) (p j : Nat) : Bool := (l.take j).all fun q => p % q != 0
theorem okTo_next (l : List Nat) (p j : Nat) (h : j < l.length) : okTo l p (j + 1) = (okTo l p j && (p % l.getD j 0 != 0)) := by
  unfold okTo
  rw [List.take_succ_eq_append_getElem h, List.all_append, List.getD_eq_getElem?_getD, List.getElem?_eq_getElem h]
  simp
theorem val_bool {a b : Bool} (h : a = b) : Value.bool a = .bool b := by rw [h]

def PrimesGiven (w : World) (e : Ending) (w' : World) : Prop := ∃ v, e = .returned v ∧ NumRow w' w.heap.size 37 .u64 v prime64 ∧ Below w.heap.size w w'

set_option maxHeartbeats 1000000 in
theorem primes_any (w : World) :
    Calls Tryd.prog 28 #[.int .i64 64] w (PrimesGiven w) := by
  go_enter Tryd.func28, Tryd.ntmps28
  go_wp2_with fail
  go_loopw [3, 4, 5, 7] (fun u3 u4 _ _ wr => ∃ p : Nat, 2 ≤ p ∧ p ≤ 312 ∧ u4 = .int .u64 (p : Nat) ∧ NumRow wr w.heap.size 37 .u64 u3 (primesTo p) ∧ Below w.heap.size w wr) (fun _ u4 _ _ _ => 312 - (intOf u4).toNat)
  case atStart => exact ⟨2, by omega, by omega, rfl, NumRow.nil _ _ _ _, Below.refl _ _⟩
  case round =>
    obtain ⟨p, hp2, hp, rfl, hr, hb⟩ := hrel
    have hx : ∃ a c, u3 = .slice a (primesTo p).length c := hr.len
    obtain ⟨a, c, rfl⟩ := hx
    by_cases hlt : p < 312
    · have hl64 := primes_low p hlt
      have hpos := primes_pos p (by omega)
      have hn := Lib.hid (primes_next p hp2)
      generalize hL : primesTo p = L at hr hl64 hpos hn ⊢
      have HL := Lib.hid hL
      have q0 : (L.length : Int) < 64 := by omega
      have q1 : (0 : Int) ≤ (p : Int) := by omega
      have q2 : (p : Int) < 312 := by omega
      have HR := Lib.hid (And.intro hr hb)
      clear hL hb
      have hcell : ∀ j, j < L.length → ∃ g, a = some ⟨g, 0, none⟩ ∧ wr.cell? ⟨g, j, none⟩ = some (.int .u64 ((L.getD j 0 : Nat) : Int)) := fun j hj => by
        obtain ⟨g, hA, _, _, _, hcc⟩ := hr.open_ (by omega)
        exact ⟨g, hA, hcc j hj⟩
      have HC := Lib.hid hcell
      have HP := Lib.hid hpos
      clear hr hcell hpos
      go_wp2_with fail
      go_loop [5, 7, 16] (fun u5 _ i => ∃ j : Nat, j ≤ L.length ∧ i = .int .i64 j ∧ u5 = .bool (okTo L p j)) (fun _ _ i => L.length - (intOf i).toNat)
      case atStart => exact ⟨0, Nat.zero_le _, rfl, rfl⟩
      case round =>
        obtain ⟨j, hj, rfl, rfl⟩ := hrel
        by_cases hjl : j < L.length
        · obtain ⟨g, rfl, hc⟩ := HC.out j hjl
          have hq0 := HP.out j hjl
          have hk := Lib.hid (okTo_next L p j hjl)
          generalize L.getD j 0 = q at hc hq0 hk
          generalize hB : okTo L p j = B at hk ⊢
          have q3 : (j : Int) < (L.length : Int) := by omega
          have q4 : (0 : Int) < (q : Int) := by omega
          clear hB
          cases B
          · go_wp2_with fail
            go_round
            case rel => exact ⟨j + 1, by omega, by go_num, by rw [hk.out]; rfl⟩
            case measure => simp [intOf]; omega
          · by_cases hm : p % q = 0
            · have t1 : ((p : Int) % (q : Int) != 0) = false := by
                have : (p : Int) % (q : Int) = 0 := by rw [← Int.natCast_emod, hm]; rfl
                simp [this]
              have hk2 := Lib.hid (show okTo L p (j + 1) = false by rw [hk.out]; simp [hm])
              clear hm
              go_wp2_with fail
              go_round
              case rel => exact ⟨j + 1, by omega, by go_num, by rw [hk2.out]⟩
              case measure => simp [intOf]; omega
            · have t1 : ((p : Int) % (q : Int) != 0) = true := by
                have : ¬ (p : Int) % (q : Int) = 0 := by rw [← Int.natCast_emod]; omega
                simp [this]
              have hk2 := Lib.hid (show okTo L p (j + 1) = true by rw [hk.out]; simp [hm])
              clear hm
              go_wp2_with fail
              go_round
              case rel => exact ⟨j + 1, by omega, by go_num, by rw [hk2.out]⟩
              case measure => simp [intOf]; omega
        · obtain rfl : j = L.length := by omega
          have hall : okTo L p L.length = L.all (fun q => p % q != 0) := by unfold okTo; rw [List.take_length]
          rw [hall]
          generalize hB : L.all (fun q => p % q != 0) = B at hn ⊢
          clear hall hB
          cases B
          · go_wp2_with fail
            go_roundw
            case rel => exact ⟨p + 1, by omega, by omega, by go_num, by rw [hn.out]; exact HR.out.1, HR.out.2⟩
            case measure => simp [intOf]; omega
          · go_wp2_with (at_builtin; refine Nums.wpList_append rfl (.tmp 29) (.tmp 31) 56 rfl Tryd.underlying56 .u64 8 (Nat.le_refl _) info37 rfl (HR.out.1.alloc _) ⟨wr.heap.size, 0, none⟩ 1 1 [p] rfl rfl ?c1 ?c2 ?c3 ?_)
            case c1 => exact fun _ _ h => h
            case c2 => omega
            case c3 => exact Nat.le_succ_of_le HR.out.2.size
            intro v2 w2 hr2 hg2
            have hb2 := Lib.hid (Nums.grown_below (HR.out.2.alloc HR.out.2.size _) (by simp; exact Nat.le_succ_of_le HR.out.2.size) (HR.out.1.alloc _) hg2)
            have hr3 := Lib.hid hr2
            clear hr2 hg2
            go_wp2_with fail
            go_roundw
            case rel => exact ⟨p + 1, by omega, by omega, by go_num, by rw [hn.out]; exact hr3.out, hb2.out⟩
            case measure => simp [intOf]; omega
    · obtain rfl : p = 312 := by omega
      have hq : primesTo 312 = prime64 := rfl
      rw [hq] at hr ⊢
      rw [prime64_length] at hr ⊢
      have HR := Lib.hid (And.intro hr hb)
      clear hr hb hq
      go_wp2_with fail
      go_ret
      exact ⟨_, rfl, HR.out.1, HR.out.2⟩
end Go.Proofs.YtnmooegegknmoaaDoor
