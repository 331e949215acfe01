/-
  The statements' own 'joined', and what opens a slice of texts.
-/
import Derived.Test.YtnmooegegknmoaaDoorShaLaws
import Derived.SliceStrings
import Derived.ProofKit
import Derived.Outline
namespace Go.Proofs.YtnmooegegknmoaaDoor
open Go.RowKit Go.Proofs.Sha Go.Proofs.Buf

theorem parts_open {w : World} {a : Addr} {len cap : Nat} {ss : List ByteArray} (hl : len ≤ cap) (hm : cap ≤ maxLen) (hz : ss.length = cap)
    (hcell : ∀ i, i < ss.length → w.cell? (a.add i) = some (.string (ss.getD i ByteArray.empty))) (hws : ∀ s ∈ ss, s.size ≤ maxLen) :
    Parts w (fun _ => True) (.slice (some a) len cap) (ss.take len) ∧ (ss.take len).length ≤ maxLen ∧ ∀ s ∈ ss.take len, s.size ≤ maxLen := by
  have hlen : (ss.take len).length = len := by rw [List.length_take]; omega
  refine ⟨?_, by omega, fun s hs => hws s (List.mem_of_mem_take hs)⟩
  by_cases h0 : len = 0
  · subst h0
    exact Parts.nil _ _ _ _
  · obtain ⟨b, off, spot⟩ := a
    have hspot : spot = none := by simpa [Addr.add] using World.cell?_spot (hcell 0 (by omega))
    subst hspot
    refine ⟨some ⟨b, off, none⟩, cap, by rw [hlen], .inr ⟨b, off, rfl, World.block_lt_of_cell? _ _ (hcell 0 (by omega)), trivial, fun i hi => ?_⟩⟩
    rw [hlen] at hi
    have h := hcell i (by omega)
    have e : ss.getD i ByteArray.empty = (ss.take len)[i]'(by rw [hlen]; exact hi) := by
      rw [List.getElem_take, List.getD_eq_getElem?_getD, List.getElem?_eq_getElem (by omega)]
      rfl
    have ha : (⟨b, off, none⟩ : Addr).add i = ⟨b, off + i, none⟩ := by unfold Addr.add; split <;> simp_all
    rw [e, ha] at h
    exact h

/-- What 'joined' answers. -/
def Joined (ps : List ByteArray) (most : Nat) (w : World) (e : Ending) (w' : World) : Prop :=
  ∃ (t : ByteArray) (b : Bool), e = .returned (.tuple #[.string t, .bool b]) ∧ (b = true → bs t = joinAll ps ∧ t.size ≤ most ∧ ps.length ≤ 50) ∧ w = w'

set_option maxHeartbeats 1000000 in
theorem joined_some (ps : List ByteArray) (pb po cap most : Nat) (w : World) (hc : ∀ j (hj : j < ps.length), w.cell? ⟨pb, po + j, none⟩ = some (.string ps[j])) (hn : ps.length ≤ maxLen) (hs : ∀ s ∈ ps, s.size ≤ maxLen) (hmost : most ≤ 1000000) :
    Calls Tryd.prog 11 #[.slice (some ⟨pb, po, none⟩) ps.length cap, .int .i64 (most : Nat)] w (Joined ps most w) := by
  unfold maxLen at hn hs
  have n0 : (ps.length : Int) ≤ 9223372036854775807 := by omega
  have HC := Lib.hid (And.intro hc hs)
  clear hc hs
  have m0 : (most : Int) ≤ 1000000 := by omega
  go_enter Tryd.func11, Tryd.ntmps11
  go_wp2_with fail
  go_loop [6, 8, 11] (fun u6 _ i => ∃ (j : Nat) (t : ByteArray), j ≤ ps.length ∧ i = .int .i64 (j : Nat) ∧ u6 = .string t ∧ bs t = joinTo ps j ∧ t.size ≤ 2 * most ∧ (0 < j → ps.length ≤ 50)) (fun _ _ i => ps.length - (intOf i).toNat)
  case atStart => exact ⟨0, ⟨#[]⟩, Nat.zero_le _, rfl, rfl, rfl, Nat.zero_le _, fun h => absurd h (by omega)⟩
  case round =>
    obtain ⟨j, t, hj, rfl, rfl, hbt, hts, h50⟩ := hrel
    have t0 : (t.size : Int) ≤ 2000000 := by omega
    by_cases hlt : j < ps.length
    · have j0 : (j : Int) < (ps.length : Int) := by omega
      have cj := HC.out.1 j hlt
      have hps := HC.out.2 ps[j] (List.getElem_mem hlt)
      have hjn := Lib.hid (joinTo_next ps j hlt)
      generalize ps[j] = p at cj hps hjn
      have p0 : (p.size : Int) ≤ 9223372036854775807 := by omega
      have HB := Lib.hid hbt
      clear hbt
      by_cases g1 : 50 < ps.length
      · have g1' : (50 : Int) < (ps.length : Int) := by omega
        go_wp2_with fail
        go_ret2
        exact ⟨⟨#[]⟩, false, rfl, (by intro h; cases h), rfl⟩
      · have g1' : (ps.length : Int) ≤ 50 := by omega
        by_cases g2 : most < p.size
        · have g2' : (most : Int) < (p.size : Int) := by omega
          go_wp2_with fail
          go_ret2
          exact ⟨⟨#[]⟩, false, rfl, (by intro h; cases h), rfl⟩
        · have g2' : (p.size : Int) ≤ (most : Int) := by omega
          by_cases g3 : most < t.size
          · have g3' : (most : Int) < (t.size : Int) := by omega
            go_wp2_with fail
            go_ret2
            exact ⟨⟨#[]⟩, false, rfl, (by intro h; cases h), rfl⟩
          · have g3' : (t.size : Int) ≤ (most : Int) := by omega
            go_wp2_with fail
            go_round
            case rel =>
              have hsz : (t ++ p).size = t.size + p.size := ByteArray.size_append
              exact ⟨j + 1, t ++ p, by omega, by go_num, rfl, by rw [bs_cat, HB.out, hjn.out], by omega, fun _ => by omega⟩
            case measure => simp [intOf]; omega
    · obtain rfl : j = ps.length := by omega
      rw [joinTo_all] at hbt
      have HB := Lib.hid (And.intro hbt h50)
      clear hbt h50
      by_cases g : t.size ≤ most
      · have g' : (t.size : Int) ≤ (most : Int) := by omega
        go_wp2_with fail
        go_ret2
        refine ⟨t, true, rfl, fun _ => ⟨HB.out.1, g, ?_⟩, rfl⟩
        rcases Nat.eq_zero_or_pos ps.length with h | h
        · omega
        · exact HB.out.2 h
      · have g' : ¬ (t.size : Int) ≤ (most : Int) := by omega
        go_wp2_with fail
        go_ret2
        exact ⟨t, false, rfl, (by intro h; cases h), rfl⟩
theorem joined_zero (pa : Option Addr) (cap most : Nat) (w : World) (hmost : most ≤ 1000000) :
    Calls Tryd.prog 11 #[.slice pa 0 cap, .int .i64 (most : Nat)] w (Joined [] most w) := by
  have m0 : (most : Int) ≤ 1000000 := by omega
  have m1 : (0 : Int) ≤ (most : Int) := by omega
  go_enter Tryd.func11, Tryd.ntmps11
  go_wp2_with fail
  go_loop [6, 8, 11] (fun u6 _ i => i = .int .i64 0 ∧ u6 = .string ⟨#[]⟩) (fun _ _ _ => 0)
  case atStart => exact ⟨rfl, rfl⟩
  case round =>
    obtain ⟨rfl, rfl⟩ := hrel
    go_wp2_with fail
    go_ret2
    exact ⟨⟨#[]⟩, true, rfl, fun _ => ⟨rfl, Nat.zero_le _, Nat.zero_le _⟩, rfl⟩
theorem joined_any (ps : List ByteArray) (pv : Value) (most : Nat) (w : World) {k : Nat → Prop} (hP : Parts w k pv ps) (hn : ps.length ≤ maxLen) (hs : ∀ s ∈ ps, s.size ≤ maxLen) (hmost : most ≤ 1000000) :
    Calls Tryd.prog 11 #[pv, .int .i64 (most : Nat)] w (Joined ps most w) := by
  obtain ⟨pa, cap, rfl, h | ⟨pb, po, rfl, h1, h2, h3⟩⟩ := hP
  · subst h
    exact joined_zero pa cap most w hmost
  · exact joined_some ps pb po cap most w h3 hn hs hmost
end Go.Proofs.YtnmooegegknmoaaDoor
