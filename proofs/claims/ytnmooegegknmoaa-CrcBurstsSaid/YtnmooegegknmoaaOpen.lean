/-
  Small facts that open a law's arguments.
-/
import Derived.Test.YtnmooegegknmoaaCrcWalks
import Derived.ProofKit
import Derived.SliceStrings
namespace Go.Proofs.Ytnmooegegknmoaa
open Go.RowKit Go.ChangeShapes Go.WideShapes Go.ChangeAt

theorem block_lt {w : World} {a : Addr} {v : Value} (h : w.cell? a = some v) : a.block < w.heap.size := by
  rcases Nat.lt_or_ge a.block w.heap.size with h' | h'
  · exact h'
  · simp [World.cell?, Array.getElem?_eq_none h'] at h

theorem strsAt_open {w : World} {a : Addr} {len cap : Nat} {ss : List ByteArray} (hl : len ≤ cap) (hm : cap ≤ maxLen) (hz : ss.length = cap)
    (hcell : ∀ i, i < ss.length → w.cell? (a.add i) = some (.string (ss.getD i ByteArray.empty))) (hws : ∀ s ∈ ss, s.size ≤ maxLen) :
    StrsAt w (.slice (some a) len cap) (ss.take len) := by
  by_cases h0 : len = 0
  · subst h0
    exact .inl ⟨by simp, _, _, rfl⟩
  · obtain ⟨b, off, spot⟩ := a
    have hspot : spot = none := by simpa [Addr.add] using World.cell?_spot (hcell 0 (by omega))
    subst hspot
    have hlen : (ss.take len).length = len := by rw [List.length_take]; omega
    refine .inr ⟨b, off, cap, by rw [hlen], block_lt (hcell 0 (by omega)), by omega, fun i hi => ?_, fun s hs => hws s (List.mem_of_mem_take hs)⟩
    rw [hlen] at hi
    have h := hcell i (by omega)
    have e : ss.getD i ByteArray.empty = (ss.take len)[i]'(by rw [hlen]; exact hi) := by
      rw [List.getElem_take, List.getD_eq_getElem?_getD, List.getElem?_eq_getElem (by omega)]
      rfl
    rw [e, add_plain] at h
    exact h

theorem bv_of_wf_u32 {a : Int} (h : (Lit.int .u32 a).wf = true) : ∃ b : BitVec 32, a = ((b.toNat : Nat) : Int) := by
  have h1 : IntKind.u32.min = 0 := rfl
  have h2 : IntKind.u32.max = 4294967295 := rfl
  simp only [Lit.wf, Bool.and_eq_true, decide_eq_true_eq, h1, h2] at h
  exact ⟨BitVec.ofNat 32 a.toNat, by rw [BitVec.toNat_ofNat]; omega⟩
theorem bv_of_wf_u64 {a : Int} (h : (Lit.int .u64 a).wf = true) : ∃ b : BitVec 64, a = ((b.toNat : Nat) : Int) := by
  have h1 : IntKind.u64.min = 0 := rfl
  have h2 : IntKind.u64.max = 18446744073709551615 := rfl
  simp only [Lit.wf, Bool.and_eq_true, decide_eq_true_eq, h1, h2] at h
  exact ⟨BitVec.ofNat 64 a.toNat, by rw [BitVec.toNat_ofNat]; omega⟩
theorem bv_of_wf_u8 {a : Int} (h : (Lit.int .u8 a).wf = true) : ∃ b : UInt8, a = ((b.toNat : Nat) : Int) := by
  have h1 : IntKind.u8.min = 0 := rfl
  have h2 : IntKind.u8.max = 255 := rfl
  simp only [Lit.wf, Bool.and_eq_true, decide_eq_true_eq, h1, h2] at h
  exact ⟨UInt8.ofNat a.toNat, by rw [UInt8.toNat_ofNat']; omega⟩
end Go.Proofs.Ytnmooegegknmoaa
