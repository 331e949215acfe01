/-
  Small facts that open a law's arguments.
-/
import Derived.Test.YtnmooegegknmoaaRows
import Derived.ProofKit
namespace Go.Proofs.Ytnmooegegknmoaa
open Go.RowKit

theorem bv_of_wf_u32 {a : Int} (h : (Lit.int .u32 a).wf = true) : ∃ b : BitVec 32, a = ((b.toNat : Nat) : Int) := by
  have h1 : IntKind.u32.min = 0 := rfl
  have h2 : IntKind.u32.max = 4294967295 := rfl
  simp only [Lit.wf, Bool.and_eq_true, decide_eq_true_eq, h1, h2] at h
  exact ⟨BitVec.ofNat 32 a.toNat, by rw [BitVec.toNat_ofNat]; omega⟩
theorem bv_of_wf_u64 {a : Int} (h : (Lit.int .u64 a).wf = true) : ∃ b : BitVec 64, a = ((b.toNat : Nat) : Int) := by
  have h1 : IntKind.u64.min = 0 := rfl
  have h2 : IntKind.u64.max = 18446744073709551615 := rfl
  simp only [Lit.wf, Bool.and_eq_true, decide_eq_true_eq, h1, h2] at h
  exact ⟨BitVec.ofNat 64 a.toNat, by rw [BitVec.toNat_ofNat]; omega⟩
theorem bv_of_wf_u8 {a : Int} (h : (Lit.int .u8 a).wf = true) : ∃ b : UInt8, a = ((b.toNat : Nat) : Int) := by
  have h1 : IntKind.u8.min = 0 := rfl
  have h2 : IntKind.u8.max = 255 := rfl
  simp only [Lit.wf, Bool.and_eq_true, decide_eq_true_eq, h1, h2] at h
  exact ⟨UInt8.ofNat a.toNat, by rw [UInt8.toNat_ofNat']; omega⟩
end Go.Proofs.Ytnmooegegknmoaa
