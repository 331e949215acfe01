/-
  Small facts that open a law's arguments.
-/
import Derived.Test.YtnmooegegknmoaaDoorRows
import Derived.ProofKit
import Derived.OpenShut
import Derived.SizedLaws
namespace Go.Proofs.YtnmooegegknmoaaDoor
open Go.RowKit

theorem bv_of_wf_u32 {a : Int} (h : (Lit.int .u32 a).wf = true) : ∃ b : BitVec 32, a = ((b.toNat : Nat) : Int) := by
  have h1 : IntKind.u32.min = 0 := rfl
  have h2 : IntKind.u32.max = 4294967295 := rfl
  simp only [Lit.wf, Bool.and_eq_true, decide_eq_true_eq, h1, h2] at h
  exact ⟨BitVec.ofNat 32 a.toNat, by rw [BitVec.toNat_ofNat]; omega⟩
theorem bv_of_wf_u64 {a : Int} (h : (Lit.int .u64 a).wf = true) : ∃ b : BitVec 64, a = ((b.toNat : Nat) : Int) := by
  have h1 : IntKind.u64.min = 0 := rfl
  have h2 : IntKind.u64.max = 18446744073709551615 := rfl
  simp only [Lit.wf, Bool.and_eq_true, decide_eq_true_eq, h1, h2] at h
  exact ⟨BitVec.ofNat 64 a.toNat, by rw [BitVec.toNat_ofNat]; omega⟩
theorem bv_of_wf_u8 {a : Int} (h : (Lit.int .u8 a).wf = true) : ∃ b : UInt8, a = ((b.toNat : Nat) : Int) := by
  have h1 : IntKind.u8.min = 0 := rfl
  have h2 : IntKind.u8.max = 255 := rfl
  simp only [Lit.wf, Bool.and_eq_true, decide_eq_true_eq, h1, h2] at h
  exact ⟨UInt8.ofNat a.toNat, by rw [UInt8.toNat_ofNat']; omega⟩

/-- An array of two strings, by value. -/
theorem open_arr2 {H : Type} {enc : TypeId × Value → H} {P : Program} {w : World} {base : Nat} {spare : Nat → Bool} {held : Bool} {r : Reach} {b0 : Nat} {t e : TypeId} {v : Value} {d : DataW H} {p : List MemPlace}
    (hs : P.underlying t = some (.array 2 e)) (he : P.underlying e = some .string) (hC : P.cellsOf t = 2) (hE : P.cellsOf e = 1)
    (hv : Value.okWide P w r b0 t v) (h : DataW.Trod enc P w base spare held t v d p) :
    ∃ a b : ByteArray, v = .agg #[.string a, .string b] ∧ d = .agg [.lit (.string a.data.toList), .lit (.string b.data.toList)] := by
  simp only [Value.okWide, hs] at hv
  obtain ⟨cs, rfl, hsz, _⟩ := hv
  obtain ⟨cs⟩ := cs
  rw [hC] at hsz
  match cs, hsz with
  | [c0, c1], _ =>
    obtain ⟨fuel, hf⟩ := h
    obtain ⟨xs, m, rfl, hx, _, hlen, hget⟩ := DataW.trod_array hs hf
    match xs, hlen with
    | [x0, x1], _ =>
      have h0 := hget 0 (by omega)
      have h1 := hget 1 (by omega)
      rw [hE] at h0 h1
      simp only [Prod.mk.injEq] at hx
      have k0 : DataW.trod enc P w base spare held m e [c0] = some x0 := by simpa [Value.cells] using h0
      have k1 : DataW.trod enc P w base spare held m e [c1] = some x1 := by simpa [Value.cells] using h1
      obtain ⟨a, ha, rfl, _⟩ := DataW.trod_string he k0
      obtain ⟨b, hb, rfl, _⟩ := DataW.trod_string he k1
      simp only [List.cons.injEq, and_true] at ha hb
      subst ha
      subst hb
      exact ⟨a, b, rfl, hx.1⟩
theorem sized_arr2 {H : Type} {P : Program} {ts : List TypeId} {ds : List (DataW H)} {t e : TypeId} {a b : List UInt8} (h : (DataW.weightsEach P ts ds).all (· ≤ reachBytes) = true) (j : Nat) (ht : ts[j]? = some t) (hd : ds[j]? = some (.agg [.lit (.string a), .lit (.string b)])) (hs : P.underlying t = some (.array 2 e)) :
    a.length ≤ reachBytes ∧ b.length ≤ reachBytes := by
  have k := fun n hn => List.all_eq_true.1 h _ (DataW.weights_mem_each ht hd n hn)
  have k0 := k a.length (by simp [DataW.weights, hs, DataW.weightsAll])
  have k1 := k b.length (by simp [DataW.weights, hs, DataW.weightsAll])
  exact ⟨by simpa using k0, by simpa using k1⟩
end Go.Proofs.YtnmooegegknmoaaDoor
