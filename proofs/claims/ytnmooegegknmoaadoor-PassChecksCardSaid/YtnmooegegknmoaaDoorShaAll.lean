/-
  The program's Write over whatever parts, and Sum256.
-/
import Derived.Test.YtnmooegegknmoaaDoorShaSum
namespace Go.Proofs.YtnmooegegknmoaaDoor
open Go.RowKit Go.Proofs.Sha Go.Proofs.Buf

/-- A slice value that reads as these texts (whatever stands in block k). -/
def Parts (w : World) (k : Nat → Prop) (pv : Value) (ps : List ByteArray) : Prop :=
  ∃ pa cap, pv = .slice pa ps.length cap ∧ (ps = [] ∨ ∃ pb po, pa = some ⟨pb, po, none⟩ ∧ pb < w.heap.size ∧ k pb ∧ ∀ j (hj : j < ps.length), w.cell? ⟨pb, po + j, none⟩ = some (.string ps[j]))
theorem Parts.below {w w' : World} {k : Nat → Prop} {pv : Value} {ps : List ByteArray} (h : Parts w k pv ps) (hb : Below w.heap.size w w') : Parts w' k pv ps := by
  obtain ⟨pa, cap, e, h⟩ := h
  refine ⟨pa, cap, e, ?_⟩
  rcases h with h | ⟨pb, po, e1, h1, h2, h3⟩
  · exact .inl h
  · exact .inr ⟨pb, po, e1, Nat.lt_of_lt_of_le h1 hb.size, h2, fun j hj => by rw [hb.cell (p := ⟨pb, po + j, none⟩) h1]; exact h3 j hj⟩
theorem Parts.mono {w : World} {k k' : Nat → Prop} {pv : Value} {ps : List ByteArray} (h : Parts w k pv ps) (hk : ∀ b, b < w.heap.size → k b → k' b) : Parts w k' pv ps := by
  obtain ⟨pa, cap, e, h⟩ := h
  refine ⟨pa, cap, e, ?_⟩
  rcases h with h | ⟨pb, po, e1, h1, h2, h3⟩
  · exact .inl h
  · exact .inr ⟨pb, po, e1, h1, hk pb h1 h2, h3⟩
theorem Parts.nil (w : World) (k : Nat → Prop) (pa : Option Addr) (cap : Nat) : Parts w k (.slice pa 0 cap) [] := ⟨pa, cap, rfl, .inl rfl⟩
/-- The texts of a slice that was just made. -/
theorem parts_new (w : World) (C : Array Value) (T : TypeId) (ps : List ByteArray) (n : Nat) (hn : n = ps.length) (cap : Nat) (h : C.toList = ps.map Value.string) : Parts (w.alloc (.cells C T)) (· = w.heap.size) (.slice (some ⟨w.heap.size, 0, none⟩) n cap) ps := by
  subst hn
  refine ⟨_, cap, rfl, .inr ⟨w.heap.size, 0, rfl, by simp, rfl, fun j hj => ?_⟩⟩
  rw [World.cell?_alloc_mark, Nat.zero_add, ← Array.getElem?_toList, h, List.getElem?_map, List.getElem?_eq_getElem hj]
  rfl

theorem write_any (B : Nat) (v pv : Value) (l : List UInt8) (ps : List ByteArray) (w : World) (hS : St w B v l l.length) (hP : Parts w (fun k => k ≠ B ∧ some k ≠ v.ownBlock) pv ps) (hlen : l.length + (joinAll ps).length ≤ 1099511627776) (hn : ps.length ≤ 1099511627776) :
    Calls Tryd.prog 16 #[.pointer (some ⟨B, 0, none⟩), pv] w (Wrote B v (l ++ joinAll ps) w) := by
  obtain ⟨pa, cap, rfl, h | ⟨pb, po, rfl, h1, h2, h3⟩⟩ := hP
  · subst h
    refine (write_zero B pa cap w).mono ?_
    rintro e w' ⟨rfl, rfl⟩
    refine ⟨rfl, v, ?_, Upd.refl _ _ _⟩
    simpa [joinAll] using hS
  · exact write_some B v l ps pb po cap w hS h1 h2.1 h2.2 h3 hlen hn

set_option maxHeartbeats 800000 in
theorem sum256_any (pv : Value) (ps : List ByteArray) (w : World) (hL : Laid w) (hP : Parts w (fun _ => True) pv ps) (hlen : (joinAll ps).length ≤ 1099511627776) (hn : ps.length ≤ 1099511627776) :
    Calls Tryd.prog 13 #[pv] w fun e w' => e = .returned (.string ⟨(digest KW H0 (joinAll ps)).toArray⟩) ∧ Below w.heap.size w w' := by
  have HL := Lib.hid hL
  have HP := Lib.hid hP
  clear hL hP
  go_enter Tryd.func13, Tryd.ntmps13
  go_wp2_with fail
  refine (new_any w HL.out).mono ?_
  rintro e w1 ⟨rfl, hS, hb1⟩
  go_wp2_with fail
  refine (write_any w.heap.size (.slice none 0 0) pv [] ps w1 hS.out (((HP.out.mono (k' := fun b => b < w.heap.size) (fun b hb _ => hb)).below hb1.out).mono (fun b _ hb => ⟨by omega, by simp [Value.ownBlock]⟩)) (by simpa using hlen) hn).mono ?_
  rintro e w2 ⟨rfl, v2, hS2, hU2⟩
  rw [List.nil_append] at hS2
  have HS2 := Lib.hid hS2
  have HU2 := Lib.hid hU2
  clear hS2 hU2
  go_wp2_with fail
  refine (sum_any w.heap.size v2 (joinAll ps) w2 HS2.out hlen).mono ?_
  rintro e w3 ⟨rfl, hb3⟩
  go_wp2_with fail
  go_ret
  exact ⟨rfl, (hb1.out.trans (HU2.out.toBelow (Nat.le_refl _) (fun k hk => by simp [Value.ownBlock] at hk) hb1.out.size)).trans (hb3.mono (Nat.le_trans hb1.out.size HU2.out.size))⟩
end Go.Proofs.YtnmooegegknmoaaDoor
