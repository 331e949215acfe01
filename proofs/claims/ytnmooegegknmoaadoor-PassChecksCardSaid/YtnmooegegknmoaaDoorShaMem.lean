/-
  A block of words in memory, and the schedule of a block as a plain function.
-/
import Derived.Test.YtnmooegegknmoaaDoorShaWord
import Derived.Test.YtnmooegegknmoaaDoorBuf
namespace Go.Proofs.Sha
open Go.RowKit

/-- The block B reads as the n words of f. -/
def Reads (w : World) (B n : Nat) (f : Nat → BitVec 32) : Prop := ∀ i, i < n → w.cell? ⟨B, i, none⟩ = some (.int .u32 (u32 (f i)))
/-- .. and may be written. -/
def Words (w : World) (B n : Nat) (f : Nat → BitVec 32) : Prop := Reads w B n f ∧ ∀ i, i < n → w.frozen? ⟨B, i, none⟩ = false

theorem Reads.drew {w : World} {B n : Nat} {f : Nat → BitVec 32} (h : Reads w B n f) : Reads w.drew B n f := h
theorem Reads.drewN {w : World} {B n : Nat} {f : Nat → BitVec 32} (h : Reads w B n f) (k : Nat) : Reads (w.drewN k) B n f := h
theorem Reads.below {w w' : World} {B n C : Nat} {f : Nat → BitVec 32} (h : Reads w B n f) (hb : Below C w w') (hB : B < C) : Reads w' B n f :=
  fun i hi => by rw [hb.cell (p := ⟨B, i, none⟩) hB]; exact h i hi
theorem Reads.other {w : World} {B n : Nat} {f : Nat → BitVec 32} (h : Reads w B n f) {p : Addr} (hp : p.block ≠ B) (v : Value) : Reads (w.setCell p v) B n f :=
  fun i hi => by rw [World.cell?_setCell_other _ _ _ _ (by intro e; subst e; exact hp rfl)]; exact h i hi
theorem Reads.alloc {w : World} {B n : Nat} {f : Nat → BitVec 32} (h : Reads w B n f) (hB : B < w.heap.size) (o : Obj) : Reads (w.alloc o) B n f :=
  fun i hi => by rw [World.cell?_alloc_lt w o ⟨B, i, none⟩ hB]; exact h i hi
theorem Words.drew {w : World} {B n : Nat} {f : Nat → BitVec 32} (h : Words w B n f) : Words w.drew B n f := h
theorem Words.drewN {w : World} {B n : Nat} {f : Nat → BitVec 32} (h : Words w B n f) (k : Nat) : Words (w.drewN k) B n f := h
theorem Words.below {w w' : World} {B n C : Nat} {f : Nat → BitVec 32} (h : Words w B n f) (hb : Below C w w') (hB : B < C) : Words w' B n f :=
  ⟨h.1.below hb hB, fun i hi => by rw [hb.frozen (p := ⟨B, i, none⟩) hB]; exact h.2 i hi⟩
theorem Words.other {w : World} {B n : Nat} {f : Nat → BitVec 32} (h : Words w B n f) {p : Addr} (hp : p.block ≠ B) (v : Value) : Words (w.setCell p v) B n f :=
  ⟨h.1.other hp v, fun i hi => by rw [World.frozen?_setCell]; exact h.2 i hi⟩
theorem Words.alloc {w : World} {B n : Nat} {f : Nat → BitVec 32} (h : Words w B n f) (hB : B < w.heap.size) (o : Obj) : Words (w.alloc o) B n f :=
  ⟨h.1.alloc hB o, fun i hi => by rw [World.frozen?_alloc_old w o ⟨B, i, none⟩ (by show B ≠ _; omega)]; exact h.2 i hi⟩
theorem Words.set {w : World} {B n : Nat} {f : Nat → BitVec 32} (h : Words w B n f) (j : Nat) (hj : j < n) (x : BitVec 32) : Words (w.setCell ⟨B, j, none⟩ (.int .u32 (u32 x))) B n (fun i => if i = j then x else f i) := by
  refine ⟨fun i hi => ?_, fun i hi => ?_⟩
  · by_cases e : i = j
    · subst e
      rw [World.cell?_setCell_same _ _ _ (h.1 i hi)]
      simp
    · rw [World.cell?_setCell_other _ _ _ _ (by intro e'; injection e' with e1 e2; omega), h.1 i hi]
      simp [e]
  · rw [World.frozen?_setCell]
    exact h.2 i hi
theorem Words.congr {w : World} {B n : Nat} {f g : Nat → BitVec 32} (h : Words w B n f) (e : ∀ i, i < n → f i = g i) : Words w B n g :=
  ⟨fun i hi => by rw [← e i hi]; exact h.1 i hi, h.2⟩
theorem words_alloc (w : World) (C : Array Value) (T : TypeId) (n : Nat) (f : Nat → BitVec 32) (h : ∀ i, i < n → C[i]? = some (.int .u32 (u32 (f i)))) : Words (w.alloc (.cells C T)) w.heap.size n f :=
  ⟨fun i hi => by rw [World.cell?_alloc_mark]; exact h i hi, fun i _ => World.frozen?_alloc_at _ _ _ _ rfl⟩

/-- The eight words by their place. -/
def H8.get (v : H8) : Nat → BitVec 32
  | 0 => v.a | 1 => v.b | 2 => v.c | 3 => v.d | 4 => v.e | 5 => v.f | 6 => v.g | _ => v.h
def H8.row (v : H8) : Array Value := #[.int .u32 (u32 v.a), .int .u32 (u32 v.b), .int .u32 (u32 v.c), .int .u32 (u32 v.d), .int .u32 (u32 v.e), .int .u32 (u32 v.f), .int .u32 (u32 v.g), .int .u32 (u32 v.h)]
theorem H8.row_at (v : H8) (i : Nat) (hi : i < 8) : v.row[i]? = some (.int .u32 (u32 (v.get i))) := by
  match i, hi with
  | 0, _ => rfl
  | 1, _ => rfl
  | 2, _ => rfl
  | 3, _ => rfl
  | 4, _ => rfl
  | 5, _ => rfl
  | 6, _ => rfl
  | 7, _ => rfl
theorem words_row (w : World) (v : H8) (T : TypeId) : Words (w.alloc (.cells v.row T)) w.heap.size 8 v.get := words_alloc w _ T 8 _ v.row_at
theorem words_zero (w : World) (n : Nat) (C : Array Value) (T : TypeId) (h : C = Array.replicate n (.int .u32 0)) : Words (w.alloc (.cells C T)) w.heap.size n (fun _ => 0#32) :=
  words_alloc w _ T n _ (fun i hi => by subst h; rw [Array.getElem?_replicate, if_pos hi]; rfl)

/-- The word of four bytes. -/
def word4 (m : Nat → UInt8) (i : Nat) : BitVec 32 := BitVec.ofNat 32 ((m (4 * i)).toNat * 16777216 + (m (4 * i + 1)).toNat * 65536 + (m (4 * i + 2)).toNat * 256 + (m (4 * i + 3)).toNat)
def low0 (x : BitVec 32) : BitVec 32 := rot x 7 ^^^ rot x 18 ^^^ x >>> 3
def low1 (x : BitVec 32) : BitVec 32 := rot x 17 ^^^ rot x 19 ^^^ x >>> 10
/-- The schedule. -/
def sched (m : Nat → UInt8) (i : Nat) : BitVec 32 :=
  if _h : i < 16 then word4 m i else sched m (i - 16) + low0 (sched m (i - 15)) + sched m (i - 7) + low1 (sched m (i - 2))
termination_by i
theorem sched_word (m : Nat → UInt8) (i : Nat) (h : i < 16) : sched m i = word4 m i := by rw [sched, dif_pos h]
theorem sched_next (m : Nat → UInt8) (i : Nat) (h : 16 ≤ i) : sched m i = sched m (i - 16) + low0 (sched m (i - 15)) + sched m (i - 7) + low1 (sched m (i - 2)) := by rw [sched, dif_neg (by omega)]
/-- The rounds. -/
def roundsTo (K : Nat → BitVec 32) (m : Nat → UInt8) (v : H8) : Nat → H8
  | 0 => v
  | n + 1 => (roundsTo K m v n).step (K n) (sched m n)
/-- The words behind a block. -/
def blockOf (K : Nat → BitVec 32) (m : Nat → UInt8) (v : H8) : H8 := v.add (roundsTo K m v 64)
theorem H8.add_get (v x : H8) (i : Nat) : (v.add x).get i = v.get i + x.get i := by
  match i with
  | 0 => rfl
  | 1 => rfl
  | 2 => rfl
  | 3 => rfl
  | 4 => rfl
  | 5 => rfl
  | 6 => rfl
  | n + 7 => rfl
/-- A byte as a word, moved. -/
theorem byte_shl (c : UInt8) (k : Nat) : ((c.toNat : Nat) : Int) * 2 ^ k % 4294967296 = u32 (BitVec.ofNat 32 (c.toNat * 2 ^ k)) := by
  unfold u32
  rw [BitVec.toNat_ofNat, Int.natCast_emod, Int.natCast_mul]
  rfl

theorem or_add (a b k : Nat) (hb : b < 2 ^ k) : (a * 2 ^ k) ||| b = a * 2 ^ k + b := by
  rw [← Nat.shiftLeft_eq, ← Nat.shiftLeft_add_eq_or_of_lt hb]
theorem or_bytes (x0 x1 x2 x3 : UInt8) :
    bits BinOp.or IntKind.u32 (bits BinOp.or IntKind.u32 (bits BinOp.or IntKind.u32 (IntKind.u32.wrap (IntKind.u32.wrap ((x0.toNat : Nat) : Int) * 16777216)) (IntKind.u32.wrap (IntKind.u32.wrap ((x1.toNat : Nat) : Int) * 65536))) (IntKind.u32.wrap (IntKind.u32.wrap ((x2.toNat : Nat) : Int) * 256))) (IntKind.u32.wrap ((x3.toNat : Nat) : Int)) =
      u32 (BitVec.ofNat 32 (x0.toNat * 16777216 + x1.toNat * 65536 + x2.toNat * 256 + x3.toNat)) := by
  have b0 := x0.toNat_lt
  have b1 := x1.toNat_lt
  have b2 := x2.toNat_lt
  have b3 := x3.toNat_lt
  have e0 : IntKind.u32.wrap (IntKind.u32.wrap ((x0.toNat : Nat) : Int) * 16777216) = ((x0.toNat * 16777216 : Nat) : Int) := by simp only [IntKind.wrap_u32]; omega
  have e1 : IntKind.u32.wrap (IntKind.u32.wrap ((x1.toNat : Nat) : Int) * 65536) = ((x1.toNat * 65536 : Nat) : Int) := by simp only [IntKind.wrap_u32]; omega
  have e2 : IntKind.u32.wrap (IntKind.u32.wrap ((x2.toNat : Nat) : Int) * 256) = ((x2.toNat * 256 : Nat) : Int) := by simp only [IntKind.wrap_u32]; omega
  have e3 : IntKind.u32.wrap ((x3.toNat : Nat) : Int) = ((x3.toNat : Nat) : Int) := by simp only [IntKind.wrap_u32]; omega
  have o1 : x0.toNat * 16777216 ||| x1.toNat * 65536 = x0.toNat * 16777216 + x1.toNat * 65536 := or_add x0.toNat _ 24 (by omega)
  have o2 : (x0.toNat * 16777216 + x1.toNat * 65536) ||| x2.toNat * 256 = x0.toNat * 16777216 + x1.toNat * 65536 + x2.toNat * 256 := by
    have h := or_add (x0.toNat * 256 + x1.toNat) (x2.toNat * 256) 16 (by omega)
    have e : (x0.toNat * 256 + x1.toNat) * 2 ^ 16 = x0.toNat * 16777216 + x1.toNat * 65536 := by omega
    rw [e] at h
    exact h
  have o3 : (x0.toNat * 16777216 + x1.toNat * 65536 + x2.toNat * 256) ||| x3.toNat = x0.toNat * 16777216 + x1.toNat * 65536 + x2.toNat * 256 + x3.toNat := by
    have h := or_add (x0.toNat * 65536 + x1.toNat * 256 + x2.toNat) x3.toNat 8 (by omega)
    have e : (x0.toNat * 65536 + x1.toNat * 256 + x2.toNat) * 2 ^ 8 = x0.toNat * 16777216 + x1.toNat * 65536 + x2.toNat * 256 := by omega
    rw [e] at h
    exact h
  rw [e0, e1, e2, e3, u32_or_nat _ _ (by omega) (by omega), o1, u32_or_nat _ _ (by omega) (by omega), o2, u32_or_nat _ _ (by omega) (by omega), o3]
  unfold u32
  rw [BitVec.toNat_ofNat]
  omega
end Go.Proofs.Sha
