/-
  A word of 32 bits as the number that the model keeps, and what the operations make of it, as rules for the walk.
-/
import Derived.WalkKit
import Derived.WalkSpells
import Derived.WalkLawsBesides
import Derived.Laws.BitsAllLaws
import Derived.Lib.Hide
namespace Go.Proofs.Sha
open Go.RowKit

/-- The number of a word. -/
def u32 (x : BitVec 32) : Int := ((x.toNat : Nat) : Int)
theorem u32_eq (x : BitVec 32) : u32 x = ((x.toNat : Nat) : Int) := rfl
theorem u32_nonneg (x : BitVec 32) : 0 ≤ u32 x := by unfold u32; omega
theorem u32_lt (x : BitVec 32) : u32 x < 4294967296 := by have := x.isLt; unfold u32; omega
theorem u32_of (n : Int) (h : 0 ≤ n) (h2 : n < 4294967296) : n = u32 (BitVec.ofNat 32 n.toNat) := by
  unfold u32
  rw [BitVec.toNat_ofNat]
  omega

theorem bits_xor (a b : BitVec 32) : bits BinOp.xor IntKind.u32 (u32 a) (u32 b) = u32 (a ^^^ b) := by
  unfold u32
  rw [u32_xor_nat _ _ a.isLt b.isLt, BitVec.toNat_xor]
theorem bits_and (a b : BitVec 32) : bits BinOp.and IntKind.u32 (u32 a) (u32 b) = u32 (a &&& b) := by
  unfold u32
  rw [u32_and_nat _ _ a.isLt b.isLt, BitVec.toNat_and]
theorem bits_or (a b : BitVec 32) : bits BinOp.or IntKind.u32 (u32 a) (u32 b) = u32 (a ||| b) := by
  unfold u32
  rw [u32_or_nat _ _ a.isLt b.isLt, BitVec.toNat_or]
theorem add_mod (a b : BitVec 32) : (u32 a + u32 b) % 4294967296 = u32 (a + b) := by
  unfold u32
  rw [BitVec.toNat_add]
  omega
theorem sub_all (a : BitVec 32) : (4294967295 - u32 a) = u32 (~~~ a) := by
  unfold u32
  have := a.isLt
  rw [BitVec.toNat_not]
  omega
theorem sub_all_mod (a : BitVec 32) : (4294967295 - u32 a) % 4294967296 = u32 (~~~ a) := by
  rw [sub_all]
  exact Int.emod_eq_of_lt (u32_nonneg _) (u32_lt _)
theorem not_word (a : BitVec 32) : bits BinOp.xor IntKind.u32 IntKind.u32.max (u32 a) = u32 (~~~ a) := by
  have e : IntKind.u32.max = u32 (BitVec.allOnes 32) := by decide
  rw [e, bits_xor]
  rfl
theorem shr_word (a : BitVec 32) (n : Nat) : u32 a / 2 ^ n = u32 (a >>> n) := by
  unfold u32
  rw [BitVec.toNat_ushiftRight, Nat.shiftRight_eq_div_pow]
  simp
theorem shl_word (a : BitVec 32) (n : Nat) : u32 a * 2 ^ n % 4294967296 = u32 (a <<< n) := by
  unfold u32
  rw [BitVec.toNat_shiftLeft, Nat.shiftLeft_eq]
  simp

/-- A word, turned. -/
def rot (x : BitVec 32) (n : Nat) : BitVec 32 := x >>> n ||| x <<< (32 - n)

/-- Eight words. -/
structure H8 where
  (a b c d e f g h : BitVec 32)
def big1 (e : BitVec 32) : BitVec 32 := rot e 6 ^^^ rot e 11 ^^^ rot e 25
def big0 (a : BitVec 32) : BitVec 32 := rot a 2 ^^^ rot a 13 ^^^ rot a 22
def ch (e f g : BitVec 32) : BitVec 32 := e &&& f ^^^ ~~~e &&& g
def maj (a b c : BitVec 32) : BitVec 32 := a &&& b ^^^ a &&& c ^^^ b &&& c
def H8.t (v : H8) (k m : BitVec 32) : BitVec 32 := v.h + big1 v.e + ch v.e v.f v.g + k + m
def H8.u (v : H8) : BitVec 32 := big0 v.a + maj v.a v.b v.c
/-- One round. -/
def H8.step (v : H8) (k m : BitVec 32) : H8 := ⟨v.t k m + v.u, v.a, v.b, v.c, v.d + v.t k m, v.e, v.f, v.g⟩
def H8.add (v x : H8) : H8 := ⟨v.a + x.a, v.b + x.b, v.c + x.c, v.d + x.d, v.e + x.e, v.f + x.f, v.g + x.g, v.h + x.h⟩

theorem ch_or (e f g : BitVec 32) : e &&& f ||| ~~~e &&& g = ch e f g := by
  unfold ch
  apply BitVec.eq_of_getLsbD_eq
  intro i hi
  simp only [BitVec.getLsbD_or, BitVec.getLsbD_and, BitVec.getLsbD_not, BitVec.getLsbD_xor]
  cases e.getLsbD i <;> cases f.getLsbD i <;> cases g.getLsbD i <;> simp [hi]
theorem maj_or (a b c : BitVec 32) : a &&& b ||| a &&& c ||| b &&& c = maj a b c := by
  unfold maj
  apply BitVec.eq_of_getLsbD_eq
  intro i hi
  simp only [BitVec.getLsbD_or, BitVec.getLsbD_and, BitVec.getLsbD_xor]
  cases a.getLsbD i <;> cases b.getLsbD i <;> cases c.getLsbD i <;> rfl

/-- Eight words at an address. -/
def Eight (w : World) (g off : Nat) (v : H8) : Prop :=
  w.cell? ⟨g, off, none⟩ = some (.int .u32 (u32 v.a)) ∧ w.cell? ⟨g, off + 1, none⟩ = some (.int .u32 (u32 v.b)) ∧ w.cell? ⟨g, off + 2, none⟩ = some (.int .u32 (u32 v.c)) ∧ w.cell? ⟨g, off + 3, none⟩ = some (.int .u32 (u32 v.d)) ∧
  w.cell? ⟨g, off + 4, none⟩ = some (.int .u32 (u32 v.e)) ∧ w.cell? ⟨g, off + 5, none⟩ = some (.int .u32 (u32 v.f)) ∧ w.cell? ⟨g, off + 6, none⟩ = some (.int .u32 (u32 v.g)) ∧ w.cell? ⟨g, off + 7, none⟩ = some (.int .u32 (u32 v.h))
end Go.Proofs.Sha
