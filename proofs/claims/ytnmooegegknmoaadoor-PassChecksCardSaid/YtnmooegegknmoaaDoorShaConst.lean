/-
  The reference's numbers as plain functions: primes, wide products, roots.
-/
import Derived.Test.YtnmooegegknmoaaDoorShaDigest
namespace Go.Proofs.Sha

/-- The upper half of a product, as the reference reckons it. -/
def wideLow (a b : Nat) : Nat := (a % 4294967296) * (b % 4294967296)
def wideMid (a b : Nat) : Nat := (a / 4294967296) * (b % 4294967296) + wideLow a b / 4294967296
def wideMore (a b : Nat) : Nat := (a % 4294967296) * (b / 4294967296) + wideMid a b % 4294967296
def wideHi (a b : Nat) : Nat := (a / 4294967296) * (b / 4294967296) + wideMid a b / 4294967296 + wideMore a b / 4294967296
def wideLo (a b : Nat) : Nat := (wideMore a b * 4294967296 + wideLow a b % 4294967296) % 18446744073709551616

def fitsRoot (p y : Nat) : Bool := decide (wideHi y y < p) || (wideHi y y == p && wideLo y y == 0)
def rootTo (p : Nat) : Nat → Nat
  | 0 => 0
  | k + 1 => if fitsRoot p (rootTo p k + 68719476736 / 2 ^ k) then rootTo p k + 68719476736 / 2 ^ k else rootTo p k
def cubeC (y : Nat) : Nat := (wideHi y y * y + wideHi (wideLo y y) y) % 18446744073709551616
def fitsCube (p y : Nat) : Bool := decide (cubeC y < p * 4294967296) || (cubeC y == p * 4294967296 && wideLo (wideLo y y) y == 0)
def cubeTo (p : Nat) : Nat → Nat
  | 0 => 0
  | k + 1 => if fitsCube p (cubeTo p k + 34359738368 / 2 ^ k) then cubeTo p k + 34359738368 / 2 ^ k else cubeTo p k

/-- The primes below a number. -/
def primesTo : Nat → List Nat
  | 0 => []
  | 1 => []
  | 2 => []
  | p + 1 => if (primesTo p).all (fun q => p % q != 0) then primesTo p ++ [p] else primesTo p

def K0 : Nat → Nat := fun i => [0x428a2f98, 0x71374491, 0xb5c0fbcf, 0xe9b5dba5, 0x3956c25b, 0x59f111f1, 0x923f82a4, 0xab1c5ed5,
  0xd807aa98, 0x12835b01, 0x243185be, 0x550c7dc3, 0x72be5d74, 0x80deb1fe, 0x9bdc06a7, 0xc19bf174,
  0xe49b69c1, 0xefbe4786, 0x0fc19dc6, 0x240ca1cc, 0x2de92c6f, 0x4a7484aa, 0x5cb0a9dc, 0x76f988da,
  0x983e5152, 0xa831c66d, 0xb00327c8, 0xbf597fc7, 0xc6e00bf3, 0xd5a79147, 0x06ca6351, 0x14292967,
  0x27b70a85, 0x2e1b2138, 0x4d2c6dfc, 0x53380d13, 0x650a7354, 0x766a0abb, 0x81c2c92e, 0x92722c85,
  0xa2bfe8a1, 0xa81a664b, 0xc24b8b70, 0xc76c51a3, 0xd192e819, 0xd6990624, 0xf40e3585, 0x106aa070,
  0x19a4c116, 0x1e376c08, 0x2748774c, 0x34b0bcb5, 0x391c0cb3, 0x4ed8aa4a, 0x5b9cca4f, 0x682e6ff3,
  0x748f82ee, 0x78a5636f, 0x84c87814, 0x8cc70208, 0x90befffa, 0xa4506ceb, 0xbef9a3f7, 0xc67178f2].getD i 0
def H0 : H8 := ⟨0x6a09e667#32, 0xbb67ae85#32, 0x3c6ef372#32, 0xa54ff53a#32, 0x510e527f#32, 0x9b05688c#32, 0x1f83d9ab#32, 0x5be0cd19#32⟩

theorem primes_63 : (primesTo 311).length = 63 := by decide +kernel
theorem primes_64 : (primesTo 312).length = 64 := by decide +kernel
theorem cubes_are : ∀ i, i < 64 → cubeTo ((primesTo 312).getD i 0) 36 % 4294967296 = K0 i := by decide +kernel
theorem roots_are : ∀ i, i < 8 → rootTo ((primesTo 312).getD i 0) 37 % 4294967296 = (H0.get i).toNat := by decide +kernel
/-- The schedule as a list, the newest word first. -/
def nextW (l : List (BitVec 32)) : BitVec 32 := l.getD 15 0#32 + low0 (l.getD 14 0#32) + l.getD 6 0#32 + low1 (l.getD 1 0#32)
def schedL (m : Nat → UInt8) : Nat → List (BitVec 32)
  | 0 => []
  | n + 1 => (if n < 16 then word4 m n else nextW (schedL m n)) :: schedL m n
theorem schedL_get (m : Nat → UInt8) (n : Nat) : ∀ j, j < n → (schedL m n).getD j 0#32 = sched m (n - 1 - j) := by
  induction n with
  | zero => intro j hj; omega
  | succ n ih =>
    intro j hj
    cases j with
    | zero =>
      show (if n < 16 then word4 m n else nextW (schedL m n)) = sched m n
      by_cases h : n < 16
      · rw [if_pos h, sched_word m n h]
      · rw [if_neg h, sched_next m n (by omega), nextW, ih 15 (by omega), ih 14 (by omega), ih 6 (by omega), ih 1 (by omega)]
        rw [show n - 1 - 15 = n - 16 by omega, show n - 1 - 14 = n - 15 by omega, show n - 1 - 6 = n - 7 by omega, show n - 1 - 1 = n - 2 by omega]
    | succ j =>
      show (schedL m n).getD j 0#32 = sched m (n - (j + 1))
      rw [ih j (by omega), show n - 1 - j = n - (j + 1) by omega]
/-- The rounds over the schedule's list. -/
def roundsL (K : Nat → BitVec 32) (ws : List (BitVec 32)) (v : H8) : Nat → H8
  | 0 => v
  | n + 1 => (roundsL K ws v n).step (K n) (ws.getD (63 - n) 0#32)
theorem roundsL_eq (K : Nat → BitVec 32) (m : Nat → UInt8) (v : H8) (n : Nat) (hn : n ≤ 64) : roundsL K (schedL m 64) v n = roundsTo K m v n := by
  induction n with
  | zero => rfl
  | succ n ih => 
    simp only [roundsL, roundsTo]
    rw [ih (by omega), schedL_get m 64 (63 - n) (by omega), show 64 - 1 - (63 - n) = n by omega]
def KW : Nat → BitVec 32 := fun i => BitVec.ofNat 32 (K0 i)
theorem digest_short (K : Nat → BitVec 32) (v : H8) (l : List UInt8) (h : l.length < 56) :
    digest K v l = outTo (v.add (roundsL K (schedL (bytesFrom (l ++ tailOf l.length) 0) 64) v 64)) 8 := by
  have e : (l ++ tailOf l.length).length / 64 = 1 := by
    rw [List.length_append, tailOf_length]
    unfold fillOf
    omega
  unfold digest
  rw [e, roundsL_eq _ _ _ _ (Nat.le_refl _)]
  rfl
theorem digest_abc : (digest KW H0 [97, 98, 99]).take 4 = [0xba, 0x78, 0x16, 0xbf] := by
  rw [digest_short _ _ _ (by decide)]
  decide +kernel
theorem digest_none : (digest KW H0 []).take 4 = [0xe3, 0xb0, 0xc4, 0x42] := by
  rw [digest_short _ _ _ (by decide)]
  decide +kernel
end Go.Proofs.Sha
