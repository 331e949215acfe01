/-
  The digest of a text as a plain function, and how it is reckoned piece by piece.
-/
import Derived.Test.YtnmooegegknmoaaDoorShaMem
namespace Go.Proofs.Sha

/-- The bytes from a place on. -/
def bytesFrom (l : List UInt8) (p : Nat) : Nat → UInt8 := fun i => l.getD (p + i) 0
/-- The words behind the first n blocks of a text. -/
def blocks (K : Nat → BitVec 32) (v : H8) (l : List UInt8) : Nat → H8
  | 0 => v
  | n + 1 => blockOf K (bytesFrom l (64 * n)) (blocks K v l n)

theorem word4_congr {m m' : Nat → UInt8} (h : ∀ i, i < 64 → m i = m' i) (i : Nat) (hi : i < 16) : word4 m i = word4 m' i := by
  unfold word4
  rw [h (4 * i) (by omega), h (4 * i + 1) (by omega), h (4 * i + 2) (by omega), h (4 * i + 3) (by omega)]
theorem sched_congr {m m' : Nat → UInt8} (h : ∀ i, i < 64 → m i = m' i) (i : Nat) : sched m i = sched m' i := by
  induction i using Nat.strongRecOn with
  | ind i ih =>
    by_cases hi : i < 16
    · rw [sched_word _ _ hi, sched_word _ _ hi, word4_congr h i hi]
    · rw [sched_next _ _ (by omega), sched_next m' _ (by omega), ih (i - 16) (by omega), ih (i - 15) (by omega), ih (i - 7) (by omega), ih (i - 2) (by omega)]
theorem roundsTo_congr (K : Nat → BitVec 32) {m m' : Nat → UInt8} (h : ∀ i, i < 64 → m i = m' i) (v : H8) (n : Nat) : roundsTo K m v n = roundsTo K m' v n := by
  induction n with
  | zero => rfl
  | succ n ih => simp only [roundsTo, ih, sched_congr h]
theorem blockOf_congr (K : Nat → BitVec 32) {m m' : Nat → UInt8} (h : ∀ i, i < 64 → m i = m' i) (v : H8) : blockOf K m v = blockOf K m' v := by
  unfold blockOf
  rw [roundsTo_congr K h]
theorem roundsTo_table {K K' : Nat → BitVec 32} (h : ∀ i, i < 64 → K i = K' i) (m : Nat → UInt8) (v : H8) (n : Nat) (hn : n ≤ 64) : roundsTo K m v n = roundsTo K' m v n := by
  induction n with
  | zero => rfl
  | succ n ih => simp only [roundsTo, ih (by omega), h n (by omega)]
theorem blockOf_table {K K' : Nat → BitVec 32} (h : ∀ i, i < 64 → K i = K' i) (m : Nat → UInt8) (v : H8) : blockOf K m v = blockOf K' m v := by
  unfold blockOf
  rw [roundsTo_table h m v 64 (Nat.le_refl _)]
theorem blocks_congr (K : Nat → BitVec 32) (v : H8) {l l' : List UInt8} (n : Nat) (h : ∀ i, i < 64 * n → l.getD i 0 = l'.getD i 0) : blocks K v l n = blocks K v l' n := by
  induction n with
  | zero => rfl
  | succ n ih =>
    simp only [blocks]
    rw [ih (fun i hi => h i (by omega))]
    exact blockOf_congr K (fun i hi => h _ (by omega)) _
theorem blocks_add (K : Nat → BitVec 32) (v : H8) (l : List UInt8) (a b : Nat) : blocks K v l (a + b) = blocks K (blocks K v l a) (l.drop (64 * a)) b := by
  induction b with
  | zero => rfl
  | succ b ih =>
    rw [← Nat.add_assoc]
    simp only [blocks]
    rw [ih]
    refine blockOf_congr K (fun i _ => ?_) _
    unfold bytesFrom
    rw [List.getD_eq_getElem?_getD, List.getD_eq_getElem?_getD, List.getElem?_drop, show 64 * a + (64 * b + i) = 64 * (a + b) + i by omega]

/-- The eight bytes of a number, the great ones first. -/
def be8 (n : Nat) : List UInt8 := [UInt8.ofNat (n / 72057594037927936), UInt8.ofNat (n / 281474976710656), UInt8.ofNat (n / 1099511627776), UInt8.ofNat (n / 4294967296), UInt8.ofNat (n / 16777216), UInt8.ofNat (n / 65536), UInt8.ofNat (n / 256), UInt8.ofNat n]
theorem be8_length (n : Nat) : (be8 n).length = 8 := rfl
/-- How many zeros stand behind the mark. -/
def fillOf (n : Nat) : Nat := (119 - n % 64) % 64
/-- What stands behind a text of n bytes. -/
def tailOf (n : Nat) : List UInt8 := 128 :: (List.replicate (fillOf n) 0 ++ be8 (8 * n))
theorem tailOf_length (n : Nat) : (tailOf n).length = fillOf n + 9 := by
  simp [tailOf, be8_length]
theorem tailOf_fits (n : Nat) : (n + (tailOf n).length) % 64 = 0 := by
  rw [tailOf_length]
  unfold fillOf
  omega
theorem tailOf_same (a b : Nat) (h : a % 64 = b % 64) : fillOf a = fillOf b := by
  unfold fillOf
  rw [h]
def word (x : BitVec 32) : List UInt8 := [UInt8.ofNat (x.toNat / 16777216), UInt8.ofNat (x.toNat / 65536), UInt8.ofNat (x.toNat / 256), UInt8.ofNat x.toNat]
/-- The bytes of the first n of eight words. -/
def outTo (v : H8) : Nat → List UInt8
  | 0 => []
  | n + 1 => outTo v n ++ word (v.get n)
theorem outTo_length (v : H8) (n : Nat) : (outTo v n).length = 4 * n := by
  induction n with
  | zero => rfl
  | succ n ih =>
    rw [outTo, List.length_append, ih]
    rfl
/-- The digest. -/
def digest (K : Nat → BitVec 32) (v : H8) (l : List UInt8) : List UInt8 := outTo (blocks K v (l ++ tailOf l.length) ((l ++ tailOf l.length).length / 64)) 8
theorem digest_length (K : Nat → BitVec 32) (v : H8) (l : List UInt8) : (digest K v l).length = 32 := outTo_length _ _
theorem blocks_table {K K' : Nat → BitVec 32} (h : ∀ i, i < 64 → K i = K' i) (v : H8) (l : List UInt8) (n : Nat) : blocks K v l n = blocks K' v l n := by
  induction n with
  | zero => rfl
  | succ n ih => simp only [blocks, ih, blockOf_table h]
theorem digest_table {K K' : Nat → BitVec 32} (h : ∀ i, i < 64 → K i = K' i) (v : H8) (l : List UInt8) : digest K v l = digest K' v l := by
  unfold digest
  rw [blocks_table h]

/-- What a state bears behind a text: the words and what is left. -/
def wordsOf (K : Nat → BitVec 32) (v : H8) (l : List UInt8) : H8 := blocks K v l (l.length / 64)
def restOf (l : List UInt8) : List UInt8 := l.drop (64 * (l.length / 64))
theorem restOf_length (l : List UInt8) : (restOf l).length = l.length % 64 := by
  unfold restOf
  rw [List.length_drop]
  omega
theorem drop_append_le {l m : List UInt8} {n : Nat} (h : n ≤ l.length) : (l ++ m).drop n = l.drop n ++ m := List.drop_append_of_le_length h
theorem getD_append_lt {l m : List UInt8} {i : Nat} (h : i < l.length) : (l ++ m).getD i 0 = l.getD i 0 := by
  rw [List.getD_eq_getElem?_getD, List.getD_eq_getElem?_getD, List.getElem?_append_left h]
theorem blocks_append (K : Nat → BitVec 32) (v : H8) (l m : List UInt8) (n : Nat) (h : 64 * n ≤ l.length) : blocks K v (l ++ m) n = blocks K v l n :=
  blocks_congr K v n fun _ hi => getD_append_lt (by omega)

/-- The digest out of a state. -/
theorem digest_state (K : Nat → BitVec 32) (v : H8) (l : List UInt8) :
    digest K v l = outTo (blocks K (wordsOf K v l) (restOf l ++ tailOf l.length) ((restOf l ++ tailOf l.length).length / 64)) 8 := by
  unfold digest
  congr 1
  have e : (l ++ tailOf l.length).length / 64 = l.length / 64 + (restOf l ++ tailOf l.length).length / 64 := by
    simp only [List.length_append, restOf_length]
    omega
  rw [e, blocks_add, blocks_append K v l _ _ (by omega), drop_append_le (by omega)]
  rfl

/-- A text with less than a block behind it. -/
theorem state_short (K : Nat → BitVec 32) (v : H8) (l p : List UInt8) (h : (restOf l).length + p.length < 64) : wordsOf K v (l ++ p) = wordsOf K v l ∧ restOf (l ++ p) = restOf l ++ p := by
  rw [restOf_length] at h
  have e : (l ++ p).length / 64 = l.length / 64 := by
    rw [List.length_append]
    omega
  unfold wordsOf restOf
  rw [e]
  exact ⟨blocks_append K v l p _ (by omega), drop_append_le (by omega)⟩
/-- A block is full. -/
theorem state_full (K : Nat → BitVec 32) (v : H8) (l p : List UInt8) (h : (restOf l).length + p.length = 64) : wordsOf K v (l ++ p) = blockOf K (fun i => (restOf l ++ p).getD i 0) (wordsOf K v l) ∧ restOf (l ++ p) = [] := by
  rw [restOf_length] at h
  have e : (l ++ p).length / 64 = l.length / 64 + 1 := by
    rw [List.length_append]
    omega
  unfold wordsOf restOf
  rw [e]
  refine ⟨?_, ?_⟩
  · rw [blocks_add, blocks_append K v l p _ (by omega), drop_append_le (by omega)]
    simp only [blocks]
    refine blockOf_congr K (fun i _ => ?_) _
    simp [bytesFrom]
  · refine List.drop_eq_nil_of_le ?_
    rw [List.length_append]
    omega
theorem wordsOf_nil (K : Nat → BitVec 32) (v : H8) : wordsOf K v [] = v := rfl
theorem restOf_nil : restOf [] = [] := rfl
end Go.Proofs.Sha
