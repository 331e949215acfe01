/-
  The check sum as a plain function on lists of bytes: its step, and what the statements ask of it. No program in sight.
-/
import Derived.WalkKit
import Derived.Laws.BitsAllLaws
namespace Go.Proofs.Crc

/-- One bit's step. -/
def step (v : BitVec 32) : BitVec 32 := (v >>> 1) ^^^ (if v.getLsbD 0 then 3988292384#32 else 0#32)
/-- n steps. -/
def steps : Nat → BitVec 32 → BitVec 32
  | 0, v => v
  | n + 1, v => step (steps n v)
/-- One byte. -/
def byte (v : BitVec 32) (c : UInt8) : BitVec 32 := steps 8 (v ^^^ BitVec.ofNat 32 c.toNat)
/-- All bytes. -/
def fold (v : BitVec 32) (l : List UInt8) : BitVec 32 := l.foldl byte v
/-- A sum, with bytes behind. -/
def add (sum : BitVec 32) (l : List UInt8) : BitVec 32 := ~~~ (fold (~~~ sum) l)

theorem fold_append (v : BitVec 32) (l m : List UInt8) : fold v (l ++ m) = fold (fold v l) m := by simp [fold]
theorem fold_nil (v : BitVec 32) : fold v [] = v := rfl
theorem fold_snoc (v : BitVec 32) (l : List UInt8) (c : UInt8) : fold v (l ++ [c]) = byte (fold v l) c := by simp [fold]
theorem add_append (s : BitVec 32) (l m : List UInt8) : add s (l ++ m) = add (add s l) m := by
  simp [add, fold_append]
theorem add_nil (s : BitVec 32) : add s [] = s := by simp [add, fold]

theorem xor_three (a b p : BitVec 32) : (a ^^^ p) ^^^ (b ^^^ p) = a ^^^ b := by
  rw [BitVec.xor_comm b p, ← BitVec.xor_assoc, BitVec.xor_assoc a, BitVec.xor_self, BitVec.xor_zero]
theorem step_xor (a b : BitVec 32) : step (a ^^^ b) = step a ^^^ step b := by
  unfold step
  rw [BitVec.ushiftRight_xor_distrib, BitVec.getLsbD_xor]
  cases a.getLsbD 0 <;> cases b.getLsbD 0
  · simp
  · simp [BitVec.xor_assoc]
  · simp only [Bool.xor_false, if_true, Bool.false_eq_true, if_false, BitVec.xor_zero]
    rw [BitVec.xor_assoc, BitVec.xor_assoc, BitVec.xor_comm (b >>> 1)]
  · simp only [Bool.xor_self, if_true, Bool.false_eq_true, if_false, BitVec.xor_zero]
    rw [xor_three]
theorem step_zero : step 0#32 = 0#32 := by decide
theorem step_eq_zero (v : BitVec 32) (h : step v = 0#32) : v = 0#32 := by
  unfold step at h
  cases hb : v.getLsbD 0 with
  | false =>
    rw [hb] at h
    simp at h
    apply BitVec.eq_of_getLsbD_eq
    intro i hi
    cases i with
    | zero => simpa using hb
    | succ i =>
      have := congrArg (fun x => x.getLsbD i) h
      simpa [Nat.add_comm] using this
  | true =>
    rw [hb] at h
    have := congrArg (fun x => x.getLsbD 31) h
    simp at this
theorem step_inj {a b : BitVec 32} (h : step a = step b) : a = b := by
  have : step (a ^^^ b) = 0#32 := by rw [step_xor, h, BitVec.xor_self]
  have := step_eq_zero _ this
  exact BitVec.xor_eq_zero_iff.1 this
theorem steps_inj (n : Nat) {a b : BitVec 32} (h : steps n a = steps n b) : a = b := by
  induction n with
  | zero => exact h
  | succ n ih => exact ih (step_inj h)
theorem steps_xor (n : Nat) (a b : BitVec 32) : steps n (a ^^^ b) = steps n a ^^^ steps n b := by
  induction n with
  | zero => rfl
  | succ n ih => simp only [steps, ih, step_xor]
theorem byte_inj {a b : BitVec 32} (c : UInt8) (h : byte a c = byte b c) : a = b := by
  have := steps_inj 8 h
  exact (BitVec.xor_left_inj _).1 this
theorem fold_inj (l : List UInt8) : ∀ {a b : BitVec 32}, fold a l = fold b l → a = b := by
  induction l with
  | nil => intro a b h; exact h
  | cons c l ih => intro a b h; exact byte_inj c (ih h)

theorem step_even (x : BitVec 32) (m : Nat) (h : x.toNat = 2 * m) : (step x).toNat = m := by
  have hb : x.getLsbD 0 = false := by
    rw [BitVec.getLsbD, Nat.testBit_zero, h]
    simp
  unfold step
  rw [hb]
  simp only [Bool.false_eq_true, if_false, BitVec.xor_zero, BitVec.toNat_ushiftRight, Nat.shiftRight_eq_div_pow]
  omega
theorem steps_even (n : Nat) : ∀ (x : BitVec 32) (m : Nat), x.toNat = 2 ^ n * m → (steps n x).toNat = m := by
  induction n with
  | zero => intro x m h; simpa [steps] using h
  | succ n ih =>
    intro x m h
    exact step_even _ m (ih x (2 * m) (by rw [h, Nat.pow_succ]; rw [Nat.mul_assoc]))
/-- Four bytes in a row, as one number. -/
def word (t0 t1 t2 t3 : BitVec 32) : BitVec 32 := t0 ^^^ (t1 <<< 8 ^^^ (t2 <<< 16 ^^^ t3 <<< 24))
theorem steps8_shl (b : BitVec 32) (k : Nat) (hk : 8 ≤ k) (hk2 : k ≤ 24) (h : b.toNat < 256) : steps 8 (b <<< k) = b <<< (k - 8) := by
  apply BitVec.eq_of_toNat_eq
  have e : ∀ j, j ≤ 24 → (b <<< j).toNat = b.toNat * 2 ^ j := by
    intro j hj
    rw [BitVec.toNat_shiftLeft, Nat.shiftLeft_eq]
    apply Nat.mod_eq_of_lt
    calc b.toNat * 2 ^ j < 256 * 2 ^ j := Nat.mul_lt_mul_of_pos_right h (Nat.pow_pos (by decide))
      _ ≤ 256 * 2 ^ 24 := Nat.mul_le_mul_left _ (Nat.pow_le_pow_right (by decide) hj)
      _ = 2 ^ 32 := by decide
  apply steps_even
  rw [e k hk2, e (k - 8) (by omega)]
  obtain ⟨j, rfl⟩ : ∃ j, k = j + 8 := ⟨k - 8, by omega⟩
  rw [Nat.pow_add]
  simp only [Nat.add_sub_cancel]
  rw [Nat.mul_comm (2 ^ j), ← Nat.mul_assoc, Nat.mul_comm b.toNat, Nat.mul_assoc]
theorem steps_zero (n : Nat) : steps n 0#32 = 0#32 := by
  induction n with
  | zero => rfl
  | succ n ih => simp only [steps, ih, step_zero]
theorem steps_add (m n : Nat) (v : BitVec 32) : steps (m + n) v = steps m (steps n v) := by
  induction m with
  | zero => simp [steps]
  | succ m ih => rw [show m + 1 + n = (m + n) + 1 from by omega]; simp only [steps, ih]
/-- What four bytes do to the register: all at once. -/
theorem steps32_word (t0 t1 t2 t3 : BitVec 32) (h1 : t1.toNat < 256) (h2 : t2.toNat < 256) (h3 : t3.toNat < 256) :
    steps 8 (steps 8 (steps 8 (steps 8 t0 ^^^ t1) ^^^ t2) ^^^ t3) = steps 32 (word t0 t1 t2 t3) := by
  have e1 : steps 8 (word t0 t1 t2 t3) = (steps 8 t0 ^^^ t1) ^^^ (t2 <<< 8 ^^^ t3 <<< 16) := by
    unfold word
    rw [steps_xor, steps_xor, steps_xor, steps8_shl t1 8 (by decide) (by decide) h1, steps8_shl t2 16 (by decide) (by decide) h2, steps8_shl t3 24 (by decide) (by decide) h3, BitVec.xor_assoc]
    simp
  have e2 : steps 16 (word t0 t1 t2 t3) = (steps 8 (steps 8 t0 ^^^ t1) ^^^ t2) ^^^ (t3 <<< 8) := by
    rw [show (16 : Nat) = 8 + 8 from rfl, steps_add, e1, steps_xor 8 _ (_ ^^^ _), steps_xor 8 (t2 <<< 8), steps8_shl t2 8 (by decide) (by decide) h2, steps8_shl t3 16 (by decide) (by decide) h3, BitVec.xor_assoc]
    simp
  have e3 : steps 24 (word t0 t1 t2 t3) = steps 8 (steps 8 (steps 8 t0 ^^^ t1) ^^^ t2) ^^^ t3 := by
    rw [show (24 : Nat) = 8 + 16 from rfl, steps_add, e2, steps_xor, steps8_shl t3 8 (by decide) (by decide) h3]
    simp
  have e4 := steps_add 8 24 (word t0 t1 t2 t3)
  rw [e3] at e4
  exact e4.symm

/-- A burst: the four bytes are turned by the four of a number that is not zero. -/
theorem fold_burst (v t : BitVec 32) (a0 a1 a2 a3 b0 b1 b2 b3 : UInt8) (r : List UInt8) (ht : t ≠ 0#32)
    (h0 : BitVec.ofNat 32 b0.toNat = BitVec.ofNat 32 a0.toNat ^^^ BitVec.ofNat 32 (t.toNat % 256))
    (h1 : BitVec.ofNat 32 b1.toNat = BitVec.ofNat 32 a1.toNat ^^^ BitVec.ofNat 32 (t.toNat / 256 % 256))
    (h2 : BitVec.ofNat 32 b2.toNat = BitVec.ofNat 32 a2.toNat ^^^ BitVec.ofNat 32 (t.toNat / 65536 % 256))
    (h3 : BitVec.ofNat 32 b3.toNat = BitVec.ofNat 32 a3.toNat ^^^ BitVec.ofNat 32 (t.toNat / 16777216 % 256)) :
    fold v (b0 :: b1 :: b2 :: b3 :: r) ≠ fold v (a0 :: a1 :: a2 :: a3 :: r) := by
  intro h
  have h := fold_inj r (a := byte (byte (byte (byte v b0) b1) b2) b3) (b := byte (byte (byte (byte v a0) a1) a2) a3) h
  apply ht
  unfold byte at h
  rw [h0, h1, h2, h3] at h
  generalize e0 : BitVec.ofNat 32 (t.toNat % 256) = t0 at h
  generalize e1 : BitVec.ofNat 32 (t.toNat / 256 % 256) = t1 at h
  generalize e2 : BitVec.ofNat 32 (t.toNat / 65536 % 256) = t2 at h
  generalize e3 : BitVec.ofNat 32 (t.toNat / 16777216 % 256) = t3 at h
  have b1 : t1.toNat < 256 := by rw [← e1, BitVec.toNat_ofNat]; omega
  have b2 : t2.toNat < 256 := by rw [← e2, BitVec.toNat_ofNat]; omega
  have b3 : t3.toNat < 256 := by rw [← e3, BitVec.toNat_ofNat]; omega
  have k : ∀ a b c : BitVec 32, a ^^^ (b ^^^ c) = (a ^^^ b) ^^^ c := fun a b c => (BitVec.xor_assoc a b c).symm
  have mid : ∀ a b c d : BitVec 32, (a ^^^ b) ^^^ (c ^^^ d) = (a ^^^ c) ^^^ (b ^^^ d) := fun a b c d => by
    rw [BitVec.xor_assoc, ← BitVec.xor_assoc b c d, BitVec.xor_comm b c, BitVec.xor_assoc c b d, ← BitVec.xor_assoc a c]
  rw [k v, steps_xor 8 (v ^^^ _) t0, mid, steps_xor 8 (steps 8 (v ^^^ _) ^^^ _), mid, steps_xor 8 (steps 8 (steps 8 (v ^^^ _) ^^^ _) ^^^ _), mid, steps_xor 8 (steps 8 (steps 8 (steps 8 (v ^^^ _) ^^^ _) ^^^ _) ^^^ _), steps32_word t0 t1 t2 t3 b1 b2 b3] at h
  have hz : steps 32 (word t0 t1 t2 t3) = 0#32 := by
    have := congrArg (fun x => steps 8 (steps 8 (steps 8 (steps 8 (v ^^^ BitVec.ofNat 32 a0.toNat) ^^^ BitVec.ofNat 32 a1.toNat) ^^^ BitVec.ofNat 32 a2.toNat) ^^^ BitVec.ofNat 32 a3.toNat) ^^^ x) h
    simpa [k] using this
  have hw : word t0 t1 t2 t3 = 0#32 := steps_inj 32 (hz.trans (steps_zero 32).symm)
  have hs : word t0 t1 t2 t3 = t := by
    unfold word
    rw [← e0, ← e1, ← e2, ← e3]
    apply BitVec.eq_of_getLsbD_eq
    intro i hi
    simp only [BitVec.getLsbD_xor, BitVec.getLsbD_shiftLeft, BitVec.getLsbD_ofNat]
    have q : ∀ j, (t.toNat % 256).testBit j = (decide (j < 8) && t.getLsbD j) := fun j => by rw [show (256 : Nat) = 2 ^ 8 from rfl, Nat.testBit_mod_two_pow]; rfl
    have q1 : ∀ j, (t.toNat / 256 % 256).testBit j = (decide (j < 8) && t.getLsbD (j + 8)) := fun j => by rw [show t.toNat / 256 % 256 = t.toNat / 2 ^ 8 % 2 ^ 8 from rfl, Nat.testBit_mod_two_pow, Nat.testBit_div_two_pow]; rfl
    have q2 : ∀ j, (t.toNat / 65536 % 256).testBit j = (decide (j < 8) && t.getLsbD (j + 16)) := fun j => by rw [show t.toNat / 65536 % 256 = t.toNat / 2 ^ 16 % 2 ^ 8 from rfl, Nat.testBit_mod_two_pow, Nat.testBit_div_two_pow]; rfl
    have q3 : ∀ j, (t.toNat / 16777216 % 256).testBit j = (decide (j < 8) && t.getLsbD (j + 24)) := fun j => by rw [show t.toNat / 16777216 % 256 = t.toNat / 2 ^ 24 % 2 ^ 8 from rfl, Nat.testBit_mod_two_pow, Nat.testBit_div_two_pow]; rfl
    rw [q, q1, q2, q3]
    have : i < 8 ∨ (8 ≤ i ∧ i < 16) ∨ (16 ≤ i ∧ i < 24) ∨ 24 ≤ i := by omega
    rcases this with h | ⟨h, h'⟩ | ⟨h, h'⟩ | h
    · have : i < 16 := by omega
      have : i < 24 := by omega
      simp [*]
    · have : ¬ i < 8 := by omega
      have : i < 24 := by omega
      have : i - 8 < 8 := by omega
      have : i - 8 + 8 = i := by omega
      have : i - 8 < 32 := by omega
      simp [*]
    · have : ¬ i < 8 := by omega
      have : ¬ i < 16 := by omega
      have : ¬ i - 8 < 8 := by omega
      have : i - 16 < 8 := by omega
      have : i - 16 + 16 = i := by omega
      have : i - 16 < 32 := by omega
      simp [*]
    · have : ¬ i < 8 := by omega
      have : ¬ i < 16 := by omega
      have : ¬ i < 24 := by omega
      have : ¬ i - 8 < 8 := by omega
      have : ¬ i - 16 < 8 := by omega
      have : i - 24 < 8 := by omega
      have : i - 24 + 24 = i := by omega
      have : i - 24 < 32 := by omega
      simp [*]
  rw [← hs, hw]
end Go.Proofs.Crc
