/-
  Plain functions on bytes for layer 1 (octet). No program in sight.
-/
import Derived.WalkKit
import Derived.Laws.BitsAllLaws
namespace Go.Proofs.Oct

/-- The lowest k bytes of n, the highest first. -/
def put (n : Nat) : Nat → List UInt8
  | 0 => []
  | k + 1 => UInt8.ofNat (n / 256 ^ k % 256) :: put n k
theorem put_length (n k : Nat) : (put n k).length = k := by
  induction k with
  | zero => rfl
  | succ k ih => simp [put, ih]

/-- The number that bytes are. -/
def get (l : List UInt8) : Nat := l.foldl (fun n c => n * 256 + c.toNat) 0
theorem get_snoc (l : List UInt8) (c : UInt8) : get (l ++ [c]) = get l * 256 + c.toNat := by simp [get]
theorem get_from (l : List UInt8) : ∀ a : Nat, l.foldl (fun n c => n * 256 + c.toNat) a < (a + 1) * 256 ^ l.length := by
  induction l with
  | nil => intro a; simp
  | cons c l ih =>
    intro a
    have hc := c.toNat_lt
    have h := ih (a * 256 + c.toNat)
    rw [List.foldl_cons, List.length_cons, Nat.pow_succ]
    refine Nat.lt_of_lt_of_le h ?_
    rw [Nat.mul_comm (256 ^ l.length), ← Nat.mul_assoc]
    exact Nat.mul_le_mul_right _ (by omega)
theorem get_lt (l : List UInt8) : get l < 256 ^ l.length := by
  have := get_from l 0
  rw [Nat.zero_add, Nat.one_mul] at this
  exact this

theorem get_cons_from (l : List UInt8) : ∀ a : Nat, l.foldl (fun n c => n * 256 + c.toNat) a = a * 256 ^ l.length + get l := by
  induction l with
  | nil => intro a; simp [get]
  | cons c l ih =>
    intro a
    have h2 : get (c :: l) = c.toNat * 256 ^ l.length + get l := by
      show l.foldl (fun n c => n * 256 + c.toNat) (0 * 256 + c.toNat) = _
      rw [ih, Nat.zero_mul, Nat.zero_add]
    rw [List.foldl_cons, ih, h2, List.length_cons, Nat.pow_succ, Nat.add_mul, Nat.mul_assoc, Nat.mul_comm 256, Nat.add_assoc]
theorem get_put (n : Nat) : ∀ k, get (put n k) = n % 256 ^ k := by
  intro k
  induction k with
  | zero => simp [put, get, Nat.mod_one]
  | succ k ih =>
    have h : get (put n (k + 1)) = (UInt8.ofNat (n / 256 ^ k % 256)).toNat * 256 ^ (put n k).length + get (put n k) := by
      show (put n k).foldl (fun n c => n * 256 + c.toNat) (0 * 256 + (UInt8.ofNat (n / 256 ^ k % 256)).toNat) = _
      rw [get_cons_from, Nat.zero_mul, Nat.zero_add]
    rw [h, ih, put_length, UInt8.toNat_ofNat', Nat.mod_eq_of_lt (a := n / 256 ^ k % 256) (by omega), Nat.pow_succ, Nat.mod_mul, Nat.mul_comm, Nat.add_comm]

/-- A digit. -/
def digit (n : Nat) : UInt8 := if n < 10 then UInt8.ofNat (48 + n) else UInt8.ofNat (87 + n)
def hex (l : List UInt8) : List UInt8 := l.flatMap fun c => [digit (c.toNat / 16), digit (c.toNat % 16)]
theorem hex_snoc (l : List UInt8) (c : UInt8) : hex (l ++ [c]) = hex l ++ [digit (c.toNat / 16), digit (c.toNat % 16)] := by simp [hex]
theorem hex_length (l : List UInt8) : (hex l).length = 2 * l.length := by
  induction l with
  | nil => rfl
  | cons c l ih =>
    have : hex (c :: l) = digit (c.toNat / 16) :: digit (c.toNat % 16) :: hex l := rfl
    rw [this]
    simp only [List.length_cons, ih]
    omega

/-- A small letter. -/
def low (c : UInt8) : UInt8 := if 65 ≤ c.toNat ∧ c.toNat ≤ 90 then UInt8.ofNat (c.toNat + 32) else c
def fold (l : List UInt8) : List UInt8 := l.map low

/-- A digit's number, and whether it is one. -/
def half (c : UInt8) : Nat × Bool :=
  if 48 ≤ c.toNat ∧ c.toNat ≤ 57 then (c.toNat - 48, true)
  else if 97 ≤ c.toNat ∧ c.toNat ≤ 102 then (c.toNat - 87, true)
  else if 65 ≤ c.toNat ∧ c.toNat ≤ 70 then (c.toNat - 55, true)
  else (0, false)

/-- Prep, step by step. -/
def prepStep (b : List UInt8) (c : UInt8) : List UInt8 := if c = 32 ∧ (b = [] ∨ b.getLast? = some 32) then b else b ++ [c]
def prepRaw (l : List UInt8) : List UInt8 := l.foldl prepStep []
def prepCut (b : List UInt8) : List UInt8 := if b.getLast? = some 32 then b.dropLast else b
def prep (l : List UInt8) : List UInt8 := prepCut (prepRaw (fold l))
theorem prepStep_length (b : List UInt8) (c : UInt8) : (prepStep b c).length ≤ b.length + 1 := by
  unfold prepStep
  split <;> simp
theorem prepRaw_from (l : List UInt8) : ∀ b : List UInt8, (l.foldl prepStep b).length ≤ b.length + l.length := by
  induction l with
  | nil => intro b; simp
  | cons c l ih =>
    intro b
    have h1 := ih (prepStep b c)
    have h2 := prepStep_length b c
    rw [List.foldl_cons, List.length_cons]
    omega
theorem prepRaw_length (l : List UInt8) : (prepRaw l).length ≤ l.length := by
  have := prepRaw_from l []
  simpa [prepRaw] using this

/-- The reference's Prep, step by step: is there one that is no blank? -/
def anyNe (l : List UInt8) : Bool := l.any fun c => decide (c ≠ 32)
def rpStep (t : List UInt8) (i : Nat) (b : List UInt8) : List UInt8 :=
  if anyNe (t.drop i) = false ∨ (t.getD i 0 = 32 ∧ (b = [] ∨ t.getD (i - 1) 0 = 32)) then b else b ++ [t.getD i 0]
def rp (t : List UInt8) : Nat → List UInt8
  | 0 => []
  | i + 1 => rpStep t i (rp t i)
def refPrep (l : List UInt8) : List UInt8 := rp (fold l) l.length
theorem rp_length (t : List UInt8) (i : Nat) : (rp t i).length ≤ i := by
  induction i with
  | zero => exact Nat.le_refl _
  | succ i ih =>
    simp only [rp, rpStep]
    split
    · omega
    · rw [List.length_append, List.length_singleton]; omega

theorem half_lt (c : UInt8) : (half c).1 < 16 := by
  unfold half
  split
  · simp; omega
  · split
    · simp; omega
    · split
      · simp; omega
      · decide
/-- The bytes of the first j pairs of digits. -/
def uhTo (l : List UInt8) : Nat → Option (List UInt8)
  | 0 => some []
  | j + 1 => (uhTo l j).bind fun acc =>
      if (half (l.getD (2 * j) 0)).2 && (half (l.getD (2 * j + 1) 0)).2 then some (acc ++ [UInt8.ofNat (16 * (half (l.getD (2 * j) 0)).1 + (half (l.getD (2 * j + 1) 0)).1)]) else none
def unhex (l : List UInt8) : Option (List UInt8) := if l.length % 2 = 1 then none else uhTo l (l.length / 2)
theorem uhTo_none (l : List UInt8) (j k : Nat) (h : uhTo l j = none) (hk : j ≤ k) : uhTo l k = none := by
  induction k with
  | zero => have : j = 0 := by omega
            subst this; exact h
  | succ k ih =>
    by_cases hj : j = k + 1
    · subst hj; exact h
    · simp only [uhTo, ih (by omega)]
      rfl
theorem uhTo_length (l : List UInt8) : ∀ j acc, uhTo l j = some acc → acc.length = j := by
  intro j
  induction j with
  | zero => intro acc h; simp [uhTo] at h; subst h; rfl
  | succ j ih =>
    intro acc h
    simp only [uhTo, Option.bind_eq_some_iff] at h
    obtain ⟨acc', h1, h2⟩ := h
    split at h2
    · simp at h2
      subst h2
      rw [List.length_append, ih _ h1]
      rfl
    · cases h2
/-- Two small digits are those of n. -/
def mt (a b : UInt8) (n : Nat) : Bool := digit (n / 16) == a && digit (n % 16) == b
theorem digit_half_all : ∀ (c : Fin 256) (n : Fin 16), (digit n.val == low (UInt8.ofNat c.val)) = (half (UInt8.ofNat c.val) == (n.val, true)) := by decide +kernel
theorem digit_half (c : UInt8) (n : Nat) (h : n < 16) : (digit n = low c) ↔ half c = (n, true) := by
  have := digit_half_all ⟨c.toNat, c.toNat_lt⟩ ⟨n, h⟩
  simp only [UInt8.ofNat_toNat] at this
  constructor
  · intro e
    rw [e, beq_self_eq_true] at this
    exact beq_iff_eq.1 this.symm
  · intro e
    rw [e, beq_self_eq_true] at this
    exact beq_iff_eq.1 this
theorem mt_iff (a b : UInt8) (n : Nat) (h : n < 256) : mt (low a) (low b) n = true ↔ half a = (n / 16, true) ∧ half b = (n % 16, true) := by
  unfold mt
  rw [Bool.and_eq_true, beq_iff_eq, beq_iff_eq, digit_half a _ (by omega), digit_half b _ (by omega)]

theorem half_digit_all : ∀ n : Fin 16, half (digit n.val) = (n.val, true) := by decide
theorem half_digit (n : Nat) (h : n < 16) : half (digit n) = (n, true) := half_digit_all ⟨n, h⟩
theorem hex_getD (l : List UInt8) : ∀ j, j < l.length → (hex l).getD (2 * j) 0 = digit ((l.getD j 0).toNat / 16) ∧ (hex l).getD (2 * j + 1) 0 = digit ((l.getD j 0).toNat % 16) := by
  induction l with
  | nil => intro j h; simp at h
  | cons c l ih =>
    intro j h
    have e : hex (c :: l) = digit (c.toNat / 16) :: digit (c.toNat % 16) :: hex l := rfl
    rw [e]
    cases j with
    | zero => exact ⟨rfl, rfl⟩
    | succ j =>
      have := ih j (by simpa using h)
      rw [show 2 * (j + 1) = 2 * j + 1 + 1 from by omega]
      simpa using this
theorem uhTo_hex (l : List UInt8) : ∀ j, j ≤ l.length → uhTo (hex l) j = some (l.take j) := by
  intro j
  induction j with
  | zero => intro _; rfl
  | succ j ih =>
    intro h
    obtain ⟨h1, h2⟩ := hex_getD l j (by omega)
    have hc := (l.getD j 0).toNat_lt
    simp only [uhTo, ih (by omega), Option.bind_some]
    rw [h1, h2, half_digit _ (by omega), half_digit _ (by omega), List.take_succ_eq_append_getElem (by omega)]
    simp only [Bool.and_self, if_true]
    congr 3
    have e : 16 * ((l.getD j 0).toNat / 16) + (l.getD j 0).toNat % 16 = (l.getD j 0).toNat := by omega
    rw [e, UInt8.ofNat_toNat, List.getD_eq_getElem?_getD, List.getElem?_eq_getElem (by omega)]
    rfl
theorem unhex_hex (l : List UInt8) : unhex (hex l) = some l := by
  unfold unhex
  rw [hex_length, if_neg (by omega), show 2 * l.length / 2 = l.length from by omega, uhTo_hex l l.length (Nat.le_refl _), List.take_length]
end Go.Proofs.Oct
